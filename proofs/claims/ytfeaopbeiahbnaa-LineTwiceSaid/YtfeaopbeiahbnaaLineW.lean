/- LineTwice: the model's side. -/
import Derived.Test.YtfeaopbeiahbnaaLineO
set_option linter.unusedVariables false
set_option linter.unusedSimpArgs false
namespace Go.Mod
open Go.Proofs

def m5s (xs : List Int) : List Int := xs.map fun x => x % 5
theorem m5s_len (xs : List Int) : (m5s xs).length = xs.length := by simp [m5s]
theorem m5s_get {xs : List Int} {i : Nat} {x : Int} (h : xs[i]? = some x) : (m5s xs)[i]? = some (x % 5) := by simp [m5s, h]
theorem take_put {ys : List Int} {i : Nat} {y : Int} (h : ys[i]? = some y) : ys.take i ++ [y] = ys.take (i + 1) := by
  rw [List.take_add_one, h]; rfl

/-- A row that nobody writes stays. -/
theorem ro_keep {b t : Nat} {j : Info} {cs : List Value} (hje : j.es = 1) (hrw : j.rw = false) {H : MH} {ids : List Int} {room : Int} {v : Value} {fp : List Nat} (hB : H[b]? = some (.cells j cs)) (h : LineAt H t ids room v fp) {H' : MH} (f : Fp (fun id => id = t ∨ id ∈ fp) H H') : H'[b]? = some (.cells j cs) := by
  refine f.get hB ?_
  rintro (rfl | hm)
  · have := h.obj; rw [hB] at this; cases this; cases hje
  · rcases h.own with ⟨_, _, h3⟩ | ⟨b', n, c', cs', g1, g2, g3, g4, g5, g6⟩
    · rw [h3] at hm; cases hm
    · rw [g6] at hm; simp at hm; subst hm
      rw [hB] at g3; cases g3; cases hrw

theorem ixOf_snoc {z y : Int} {l : List Int} : ixOf z (l ++ [y]) = if 0 ≤ ixOf z l then ixOf z l else if y = z then (l.length : Int) else -1 := by
  by_cases h : z ∈ l
  · rw [if_pos (ixOf_nonneg.2 h)]
    unfold ixOf
    rw [List.findIdx?_append]
    have : (l.findIdx? fun y => z == y) ≠ none := by
      rw [Ne, List.findIdx?_eq_none_iff]
      intro h'; have := h' z h; simp at this
    cases hq : l.findIdx? (fun y => z == y) with
    | none => exact absurd hq this
    | some q => rfl
  · rw [if_neg (fun h' => h (ixOf_nonneg.1 h'))]
    by_cases hy : y = z
    · subst hy
      rw [if_pos rfl]
      refine ixOf_some (by simp) fun j hj => ?_
      rw [List.getElem?_append_left hj]
      intro e
      exact h (List.mem_of_getElem? e)
    · rw [if_neg hy]
      refine ixOf_none fun j e => ?_
      have := List.mem_of_getElem? e
      simp at this
      rcases this with h' | h'
      · exact h h'
      · exact hy h'.symm

theorem twice1 {t : Nat} {xs : List Int} {id : Int} {b o c : Nat} {j : Info} {cs : List Value} (hx : xs.length ≤ 40) (hb : ∀ x ∈ xs, 0 ≤ x ∧ x < 256) (hid : 0 ≤ id ∧ id < 256) (hje : j.es = 1) (hrw : j.rw = false) (hat : ∀ k x, xs[k]? = some x → cs[o + k]? = some (.int .u8 x)) :
    ∀ (k i : Nat) (H : MH) (v : Value) (fp : List Nat), i + k = xs.length → H[b]? = some (.cells j cs) → LineAt H t ((m5s xs).take i) 64 v fp →
    ∃ H' v' fp', Rc mpk (.loop m9_1) [(0, .slice (some ⟨b, o, none⟩) xs.length c), (1, .int .u8 id), (5, .pointer (some ⟨t, 0, none⟩)), (6, .int .i64 (((m5s xs).take i).count (id % 5) : Int)), (7, .int .i64 (ixOf (id % 5) ((m5s xs).take i))), (8, .int .i64 (i : Int))] H =
      some (.exit 0, [(0, .slice (some ⟨b, o, none⟩) xs.length c), (1, .int .u8 id), (5, .pointer (some ⟨t, 0, none⟩)), (6, .int .i64 ((m5s xs).count (id % 5) : Int)), (7, .int .i64 (ixOf (id % 5) (m5s xs))), (8, .int .i64 (xs.length : Int)), (22, .bool false)], H') ∧ LineAt H' t (m5s xs) 64 v' fp' ∧ H'[b]? = some (.cells j cs)
  | 0, i, H, v, fp, hk, hB, h => by
    have : i = xs.length := by omega
    subst this
    have ht : (m5s xs).take xs.length = m5s xs := by rw [← m5s_len xs, List.take_length]
    rw [ht] at h ⊢
    refine ⟨H, v, fp, ?_, h, hB⟩
    rw [Rc_loop]
    simp [m9_1]
  | k + 1, i, H, v, fp, hk, hB, h => by
    have hlt : i < xs.length := by omega
    obtain ⟨x, hxx⟩ : ∃ x, xs[i]? = some x := ⟨_, List.getElem?_eq_getElem hlt⟩
    have hxb := hb x (List.mem_of_getElem? hxx)
    have hcx := hat i x hxx
    obtain ⟨v1, H1, fp1, h1, l1, f1, _⟩ := R_lput (mp := mpk) rfl h (by simp [m5s]; omega) (by omega) (x % 5)
    rw [take_put (m5s_get hxx)] at l1
    have hB1 := ro_keep hje hrw hB h f1
    obtain ⟨H', v', fp', h3, l3, b3⟩ := twice1 (c := c) (id := id) hx hb hid hje hrw hat k (i + 1) H1 v1 fp1 (by omega) hB1 l1
    refine ⟨H', v', fp', ?_, l3, b3⟩
    have t5 : x.tmod 5 = x % 5 := Int.tmod_eq_emod_of_nonneg (by omega)
    have t6 : id.tmod 5 = id % 5 := Int.tmod_eq_emod_of_nonneg (by omega)
    have w1 : IntKind.i64.wrap (x % 5) = x % 5 := wrap_i64 (by omega) (by omega)
    have w2 : IntKind.i64.wrap ((i : Int) + 1) = (i : Int) + 1 := wrap_i64 (by omega) (by omega)
    have hix := ixOf_snoc (z := id % 5) (y := x % 5) (l := (m5s xs).take i)
    have hcnt : ((m5s xs).take (i + 1)).count (id % 5) = ((m5s xs).take i).count (id % 5) + if x % 5 = id % 5 then 1 else 0 := by
      rw [← take_put (m5s_get hxx), List.count_append]
      congr 1
      by_cases e : x % 5 = id % 5
      · simp [e]
      · rw [List.count_eq_zero_of_not_mem (by simpa using fun h => e h.symm), if_neg e]
    rw [take_put (m5s_get hxx)] at hix
    have hle : ((m5s xs).take i).count (id % 5) ≤ 40 := by
      have := List.count_le_length (a := id % 5) (l := (m5s xs).take i)
      simp [m5s] at this; simp [m5s]; omega
    have hl : ((m5s xs).take i).length = i := by simp [m5s]; omega
    generalize ((m5s xs).take i).count (id % 5) = cn at hcnt hle
    generalize hii : ixOf (id % 5) ((m5s xs).take i) = ii at hix
    rw [hl] at hix
    rw [hcnt, hix] at h3
    have w3 : IntKind.i64.wrap ((cn : Int) + 1) = (cn : Int) + 1 := wrap_i64 (by omega) (by omega)
    rw [Rc_loop]
    by_cases e : x % 5 = id % 5
    · by_cases e2 : ii < 0
      · have e3 : ¬ 0 ≤ ii := by omega
        simp only [e, e3, if_true, if_false] at h3 h1 w1
        simp at h3
        simp [m9_1, hlt, ld_at hB, ld_at hB1, hcx, t5, t6, w1, h1, e, e2, w2, w3]
        exact h3
      · have e3 : 0 ≤ ii := by omega
        simp only [e, e3, if_true, if_false] at h3 h1 w1
        simp at h3
        simp [m9_1, hlt, ld_at hB, ld_at hB1, hcx, t5, t6, w1, h1, e, e2, w2, w3]
        exact h3
    · simp only [e, if_false] at h3
      have e4 : (if 0 ≤ ii then ii else -1) = ii := by
        split
        · rfl
        · rename_i hneg
          have : ∀ z l, -1 ≤ ixOf z l := fun z l => by unfold ixOf; split <;> omega
          have := this (id % 5) ((m5s xs).take i)
          omega
      rw [e4] at h3
      simp at h3
      simp [m9_1, hlt, ld_at hB, ld_at hB1, hcx, t5, t6, w1, h1, e, w2, w3]
      exact h3

/-- Where the other row is, behind i. -/
def atOf (f : Int) (i : Nat) : Nat := if 0 ≤ f ∧ f < i then i - 1 else i
theorem erase_at {ys : List Int} {z : Int} {i : Nat} {y : Int} (hy : ys[i]? = some y) (hne : (i : Int) ≠ ixOf z ys) : (ys.erase z)[atOf (ixOf z ys) i]? = some y := by
  by_cases hm : z ∈ ys
  · obtain ⟨q, hq⟩ := List.mem_iff_getElem?.1 hm
    have h0 := ixOf_nonneg.2 hm
    obtain ⟨f, hf⟩ : ∃ f : Nat, ixOf z ys = f := ⟨(ixOf z ys).toNat, by omega⟩
    have hfirst : ys[f]? = some z ∧ ∀ j, j < f → ys[j]? ≠ some z := by
      unfold ixOf at hf
      split at hf
      · rename_i i' h'
        rw [List.findIdx?_eq_some_iff_getElem] at h'
        obtain ⟨g1, g2, g3⟩ := h'
        have : i' = f := by omega
        subst this
        refine ⟨by rw [List.getElem?_eq_getElem g1]; simp at g2; rw [g2], fun j hj e => ?_⟩
        have := g3 j hj
        rw [List.getElem?_eq_getElem (by omega)] at e
        simp at this e
        exact this e.symm
      · omega
    rw [erase_first ys f z hfirst.1 hfirst.2, hf, List.getElem?_eraseIdx]
    rw [hf] at hne
    by_cases hlt : (f : Int) < (i : Int)
    · have e : atOf (f : Int) i = i - 1 := by unfold atOf; rw [if_pos ⟨by omega, hlt⟩]
      rw [e, if_neg (by omega), show i - 1 + 1 = i by omega]; exact hy
    · have e : atOf (f : Int) i = i := by unfold atOf; rw [if_neg (by omega)]
      rw [e, if_pos (by omega)]; exact hy
  · have : ¬ 0 ≤ ixOf z ys := fun h => hm (ixOf_nonneg.1 h)
    rw [List.erase_of_not_mem hm]
    unfold atOf
    rw [if_neg (by omega)]; exact hy
theorem erase_end {ys : List Int} {z : Int} : atOf (ixOf z ys) ys.length = (ys.erase z).length := by
  unfold atOf
  by_cases hm : z ∈ ys
  · have h0 := ixOf_nonneg.2 hm
    have hlt : ixOf z ys < ys.length := by
      unfold ixOf
      split
      · rename_i i' h'
        rw [List.findIdx?_eq_some_iff_getElem] at h'
        have := h'.1; omega
      · omega
    rw [if_pos ⟨h0, hlt⟩, List.length_erase_of_mem hm]
  · rw [List.erase_of_not_mem hm, if_neg (fun h => hm (ixOf_nonneg.1 h.1))]

theorem twice2 {xs : List Int} {z : Int} {b o c : Nat} {j : Info} {cs : List Value} {H : MH} {aa : Option Addr} {na ca : Nat} (hx : xs.length ≤ 40) (hb : ∀ x ∈ xs, 0 ≤ x ∧ x < 256) (hB : H[b]? = some (.cells j cs)) (hat : ∀ k x, xs[k]? = some x → cs[o + k]? = some (.int .u8 x))
    (hna : na = ((m5s xs).erase z).length) (hr : Row 1 H (.slice aa na ca) (i64s ((m5s xs).erase z))) :
    ∀ (k i : Nat), i + k = xs.length →
    Rc mpk (.loop m9_0) [(0, .slice (some ⟨b, o, none⟩) xs.length c), (7, .int .i64 (ixOf z (m5s xs))), (10, .slice aa na ca), (11, .int .i64 (atOf (ixOf z (m5s xs)) i : Int)), (12, .int .i64 (i : Int))] H =
      some (.exit 2, [(0, .slice (some ⟨b, o, none⟩) xs.length c), (7, .int .i64 (ixOf z (m5s xs))), (10, .slice aa na ca), (11, .int .i64 (na : Int)), (12, .int .i64 (xs.length : Int)), (82, .bool false)], H)
  | 0, i, hk => by
    have : i = xs.length := by omega
    subst this
    have he := erase_end (ys := m5s xs) (z := z)
    rw [m5s_len] at he
    rw [Rc_loop, he, ← hna]
    simp [m9_0]
  | k + 1, i, hk => by
    have hlt : i < xs.length := by omega
    obtain ⟨x, hxx⟩ : ∃ x, xs[i]? = some x := ⟨_, List.getElem?_eq_getElem hlt⟩
    have hxb := hb x (List.mem_of_getElem? hxx)
    have hcx := hat i x hxx
    have ih := twice2 (c := c) (j := j) hx hb hB hat hna hr k (i + 1) (by omega)
    have w2 : IntKind.i64.wrap ((i : Int) + 1) = (i : Int) + 1 := wrap_i64 (by omega) (by omega)
    by_cases hne : (i : Int) = ixOf z (m5s xs)
    · have ha : atOf (ixOf z (m5s xs)) (i + 1) = atOf (ixOf z (m5s xs)) i := by
        unfold atOf; rw [← hne, if_pos (by omega), if_neg (by omega)]; omega
      rw [ha] at ih
      rw [← hne] at ih ⊢
      rw [Rc_loop]
      simp at ih
      simp [m9_0, hlt, w2]
      exact ih
    · have hz := erase_at (m5s_get hxx) hne
      have hal : atOf (ixOf z (m5s xs)) i < na := by rw [hna]; exact (List.getElem?_eq_some_iff.1 hz).1
      have ha : atOf (ixOf z (m5s xs)) (i + 1) = atOf (ixOf z (m5s xs)) i + 1 := by
        unfold atOf
        by_cases h1 : 0 ≤ ixOf z (m5s xs) ∧ ixOf z (m5s xs) < i
        · rw [if_pos h1, if_pos (by omega)]; omega
        · rw [if_neg h1, if_neg (by omega)]
      obtain ⟨ab, ao, aj, acs, rfl, haB, _, hacs⟩ := hr.at hal
      rw [i64s_get hz] at hacs
      rw [ha] at ih
      have hal' : atOf (ixOf z (m5s xs)) i ≤ 40 := by
        have : ((m5s xs).erase z).length ≤ (m5s xs).length := List.length_erase_le
        rw [m5s_len] at this; omega
      generalize atOf (ixOf z (m5s xs)) i = q at ih hal hacs hal'
      have w3 : IntKind.i64.wrap ((q : Int) + 1) = (q : Int) + 1 := wrap_i64 (by omega) (by omega)
      have t5 : x.tmod 5 = x % 5 := Int.tmod_eq_emod_of_nonneg (by omega)
      have w1 : IntKind.i64.wrap (x % 5) = x % 5 := wrap_i64 (by omega) (by omega)
      have hnq : ¬ na ≤ q := by omega
      rw [Rc_loop]
      simp at ih
      simp [m9_0, hlt, hne, w2, mdraw_plain, hnq, hal, ld_at haB, hacs, ld_at hB, hcx, t5, w1, w3]
      exact ih

theorem lineTwice {H : MH} {v : Value} {xs : List Int} {id : Int} (hr : Row 1 H v (u8s xs)) (hro : ∀ (id : Nat) o, H[id]? = some o → o.mut = false) (hb : ∀ x ∈ xs, 0 ≤ x ∧ x < 256) (hid : 0 ≤ id ∧ id < 256) : ∃ H', R mpk 9 [v, .int .u8 id] H = some (.bool true, H') := by
  refine isTrue_ex ?_
  obtain ⟨a, n, c, rfl, hl⟩ := hr.slice
  have hn : n = xs.length := by rw [u8s_len] at hl; omega
  subst hn
  by_cases hbig : 40 < xs.length
  · have hbi : (40 : Int) < (xs.length : Int) := by omega
    rw [R_code (fn := m9) rfl]
    simp [m9, known_R, hbi]
  · have hbi : ¬ (40 : Int) < (xs.length : Int) := by omega
    have t6 : id.tmod 5 = id % 5 := Int.tmod_eq_emod_of_nonneg (by omega)
    have w6 : IntKind.i64.wrap (id % 5) = id % 5 := wrap_i64 (by omega) (by omega)
    obtain ⟨H1, e1, x1, l1⟩ := R_lnew (mp := mpk) rfl (H := H) (room := 64)
    have e64 : min (max (64 : Int) 0) 64 = 64 := by omega
    rw [e64] at l1
    by_cases h0 : xs.length = 0
    · have hx : xs = [] := List.eq_nil_of_length_eq_zero h0
      subst hx
      obtain ⟨v3, H3, h3, l3, _⟩ := R_ldrop (mp := mpk) rfl rfl l1 (id % 5)
      obtain ⟨v4, H4, h4, x4, r4⟩ := R_lall (mp := mpk) rfl rfl l3
      have hh := R_lhas (mp := mpk) rfl rfl rfl (l3.ext x4) (id % 5)
      obtain ⟨a4, n4, c4, rfl, hl4⟩ := r4.slice
      have hn4 : n4 = 0 := by simpa [i64s] using hl4
      subst hn4
      rw [R_code (fn := m9) rfl]
      simp at h3 hh
      simp [m9, known_R, e1, Rc_loop, m9_0, m9_1, t6, w6, h3, h4, hh]
    · rcases hr with ⟨h1, h2⟩ | ⟨b, o, n, c', j, cs, hv, hnc, hB, hes, hlc, htk⟩
      · simp [u8s] at h2; subst h2; simp at h0
      cases hv
      have hrw : j.rw = false := hro b _ hB
      have hat : ∀ k x, xs[k]? = some x → cs[o + k]? = some (.int .u8 x) := by
        intro k x hx
        have hk := (List.getElem?_eq_some_iff.1 hx).1
        have := u8s_get hx
        rw [← htk, List.getElem?_take, if_pos (by omega), List.getElem?_drop] at this
        exact this
      obtain ⟨H2, v2, fp2, h2, l2, b2⟩ := twice1 (c := c) (id := id) (by omega) hb hid hes hrw hat xs.length 0 H1 _ _ (by omega) (x1.get hB) l1
      obtain ⟨v3, H3, h3, l3, f3⟩ := R_ldrop (mp := mpk) rfl rfl l2 (id % 5)
      have b3 := ro_keep hes hrw b2 l2 f3
      obtain ⟨v4, H4, h4, x4, r4⟩ := R_lall (mp := mpk) rfl rfl l3
      have hh := R_lhas (mp := mpk) rfl rfl rfl (l3.ext x4) (id % 5)
      obtain ⟨a4, n4, c4, rfl, hl4⟩ := r4.slice
      have hn4 : n4 = ((m5s xs).erase (id % 5)).length := by rw [i64s_len] at hl4; omega
      have h5 := twice2 (c := c) (by omega) hb (x4.get b3) hat hn4 r4 xs.length 0 (by omega)
      have hc1 : (decide (id % 5 ∈ m5s xs)) = decide (0 < (m5s xs).count (id % 5)) := by
        simp [List.count_pos_iff]
      have hc2 : (decide (id % 5 ∈ (m5s xs).erase (id % 5))) = decide (1 < (m5s xs).count (id % 5)) := by
        refine decide_eq_decide.2 ?_
        rw [← List.count_pos_iff, List.count_erase_self]
        omega
      have hn5 : 0 < (m5s xs).count (id % 5) → (n4 : Int) = (xs.length : Int) - 1 := fun h => by
        rw [hn4, List.length_erase_of_mem (List.count_pos_iff.1 h), m5s_len]; omega
      have hix0 : ixOf (id % 5) [] = -1 := rfl
      have ha0 : atOf (ixOf (id % 5) (m5s xs)) 0 = 0 := by unfold atOf; split <;> rfl
      rw [ha0] at h5
      rw [hc1] at h3
      rw [hc2] at hh
      have ws : IntKind.i64.wrap ((xs.length : Int) - 1) = (xs.length : Int) - 1 := wrap_i64 (by omega) (by omega)
      generalize (m5s xs).count (id % 5) = cn at *
      generalize ixOf (id % 5) (m5s xs) = fx at *
      rw [R_code (fn := m9) rfl]
      simp [hix0] at h2 h3 h5 hh
      have hci : (1 : Int) < (cn : Int) ↔ 1 < cn := by omega
      by_cases hcn : 0 < cn
      · have hq := hn5 hcn
        simp [hcn] at h3
        simp [m9, known_R, hbi, e1, h2, t6, w6, h3, h4, hh, hcn, hci, ws, hq, h5]
      · simp [hcn] at h3
        have : cn = 0 := by omega
        simp [m9, known_R, hbi, e1, h2, t6, w6, h3, h4, hh, this, ws, h5]
end Go.Mod

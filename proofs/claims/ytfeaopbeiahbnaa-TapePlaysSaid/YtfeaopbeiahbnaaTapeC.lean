/- TapePlays: the model's side. -/
import Derived.Test.YtfeaopbeiahbnaaTapeB
set_option linter.unusedVariables false
set_option linter.unusedSimpArgs false
namespace Go.Mod
open Go.Proofs

def Keep1 (H H' : MH) : Prop := ∀ (b : Nat) j cs, H[b]? = some (.cells j cs) → j.es = 1 → H'[b]? = some (.cells j cs)
theorem Keep1.trans {H H1 H2 : MH} (h : Keep1 H H1) (g : Keep1 H1 H2) : Keep1 H H2 := fun b j cs hb he => g b j cs (h b j cs hb he) he
theorem Keep1.refl (H : MH) : Keep1 H H := fun b j cs hb he => hb
theorem Ext.keep1 {H H' : MH} (h : Ext H H') : Keep1 H H' := fun b j cs hb _ => h.get hb
theorem Chg.keep1 {t : Nat} {H H' : MH} {i : Info} {c : List Value} (h : Chg t H H') (ht : H[t]? = some (.cells i c)) (hi : i.es = 0) : Keep1 H H' := fun b j cs hb he => by
  rw [h.same b ?_]; exact hb
  rintro rfl
  rw [ht] at hb; cases hb; omega
theorem Row.keep1 {H H' : MH} {v : Value} {l : List Value} (h : Row 1 H v l) (k : Keep1 H H') : Row 1 H' v l := h.keep k

/-- An element of a row of one-cell elements. -/
theorem Row.at {H : MH} {a : Option Addr} {n c k : Nat} {l : List Value} (h : Row 1 H (.slice a n c) l) (hk : k < n) :
    ∃ b o j cs, a = some ⟨b, o, none⟩ ∧ H[b]? = some (.cells j cs) ∧ j.es = 1 ∧ cs[o + k]? = l[k]? := by
  rcases h with ⟨h1, _⟩ | ⟨b, o, m, d, j, cs, h1, h2, h3, h4, h5, h6⟩
  · cases h1; omega
  · cases h1
    refine ⟨b, o, j, cs, rfl, h3, h4, ?_⟩
    rw [← h6, List.getElem?_take, if_pos (by omega), List.getElem?_drop]

def i64s (xs : List Int) : List Value := xs.map fun n => .int .i64 n

/-- Where a tape is, behind u bytes. -/
def pOk (xs : List Int) (p : Int) (u : Nat) : Prop := xs = [] ∨ p = posN xs.length u

/-- A choice out of a tape, whatever the bounds. -/
theorem pick_any {H : MH} {t : Nat} {i : Info} {v : Value} {xs : List Int} {p : Int} {u : Nat} (ht : TapeAt H t i v xs p u) (hp : pOk xs p u) (hu : u < 1000) (hx : xs.length ≤ 1000) (hb : ∀ x ∈ xs, 0 ≤ x ∧ x < 256) (lo hi : Int) :
    ∃ z p' u', R mpk 19 [.pointer (some ⟨t, 0, none⟩), .int .i64 lo, .int .i64 hi] H = some (.int .i64 z, H.set t (.cells i [v, .int .i64 p', .int .i64 ((u' : Nat) : Int)])) ∧ pOk xs p' u' ∧ u' ≤ u + 1 ∧
      ∀ (H1 : MH) (r : Nat) (i2 : Info) (v2 : Value), RefAt H1 r i2 v2 xs u → R mpk 20 [.pointer (some ⟨r, 0, none⟩), .int .i64 lo, .int .i64 hi] H1 = some (.int .i64 z, H1.set r (.cells i2 [v2, .int .i64 ((u' : Nat) : Int)])) := by
  have self : ∀ (H : MH) (b : Nat) (o : MObj), H[b]? = some o → H.set b o = H := fun H b o h => by
    apply List.ext_getElem?
    intro k
    rw [List.getElem?_set]
    split
    · rename_i e; subst e; rw [if_pos (List.getElem?_eq_some_iff.1 h).1]; exact h.symm
    · rfl
  by_cases h : lo < hi
  · by_cases h0 : xs = []
    · subst h0
      refine ⟨hi, p, u + 1, ?_, .inl rfl, Nat.le_refl _, fun H1 r i2 v2 hr => ?_⟩
      · have := R_pick0 (mp := mpk) rfl rfl ht (by omega) (by omega) h
        simpa using this
      · have := R_pickr0 (mp := mpk) rfl hr (by omega) (by omega) h
        simpa using this
    · have hx0 : 0 < xs.length := by
        rcases Nat.eq_zero_or_pos xs.length with e | e
        · exact absurd (List.eq_nil_of_length_eq_zero e) h0
        · exact e
      have hpe : p = posN xs.length u := hp.resolve_left h0
      subst hpe
      have hkn : u % xs.length < xs.length := Nat.mod_lt _ hx0
      obtain ⟨x, hkx⟩ : ∃ x, xs[u % xs.length]? = some x := ⟨_, List.getElem?_eq_getElem hkn⟩
      obtain ⟨p0, p1⟩ := posN_le hx0 u
      refine ⟨pickN x lo hi, posN xs.length (u + 1), u + 1, ?_, .inr rfl, Nat.le_refl _, fun H1 r i2 v2 hr => ?_⟩
      · have := R_pick1 (mp := mpk) rfl rfl rfl ht p0 p1 (by omega) (by omega) (by omega) hb (u % xs.length) (posN_step hx0 u) x hkx h
        rw [posN_next, this]
        simp
      · have := R_pickr1 (mp := mpk) rfl hr (by omega) (by omega) (by omega) hb (u % xs.length) (by rw [Int.tmod_eq_emod_of_nonneg (by omega)]; rfl) x hkx h
        rw [this]
        simp
  · refine ⟨hi, p, u, ?_, hp, by omega, fun H1 r i2 v2 hr => ?_⟩
    · rw [R_pick_none (mp := mpk) rfl (by omega), self H t _ ht.obj]
    · rw [R_pickr_none (mp := mpk) rfl (by omega), self H1 r _ hr.obj]

theorem plays_loop {xs los his : List Int} {r : Nat} {vr : Value} {nl cl nh ch : Nat} (hx : xs.length ≤ 100) (hb : ∀ x ∈ xs, 0 ≤ x ∧ x < 256) (hl : los.length ≤ 60) (hnl : nl = los.length) (hnh : nh = his.length) :
    ∀ (k i : Nat) (H : MH) (t : Nat) (vt : Value) (u : Nat) (p : Int) (al ah : Option Addr), los.length - i = k → u ≤ i → i ≤ 60 → pOk xs p u → TapeAt H t ⟨0, true, false⟩ vt xs p u → RefAt H r ⟨0, true, false⟩ vr xs u → t ≠ r →
      Row 1 H (.slice al nl cl) (i64s los) → Row 1 H (.slice ah nh ch) (i64s his) →
      ∃ t' i' H', Rc mpk (.loop m3_0) [(1, .slice al nl cl), (2, .slice ah nh ch), (7, .pointer (some ⟨t, 0, none⟩)), (8, .pointer (some ⟨r, 0, none⟩)), (9, .int .i64 ((i : Nat) : Int))] H =
        some (.exit 0, [(1, .slice al nl cl), (2, .slice ah nh ch), (7, .pointer (some ⟨t', 0, none⟩)), (8, .pointer (some ⟨r, 0, none⟩)), (9, .int .i64 i'), (40, .bool false)], H') := by
  intro k
  induction k with
  | zero =>
    intro i H t vt u p al ah hk hu hi hp ht hr hne hrl hrh
    refine ⟨t, i, H, ?_⟩
    have h1 : ¬ (i : Int) < (nl : Int) := by omega
    rw [Rc_loop]
    simp at h1
    have h2 : ¬ i < nl := by omega
    simp [m3_0, h2]
  | succ k ih =>
    intro i H t vt u p al ah hk hu hi hp ht hr hne hrl hrh
    have h1 : i < nl := by omega
    by_cases h2 : i < nh
    · -- copy, choose out of the old one
      obtain ⟨t', X, vt', hcp, hlt', htc⟩ := R_copy (mp := mpk) rfl rfl ht (by omega)
      generalize hH1 : H ++ X = H1 at hcp htc
      have x1 : Ext H H1 := ⟨X, hH1.symm⟩
      have ht1 := ht.ext x1
      have hr1 : RefAt H1 r ⟨0, true, false⟩ vr xs u := by rw [← hH1]; exact hr.app
      have htl := ht.lt
      have hrl' : r < H.length := (List.getElem?_eq_some_iff.1 hr.obj).1
      have hn1 : t' ≠ t := by omega
      have hn2 : t' ≠ r := by omega
      obtain ⟨z1, p1, u1, hp1, _, _, _⟩ := pick_any ht1 hp (by omega) (by omega) hb 0 9
      generalize hH2 : H1.set t (.cells ⟨0, true, false⟩ [vt, .int .i64 p1, .int .i64 ((u1 : Nat) : Int)]) = H2 at hp1
      have c2 : Chg t H1 H2 := by rw [← hH2]; exact Chg.set _ _
      have htc2 := htc.chg c2 ht1.obj rfl hn1
      have hr2 := hr1.chg c2 ht1.obj rfl hne.symm
      have k2 : Keep1 H H2 := x1.keep1.trans (c2.keep1 ht1.obj rfl)
      -- what the bounds are
      obtain ⟨bl, ol, jl, csl, rfl, hbl, hel, hcl⟩ := hrl.at h1
      obtain ⟨bh, oh, jh, csh, rfl, hbh, heh, hch⟩ := hrh.at h2
      have hbl2 := k2 _ _ _ hbl hel
      have hbh2 := k2 _ _ _ hbh heh
      obtain ⟨lo, hlo⟩ : ∃ lo, los[i]? = some lo := ⟨_, List.getElem?_eq_getElem (by omega)⟩
      obtain ⟨hi', hhi⟩ : ∃ hi', his[i]? = some hi' := ⟨_, List.getElem?_eq_getElem (by omega)⟩
      have hcl' : csl[ol + i]? = some (.int .i64 lo) := by rw [hcl]; simp [i64s, hlo]
      have hch' : csh[oh + i]? = some (.int .i64 hi') := by rw [hch]; simp [i64s, hhi]
      obtain ⟨z, p3, u3, hp3, hok3, hu3, href⟩ := pick_any htc2 hp (by omega) (by omega) hb lo hi'
      have ht3 := htc2.put p3 ((u3 : Nat) : Int)
      generalize hH3 : H2.set t' (.cells ⟨0, true, false⟩ [vt', .int .i64 p3, .int .i64 ((u3 : Nat) : Int)]) = H3 at hp3 ht3
      have c3 : Chg t' H2 H3 := by rw [← hH3]; exact Chg.set _ _
      have k3 : Keep1 H H3 := k2.trans (c3.keep1 htc2.obj rfl)
      have hr3 := hr2.chg c3 htc2.obj rfl hn2.symm
      have hp4 := href H3 r _ vr hr3
      have hr4 := hr3.put ((u3 : Nat) : Int)
      generalize hH4 : H3.set r (.cells ⟨0, true, false⟩ [vr, .int .i64 ((u3 : Nat) : Int)]) = H4 at hp4 hr4
      have c4 : Chg r H3 H4 := by rw [← hH4]; exact Chg.set _ _
      have k4 : Keep1 H H4 := k3.trans (c4.keep1 hr3.obj rfl)
      have ht4 := ht3.chg c4 hr3.obj rfl hn2
      have hus := R_used (mp := mpk) rfl ht4
      obtain ⟨t5, i5, H5, h5⟩ := ih (i + 1) H4 t' vt' u3 p3 _ _ (by omega) (by omega) (by omega) hok3 ht4 hr4 hn2 (hrl.keep1 k4) (hrh.keep1 k4)
      refine ⟨t5, i5, H5, ?_⟩
      have hbl3 := k3 _ _ _ hbl hel
      have hbh3 := k3 _ _ _ hbh heh
      have w1 : IntKind.i64.wrap ((i : Int) + 1) = (i : Int) + 1 := wrap_i64 (by omega) (by omega)
      rw [Rc_loop]
      simp at h5
      simp [m3_0, h1, h2, hcp, hp1, mdraw_full, ld_at hbl2, ld_at hbh2, ld_at hbl3, ld_at hbh3, hcl', hch', hp3, hp4, hus, ld_at hr4.obj, w1]
      exact h5
    · refine ⟨t, i, H, ?_⟩
      rw [Rc_loop]
      simp [m3_0, h1, h2]

theorem tapePlays {H : MH} {v vl vh : Value} {xs los his : List Int} (hr : Row 1 H v (u8s xs)) (hb : ∀ x ∈ xs, 0 ≤ x ∧ x < 256) (hrl : Row 1 H vl (i64s los)) (hrh : Row 1 H vh (i64s his)) :
    ∃ H', R mpk 3 [v, vl, vh] H = some (.bool true, H') := by
  refine isTrue_ex ?_
  obtain ⟨a, n, c, rfl, hl⟩ := hr.slice
  obtain ⟨al, nl, cl, rfl, hl1⟩ := hrl.slice
  obtain ⟨ah, nh, ch, rfl, hl2⟩ := hrh.slice
  have hn : n = xs.length := by rw [u8s_len] at hl; omega
  have hn1 : nl = los.length := by simp [i64s] at hl1; exact hl1
  have hn2 : nh = his.length := by simp [i64s] at hl2; exact hl2
  by_cases h1 : (100 : Int) < (n : Int)
  · rw [R_code (fn := m3) rfl]
    simp [m3, known_R, h1]
  · by_cases h2 : (60 : Int) < (nl : Int)
    · rw [R_code (fn := m3) rfl]
      simp [m3, known_R, h1, h2]
    · by_cases h3 : (60 : Int) < (nh : Int)
      · rw [R_code (fn := m3) rfl]
        simp [m3, known_R, h1, h2, h3]
      · obtain ⟨t, H1, v1, e1, x1, l1, t1⟩ := new_ext hr (by omega)
        have x2 : Ext H1 (H1 ++ [.cells ⟨0, true, false⟩ [.slice a n c, .int .i64 0]]) := ⟨_, rfl⟩
        have t2 := t1.ext x2
        have r2 : RefAt (H1 ++ [.cells ⟨0, true, false⟩ [.slice a n c, .int .i64 0]]) H1.length ⟨0, true, false⟩ (.slice a n c) xs 0 := ⟨by simp, rfl, rfl, x2.row (x1.row hr)⟩
        obtain ⟨t', i', H', h⟩ := plays_loop (xs := xs) (los := los) (his := his) (r := H1.length) (vr := .slice a n c) (nl := nl) (cl := cl) (nh := nh) (ch := ch) (by omega) hb (by omega) hn1 hn2 (los.length - 0) 0 _ t v1 0 0 al ah rfl (Nat.le_refl _) (by omega) (.inr (by simp [posN])) t2 r2 (by have := t1.lt; omega) (x2.row (x1.row hrl)) (x2.row (x1.row hrh))
        rw [R_code (fn := m3) rfl]
        simp at h
        simp [m3, known_R, h1, h2, h3, e1, h]
end Go.Mod

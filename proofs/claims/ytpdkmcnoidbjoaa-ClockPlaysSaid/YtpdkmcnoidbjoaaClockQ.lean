/- ClockTimes: the model's side. -/
import Derived.Test.YtpdkmcnoidbjoaaClockP
set_option linter.unusedVariables false
set_option linter.unusedSimpArgs false
namespace Go.Mod
open Go.Proofs

theorem incr_ext : ∀ {l1 l2 : List Int}, l1.Pairwise (· < ·) → l2.Pairwise (· < ·) → (∀ x, x ∈ l1 ↔ x ∈ l2) → l1 = l2
  | [], [], _, _, _ => rfl
  | [], b :: l2, _, _, h => by have := (h b).2 (by simp); cases this
  | a :: l1, [], _, _, h => by have := (h a).1 (by simp); cases this
  | a :: l1, b :: l2, h1, h2, h => by
    rw [List.pairwise_cons] at h1 h2
    have ha := (h a).1 (by simp)
    have hb := (h b).2 (by simp)
    have e : a = b := by
      rcases List.mem_cons.1 ha with e | ha
      · exact e
      · rcases List.mem_cons.1 hb with e | hb
        · exact e.symm
        · have := h2.1 a ha; have := h1.1 b hb; omega
    subst e
    rw [incr_ext h1.2 h2.2 fun x => ?_]
    constructor
    · intro hx
      rcases List.mem_cons.1 ((h x).1 (by simp [hx])) with e | h'
      · have := h1.1 x hx; omega
      · exact h'
    · intro hx
      rcases List.mem_cons.1 ((h x).2 (by simp [hx])) with e | h'
      · have := h2.1 x hx; omega
      · exact h'
/-- Which of a row from i on are due at w. -/
def selI (w : Int) : Nat → List Int → List Int
  | _, [] => []
  | i, x :: r => if x % 50 = w then (i : Int) :: selI w (i + 1) r else selI w (i + 1) r
theorem mem_selI {w y : Int} : ∀ {l : List Int} {i : Nat}, y ∈ selI w i l ↔ ∃ (m : Nat) (x : Int), y = ((i + m : Nat) : Int) ∧ l[m]? = some x ∧ x % 50 = w
  | [], i => by simp [selI]
  | x :: r, i => by
    have ih := mem_selI (w := w) (y := y) (l := r) (i := i + 1)
    have key : (∃ (m : Nat) (x' : Int), y = ((i + m : Nat) : Int) ∧ (x :: r)[m]? = some x' ∧ x' % 50 = w) ↔ (y = (i : Int) ∧ x % 50 = w) ∨ y ∈ selI w (i + 1) r := by
      rw [ih]
      constructor
      · rintro ⟨m, x', h1, h2, h3⟩
        cases m with
        | zero => simp at h2; subst h2; exact .inl ⟨by simpa using h1, h3⟩
        | succ m => exact .inr ⟨m, x', by omega, by simpa using h2, h3⟩
      · rintro (⟨h1, h2⟩ | ⟨m, x', h1, h2, h3⟩)
        · exact ⟨0, x, by simpa using h1, rfl, h2⟩
        · exact ⟨m + 1, x', by omega, by simpa using h2, h3⟩
    rw [key]
    simp only [selI]
    split
    · rename_i h
      simp [h]
    · rename_i h
      simp [h]
theorem selI_incr {w : Int} : ∀ {l : List Int} {i : Nat}, (selI w i l).Pairwise (· < ·)
  | [], i => .nil
  | x :: r, i => by
    simp only [selI]
    split
    · refine List.pairwise_cons.2 ⟨fun y hy => ?_, selI_incr⟩
      obtain ⟨m, x', h1, _⟩ := mem_selI.1 hy
      omega
    · exact selI_incr
theorem drop_consI {ps rest : List Int} {e : Int} {i : Nat} (h : ps.drop i = e :: rest) : ps[i]? = some e ∧ ps.drop (i + 1) = rest ∧ i < ps.length := by
  have h1 : ps[i]? = some e := by
    have := congrArg (fun l => l[0]?) h
    simpa using this
  refine ⟨h1, ?_, (List.getElem?_eq_some_iff.1 h1).1⟩
  have := congrArg (List.drop 1) h
  simpa [List.drop_drop, Nat.add_comm] using this

/-- All that are not over are in it. -/
def AllFrom (f : Int → Int) (xs : List Int) (m : Nat) (z : Int) (ps : List (Int × Int)) : Prop := ∀ (n : Nat) (x : Int), n < m → xs[n]? = some x → z ≤ f x → ∃ p ∈ ps, p.2 = (n : Int)

section
variable {t q n c : Nat} {a : Option Addr} {xs : List Int}
theorem times0 {H : MH} {al : Option Addr} {nl cl : Nat} {z left : Int} {L : List Int} (hx : xs.length ≤ 64) (hb : ∀ x ∈ xs, 0 ≤ x ∧ x < 256) (hr : Row 1 H (.slice a n c) (u8s xs)) (hl : Row 1 H (.slice al nl cl) (i64s L)) (hil : L.length ≤ 1000) :
    ∀ (rest : List Int) (i k : Nat), xs.drop i = rest → i ≤ xs.length → L.drop k = selI z i rest → k ≤ L.length →
    Rc mpCk (.loop m10_0) [(0, .slice a n c), (3, .pointer (some ⟨t, 0, none⟩)), (5, .int .i64 left), (6, .int .i64 z), (7, .slice al nl cl), (8, .int .i64 (k : Int)), (9, .int .i64 (i : Int))] H =
      some (.exit 4, [(0, .slice a n c), (3, .pointer (some ⟨t, 0, none⟩)), (5, .int .i64 left), (6, .int .i64 z), (7, .slice al nl cl), (8, .int .i64 (nl : Int)), (9, .int .i64 (n : Int)), (54, .bool false)], H) := by
  intro rest
  induction rest with
  | nil =>
    intro i k hd hi hk hkl
    have hn := hr.u8n
    have hnl := hl.i64n
    have : i = n := by
      have := congrArg List.length hd
      simp at this; omega
    subst this
    have : k = nl := by
      have := congrArg List.length hk
      simp [selI] at this; omega
    subst this
    rw [Rc_loop]
    simp [m10_0]
  | cons x rest ih =>
    intro i k hd hi hk hkl
    have hn := hr.u8n
    have hnl := hl.i64n
    obtain ⟨hxx, hd', hil'⟩ := drop_consI hd
    have hin : i < n := by omega
    obtain ⟨b, o, j, cs, rfl, hB, hat⟩ := hr.u8 (by omega)
    have hcx := hat i x hxx
    have hxb := hb x (List.mem_of_getElem? hxx)
    have t50 : x.tmod 50 = x % 50 := Int.tmod_eq_emod_of_nonneg (by omega)
    have w1 : IntKind.i64.wrap (x % 50) = x % 50 := wrap_i64 (by omega) (by omega)
    have w2 : IntKind.i64.wrap ((i : Int) + 1) = (i : Int) + 1 := wrap_i64 (by omega) (by omega)
    by_cases hz : x % 50 = z
    · simp only [selI, if_pos hz] at hk
      obtain ⟨hLk, hk', hkl'⟩ := drop_consI hk
      obtain ⟨_, b2, o2, j2, cs2, rfl, hB2, hat2⟩ := hl.i64 hLk
      rw [hz] at w1
      have hknl : k < nl := by omega
      have hnk : ¬ nl ≤ k := by omega
      have w3 : IntKind.i64.wrap ((k : Int) + 1) = (k : Int) + 1 := wrap_i64 (by omega) (by omega)
      have ih := ih (i + 1) (k + 1) hd' (by omega) hk' (by omega)
      simp at ih
      rw [Rc_loop]
      simp [m10_0, hin, ld_at hB, hcx, t50, w1, hz, hknl, hnk, ld_at hB2, hat2, w2, w3]
      exact ih
    · simp only [selI, if_neg hz] at hk
      have ih := ih (i + 1) k hd' (by omega) hk hkl
      simp at ih
      rw [Rc_loop]
      simp [m10_0, hin, ld_at hB, hcx, t50, w1, hz, w2]
      exact ih
theorem times1 (hx : xs.length ≤ 64) (hb : ∀ x ∈ xs, 0 ≤ x ∧ x < 256) :
    ∀ (k z : Nat) (H : MH) (F : List Nat) (ps : List (Int × Int)), z + k = 51 → Stay 1 (.slice a n c) (u8s xs) H F → ClkA t q (z : Int) ps H F → ps.Pairwise lexR → KeysR (· % 50) xs xs.length ps → AllFrom (· % 50) xs xs.length z ps →
    ∃ (H' : MH), Rc mpCk (.loop m10_1) [(0, .slice a n c), (3, .pointer (some ⟨t, 0, none⟩)), (5, .int .i64 (ps.length : Int)), (6, .int .i64 (z : Int))] H =
      some (.exit 2, [(0, .slice a n c), (3, .pointer (some ⟨t, 0, none⟩)), (5, .int .i64 0), (6, .int .i64 51), (36, .bool false)], H') := by
  intro k
  induction k with
  | zero =>
    intro z H F ps hk hS h hs he hc
    have : z = 51 := by omega
    subst this
    have hps : ps = [] := by
      cases ps with
      | nil => rfl
      | cons p ps =>
        obtain ⟨_, _, _, hin, _⟩ := h
        have h1 := hin.bound p (by simp)
        obtain ⟨m, x, _, _, h3, h4⟩ := he p (by simp)
        have := hb x (List.mem_of_getElem? h3)
        simp only at h4
        omega
    subst hps
    refine ⟨H, ?_⟩
    rw [Rc_loop]
    simp [m10_1]
  | succ k ih =>
    intro z H F ps hk hS h hs he hc
    have hz : z < 51 := by omega
    have h1 := R_cnow (mp := mpCk) rfl h
    have h2 := R_clen (mp := mpCk) rfl h
    obtain ⟨al, nl, cl, H1, F1, G, e3, g3, o3, d3, u3, n3⟩ := R_cstep (mp := mpCk) rfl rfl rfl h
    have hS1 := hS.upd u3
    have hlen : ps.length ≤ 64 := by obtain ⟨_, _, h, _⟩ := h; exact h
    have hin : InTime (z : Int) ps := by obtain ⟨_, _, _, h, _⟩ := h; exact h
    have hple := posR_le (z : Int) ps
    have hmn : min ((z : Int) + 1) 1000000 = ((z + 1 : Nat) : Int) := by omega
    rw [hmn] at g3
    generalize hq : posR (z : Int) ps = qq at *
    have hLl : ((idsR ps).take qq).length = qq := by rw [List.length_take, idsR_len]; omega
    -- what came
    have hkeys : ∀ p ∈ ps.take qq, p.1 = (z : Int) := fun p hp => by
      have h1 := hin.bound p (List.mem_of_mem_take hp)
      obtain ⟨j, hj⟩ := List.mem_iff_getElem?.1 hp
      have hjl := (List.getElem?_eq_some_iff.1 hj).1
      rw [List.length_take] at hjl
      rw [List.getElem?_take_of_lt (by omega)] at hj
      have := posR_lt (k := (z : Int)) (by rw [hq]; omega) hj
      omega
    have hhi : ∀ p ∈ ps.drop qq, (z : Int) < p.1 := fun p hp => by
      obtain ⟨_, _, _, hin', _⟩ := g3
      have := (hin'.bound p hp).1
      omega
    have hL : (idsR ps).take qq = selI (z : Int) 0 xs := by
      refine incr_ext ?_ selI_incr fun y => ?_
      · unfold idsR
        rw [← List.map_take, List.pairwise_map]
        refine List.Pairwise.imp_of_mem ?_ (hs.sublist (List.take_sublist ..))
        intro p p' hp hp' hlx
        have h1 := hkeys p hp
        have h2 := hkeys p' hp'
        simp only [lexR] at hlx
        omega
      · rw [mem_selI]
        unfold idsR
        rw [← List.map_take, List.mem_map]
        constructor
        · rintro ⟨p, hp, rfl⟩
          obtain ⟨m, x, h1, h2, h3, h4⟩ := he p (List.mem_of_mem_take hp)
          exact ⟨m, x, by rw [h2]; simp, h3, by have := hkeys p hp; simp only at h4; omega⟩
        · rintro ⟨m, x, h1, h2, h3⟩
          simp at h1
          obtain ⟨p, hp, hp2⟩ := hc m x (List.getElem?_eq_some_iff.1 h2).1 h2 (by simp only; omega)
          refine ⟨p, ?_, by rw [hp2, h1]⟩
          obtain ⟨m', x', _, g2, g3, g4⟩ := he p hp
          have : m' = m := by omega
          subst this
          rw [h2] at g3; cases g3
          rw [← List.take_append_drop qq ps] at hp
          rcases List.mem_append.1 hp with hp | hp
          · exact hp
          · have := hhi p hp
            simp only at g4
            omega
    have hnl := (Own.row o3).i64n
    rw [hLl] at hnl
    have hloop := times0 (t := t) (left := (ps.length : Int)) (z := (z : Int)) hx hb hS1.1 (Own.row o3) (by rw [hLl]; omega) xs 0 0 (by simp) (by omega) (by simpa using hL) (by omega)
    obtain ⟨H', f1⟩ := ih (z + 1) H1 F1 (ps.drop qq) (by omega) hS1 g3 (hs.sublist (List.drop_sublist ..)) (fun p hp => he p (List.mem_of_mem_drop hp)) (fun m x hm hxm hle => by
      obtain ⟨p, hp, hp2⟩ := hc m x hm hxm (by simp only at hle ⊢; omega)
      refine ⟨p, ?_, hp2⟩
      obtain ⟨m', x', _, g2, g3, g4⟩ := he p hp
      have : m' = m := by omega
      subst this
      rw [hxm] at g3; cases g3
      rw [← List.take_append_drop qq ps] at hp
      rcases List.mem_append.1 hp with hp | hp
      · have := hkeys p hp
        simp only at g4 hle
        omega
      · exact hp)
    refine ⟨H', ?_⟩
    have w1 : IntKind.i64.wrap ((z : Int) + 1) = (z : Int) + 1 := wrap_i64 (by omega) (by omega)
    have w2 : IntKind.i64.wrap ((ps.length : Int) - (nl : Int)) = ((ps.length - qq : Nat) : Int) := by rw [wrap_i64 (by omega) (by omega)]; omega
    have hz' : (z : Int) < 51 := by omega
    simp at f1 hloop
    rw [Rc_loop]
    simp [m10_1, hz', h1, h2, e3, hloop, w1, w2]
    exact f1
theorem times2 (hx : xs.length ≤ 64) (hb : ∀ x ∈ xs, 0 ≤ x ∧ x < 256) :
    ∀ (k i : Nat) (H : MH) (F : List Nat) (ps : List (Int × Int)), i + k = xs.length → Stay 1 (.slice a n c) (u8s xs) H F → ClkA t q 0 ps H F → ps.length = i → ps.Pairwise lexR → KeysR (· % 50) xs i ps → AllFrom (· % 50) xs i 0 ps →
    ∃ (H' : MH) (F' : List Nat) (ps' : List (Int × Int)), Rc mpCk (.loop m10_2) [(0, .slice a n c), (3, .pointer (some ⟨t, 0, none⟩)), (4, .int .i64 (i : Int))] H =
      some (.exit 0, [(0, .slice a n c), (3, .pointer (some ⟨t, 0, none⟩)), (4, .int .i64 (n : Int)), (19, .bool false)], H') ∧
      Stay 1 (.slice a n c) (u8s xs) H' F' ∧ ClkA t q 0 ps' H' F' ∧ ps'.length = xs.length ∧ ps'.Pairwise lexR ∧ KeysR (· % 50) xs xs.length ps' ∧ AllFrom (· % 50) xs xs.length 0 ps' := by
  intro k
  induction k with
  | zero =>
    intro i H F ps hk hS h hl hs he hc
    have hn := hS.1.u8n
    have : i = n := by omega
    subst this
    refine ⟨H, F, ps, ?_, hS, h, by omega, hs, hn ▸ he, hn ▸ hc⟩
    rw [Rc_loop]
    simp [m10_2]
  | succ k ih =>
    intro i H F ps hk hS h hl hs he hc
    have hn := hS.1.u8n
    have hlt : i < n := by omega
    obtain ⟨x, hxx⟩ : ∃ x, xs[i]? = some x := ⟨_, List.getElem?_eq_getElem (by omega)⟩
    have hxb := hb x (List.mem_of_getElem? hxx)
    obtain ⟨b, o, j, cs, rfl, hB, hat⟩ := hS.1.u8 (by omega)
    have hcx := hat i x hxx
    obtain ⟨H1, F1, e1, g1, u1⟩ := R_cput (mp := mpCk) rfl rfl h (k := x % 50) (d := (i : Int)) (by omega) (by omega) (by omega)
    obtain ⟨H', F', ps', f1, f2⟩ := ih (i + 1) H1 F1 _ (by omega) (hS.upd u1) g1 (by rw [putAt_len (posR_le ..)]; omega) (put_sorted hs fun p hp => he.lt p hp) (he.put hxx _) (fun m y hm hy hle => by
      rcases Nat.lt_or_ge m i with h | h
      · obtain ⟨p, hp, e⟩ := hc m y h hy hle
        exact ⟨p, mem_putAt.2 (.inr hp), e⟩
      · have : m = i := by omega
        subst this
        exact ⟨_, mem_putAt.2 (.inl rfl), rfl⟩)
    refine ⟨H', F', ps', ?_, f2⟩
    have t9 : x.tmod 50 = x % 50 := Int.tmod_eq_emod_of_nonneg (by omega)
    have w1 : IntKind.i64.wrap (x % 50) = x % 50 := wrap_i64 (by omega) (by omega)
    have w2 : IntKind.i64.wrap ((i : Int) + 1) = (i : Int) + 1 := wrap_i64 (by omega) (by omega)
    simp at f1
    rw [Rc_loop]
    simp [m10_2, hlt, ld_at hB, hcx, t9, w1, w2, e1]
    exact f1
end
theorem stay_new2 {H H1 : MH} {a : Option Addr} {n c : Nat} {l : List Value} {es : Nat} {F : List Nat} (hr : Row es H (.slice a n c) l) (x1 : Ext H H1) (hF : ∀ id ∈ F, H.length ≤ id) : Stay es (.slice a n c) l H1 F := by
  refine ⟨x1.row hr, fun b o n' c' e hb => ?_⟩
  have := hF b hb
  rcases hr with ⟨h1, _⟩ | ⟨b', o', m', d', j', cs', h1, _, h3, _⟩
  · rw [h1] at e; cases e
  · rw [h1] at e; cases e
    have := (List.getElem?_eq_some_iff.1 h3).1
    omega
theorem clockTimes {H : MH} {v : Value} {xs : List Int} (hr : Row 1 H v (u8s xs)) (hb : ∀ x ∈ xs, 0 ≤ x ∧ x < 256) : ∃ H', R mpCk 10 [v] H = some (.bool true, H') := by
  refine isTrue_ex ?_
  obtain ⟨a, n, c, rfl, hl⟩ := hr.slice
  have hn := hr.u8n
  by_cases hbig : 64 < xs.length
  · rw [R_code (fn := m10) rfl]
    have : (64 : Int) < (n : Int) := by omega
    simp [m10, knownC_R, this]
  · have hsm : ¬ (64 : Int) < (n : Int) := by omega
    obtain ⟨H1, e1, g1, x1⟩ := R_cnew (mp := mpCk) rfl (H := H)
    obtain ⟨H2, F2, ps, h2, s2, g2, l2, p2, k2, c2⟩ := times2 (c := c) (by omega) hb xs.length 0 H1 _ [] (by omega) (stay_new2 hr x1 (by simp)) g1 rfl .nil (by simp [KeysR]) (by intro m x hm; omega)
    obtain ⟨H3, h3⟩ := times1 (c := c) (by omega) hb 51 0 H2 F2 ps (by omega) s2 g2 p2 k2 c2
    rw [R_code (fn := m10) rfl]
    rw [l2, ← hn] at h3
    simp at h2 h3
    simp [m10, knownC_R, hsm, e1, h2, h3]
end Go.Mod

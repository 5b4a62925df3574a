/- JobFull: the model's side. -/
import Derived.Test.YtfeaopbeiahbnaaJobU
set_option linter.unusedVariables false
set_option linter.unusedSimpArgs false
namespace Go.Mod
open Go.Proofs

/-- The parts that are made of the first i lengths. -/
def psN (xs : List Int) (i : Nat) : List (List Int) := (List.range i).map fun k => [1 + ((k % 3 : Nat) : Int), xs.getD k 0 % 60 + 1, 0]
theorem psN_succ (xs : List Int) (i : Nat) : psN xs (i + 1) = psN xs i ++ [[1 + ((i % 3 : Nat) : Int), xs.getD i 0 % 60 + 1, 0]] := by simp [psN, List.range_succ]
theorem psN_len (xs : List Int) (i : Nat) : (psN xs i).length = i := by simp [psN]
theorem psN_w (xs : List Int) (i : Nat) : ∀ p ∈ psN xs i, p.length = 3 := by
  intro p hp
  obtain ⟨k, _, rfl⟩ := List.mem_map.1 hp
  rfl
theorem recs_snoc (ps : List (List Int)) (p : List Int) : recs (ps ++ [p]) = recs ps ++ i64s p := by simp [recs]
def lenSum (ps : List (List Int)) : Int := (ps.map fun p => p.getD 1 0).sum
theorem lenSum_snoc (ps : List (List Int)) (p : List Int) : lenSum (ps ++ [p]) = lenSum ps + p.getD 1 0 := by simp [lenSum]
theorem lenSum_le (xs : List Int) : ∀ i, 0 ≤ lenSum (psN xs i) ∧ lenSum (psN xs i) ≤ 60 * i
  | 0 => by simp [psN, lenSum]
  | i + 1 => by
    have := lenSum_le xs i
    rw [psN_succ, lenSum_snoc]
    have h0 := Int.emod_nonneg (xs.getD i 0) (show (60 : Int) ≠ 0 by omega)
    have h1 := Int.emod_lt_of_pos (xs.getD i 0) (show (0 : Int) < 60 by omega)
    simp only [List.getD_cons_succ, List.getD_cons_zero]
    omega
theorem psN_at (xs : List Int) {i k : Nat} (h : k < i) : (psN xs i)[k]? = some [1 + ((k % 3 : Nat) : Int), xs.getD k 0 % 60 + 1, 0] := by
  simp [psN, h]
theorem psN_parts (xs : List Int) {i : Nat} (hi : i ≤ 10) : Parts (psN xs i) := ⟨psN_w xs i, fun p hp => by
  obtain ⟨k, _, rfl⟩ := List.mem_map.1 hp
  have h0 := Int.emod_nonneg (xs.getD k 0) (show (60 : Int) ≠ 0 by omega)
  have h1 := Int.emod_lt_of_pos (xs.getD k 0) (show (0 : Int) < 60 by omega)
  simp only [List.getD_cons_succ, List.getD_cons_zero]
  omega, by rw [psN_len]; exact hi⟩

/-- How many ticks are left. -/
def remT (ps : List (List Int)) (s : JS) : Int := if s.at_ < ps.length then s.left + lenSum (ps.drop (s.at_ + 1)) else 0
theorem lenSum_drop {ps : List (List Int)} {k : Nat} (hk : k < ps.length) : lenSum (ps.drop k) = pAt ps k 1 + lenSum (ps.drop (k + 1)) := by
  rw [List.drop_eq_getElem_cons hk]
  simp only [lenSum, List.map_cons, List.sum_cons]
  rw [pAt_get (List.getElem?_eq_getElem hk)]
theorem jv_nil (u : Nat) (n : Int) : jv [] u n = n := by unfold jv; split <;> simp
theorem rem_begin (ps : List (List Int)) (k u : Nat) : remT ps (jbegin ps [] k u) = lenSum (ps.drop k) := by
  unfold jbegin
  by_cases h : k < ps.length
  · rw [if_pos h]
    unfold remT
    simp only [if_pos h, jv_nil]
    rw [lenSum_drop h]
  · rw [if_neg h]
    unfold remT
    simp only [if_neg h]
    rw [List.drop_of_length_le (by omega)]; rfl
theorem rem_tick {ps : List (List Int)} {s : JS} (h : s.at_ < ps.length) (hs : JOk ps s) : remT ps (jtick ps [] s) = remT ps s - 1 := by
  have hl := hs.left h
  unfold jtick
  rw [if_neg (by omega)]
  by_cases h1 : 1 < s.left
  · rw [if_pos h1]
    unfold remT
    simp only [if_pos h]; omega
  · rw [if_neg h1, rem_begin]
    unfold remT
    rw [if_pos h]; omega
theorem rem_nonneg {ps : List (List Int)} (P : Parts ps) {s : JS} (hs : JOk ps s) : 0 ≤ remT ps s := by
  have key : ∀ l : List (List Int), (∀ p ∈ l, 1 ≤ p.getD 1 0) → 0 ≤ lenSum l := by
    intro l
    induction l with
    | nil => intro _; simp [lenSum]
    | cons p l ih =>
      intro h
      have h1 := h p (by simp)
      have h2 := ih fun q hq => h q (by simp [hq])
      simp only [lenSum, List.map_cons, List.sum_cons] at h2 ⊢
      omega
  unfold remT
  split
  · rename_i h
    have := hs.left h
    have := key (ps.drop (s.at_ + 1)) fun p hp => (P.len p (List.mem_of_mem_drop hp)).1
    omega
  · omega

section
variable {H : MH} {F : List Nat} {j t T : Nat} {v v0 : Value} {rel : Int} {xs : List Int}
def taskC (v : Value) : List Value := [.string ⟨#[]⟩, .int .i64 0, .int .i64 0, .int .i64 0, .int .i64 0, v]

theorem jfull_loop1 {bl o c : Nat} {jj : Info} {cs : List Value} {rl : Value} (hx : xs.length ≤ 6) (hb : Bytes xs) (hat : ∀ (i : Nat) x, xs[i]? = some x → cs[o + i]? = some (.int .u8 x)) : ∀ (k i : Nat) (H : MH) (F : List Nat) (v : Value), i + k = xs.length → (Pt T ⟨0, true, false⟩ (taskC v) * OwnA 3 v (recs (psN xs i))) H F → H[bl]? = some (.cells jj cs) → bl ∉ F →
    ∃ H' F' v', Rc mpJk (.loop m11_1) [(0, .slice (some ⟨bl, o, none⟩) xs.length c), (1, rl), (5, .pointer (some ⟨T, 0, none⟩)), (6, .int .i64 (lenSum (psN xs i))), (7, .int .i64 (i : Int))] H =
      some (.exit 0, [(0, .slice (some ⟨bl, o, none⟩) xs.length c), (1, rl), (5, .pointer (some ⟨T, 0, none⟩)), (6, .int .i64 (lenSum (psN xs xs.length))), (7, .int .i64 (xs.length : Int)), (25, .bool false)], H') ∧
      (Pt T ⟨0, true, false⟩ (taskC v') * OwnA 3 v' (recs (psN xs xs.length))) H' F'
  | 0, i, H, F, v, hk, h, hB, hbl => by
    have : i = xs.length := by omega
    subst this
    refine ⟨H, F, v, ?_, h⟩
    rw [Rc_loop]
    simp [m11_1]
  | k + 1, i, H, F, v, hk, h, hB, hbl => by
    have hil : i < xs.length := by omega
    obtain ⟨x, hxx⟩ : ∃ x, xs[i]? = some x := ⟨_, List.getElem?_eq_getElem hil⟩
    have hxb := hb x (List.mem_of_getElem? hxx)
    have hcx := hat i x hxx
    have hgd : xs.getD i 0 = x := by rw [List.getD_eq_getElem?_getD, hxx]; rfl
    have h0 := Int.emod_nonneg x (show (60 : Int) ≠ 0 by omega)
    have h1 := Int.emod_lt_of_pos x (show (0 : Int) < 60 by omega)
    have hrl := recs_len (psN_w xs i)
    rw [psN_len] at hrl
    obtain ⟨v', H1, H2, F2, a1, a2, p2, u2⟩ := push_fld (bytes := 24) (k := 5) (xs := [.int .i64 (1 + ((i % 3 : Nat) : Int)), .int .i64 (x % 60 + 1), .int .i64 0]) h rfl (by simp [taskC]) (recs_one _) rfl rfl (by omega) (by omega) (by omega)
    have hps : recs (psN xs (i + 1)) = recs (psN xs i) ++ [.int .i64 (1 + ((i % 3 : Nat) : Int)), .int .i64 (x % 60 + 1), .int .i64 0] := by
      rw [psN_succ, recs_snoc, hgd]; rfl
    have hsum : lenSum (psN xs (i + 1)) = lenSum (psN xs i) + (x % 60 + 1) := by
      rw [psN_succ, lenSum_snoc, hgd]; rfl
    have hat0 := star_at h
    have hbl2 : bl ∉ F2 := fun hh => by
      have := (List.getElem?_eq_some_iff.1 hB).1
      rcases u2.new bl hh with h' | h'
      · exact hbl h'
      · omega
    obtain ⟨H3, F3, v3, e3, p3⟩ := jfull_loop1 (rl := rl) (c := c) hx hb hat k (i + 1) H2 F2 v' (by omega) (by rw [hps]; exact p2) (u2.get hB hbl) hbl2
    refine ⟨H3, F3, v3, ?_, p3⟩
    have hs := lenSum_le xs i
    have t60 : x.tmod 60 = x % 60 := Int.tmod_eq_emod_of_nonneg (by omega)
    have t3 : ((i : Int)).tmod 3 = ((i % 3 : Nat) : Int) := by rw [Int.tmod_eq_emod_of_nonneg (by omega)]; rfl
    have w1 : IntKind.i64.wrap (x % 60) = x % 60 := wrap_i64 (by omega) (by omega)
    have w2 : IntKind.i64.wrap (x % 60 + 1) = x % 60 + 1 := wrap_i64 (by omega) (by omega)
    have hm3 : (i % 3 : Nat) < 3 := Nat.mod_lt _ (by omega)
    have w3 : IntKind.i64.wrap (1 + ((i % 3 : Nat) : Int)) = 1 + ((i % 3 : Nat) : Int) := wrap_i64 (by omega) (by omega)
    have w4 : IntKind.i64.wrap (lenSum (psN xs i) + (x % 60 + 1)) = lenSum (psN xs (i + 1)) := by rw [hsum]; exact wrap_i64 (by omega) (by omega)
    have w5 : IntKind.i64.wrap ((i : Int) + 1) = (i : Int) + 1 := wrap_i64 (by omega) (by omega)
    obtain ⟨B, hB2, _⟩ := star_r h
    obtain ⟨av, nv, cv, rfl, _⟩ := (Own.row hB2).slice
    generalize lenSum (psN xs (i + 1)) = sm at *
    generalize ((i % 3 : Nat) : Int) = m3 at *
    rw [Rc_loop]
    simp [taskC] at hat0
    simp [m11_1, hil, ld_at hB, hcx, t60, w1, w2, ld_at hat0, t3, w3, a1, a2, w4, w5]
    exact e3

theorem jfull_loop2 {lv rl : Value} (P : Parts (psN xs xs.length)) (hlen : xs.length ≤ 6) (hT : v0 = v0) : ∀ (k : Nat) (n : Nat) (s : JS) (H : MH) (F : List Nat), remT (psN xs xs.length) s = (k : Int) → (n : Int) + k = lenSum (psN xs xs.length) → JOk (psN xs xs.length) s → JobA j t v rel [] s H F → Stay 3 v (recs (psN xs xs.length)) H F → Stay 3 v0 (recs (psN xs xs.length)) H F → H[T]? = some (.cells ⟨0, true, false⟩ (taskC v0)) → T ∉ F →
    ∃ H' F' s', Rc mpJk (.loop m11_0) [(0, lv), (1, rl), (5, .pointer (some ⟨T, 0, none⟩)), (6, .int .i64 (lenSum (psN xs xs.length))), (9, .pointer (some ⟨j, 0, none⟩)), (10, .int .i64 (n : Int))] H =
      some (.exit 2, [(0, lv), (1, rl), (5, .pointer (some ⟨T, 0, none⟩)), (6, .int .i64 (lenSum (psN xs xs.length))), (9, .pointer (some ⟨j, 0, none⟩)), (10, .int .i64 (lenSum (psN xs xs.length))), (60, .bool false)], H') ∧ s'.at_ = xs.length ∧ JobA j t v rel [] s' H' F' := by
  have hpl := psN_len xs xs.length
  intro k
  induction k with
  | zero =>
    intro n s H F hrem hn hs h hr hr0 hTT hnf
    have hov : (psN xs xs.length).length ≤ s.at_ := by
      rcases Nat.lt_or_ge s.at_ (psN xs xs.length).length with hlt | hge
      · exfalso
        have h1 := hs.left hlt
        have h2 := rem_tick hlt hs
        have h3 := rem_nonneg P (jtick_ok P (xs := []) (fun x hx => by cases hx) hs)
        omega
      · exact hge
    have o := R_jover (mp := mpJk) rfl P h hr.1
    simp [hov] at o
    have hle := hs.le
    refine ⟨H, F, s, ?_, by omega, h⟩
    rw [Rc_loop]
    have hnn : lenSum (psN xs xs.length) = (n : Int) := by omega
    rw [hnn]
    simp [m11_0, o]
  | succ k ih =>
    intro n s H F hrem hn hs h hr hr0 hTT hnf
    have hlt : s.at_ < (psN xs xs.length).length := by
      rcases Nat.lt_or_ge s.at_ (psN xs xs.length).length with hlt | hge
      · exact hlt
      · exfalso
        unfold remT at hrem
        rw [if_neg (by omega)] at hrem; omega
    have hb0 : Bytes ([] : List Int) := fun x hx => by cases hx
    have hrt := rem_tick hlt hs
    have hs1 := jtick_ok P hb0 hs
    have o := R_jover (mp := mpJk) rfl P h hr.1
    have hov : ¬ (psN xs xs.length).length ≤ s.at_ := by omega
    simp [hov] at o
    obtain ⟨X1, aK⟩ := R_jkind (mp := mpJk) rfl rfl rfl P h hr.1
    have x1 : Ext H (H ++ X1) := ⟨_, rfl⟩
    generalize H ++ X1 = H1 at aK x1
    have h1 := JobA.good.ext h x1
    have aP := R_jpart (mp := mpJk) rfl h1
    have aL := R_jleft (mp := mpJk) rfl h1
    have hT1 := x1.get hTT
    obtain ⟨H2, e2, p2, u2⟩ := R_jtick (mp := mpJk) rfl rfl rfl rfl rfl rfl P hb0 (by simp) hs h1 (hr.ext x1)
    obtain ⟨H3, F3, s3, e3, f3, g3⟩ := ih (n + 1) (jtick (psN xs xs.length) [] s) H2 F (by omega) (by omega) hs1 p2 ((hr.ext x1).upd u2) ((hr0.ext x1).upd u2) (u2.get hT1 hnf) hnf
    refine ⟨H3, F3, s3, ?_, f3, g3⟩
    have hl := hs.left hlt
    have hpa := psN_at xs (i := xs.length) (k := s.at_) (by omega)
    have hpA : partOf (psN xs xs.length) s.at_ 0 = 1 + ((s.at_ % 3 : Nat) : Int) := by
      unfold partOf; rw [if_neg hov, pAt_get hpa]; rfl
    rw [hpA] at aK
    have hr01 := x1.row hr0.1
    obtain ⟨a, nn, c, hv0, _⟩ := hr01.slice
    rw [hv0] at hr01
    obtain ⟨hnn, b, o', jj, cs, rfl, hB, _, _, _, hxx⟩ := hr01.rec_ P.w (by omega) (P.cells hlt)
    have c1 := hxx 1 _ rfl
    have hl2 := hl.2
    have hl1 := hl.1
    have t3 : ((s.at_ : Int)).tmod 3 = ((s.at_ % 3 : Nat) : Int) := by rw [Int.tmod_eq_emod_of_nonneg (by omega)]; rfl
    have hm3 : (s.at_ % 3 : Nat) < 3 := Nat.mod_lt _ (by omega)
    have w3 : IntKind.i64.wrap (1 + ((s.at_ % 3 : Nat) : Int)) = 1 + ((s.at_ % 3 : Nat) : Int) := wrap_i64 (by omega) (by omega)
    have hsl := lenSum_le xs xs.length
    have w5 : IntKind.i64.wrap ((n : Int) + 1) = (n : Int) + 1 := wrap_i64 (by omega) (by omega)
    have hna : (n : Int) ≤ lenSum (psN xs xs.length) := by omega
    have k1 : ¬ s.left < 1 := by omega
    have k2 : ¬ pAt (psN xs xs.length) s.at_ 1 < s.left := by omega
    have hatn : s.at_ < nn := by omega
    simp [taskC, hv0] at hT1
    have o2 : R mpJk 43 [.pointer (some ⟨j, 0, none⟩)] H = some (.bool false, H) := o
    generalize ((s.at_ % 3 : Nat) : Int) = m3 at *
    generalize lenSum (psN xs xs.length) = sm at *
    generalize pAt (psN xs xs.length) s.at_ 1 = pl at *
    rw [Rc_loop]
    simp [m11_0, o2, hna, mdraw_full, aK, aP, t3, w3, aL, k1, ld_at hT1, hatn, ld_at hB, c1, k2, e2, w5]
    exact e3
end

theorem jobFull {H : MH} {v : Value} {xs : List Int} {rel : Int} (hr : Row 1 H v (u8s xs)) (hb : Bytes xs) (hro : ∀ (id : Nat) o, H[id]? = some o → o.mut = false) (hrl : 0 ≤ rel ∧ rel < 65536) : ∃ H', R mpJk 11 [v, .int .u16 rel] H = some (.bool true, H') := by
  refine isTrue_ex ?_
  obtain ⟨a, n, c, rfl, hl⟩ := hr.slice
  have hn : n = xs.length := by rw [u8s_len] at hl; omega
  subst hn
  by_cases h1 : xs.length < 1
  · have h1' : (xs.length : Int) < 1 := by omega
    have h0 : xs.length = 0 := by omega
    rw [h0]
    rw [R_code (fn := m11) rfl]
    simp [m11, knownJ_R]
  · have h1' : ¬ (xs.length : Int) < 1 := by omega
    by_cases h6 : 6 < xs.length
    · have h6' : (6 : Int) < (xs.length : Int) := by omega
      rw [R_code (fn := m11) rfl]
      simp [m11, knownJ_R, h1', h6']
    · have h6' : ¬ (6 : Int) < (xs.length : Int) := by omega
      have hat : ∃ bl o j cs, a = some ⟨bl, o, none⟩ ∧ H[bl]? = some (.cells j cs) := by
        obtain ⟨b, o, j, cs, h1, h2, _⟩ := hr.at (k := 0) (by omega)
        exact ⟨b, o, j, cs, h1, h2⟩
      obtain ⟨bl, o, jj, cs, rfl, hB⟩ := hat
      have hlt := (List.getElem?_eq_some_iff.1 hB).1
      have p0 : (Pt H.length ⟨0, true, false⟩ (taskC (.slice none 0 0)) * OwnA 3 (.slice none 0 0) (recs (psN xs 0))) (H ++ [.cells ⟨0, true, false⟩ (taskC (.slice none 0 0))]) [H.length] := ⟨[H.length], [], ⟨rfl, by simp⟩, .inl ⟨rfl, rfl, rfl⟩, by simp, by simp⟩
      have hBx : (H ++ [MObj.cells ⟨0, true, false⟩ (taskC (.slice none 0 0))])[bl]? = some (.cells jj cs) := get_app hB
      obtain ⟨H1, F1, v1, e1, p1⟩ := jfull_loop1 (T := H.length) (rl := .int .u16 rel) (c := c) (xs := xs) (bl := bl) (o := o) (jj := jj) (cs := cs) (by omega) hb (fun i x hx => by
        have hi := (List.getElem?_eq_some_iff.1 hx).1
        obtain ⟨b', o', j', cs', h1, h2, _, h3⟩ := hr.at hi
        cases h1
        rw [hB] at h2; cases h2
        rw [h3]; simp [u8s, hx]) xs.length 0 _ _ _ (by omega) p0 hBx (by simp; omega)
      have hP := psN_parts xs (i := xs.length) (by omega)
      have hT := star_at p1
      obtain ⟨O1, hO1, hO1F⟩ := star_r p1
      obtain ⟨t, H2, F2, e2, t2, x2, n2⟩ := R_tnew (mp := mpJk) (v := .slice none 0 0) (xs := []) rfl rfl (H := H1) (.inl ⟨rfl, rfl⟩) (by simp)
      obtain ⟨j, v', H3, F3, e3, j3, s3, u3⟩ := R_jnew (mp := mpJk) (nm := ⟨#[]⟩) (q1 := 0) (q2 := 0) (q3 := 0) (q4 := 0) (rel := rel) rfl rfl rfl rfl rfl rfl rfl hP (xs := []) (fun x hx => by cases hx) (by simp) t2 (x2.row (Own.row hO1))
      have hTlt := (List.getElem?_eq_some_iff.1 hT).1
      have hT2 := x2.get hT
      have hnT2 : H.length ∉ F2 := fun h => by have := n2 _ h; omega
      have hT3 := u3.get hT2 hnT2
      have hnT3 : H.length ∉ F3 := fun h => by
        have := x2.len
        rcases u3.new _ h with h | h
        · exact hnT2 h
        · omega
      have st1 : Stay 3 v1 (recs (psN xs xs.length)) H2 F2 := ⟨x2.row (Own.row hO1), fun b o nn c e h => by
        have := n2 b h
        have := Own.lt hO1 b (Own.blk hO1 b o nn c e)
        omega⟩
      have hs0 := jbegin_ok hP (xs := []) (k := 0) (u := 0) (fun x hx => by cases hx) (Nat.zero_le _) (Nat.le_refl _)
      have hrem := rem_begin (psN xs xs.length) 0 0
      rw [List.drop_zero] at hrem
      have hsl := lenSum_le xs xs.length
      obtain ⟨k, hk⟩ : ∃ k : Nat, (k : Int) = lenSum (psN xs xs.length) := ⟨(lenSum (psN xs xs.length)).toNat, by omega⟩
      obtain ⟨H4, F4, s4, e4, f4, g4⟩ := jfull_loop2 (T := H.length) (v0 := v1) (lv := .slice (some ⟨bl, o, none⟩) xs.length c) (rl := .int .u16 rel) hP (by omega) rfl k 0 _ H3 F3 (by rw [hrem, hk]) (by rw [← hk]; simp) hs0 j3 s3 (st1.upd u3) hT3 hnT3
      have aR := R_jrel (mp := mpJk) rfl g4
      have aP := R_jpart (mp := mpJk) rfl g4
      rw [f4] at aP
      have wr : IntKind.i64.wrap rel = rel := wrap_i64 (by omega) (by omega)
      obtain ⟨av, nv, cv, hv1, _⟩ := (Own.row hO1).slice
      have d1 := ldn_at hT 0 6 (by simp [taskC]) (by rw [hv1]; rfl)
      have d2 := ldn_at hT2 0 6 (by simp [taskC]) (by rw [hv1]; rfl)
      have hz : lenSum (psN xs 0) = 0 := rfl
      rw [hz] at e1
      simp [taskC, hv1] at d1 d2 e1 e3 e4 aP
      simp [taskV] at e3
      rw [R_code (fn := m11) rfl]
      simp [m11, knownJ_R, h1', h6', stx, e1, mdraw_full, d1, d2, wr, e2, e3, e4, aR, aP, ba_refl]
end Go.Mod

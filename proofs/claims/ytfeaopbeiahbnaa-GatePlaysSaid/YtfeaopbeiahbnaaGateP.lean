/- The gate's functions: what they come to. -/
import Derived.Test.YtfeaopbeiahbnaaLib3
import Derived.Test.YtfeaopbeiahbnaaLineP
import Derived.Test.YtfeaopbeiahbnaaGateM
set_option linter.unusedVariables false
set_option linter.unusedSimpArgs false
namespace Go.Mod

variable {mp : FuncId → Option MDef}

def LineA (t : Nat) (ids : List Int) (room : Int) : HP := fun H F => ∃ v fp, LineAt H t ids room v fp ∧ ∀ x, x ∈ F ↔ x = t ∨ x ∈ fp
theorem LineA.good {t : Nat} {ids : List Int} {room : Int} : Good (LineA t ids room) := by
  refine ⟨?_, ?_⟩
  · rintro H H' F ⟨v, fp, h1, h2⟩ hf
    exact ⟨v, fp, h1.frame fun id hid => hf id ((h2 id).2 hid), h2⟩
  · rintro H F ⟨v, fp, h1, h2⟩ id hid
    rcases (h2 id).1 hid with rfl | h
    · exact h1.lt
    · exact h1.own.lt id h
theorem LineA.of {H : MH} {t : Nat} {ids : List Int} {room : Int} {v : Value} {fp : List Nat} (h : LineAt H t ids room v fp) : LineA t ids room H (t :: fp) := ⟨v, fp, h, by simp⟩

/-- A gate: who is in, who waits. -/
def GateA (g t : Nat) (ins wait : List Int) (most : Int) : HP := fun H F => ∃ v, ((Pt g ⟨0, true, false⟩ [v, .pointer (some ⟨t, 0, none⟩), .int .i64 most] * OwnA 1 v (i64s ins)) * LineA t wait 64) H F ∧ ins.length ≤ most ∧ 1 ≤ most ∧ most ≤ 64 ∧ wait.length ≤ 64
theorem GateA.good {g t : Nat} {ins wait : List Int} {most : Int} : Good (GateA g t ins wait most) := Good.ex fun _ => ((Pt.good.star OwnA.good).star LineA.good).and

theorem R_gnew (hf : mp 54 = some (.code m54)) (h23 : mp 23 = some (.code m23)) {H : MH} {most : Int} :
    ∃ H', R mp 54 [.int .i64 most] H = some (.pointer (some ⟨H.length + 1, 0, none⟩), H') ∧ Ext H H' ∧ GateA (H.length + 1) H.length [] [] (min (max most 1) 64) H' [H.length, H.length + 1] := by
  obtain ⟨H1, e1, x1, l1⟩ := R_lnew (mp := mp) h23 (H := H) (room := 64)
  have hH : H1.length = H.length + 1 := by
    rw [R_code h23] at e1
    simp [m23] at e1
    rw [← e1]; simp
  have e64 : min (max (64 : Int) 0) 64 = 64 := by omega
  rw [e64] at l1
  have x2 : Ext H1 (H1 ++ [.cells ⟨0, true, false⟩ [.slice none 0 0, .pointer (some ⟨H.length, 0, none⟩), .int .i64 (min (max most 1) 64)]]) := ⟨_, rfl⟩
  refine ⟨_, ?_, x1.trans x2, .slice none 0 0, ⟨[H.length + 1], [H.length], ⟨[H.length + 1], [], ⟨rfl, by rw [← hH]; simp⟩, .inl ⟨rfl, rfl, rfl⟩, by simp, by simp⟩, ?_, by simp, by simp [or_comm]⟩, by simp; omega, by omega, by omega, by simp⟩
  · rw [R_code hf]
    simp [m54, e1, hH]
  · exact LineA.of (l1.ext x2)

section
variable {H : MH} {F : List Nat} {g t : Nat} {ins wait : List Int} {most : Int}
theorem R_ghas (hf : mp 62 = some (.code m62)) (h69 : mp 69 = some (.code m69)) (h74 : mp 74 = some (.code m74)) (h : GateA g t ins wait most H F) (x : Int) : R mp 62 [.pointer (some ⟨g, 0, none⟩), .int .i64 x] H = some (.bool (decide (x ∈ ins)), H) := by
  obtain ⟨v, h, h1, h2, h3, h4⟩ := h
  obtain ⟨A, hA, _⟩ := star_l h
  obtain ⟨B, hB, _⟩ := star_r hA
  have hat := star_at hA
  have hc := R_contains (mp := mp) (f := 69) (g := 74) h69 h74 (Own.row hB) (by omega) (x := x)
  obtain ⟨a, n, c, rfl, hl⟩ := (Own.row hB).slice
  rw [R_code hf]
  simp [m62, ld_at hat, hc]
theorem R_gin (hf : mp 60 = some (.code m60)) (h68 : mp 68 = some (.code m68)) (h : GateA g t ins wait most H F) :
    ∃ v' H', R mp 60 [.pointer (some ⟨g, 0, none⟩)] H = some (v', H') ∧ Ext H H' ∧ Row 1 H' v' (i64s ins) := by
  obtain ⟨v, h, h1, h2, h3, h4⟩ := h
  obtain ⟨A, hA, _⟩ := star_l h
  obtain ⟨B, hB, _⟩ := star_r hA
  have hat := star_at hA
  obtain ⟨v', X, e1, r1⟩ := R_clone (mp := mp) (f := 68) (es := 1) (bytes := 8) (z := [.int .i64 0]) h68 rfl (by omega) (by omega) (Own.row hB) (i64s_one ins) (by rw [i64s_len]; omega)
  obtain ⟨a, n, c, rfl, hl⟩ := (Own.row hB).slice
  obtain ⟨a', n', c', rfl, hl'⟩ := r1.slice
  refine ⟨_, _, ?_, ⟨X, rfl⟩, r1⟩
  rw [R_code hf]
  simp [m60, ld_at hat, e1]
theorem R_gline (hf : mp 61 = some (.code m61)) (h33 : mp 33 = some (.code m33)) (h68 : mp 68 = some (.code m68)) (h : GateA g t ins wait most H F) :
    ∃ v' H', R mp 61 [.pointer (some ⟨g, 0, none⟩)] H = some (v', H') ∧ Ext H H' ∧ Row 1 H' v' (i64s wait) := by
  obtain ⟨v, h, h1, h2, h3, h4⟩ := h
  obtain ⟨A, hA, _⟩ := star_l h
  obtain ⟨B, ⟨lv, fp, hl, _⟩, _⟩ := star_r h
  have hat := star_at hA
  obtain ⟨v', H', e1, x1, r1⟩ := R_lall (mp := mp) h33 h68 hl
  obtain ⟨a', n', c', rfl, hl'⟩ := r1.slice
  refine ⟨_, _, ?_, x1, r1⟩
  rw [R_code hf]
  simp [m61, ld_at hat, e1]

/-- One that is there already. -/
theorem R_gask_twice (hf : mp 56 = some (.code m56)) (h62 : mp 62 = some (.code m62)) (h35 : mp 35 = some (.code m35)) (h69 : mp 69 = some (.code m69)) (h74 : mp 74 = some (.code m74)) (h : GateA g t ins wait most H F) {x : Int} (hx : x ∈ ins ∨ x ∈ wait) :
    R mp 56 [.pointer (some ⟨g, 0, none⟩), .int .i64 x] H = some (.tuple #[.bool false, .int .i64 17], H) := by
  have hh := R_ghas (mp := mp) h62 h69 h74 h x
  obtain ⟨v, h, h1, h2, h3, h4⟩ := h
  obtain ⟨A, hA, _⟩ := star_l h
  obtain ⟨B, ⟨lv, fp, hl, _⟩, _⟩ := star_r h
  have hat := star_at hA
  have hw := R_lhas (mp := mp) h35 h69 h74 hl x
  rw [R_code hf]
  by_cases hi : x ∈ ins
  · simp [m56, hh, hi]
  · have hw' : x ∈ wait := hx.resolve_left hi
    simp [m56, hh, hi, ld_at hat, hw, hw']
theorem R_gask_in (hf : mp 56 = some (.code m56)) (h62 : mp 62 = some (.code m62)) (h35 : mp 35 = some (.code m35)) (h69 : mp 69 = some (.code m69)) (h74 : mp 74 = some (.code m74)) (h : GateA g t ins wait most H F) {x : Int} (hi : x ∉ ins) (hw' : x ∉ wait) (hm : (ins.length : Int) < most) :
    ∃ H' F', R mp 56 [.pointer (some ⟨g, 0, none⟩), .int .i64 x] H = some (.tuple #[.bool true, .int .i64 0], H') ∧ GateA g t (ins ++ [x]) wait most H' F' ∧ Upd H F H' F' := by
  have hh := R_ghas (mp := mp) h62 h69 h74 h x
  obtain ⟨v, h, h1, h2, h3, h4⟩ := h
  obtain ⟨A, hA, _⟩ := star_l h
  obtain ⟨B, ⟨lv, fp, hl, _⟩, _⟩ := star_r h
  have hat := star_at hA
  have hw := R_lhas (mp := mp) h35 h69 h74 hl x
  obtain ⟨v', H', F', p, u, H1, a1, a2, a3, rfl⟩ := star_upd (P' := fun v' => Pt g ⟨0, true, false⟩ [v', .pointer (some ⟨t, 0, none⟩), .int .i64 most] * OwnA 1 v' (i64s (ins ++ [x])))
    (C := fun v' H' => ∃ H1, meff (.app 1 8) [v, .slice (some ⟨H.length, 0, none⟩) 1 1] (H ++ [.cells ⟨1, true, true⟩ [.int .i64 x]]) = some (v', H1) ∧ H1[g]? = some (.cells ⟨0, true, false⟩ [v, .pointer (some ⟨t, 0, none⟩), .int .i64 most]) ∧ one v' = true ∧ H' = H1.set g (.cells ⟨0, true, false⟩ [v', .pointer (some ⟨t, 0, none⟩), .int .i64 most]))
    LineA.good (fun _ => Pt.good.star OwnA.good) h (fun A hA _ => by
      obtain ⟨v', H1, F1, a1, a2, a3, a4, a5⟩ := push_field (bytes := 8) (k := 0) (xs := [.int .i64 x]) hA (i64s_one ins) rfl rfl (by omega) (by rw [i64s_len]; omega) (by omega)
      exact ⟨v', _, F1, by simpa [i64s] using a4, a5, H1, a1, a2, a3, rfl⟩)
  have hOwn := star_r hA
  obtain ⟨B2, hB2, _⟩ := hOwn
  obtain ⟨a, n, c, rfl, hl⟩ := (Own.row hB2).slice
  have hn : n = ins.length := by rw [i64s_len] at hl; omega
  subst hn
  refine ⟨_, F', ?_, ⟨v', p, by simp; omega, h2, h3, h4⟩, u⟩
  rw [R_code hf]
  simp [m56, hh, hi, ld_at hat, hw, hw', mdraw_plain, hm, a1, st_at a2 rfl 0 v' a3]
theorem R_gask_full (hf : mp 56 = some (.code m56)) (h62 : mp 62 = some (.code m62)) (h35 : mp 35 = some (.code m35)) (h69 : mp 69 = some (.code m69)) (h74 : mp 74 = some (.code m74)) (h25 : mp 25 = some (.code m25)) (h : GateA g t ins wait most H F) {x : Int} (hi : x ∉ ins) (hw' : x ∉ wait) (hm : ¬ (ins.length : Int) < most) :
    (wait.length = 64 ∧ R mp 56 [.pointer (some ⟨g, 0, none⟩), .int .i64 x] H = some (.tuple #[.bool false, .int .i64 12], H)) ∨
    (wait.length < 64 ∧ ∃ H' F', R mp 56 [.pointer (some ⟨g, 0, none⟩), .int .i64 x] H = some (.tuple #[.bool false, .int .i64 0], H') ∧ GateA g t ins (wait ++ [x]) most H' F' ∧ Upd H F H' F') := by
  have hh := R_ghas (mp := mp) h62 h69 h74 h x
  obtain ⟨v, h, h1, h2, h3, h4⟩ := h
  obtain ⟨A, hA, _⟩ := star_l h
  obtain ⟨B, ⟨lv, fp, hl, _⟩, _⟩ := star_r h
  have hat := star_at hA
  have hw := R_lhas (mp := mp) h35 h69 h74 hl x
  obtain ⟨B2, hB2, _⟩ := star_r hA
  obtain ⟨a, n, c, rfl, hln⟩ := (Own.row hB2).slice
  have hn : n = ins.length := by rw [i64s_len] at hln; omega
  subst hn
  by_cases hf64 : wait.length = 64
  · refine .inl ⟨hf64, ?_⟩
    have hp := R_lput_full (mp := mp) h25 hl (by omega) x
    rw [R_code hf]
    simp [m56, hh, hi, ld_at hat, hw, hw', mdraw_plain, hm, hp]
  · refine .inr ⟨by omega, ?_⟩
    obtain ⟨_, H', F', p, u, e⟩ := star_upd (ι := Unit) (P' := fun _ => LineA t (wait ++ [x]) 64) (C := fun _ H' => R mp 25 [.pointer (some ⟨t, 0, none⟩), .int .i64 x] H = some (.int .i64 0, H')) (Pt.good.star OwnA.good) (fun _ => LineA.good) (star_comm h) (fun A ⟨lv, fp, hl, hA⟩ _ => by
      obtain ⟨v', H', fp', e1, l1, f1, n1⟩ := R_lput (mp := mp) h25 hl (by omega) (by omega) x
      refine ⟨(), H', _, LineA.of l1, Upd.of_fp f1 (fun id _ h => (hA id).2 h) fun id hid => ?_, e1⟩
      simp at hid
      rcases hid with rfl | hid
      · exact .inl ((hA _).2 (.inl rfl))
      · exact (n1 id hid).imp (fun h => (hA id).2 (.inr h)) fun h => h)
    refine ⟨H', F', ?_, ⟨_, star_comm p, h1, h2, h3, by simp; omega⟩, u⟩
    rw [R_code hf]
    simp [m56, hh, hi, ld_at hat, hw, hw', mdraw_plain, hm, e]

/-- The search in Leave. -/
theorem leave_skip {a : Option Addr} {n c : Nat} {x : Int} (hr : Row 1 H (.slice a n c) (i64s ins)) (hn : n = ins.length) (hl : ins.length ≤ 1000) {q : Nat} (hq : q ≤ n) (hb : ∀ j, j < q → ins[j]? ≠ some x) : ∀ (k i : Nat), i + k = q →
    Rc mp (.loop m58_0) [(0, .pointer (some ⟨g, 0, none⟩)), (1, .int .i64 x), (14, .slice a n c), (15, .int .i64 (n : Int)), (16, .int .i64 (i : Int))] H =
    Rc mp (.loop m58_0) [(0, .pointer (some ⟨g, 0, none⟩)), (1, .int .i64 x), (14, .slice a n c), (15, .int .i64 (n : Int)), (16, .int .i64 (q : Int))] H
  | 0, i, hk => by
    have : i = q := by omega
    subst this; rfl
  | k + 1, i, hk => by
    have hil : i < n := by omega
    obtain ⟨b, o, j, cs, rfl, hB, hes, hat⟩ := hr.at hil
    obtain ⟨y, hy⟩ : ∃ y, ins[i]? = some y := ⟨_, List.getElem?_eq_getElem (by omega)⟩
    rw [i64s_get hy] at hat
    have hxy : y ≠ x := fun e => hb i (by omega) (by rw [hy, e])
    have w : IntKind.i64.wrap ((i : Int) + 1) = (i : Int) + 1 := wrap_i64 (by omega) (by omega)
    have ih := leave_skip hr hn hl hq hb k (i + 1) (by omega)
    rw [← ih]
    rw [Rc_loop]
    simp [m58_0, hil, ld_at hB, hat, hxy, w]

theorem R_gleave_none (hf : mp 58 = some (.code m58)) (h : GateA g t ins wait most H F) {x : Int} (hi : x ∉ ins) :
    R mp 58 [.pointer (some ⟨g, 0, none⟩), .int .i64 x] H = some (.tuple #[.int .i64 0, .bool false, .int .i64 13], H) := by
  obtain ⟨v, h, h1, h2, h3, h4⟩ := h
  obtain ⟨A, hA, _⟩ := star_l h
  have hat := star_at hA
  obtain ⟨B2, hB2, _⟩ := star_r hA
  obtain ⟨a, n, c, rfl, hln⟩ := (Own.row hB2).slice
  have hn : n = ins.length := by rw [i64s_len] at hln; omega
  have sk := leave_skip (mp := mp) (g := g) (x := x) (Own.row hB2) hn (by omega) (Nat.le_refl n) (fun j _ e => hi (List.mem_of_getElem? e)) n 0 (by omega)
  rw [R_code hf]
  simp at sk
  simp [m58, ld_at hat, sk]
  rw [Rc_loop]
  simp [m58_0]
theorem R_gleave (hf : mp 58 = some (.code m58)) (h27 : mp 27 = some (.code m27)) (h31 : mp 31 = some (.code m31)) (h66 : mp 66 = some (.code m66)) (h : GateA g t ins wait most H F) {x : Int} (hi : x ∈ ins) :
    ∃ H' F', R mp 58 [.pointer (some ⟨g, 0, none⟩), .int .i64 x] H = some (.tuple #[.int .i64 (wait.headD 0), .bool (!wait.isEmpty), .int .i64 0], H') ∧ GateA g t (ins.erase x ++ wait.head?.toList) wait.tail most H' F' ∧ Upd H F H' F' := by
  obtain ⟨v, h, h1, h2, h3, h4⟩ := h
  obtain ⟨A, hA, _⟩ := star_l h
  have hat := star_at hA
  obtain ⟨B2, hB2, _⟩ := star_r hA
  obtain ⟨q, hq, hqb, hql⟩ := first_at hi
  have her : ins.erase x = ins.eraseIdx q := erase_first ins q x hq hqb
  have hel : (ins.eraseIdx q).length + 1 = ins.length := by rw [List.length_eraseIdx_of_lt hql]; omega
  -- the one that leaves
  obtain ⟨v1, H1, F1, p1, u1, H0, a1, a2, a3, rfl⟩ := star_upd (P' := fun v' => Pt g ⟨0, true, false⟩ [v', .pointer (some ⟨t, 0, none⟩), .int .i64 most] * OwnA 1 v' (i64s (ins.erase x)))
    (C := fun v' H' => ∃ H1, R mp 66 [v, .int .i64 (q : Int), .int .i64 ((q : Int) + 1)] H = some (v', H1) ∧ H1[g]? = some (.cells ⟨0, true, false⟩ [v, .pointer (some ⟨t, 0, none⟩), .int .i64 most]) ∧ one v' = true ∧ H' = H1.set g (.cells ⟨0, true, false⟩ [v', .pointer (some ⟨t, 0, none⟩), .int .i64 most]))
    LineA.good (fun _ => Pt.good.star OwnA.good) h (fun A hA _ => by
      obtain ⟨v', H1, F1, a1, a2, a3, a4, a5⟩ := del_field (mp := mp) (f := 66) (bytes := 8) (k := 0) (z := .int .i64 0) h66 rfl hA (i64s_one ins) (by rw [i64s_len]; omega) (by omega) (q := q) (by rw [i64s_len]; exact hql)
      rw [i64s_erase, ← her] at a4
      exact ⟨v', _, F1, a4, a5, H1, a1, a2, a3, rfl⟩)
  obtain ⟨a, n, c, rfl, hln⟩ := (Own.row hB2).slice
  have hn : n = ins.length := by rw [i64s_len] at hln; omega
  have sk := leave_skip (mp := mp) (g := g) (x := x) (Own.row hB2) hn (by omega) (q := q) (by omega) hqb q 0 (by omega)
  obtain ⟨b, o, j, cs, rfl, hB, hes, hat2⟩ := (Own.row hB2).at (k := q) (by omega)
  rw [i64s_get hq] at hat2
  have hqn : q < n := by omega
  have w : IntKind.i64.wrap ((q : Int) + 1) = (q : Int) + 1 := wrap_i64 (by omega) (by omega)
  obtain ⟨A1, hA1, _⟩ := star_l p1
  have hat1 := star_at hA1
  simp at sk
  cases wait with
  | nil =>
    obtain ⟨B1, ⟨lv, fp, hl, _⟩, _⟩ := star_r p1
    have tk := R_ltake0 (mp := mp) h27 h31 hl
    refine ⟨_, F1, ?_, ⟨v1, by simpa using p1, by simp [her]; omega, h2, h3, by simp⟩, u1⟩
    rw [R_code hf]
    simp [m58, ld_at hat, sk]
    rw [Rc_loop]
    simp [m58_0, hqn, ld_at hB, hat2, ld_at hat, w, a1, st_at a2 rfl 0 v1 a3, ld_at hat1, tk]
  | cons y ws =>
    -- the one that waits comes
    obtain ⟨_, H2, F2, p2, u2, tk⟩ := star_upd (ι := Unit) (P' := fun _ => LineA t ws 64) (C := fun _ H' => R mp 27 [.pointer (some ⟨t, 0, none⟩)] (H0.set g (.cells ⟨0, true, false⟩ [v1, .pointer (some ⟨t, 0, none⟩), .int .i64 most])) = some (.tuple #[.int .i64 y, .int .i64 0], H')) (Pt.good.star OwnA.good) (fun _ => LineA.good) (star_comm p1) (fun A ⟨lv, fp, hl, hA⟩ _ => by
      obtain ⟨v', H', e1, l1, f1⟩ := R_ltake (mp := mp) h27 h31 h66 hl
      exact ⟨(), H', _, LineA.of l1, Upd.of_fp f1 (fun id _ h => (hA id).2 h) fun id hid => .inl ((hA id).2 (by simpa using hid)), e1⟩)
    have p2' := star_comm p2
    obtain ⟨A2, hA2, _⟩ := star_l p2'
    have hat3 := star_at hA2
    obtain ⟨v3, H3, F3, p3, u3, H4, b1, b2, b3, rfl⟩ := star_upd (P' := fun v' => Pt g ⟨0, true, false⟩ [v', .pointer (some ⟨t, 0, none⟩), .int .i64 most] * OwnA 1 v' (i64s (ins.erase x ++ [y])))
      (C := fun v' H' => ∃ H1, meff (.app 1 8) [v1, .slice (some ⟨H2.length, 0, none⟩) 1 1] (H2 ++ [.cells ⟨1, true, true⟩ [.int .i64 y]]) = some (v', H1) ∧ H1[g]? = some (.cells ⟨0, true, false⟩ [v1, .pointer (some ⟨t, 0, none⟩), .int .i64 most]) ∧ one v' = true ∧ H' = H1.set g (.cells ⟨0, true, false⟩ [v', .pointer (some ⟨t, 0, none⟩), .int .i64 most]))
      LineA.good (fun _ => Pt.good.star OwnA.good) p2' (fun A hA _ => by
        obtain ⟨v', H1, F1, a1, a2, a3, a4, a5⟩ := push_field (bytes := 8) (k := 0) (xs := [.int .i64 y]) hA (i64s_one _) rfl rfl (by omega) (by rw [i64s_len, her]; omega) (by omega)
        exact ⟨v', _, F1, by simpa [i64s] using a4, a5, H1, a1, a2, a3, rfl⟩)
    refine ⟨_, F3, ?_, ⟨v3, by simpa using p3, by simp [her]; omega, h2, h3, by simp at h4 ⊢; omega⟩, (u1.trans u2).trans u3⟩
    obtain ⟨B3, hB3, _⟩ := star_r hA1
    obtain ⟨a', n', c', rfl, hln'⟩ := (Own.row hB3).slice
    rw [R_code hf]
    simp [m58, ld_at hat, sk]
    rw [Rc_loop]
    simp [m58_0, hqn, ld_at hB, hat2, ld_at hat, w, a1, st_at a2 rfl 0 _ a3, ld_at hat1, tk, ld_at hat3, b1, st_at b2 rfl 0 v3 b3]
end
end Go.Mod

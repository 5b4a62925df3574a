/- LegalBusy: the model's side. -/
import Derived.Test.YtpdkmcnoidbjoaaLegK
set_option linter.unusedVariables false
set_option linter.unusedSimpArgs false
namespace Go.Mod
open Go.Proofs

/-- A slot. -/
def slotC (s : Int × Int × Int × Bool) : List Value := [.int .i64 s.1, .int .i64 s.2.1, .int .i64 s.2.2.1, .bool s.2.2.2]
theorem slotC_w {l : List (Int × Int × Int × Bool)} : ∀ x ∈ l, (slotC x).length = 4 := fun _ _ => rfl
theorem slotC_one (l : List (Int × Int × Int × Bool)) : (l.flatMap slotC).all one = true := by
  rw [List.all_eq_true]
  intro x hx
  obtain ⟨s, _, hs⟩ := List.mem_flatMap.1 hx
  simp [slotC] at hs
  rcases hs with rfl | rfl | rfl | rfl <;> rfl
/-- Who ran at a cluster in a tick. -/
def busyL (tm cl : Int) : List (Int × Int × Int × Bool) → List Int
  | [] => []
  | s :: l => if s.1 = tm ∧ s.2.1 = cl then s.2.2.1 :: busyL tm cl l else busyL tm cl l
theorem busyL_app {tm cl : Int} : ∀ {l m : List (Int × Int × Int × Bool)}, busyL tm cl (l ++ m) = busyL tm cl l ++ busyL tm cl m
  | [], m => rfl
  | s :: l, m => by
    simp only [List.cons_append, busyL]
    split
    · rw [busyL_app]; rfl
    · exact busyL_app
theorem busyL_len {tm cl : Int} : ∀ {l : List (Int × Int × Int × Bool)}, (busyL tm cl l).length ≤ l.length
  | [] => Nat.le_refl _
  | s :: l => by
    have := busyL_len (tm := tm) (cl := cl) (l := l)
    simp only [busyL]
    split <;> simp <;> omega
theorem drop_consS {α : Type} {ps rest : List α} {e : α} {i : Nat} (h : ps.drop i = e :: rest) : ps[i]? = some e ∧ ps.drop (i + 1) = rest ∧ i < ps.length := by
  have h1 : ps[i]? = some e := by
    have := congrArg (fun l => l[0]?) h
    simpa using this
  refine ⟨h1, ?_, (List.getElem?_eq_some_iff.1 h1).1⟩
  have := congrArg (List.drop 1) h
  simpa [List.drop_drop, Nat.add_comm] using this
section
variable {mp : FuncId → Option MDef} {a : Option Addr} {n c : Nat} {l : List (Int × Int × Int × Bool)} {tm cl : Int}
theorem busy_loop (hl : l.length ≤ 100000) : ∀ (rest : List (Int × Int × Int × Bool)) (l0 : List Int) (i : Nat) (H : MH) (ao : Option Addr) (no co : Nat) (G : List Nat), l.drop i = rest → i ≤ l.length → Stay 4 (.slice a n c) (l.flatMap slotC) H G → OwnA 1 (.slice ao no co) (i64s l0) H G → l0.length + rest.length ≤ 100000 →
    ∃ (a' : Option Addr) (n' c' : Nat) (H' : MH) (G' : List Nat), Rc mp (.loop m60_0) [(1, .int .i64 tm), (2, .int .i64 cl), (7, .slice ao no co), (11, .slice a n c), (12, .int .i64 (n : Int)), (13, .int .i64 (i : Int))] H =
        some (.exit 0, [(1, .int .i64 tm), (2, .int .i64 cl), (7, .slice a' n' c'), (11, .slice a n c), (12, .int .i64 (n : Int)), (13, .int .i64 (n : Int)), (14, .bool false)], H') ∧ OwnA 1 (.slice a' n' c') (i64s (l0 ++ busyL tm cl rest)) H' G' ∧ Upd H G H' G' := by
  intro rest
  induction rest with
  | nil =>
    intro l0 i H ao no co G hd hi hr ho hb
    have hn := hr.1.gn slotC_w (by omega)
    have : i = n := by
      have := congrArg List.length hd
      simp at this; omega
    subst this
    refine ⟨ao, no, co, H, G, ?_, by simpa [busyL] using ho, Upd.refl _ _⟩
    rw [Rc_loop]
    simp [m60_0]
  | cons s rest ih =>
    intro l0 i H ao no co G hd hi hr ho hb
    have hn := hr.1.gn slotC_w (by omega)
    obtain ⟨hs, hd', hil⟩ := drop_consS hd
    have hin : i < n := by omega
    obtain ⟨b, o, j, cs, rfl, hB, hes, hlen, htk, _⟩ := hr.1.grec slotC_w (by omega) hs
    obtain ⟨st, sc, sk, sh⟩ := s
    have h3 : mread (.ld (some 4)) [.pointer (some ⟨b, o + i * 4, none⟩)] H = some (.agg #[.int .i64 st, .int .i64 sc, .int .i64 sk, .bool sh]) := by
      rw [ldn_at hB _ _ hlen (by rw [htk]; rfl), htk]; rfl
    have w : IntKind.i64.wrap ((i : Int) + 1) = (i : Int) + 1 := wrap_i64 (by omega) (by omega)
    have e1 : Ext H (H ++ [.cells ⟨0, true, false⟩ [.int .i64 st, .int .i64 sc, .int .i64 sk, .bool sh]]) := ⟨_, rfl⟩
    simp at hb
    by_cases hk : st = tm ∧ sc = cl
    · obtain ⟨a2, n2, c2, H2, G2, q1, q2, q3⟩ := own_push1 (es := 1) (bytes := 8) (xs := [.int .i64 sk]) (OwnA.good.ext ho e1) (i64s_one _) rfl rfl (by omega) (by rw [i64s_len]; omega) (by omega)
      rw [i64s_snoc] at q2
      have u : Upd H G H2 G2 := (Upd.ext e1).trans q3
      obtain ⟨a', n', c', H', G', f1, f2, f3⟩ := ih (l0 ++ [sk]) (i + 1) H2 a2 n2 c2 G2 hd' (by omega) (hr.upd u) q2 (by simp; omega)
      refine ⟨a', n', c', H', G', ?_, by simp only [busyL]; rw [if_pos hk]; simpa using f2, u.trans f3⟩
      obtain ⟨k1, k2⟩ := hk
      simp at f1 q1
      rw [k1, k2] at q1
      rw [Rc_loop]
      simp [m60_0, hin, h3, stx, ldx, k1, k2, w, q1]
      exact f1
    · obtain ⟨a', n', c', H', G', f1, f2, f3⟩ := ih l0 (i + 1) _ ao no co G hd' (by omega) (hr.ext e1) (OwnA.good.ext ho e1) (by omega)
      refine ⟨a', n', c', H', G', ?_, by simp only [busyL]; rw [if_neg hk]; exact f2, (Upd.ext e1).trans f3⟩
      simp at f1
      rw [Rc_loop]
      by_cases k1 : st = tm
      · have k2 : ¬ sc = cl := fun h => hk ⟨k1, h⟩
        rw [k1] at f1
        simp [m60_0, hin, h3, stx, ldx, k1, k2, w]
        exact f1
      · simp [m60_0, hin, h3, stx, ldx, k1, w]
        exact f1
theorem R_busy (hf : mp 60 = some (.code m60)) {H : MH} {tk vj vw : Value} (hr : Row 4 H (.slice a n c) (l.flatMap slotC)) (hl : l.length ≤ 100000) (h0 : one tk = true) (h1 : one vj = true) (h2 : one vw = true) :
    ∃ a' n' c' H' G', R mp 60 [.agg #[tk, .slice a n c, vj, vw], .int .i64 tm, .int .i64 cl] H = some (.slice a' n' c', H') ∧ OwnA 1 (.slice a' n' c') (i64s (busyL tm cl l)) H' G' ∧ Ext H H' ∧ ∀ id ∈ G', H.length ≤ id := by
  have e1 : Ext H (H ++ [.cells ⟨0, true, false⟩ [tk, .slice a n c, vj, vw]]) := ⟨_, rfl⟩
  obtain ⟨a', n', c', H', G', f1, f2, f3⟩ := busy_loop (mp := mp) (tm := tm) (cl := cl) (n := n) (c := c) hl l [] 0 _ none 0 0 [] (by simp) (by omega) ⟨e1.row hr, by simp⟩ (.inl ⟨rfl, rfl, rfl⟩) (by simp; omega)
  obtain ⟨x3, n3⟩ := f3.toExt
  refine ⟨a', n', c', H', G', ?_, by simpa using f2, e1.trans x3, fun id hid => by have := n3 id hid; simp at this; omega⟩
  simp at f1
  rw [R_code hf]
  simp [m60, ldx, f1]
end
theorem star_own_push {P : HP} (g : Good P) {H : MH} {F : List Nat} {v : Value} {l : List Value} {es bytes : Nat} (h : (P * OwnA es v l) H F) (hl : l.all one = true) {xs : List Value} (hx : xs.all one = true) (hxl : xs.length = es) (hes : 0 < es) (hb : l.length + es ≤ 1000000) (hbytes : bytes ≤ 4096) :
    ∃ a n c H' F', meff (.app es bytes) [v, .slice (some ⟨H.length, 0, none⟩) 1 1] (H ++ [.cells ⟨es, true, true⟩ xs]) = some (.slice a n c, H') ∧ (P * OwnA es (.slice a n c) (l ++ xs)) H' F' ∧ Upd H F H' F' := by
  obtain ⟨A, B, hA, hB, hAB, hF⟩ := h
  obtain ⟨a, n, c, H', B', e, o, u⟩ := own_push1 (bytes := bytes) hB hl hx hxl hes hb hbytes
  obtain ⟨hA', dA'⟩ := g.upd hA hAB u
  refine ⟨a, n, c, H', A ++ B', e, ⟨A, B', hA', o, dA', fun x => by simp⟩, ⟨u.len, fun id h1 h2 => u.same id h1 fun hb => h2 ((hF id).2 (.inr hb)), fun id hid => ?_⟩⟩
  rcases List.mem_append.1 hid with h | h
  · exact .inl ((hF id).2 (.inl h))
  · exact (u.new id h).imp (fun h => (hF id).2 (.inr h)) fun h => h
section
variable {a a' : Option Addr} {n n' c c' bx : Nat} {xs ys : List Int} {tm cl : Int}
theorem lbusy1 (hx : xs.length ≤ 40) (hy : xs.length ≤ ys.length) (hb : ∀ x ∈ xs, 0 ≤ x ∧ x < 256) (hb' : ∀ x ∈ ys, 0 ≤ x ∧ x < 256) (ht : 0 ≤ tm ∧ tm < 256) (hc : 0 ≤ cl ∧ cl < 256) :
    ∀ (k i : Nat) (H : MH) (F : List Nat) (sl : List (Int × Int × Int × Bool)) (vs : Value) (aw : Option Addr) (nw cw : Nat), i + k = xs.length → Stay 1 (.slice a n c) (u8s xs) H F → Stay 1 (.slice a' n' c') (u8s ys) H F →
    ((Pt bx ⟨0, true, false⟩ [.int .i64 0, vs, .slice none 0 0, .slice none 0 0] * OwnA 4 vs (sl.flatMap slotC)) * OwnA 1 (.slice aw nw cw) (i64s (busyL (tm % 6) (cl % 3) sl))) H F → sl.length = i →
    ∃ (H' : MH) (F' : List Nat) (sl' : List (Int × Int × Int × Bool)) (vs' : Value) (aw' : Option Addr) (nw' cw' : Nat), Rc mpLk (.loop m16_1) [(0, .slice a n c), (1, .slice a' n' c'), (2, .int .u8 tm), (3, .int .u8 cl), (9, .pointer (some ⟨bx, 0, none⟩)), (10, .slice aw nw cw), (11, .int .i64 (i : Int))] H =
      some (.exit 0, [(0, .slice a n c), (1, .slice a' n' c'), (2, .int .u8 tm), (3, .int .u8 cl), (9, .pointer (some ⟨bx, 0, none⟩)), (10, .slice aw' nw' cw'), (11, .int .i64 (n : Int)), (32, .bool false)], H') ∧
      ((Pt bx ⟨0, true, false⟩ [.int .i64 0, vs', .slice none 0 0, .slice none 0 0] * OwnA 4 vs' (sl'.flatMap slotC)) * OwnA 1 (.slice aw' nw' cw') (i64s (busyL (tm % 6) (cl % 3) sl'))) H' F' ∧ sl'.length = xs.length := by
  intro k
  induction k with
  | zero =>
    intro i H F sl vs aw nw cw hk hS hS' h hl
    have hn := hS.1.u8n
    have : i = n := by omega
    subst this
    refine ⟨H, F, sl, vs, aw, nw, cw, ?_, h, by omega⟩
    rw [Rc_loop]
    simp [m16_1]
  | succ k ih =>
    intro i H F sl vs aw nw cw hk hS hS' h hl
    have hn := hS.1.u8n
    have hn' := hS'.1.u8n
    have hlt : i < n := by omega
    have hlt' : i < n' := by omega
    obtain ⟨x, hxx⟩ : ∃ x, xs[i]? = some x := ⟨_, List.getElem?_eq_getElem (by omega)⟩
    obtain ⟨y, hyy⟩ : ∃ y, ys[i]? = some y := ⟨_, List.getElem?_eq_getElem (by omega)⟩
    have hxb := hb x (List.mem_of_getElem? hxx)
    have hyb := hb' y (List.mem_of_getElem? hyy)
    obtain ⟨b, o, j, cs, rfl, hB, hat⟩ := hS.1.u8 (by omega)
    obtain ⟨b', o', j', cs', rfl, hB', hat'⟩ := hS'.1.u8 (by omega)
    have hcx := hat i x hxx
    have hcy := hat' i y hyy
    have hbx := star_at2 h
    obtain ⟨A, hA, _⟩ := star_l h
    obtain ⟨B, hB0, _⟩ := star_r hA
    obtain ⟨av, nv, cv, rfl, _⟩ := (Own.row hB0).slice
    have hsl : (sl.flatMap slotC).length = sl.length * 4 := flat_len slotC_w
    obtain ⟨vs1, H1, H2, F2, p1, p2, p3, p4⟩ := push_fld2 (k := 1) (bytes := 32) (xs := slotC (x % 6, y % 3, (i : Int), false)) OwnA.good h rfl (by simp) (slotC_one sl) rfl rfl (by omega) (by rw [hsl]; omega) (by omega)
    rw [show sl.flatMap slotC ++ slotC (x % 6, y % 3, (i : Int), false) = (sl ++ [(x % 6, y % 3, (i : Int), false)]).flatMap slotC by simp] at p3
    simp only [List.set] at p3
    have hS2 := hS.upd p4
    have hS2' := hS'.upd p4
    have t1 : x.tmod 6 = x % 6 := Int.tmod_eq_emod_of_nonneg (by omega)
    have t2 : y.tmod 3 = y % 3 := Int.tmod_eq_emod_of_nonneg (by omega)
    have t3 : tm.tmod 6 = tm % 6 := Int.tmod_eq_emod_of_nonneg (by omega)
    have t4 : cl.tmod 3 = cl % 3 := Int.tmod_eq_emod_of_nonneg (by omega)
    have w1 : IntKind.i64.wrap (x % 6) = x % 6 := wrap_i64 (by omega) (by omega)
    have w2 : IntKind.i64.wrap (y % 3) = y % 3 := wrap_i64 (by omega) (by omega)
    have w3 : IntKind.i64.wrap (tm % 6) = tm % 6 := wrap_i64 (by omega) (by omega)
    have w4 : IntKind.i64.wrap (cl % 3) = cl % 3 := wrap_i64 (by omega) (by omega)
    have w5 : IntKind.i64.wrap ((i : Int) + 1) = (i : Int) + 1 := wrap_i64 (by omega) (by omega)
    simp [slotC] at p1 p2
    by_cases hk2 : x % 6 = tm % 6 ∧ y % 3 = cl % 3
    · have hlb := busyL_len (tm := tm % 6) (cl := cl % 3) (l := sl)
      obtain ⟨aw2, nw2, cw2, H3, F3, q1, q2, q3⟩ := star_own_push (bytes := 8) (xs := [.int .i64 (i : Int)]) (Pt.good.star OwnA.good) p3 (i64s_one _) rfl rfl (by omega) (by rw [i64s_len]; omega) (by omega)
      rw [i64s_snoc, show busyL (tm % 6) (cl % 3) sl ++ [(i : Int)] = busyL (tm % 6) (cl % 3) (sl ++ [(x % 6, y % 3, (i : Int), false)]) by rw [busyL_app]; simp only [busyL]; rw [if_pos hk2]] at q2
      obtain ⟨H', F', sl', vs', aw', nw', cw', f1, f2⟩ := ih (i + 1) H3 F3 _ vs1 aw2 nw2 cw2 (by omega) (hS2.upd q3) (hS2'.upd q3) q2 (by simp; omega)
      refine ⟨H', F', sl', vs', aw', nw', cw', ?_, f2⟩
      obtain ⟨k1, k2⟩ := hk2
      rw [k1, k2] at p1
      simp at f1
      rw [Rc_loop]
      simp [m16_1, hlt, hlt', mdraw_plain, ld_at hB, hcx, ld_at hB', hcy, t1, t2, t3, t4, w1, w2, w3, w4, ld_at hbx, p1, p2, k1, k2, q1, w5]
      exact f1
    · rw [show busyL (tm % 6) (cl % 3) sl = busyL (tm % 6) (cl % 3) (sl ++ [(x % 6, y % 3, (i : Int), false)]) by rw [busyL_app]; simp only [busyL]; rw [if_neg hk2, List.append_nil]] at p3
      obtain ⟨H', F', sl', vs', aw', nw', cw', f1, f2⟩ := ih (i + 1) H2 F2 _ vs1 aw nw cw (by omega) hS2 hS2' p3 (by simp; omega)
      refine ⟨H', F', sl', vs', aw', nw', cw', ?_, f2⟩
      simp at f1
      rw [Rc_loop]
      by_cases k1 : x % 6 = tm % 6
      · have k2 : ¬ y % 3 = cl % 3 := fun h => hk2 ⟨k1, h⟩
        rw [k1] at p1
        simp [m16_1, hlt, hlt', mdraw_plain, ld_at hB, hcx, ld_at hB', hcy, t1, t2, t3, t4, w1, w2, w3, w4, ld_at hbx, p1, p2, k1, k2, w5]
        exact f1
      · simp [m16_1, hlt, hlt', mdraw_plain, ld_at hB, hcx, ld_at hB', hcy, t1, t2, t3, t4, w1, w2, w3, w4, ld_at hbx, p1, p2, k1, w5]
        exact f1
theorem lbusy0 {H : MH} {L : List Int} (hl : L.length ≤ 1000) (hr : Row 1 H (.slice a n c) (i64s L)) (hr' : Row 1 H (.slice a' n' c') (i64s L)) : ∀ (k i : Nat), i + k = n →
    Rc mpLk (.loop m16_0) [(10, .slice a' n' c'), (14, .slice a n c), (15, .int .i64 (i : Int))] H = some (.exit 2, [(10, .slice a' n' c'), (14, .slice a n c), (15, .int .i64 (n : Int)), (88, .bool false)], H) := by
  intro k
  induction k with
  | zero =>
    intro i hk
    have : i = n := by omega
    subst this
    rw [Rc_loop]
    simp [m16_0]
  | succ k ih =>
    intro i hk
    have hn := hr.i64n
    obtain ⟨y, hy⟩ : ∃ y, L[i]? = some y := ⟨_, List.getElem?_eq_getElem (by omega)⟩
    obtain ⟨g1, b, o, j, cs, rfl, hB, hat⟩ := hr.i64 hy
    obtain ⟨g1', b', o', j', cs', rfl, hB', hat'⟩ := hr'.i64 hy
    have w5 : IntKind.i64.wrap ((i : Int) + 1) = (i : Int) + 1 := wrap_i64 (by omega) (by omega)
    have := ih (i + 1) (by omega)
    simp at this
    rw [Rc_loop]
    simp [m16_0, g1, g1', mdraw_plain, ld_at hB, hat, ld_at hB', hat', w5]
    exact this
end
theorem legalBusy {H : MH} {v w : Value} {xs ys : List Int} {tm cl : Int} (hr : Row 1 H v (u8s xs)) (hr' : Row 1 H w (u8s ys)) (hb : ∀ x ∈ xs, 0 ≤ x ∧ x < 256) (hb' : ∀ x ∈ ys, 0 ≤ x ∧ x < 256) (ht : 0 ≤ tm ∧ tm < 256) (hc : 0 ≤ cl ∧ cl < 256) :
    ∃ H', R mpLk 16 [v, w, .int .u8 tm, .int .u8 cl] H = some (.bool true, H') := by
  refine isTrue_ex ?_
  obtain ⟨a, n, c, rfl, _⟩ := hr.slice
  obtain ⟨a', n', c', rfl, _⟩ := hr'.slice
  have hn := hr.u8n
  have hn' := hr'.u8n
  by_cases hbig : 40 < n
  · have h1 : (40 : Int) < (n : Int) := by omega
    rw [R_code (fn := m16) rfl]
    simp [m16, knownL_R, h1]
  · have h1 : ¬ (40 : Int) < (n : Int) := by omega
    by_cases hlt : n' < n
    · rw [R_code (fn := m16) rfl]
      simp [m16, knownL_R, h1, hlt]
    · have e1 : Ext H (H ++ [.cells ⟨0, true, false⟩ [.int .i64 0, .slice none 0 0, .slice none 0 0, .slice none 0 0]]) := ⟨_, rfl⟩
      have h0 : ((Pt H.length ⟨0, true, false⟩ [.int .i64 0, .slice none 0 0, .slice none 0 0, .slice none 0 0] * OwnA 4 (.slice none 0 0) (([] : List (Int × Int × Int × Bool)).flatMap slotC)) * OwnA 1 (.slice none 0 0) (i64s (busyL (tm % 6) (cl % 3) []))) (H ++ [.cells ⟨0, true, false⟩ [.int .i64 0, .slice none 0 0, .slice none 0 0, .slice none 0 0]]) [H.length] :=
        ⟨[H.length], [], ⟨[H.length], [], ⟨rfl, by simp⟩, .inl ⟨rfl, rfl, rfl⟩, by simp, by simp⟩, .inl ⟨rfl, rfl, rfl⟩, by simp, by simp⟩
      obtain ⟨H2, F2, sl, vs, aw, nw, cw, f1, f2, f3⟩ := lbusy1 (c := c) (c' := c') (tm := tm) (cl := cl) (by omega) (by omega) hb hb' ht hc xs.length 0 _ _ [] (.slice none 0 0) none 0 0 (by omega) (stay_new hr e1) (stay_new hr' e1) h0 rfl
      have hat := star_at2 f2
      obtain ⟨A, hA, _⟩ := star_l f2
      obtain ⟨B, hB, _⟩ := star_r hA
      obtain ⟨C, hC, _⟩ := star_r f2
      obtain ⟨as', ns, cs, rfl, _⟩ := (Own.row hB).slice
      obtain ⟨al, nl, cll, H3, G3, e3, o3, x3, m3⟩ := R_busy (mp := mpLk) rfl (tk := .int .i64 0) (vj := .slice none 0 0) (vw := .slice none 0 0) (tm := tm % 6) (cl := cl % 3) (Own.row hB) (by omega) rfl rfl rfl
      have hlb := busyL_len (tm := tm % 6) (cl := cl % 3) (l := sl)
      have r1 := Own.row o3
      have r2 := x3.row (Own.row hC)
      have g1 := r1.i64n
      have g2 := r2.i64n
      have hloop := lbusy0 (by omega) r1 r2 nl 0 (by omega)
      have t3 : tm.tmod 6 = tm % 6 := Int.tmod_eq_emod_of_nonneg (by omega)
      have t4 : cl.tmod 3 = cl % 3 := Int.tmod_eq_emod_of_nonneg (by omega)
      have w3 : IntKind.i64.wrap (tm % 6) = tm % 6 := wrap_i64 (by omega) (by omega)
      have w4 : IntKind.i64.wrap (cl % 3) = cl % 3 := wrap_i64 (by omega) (by omega)
      have hnl : nw = nl := by omega
      subst hnl
      simp at f1 hloop
      rw [R_code (fn := m16) rfl]
      simp [m16, knownL_R, h1, hlt, stx, f1, ldnx, hat, t3, t4, w3, w4, e3, hloop]
end Go.Mod

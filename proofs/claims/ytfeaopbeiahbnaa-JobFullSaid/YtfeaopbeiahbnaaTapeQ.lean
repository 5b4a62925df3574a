/- The tape's functions: what they come to. -/
import Derived.Test.YtfeaopbeiahbnaaLib3
import Derived.Test.YtfeaopbeiahbnaaTapeM
set_option linter.unusedVariables false
set_option linter.unusedSimpArgs false
namespace Go.Mod

variable {mp : FuncId → Option MDef}

theorem R_cloneB (hm : mp 63 = some (.code m63)) {H : MH} {v : Value} {l : List Value} (hr : Row 1 H v l) (hl : l.all one = true) (hn : l.length ≤ 1000000) :
    ∃ v' X, R mp 63 [v] H = some (v', H ++ X) ∧ Row 1 (H ++ X) v' l := R_clone (f := 63) (es := 1) (bytes := 1) (z := [.int .u8 0]) hm rfl (by omega) (by omega) hr hl hn

/-! ### tapes -/
/-- Of all that is there only the object t is another one. -/
structure Chg (t : Nat) (H H' : MH) : Prop where
  len : H'.length = H.length
  same : ∀ b, b ≠ t → H'[b]? = H[b]?
theorem Chg.set {H : MH} (t : Nat) (o : MObj) : Chg t H (H.set t o) := ⟨by simp, fun b h => List.getElem?_set_ne (fun e => h e.symm)⟩
theorem Chg.refl (t : Nat) (H : MH) : Chg t H H := ⟨rfl, fun _ _ => rfl⟩
theorem Chg.trans {t : Nat} {H H1 H2 : MH} (h : Chg t H H1) (g : Chg t H1 H2) : Chg t H H2 := ⟨g.len.trans h.len, fun b hb => (g.same b hb).trans (h.same b hb)⟩
theorem Row.chg {es t : Nat} {H H' : MH} {v : Value} {l : List Value} {i : Info} {c : List Value} (h : Row es H v l) (hc : Chg t H H') (ht : H[t]? = some (.cells i c)) (hi : i.es ≠ es) : Row es H' v l :=
  h.keep fun b j cs hb he => by
    rw [hc.same b ?_]; exact hb
    rintro rfl
    rw [ht] at hb; cases hb; exact hi he

def u8s (xs : List Int) : List Value := xs.map fun n => .int .u8 n
theorem u8s_one (xs : List Int) : (u8s xs).all one = true := by simp [u8s]
theorem u8s_len (xs : List Int) : (u8s xs).length = xs.length := by simp [u8s]

/-- A tape: its bytes, which one is next, how many were used. -/
structure TapeAt (H : MH) (t : Nat) (i : Info) (v : Value) (xs : List Int) (p u : Int) : Prop where
  obj : H[t]? = some (.cells i [v, .int .i64 p, .int .i64 u])
  rw : i.rw = true
  es : i.es = 0
  row : Row 1 H v (u8s xs)

theorem TapeAt.put {H : MH} {t : Nat} {i : Info} {v : Value} {xs : List Int} {p u : Int} (h : TapeAt H t i v xs p u) (p' u' : Int) : TapeAt (H.set t (.cells i [v, .int .i64 p', .int .i64 u'])) t i v xs p' u' :=
  ⟨List.getElem?_set_self (List.getElem?_eq_some_iff.1 h.obj).1, h.rw, h.es, h.row.chg (Chg.set t _) h.obj (by rw [h.es]; omega)⟩
theorem TapeAt.app {H X : MH} {t : Nat} {i : Info} {v : Value} {xs : List Int} {p u : Int} (h : TapeAt H t i v xs p u) : TapeAt (H ++ X) t i v xs p u := ⟨get_app h.obj, h.rw, h.es, h.row.app⟩
theorem TapeAt.chg {H H' : MH} {t s : Nat} {i : Info} {v : Value} {xs : List Int} {p u : Int} {j : Info} {c : List Value} (h : TapeAt H t i v xs p u) (hc : Chg s H H') (hs : H[s]? = some (.cells j c)) (hj : j.es = 0) (hne : t ≠ s) : TapeAt H' t i v xs p u :=
  ⟨by rw [hc.same t hne]; exact h.obj, h.rw, h.es, h.row.chg hc hs (by rw [hj]; omega)⟩

theorem R_used (hm : mp 21 = some (.code m21)) {H : MH} {t : Nat} {i : Info} {v : Value} {xs : List Int} {p u : Int} (ht : TapeAt H t i v xs p u) :
    R mp 21 [.pointer (some ⟨t, 0, none⟩)] H = some (.int .i64 u, H) := by
  rw [R_code hm]
  simp [m21, ld_at ht.obj]

theorem R_new (h17 : mp 17 = some (.code m17)) (h63 : mp 63 = some (.code m63)) {H : MH} {v : Value} {xs : List Int} (hr : Row 1 H v (u8s xs)) (hn : xs.length ≤ 1000000) :
    ∃ t X v', R mp 17 [v] H = some (.pointer (some ⟨t, 0, none⟩), H ++ X) ∧ H.length ≤ t ∧ TapeAt (H ++ X) t ⟨0, true, false⟩ v' xs 0 0 := by
  obtain ⟨v', X, h1, h2⟩ := R_cloneB h63 hr (u8s_one xs) (by rw [u8s_len]; exact hn)
  obtain ⟨a, n, c, rfl, _⟩ := h2.slice
  refine ⟨(H ++ X).length, X ++ [.cells ⟨0, true, false⟩ [.slice a n c, .int .i64 0, .int .i64 0]], .slice a n c, ?_, by simp, ⟨by simp, rfl, rfl, by rw [← List.append_assoc]; exact h2.app⟩⟩
  rw [R_code h17]
  simp [m17, h1]

theorem R_next0 (h64 : mp 64 = some (.code m64)) {H : MH} {t : Nat} {i : Info} {v : Value} {p u : Int} (ht : TapeAt H t i v [] p u) (h0 : 0 ≤ u) (h1 : u < 1000000000) :
    R mp 64 [.pointer (some ⟨t, 0, none⟩)] H = some (.tuple #[.int .i64 0, .bool false], H.set t (.cells i [v, .int .i64 p, .int .i64 (u + 1)])) := by
  obtain ⟨a, n, c, rfl, hl⟩ := ht.row.slice
  have hn : n = 0 := by simpa [u8s] using hl
  subst hn
  have h2 := ht.put p (u + 1)
  rw [R_code h64]
  simp [m64, ld_at ht.obj, ld_at h2.obj, st_at ht.obj ht.rw, wrap_i64 (n := u + 1) (by omega) (by omega)]
theorem R_next1 (h64 : mp 64 = some (.code m64)) {H : MH} {t : Nat} {i : Info} {v : Value} {xs : List Int} {p u : Int} (ht : TapeAt H t i v xs p u) (hp : 0 ≤ p) (hp1 : p ≤ xs.length) (h0 : 0 ≤ u) (h1 : u < 1000000000) (hx : xs.length ≤ 1000000) (hb : ∀ x ∈ xs, 0 ≤ x ∧ x < 256)
    (k : Nat) (hk : (k : Int) = if p = xs.length then 0 else p) (x : Int) (hkx : xs[k]? = some x) :
    R mp 64 [.pointer (some ⟨t, 0, none⟩)] H = some (.tuple #[.int .i64 x, .bool true], H.set t (.cells i [v, .int .i64 (k + 1), .int .i64 (u + 1)])) := by
  have hr := ht.row
  rcases hr with ⟨_, h2⟩ | ⟨b, o, n, c, j, cs, rfl, hnc, hb3, hes, hlen, htake⟩
  · have : xs = [] := by simpa [u8s] using h2
    subst this; simp at hkx
  · have hn : n = xs.length := by
      have := congrArg List.length htake
      simp [u8s] at this; omega
    subst hn
    have hkl : k < xs.length := (List.getElem?_eq_some_iff.1 hkx).1
    have hbt : b ≠ t := by rintro rfl; rw [ht.obj] at hb3; cases hb3; rw [ht.es] at hes; omega
    have e1 := ht.put p (u + 1)
    have e2 := ht.put 0 (u + 1)
    have e3 := ht.put k (u + 1)
    have hcs : cs[o + k]? = some (.int .u8 x) := by
      have : (u8s xs)[k]? = some (.int .u8 x) := by simp [u8s, hkx]
      rw [← htake, List.getElem?_take, if_pos (by omega), List.getElem?_drop] at this
      exact this
    have hne : ∀ o', (H.set t o')[b]? = some (.cells j cs) := fun o' => by rw [List.getElem?_set_ne (fun e => hbt e.symm)]; exact hb3
    have hxb := hb x (List.mem_of_getElem? hkx)
    have hx0 : ¬ (xs.length = 0) := by omega
    have hx0' : ¬ xs = [] := by rintro rfl; simp at hkl
    have hwx : IntKind.i64.wrap x = x := wrap_i64 (by omega) (by omega)
    have hwu : IntKind.i64.wrap (u + 1) = u + 1 := wrap_i64 (by omega) (by omega)
    rw [R_code h64]
    by_cases hpe : p = xs.length
    · have hk0 : k = 0 := by rw [if_pos hpe] at hk; omega
      subst hk0
      subst hpe
      have hcs' : cs[o]? = some (.int .u8 x) := hcs
      have hw1 : IntKind.i64.wrap 1 = 1 := wrap_i64 (by omega) (by omega)
      simp [m64, ld_at ht.obj, ld_at e1.obj, ld_at e2.obj, st_at ht.obj ht.rw, st_at e1.obj ht.rw, st_at e2.obj ht.rw, hwu, hwx, hx0', mdraw_plain, hkl, ld_at (hne _), hcs', hw1]
    · have hkp : (k : Int) = p := by rw [if_neg hpe] at hk; exact hk
      have hpt : p.toNat = k := by omega
      have hlt : p < xs.length := by omega
      have hwp : IntKind.i64.wrap (p + 1) = p + 1 := wrap_i64 (by omega) (by omega)
      simp [m64, ld_at ht.obj, ld_at e1.obj, st_at ht.obj ht.rw, st_at e1.obj ht.rw, hwu, hwx, hx0', mdraw_plain, hpe, hlt, hp, hpt, ld_at (hne _), hcs, hwp, hkp]

theorem R_clip (h65 : mp 65 = some (.code m65)) {H : MH} {x a b : Int} (hab : a ≤ b) :
    R mp 65 [.int .i64 x, .int .i64 a, .int .i64 b] H = some (.int .i64 (max a (min x b)), H) := by
  rw [R_code h65]
  by_cases h1 : x < a
  · have e : max a (min x b) = a := by omega
    simp [m65, h1, e]
  · by_cases h2 : x > b
    · have e : max a (min x b) = b := by omega
      have h3 : ¬ b < a := by omega
      have h2' : b < x := h2
      simp [m65, h1, h2', h3, e]
    · have e : max a (min x b) = x := by omega
      have h3 : ¬ b < a := by omega
      have h2' : ¬ b < x := h2
      simp [m65, h1, h2', h3, e]

/-- What is chosen by the byte n. -/
def pickN (n lo hi : Int) : Int := IntKind.i64.wrap (lo + n.tmod (max 1 (min (IntKind.i64.wrap (hi - lo)) 65535) + 1))

theorem R_pick_none (h19 : mp 19 = some (.code m19)) {H : MH} {v : Value} {lo hi : Int} (h : hi ≤ lo) : R mp 19 [v, .int .i64 lo, .int .i64 hi] H = some (.int .i64 hi, H) := by
  rw [R_code h19]
  have : ¬ lo < hi := by omega
  simp [m19, m19_0, Rc_loop, this]
theorem R_pick0 (h19 : mp 19 = some (.code m19)) (h64 : mp 64 = some (.code m64)) {H : MH} {t : Nat} {i : Info} {v : Value} {p u : Int} (ht : TapeAt H t i v [] p u) (h0 : 0 ≤ u) (h1 : u < 1000000000) {lo hi : Int} (h : lo < hi) :
    R mp 19 [.pointer (some ⟨t, 0, none⟩), .int .i64 lo, .int .i64 hi] H = some (.int .i64 hi, H.set t (.cells i [v, .int .i64 p, .int .i64 (u + 1)])) := by
  rw [R_code h19]
  simp [m19, m19_0, Rc_loop, h, R_next0 h64 ht h0 h1]
theorem R_pick1 (h19 : mp 19 = some (.code m19)) (h64 : mp 64 = some (.code m64)) (h65 : mp 65 = some (.code m65)) {H : MH} {t : Nat} {i : Info} {v : Value} {xs : List Int} {p u : Int} (ht : TapeAt H t i v xs p u) (hp : 0 ≤ p) (hp1 : p ≤ xs.length) (h0 : 0 ≤ u) (h1 : u < 1000000000) (hx : xs.length ≤ 1000000) (hb : ∀ x ∈ xs, 0 ≤ x ∧ x < 256)
    (k : Nat) (hk : (k : Int) = if p = xs.length then 0 else p) (x : Int) (hkx : xs[k]? = some x) {lo hi : Int} (h : lo < hi) :
    R mp 19 [.pointer (some ⟨t, 0, none⟩), .int .i64 lo, .int .i64 hi] H = some (.int .i64 (pickN x lo hi), H.set t (.cells i [v, .int .i64 (k + 1), .int .i64 (u + 1)])) := by
  have hw : IntKind.i64.wrap (max 1 (min (IntKind.i64.wrap (hi - lo)) 65535) + 1) = max 1 (min (IntKind.i64.wrap (hi - lo)) 65535) + 1 := wrap_i64 (by omega) (by omega)
  have hz : ¬ max 1 (min (IntKind.i64.wrap (hi - lo)) 65535) + 1 = 0 := by omega
  rw [R_code h19]
  simp [m19, m19_0, Rc_loop, h, R_next1 h64 ht hp hp1 h0 h1 hx hb k hk x hkx, R_clip h65, hw, hz, pickN]
theorem R_copy (h18 : mp 18 = some (.code m18)) (h63 : mp 63 = some (.code m63)) {H : MH} {t : Nat} {i : Info} {v : Value} {xs : List Int} {p u : Int} (ht : TapeAt H t i v xs p u) (hn : xs.length ≤ 1000000) :
    ∃ t' X v', R mp 18 [.pointer (some ⟨t, 0, none⟩)] H = some (.pointer (some ⟨t', 0, none⟩), H ++ X) ∧ H.length ≤ t' ∧ TapeAt (H ++ X) t' ⟨0, true, false⟩ v' xs p u := by
  obtain ⟨v', X, h1, h2⟩ := R_cloneB h63 (H := H ++ [.dead]) ht.row.app (u8s_one xs) (by rw [u8s_len]; exact hn)
  obtain ⟨a0, n0, c0, rfl, _⟩ := ht.row.slice
  obtain ⟨a, n, c, rfl, _⟩ := h2.slice
  have e : H ++ [.cells ⟨0, true, false⟩ [.slice a n c, .int .i64 p, .int .i64 u]] ++ X = (H ++ ([MObj.dead] ++ X)).set H.length (.cells ⟨0, true, false⟩ [.slice a n c, .int .i64 p, .int .i64 u]) := by
    simp [List.set_append]
  have hA := get_app (X := [MObj.dead]) ht.obj
  have hB := get_app (X := X) hA
  refine ⟨H.length, [.cells ⟨0, true, false⟩ [.slice a n c, .int .i64 p, .int .i64 u]] ++ X, .slice a n c, ?_, by simp, ⟨by simp, rfl, rfl, ?_⟩⟩
  · rw [R_code h18]
    rw [← List.append_assoc, e]
    simp only [List.append_assoc, List.cons_append, List.nil_append] at h1 hA hB
    simp [m18, mdraw_full, h1, ld_at ht.obj, ld_at hA, ld_at hB, pairOk]
  · rw [← List.append_assoc]
    refine h2.keep fun b j cs hb _ => ?_
    have hne : b ≠ H.length := by
      rintro rfl
      simp at hb
    rcases Nat.lt_or_ge b H.length with h | h
    · simp only [List.append_assoc] at hb ⊢
      rw [List.getElem?_append_left h] at hb ⊢
      exact hb
    · have hl : (H ++ [MObj.dead]).length ≤ b := by simp; omega
      rw [List.getElem?_append_right hl] at hb
      rw [List.getElem?_append_right (by simp; omega)]
      simpa using hb

theorem R_pickr_none (h20 : mp 20 = some (.code m20)) {H : MH} {v : Value} {lo hi : Int} (h : hi ≤ lo) : R mp 20 [v, .int .i64 lo, .int .i64 hi] H = some (.int .i64 hi, H) := by
  rw [R_code h20]
  simp [m20, h]
/-- The reference's tape. -/
structure RefAt (H : MH) (r : Nat) (i : Info) (v : Value) (xs : List Int) (u : Int) : Prop where
  obj : H[r]? = some (.cells i [v, .int .i64 u])
  rw : i.rw = true
  es : i.es = 0
  row : Row 1 H v (u8s xs)
theorem RefAt.put {H : MH} {t : Nat} {i : Info} {v : Value} {xs : List Int} {u : Int} (h : RefAt H t i v xs u) (u' : Int) : RefAt (H.set t (.cells i [v, .int .i64 u'])) t i v xs u' :=
  ⟨List.getElem?_set_self (List.getElem?_eq_some_iff.1 h.obj).1, h.rw, h.es, h.row.chg (Chg.set t _) h.obj (by rw [h.es]; omega)⟩
theorem RefAt.app {H X : MH} {t : Nat} {i : Info} {v : Value} {xs : List Int} {u : Int} (h : RefAt H t i v xs u) : RefAt (H ++ X) t i v xs u := ⟨get_app h.obj, h.rw, h.es, h.row.app⟩
theorem RefAt.chg {H H' : MH} {t s : Nat} {i : Info} {v : Value} {xs : List Int} {u : Int} {j : Info} {c : List Value} (h : RefAt H t i v xs u) (hc : Chg s H H') (hs : H[s]? = some (.cells j c)) (hj : j.es = 0) (hne : t ≠ s) : RefAt H' t i v xs u :=
  ⟨by rw [hc.same t hne]; exact h.obj, h.rw, h.es, h.row.chg hc hs (by rw [hj]; omega)⟩
theorem R_pickr0 (h20 : mp 20 = some (.code m20)) {H : MH} {t : Nat} {i : Info} {v : Value} {u : Int} (ht : RefAt H t i v [] u) (h0 : 0 ≤ u) (h1 : u < 1000000000) {lo hi : Int} (h : lo < hi) :
    R mp 20 [.pointer (some ⟨t, 0, none⟩), .int .i64 lo, .int .i64 hi] H = some (.int .i64 hi, H.set t (.cells i [v, .int .i64 (u + 1)])) := by
  obtain ⟨a, n, c, rfl, hl⟩ := ht.row.slice
  have hn : n = 0 := by simpa [u8s] using hl
  subst hn
  have h2 := ht.put (u + 1)
  have hlt : ¬ hi ≤ lo := by omega
  have hw : IntKind.i64.wrap (u + 1) = u + 1 := wrap_i64 (by omega) (by omega)
  rw [R_code h20]
  simp [m20, hlt, ld_at ht.obj, st_at ht.obj ht.rw, ld_at h2.obj, hw]
theorem R_pickr1 (h20 : mp 20 = some (.code m20)) {H : MH} {t : Nat} {i : Info} {v : Value} {xs : List Int} {u : Int} (ht : RefAt H t i v xs u) (h0 : 0 ≤ u) (h1 : u < 1000000000) (hx : xs.length ≤ 1000000) (hb : ∀ x ∈ xs, 0 ≤ x ∧ x < 256)
    (k : Nat) (hk : (k : Int) = u.tmod xs.length) (x : Int) (hkx : xs[k]? = some x) {lo hi : Int} (h : lo < hi) :
    R mp 20 [.pointer (some ⟨t, 0, none⟩), .int .i64 lo, .int .i64 hi] H = some (.int .i64 (pickN x lo hi), H.set t (.cells i [v, .int .i64 (u + 1)])) := by
  have hr := ht.row
  rcases hr with ⟨_, h2⟩ | ⟨b, o, n, c, j, cs, rfl, hnc, hb3, hes, hlen, htake⟩
  · have : xs = [] := by simpa [u8s] using h2
    subst this; simp at hkx
  · have hn : n = xs.length := by
      have := congrArg List.length htake
      simp [u8s] at this; omega
    subst hn
    have hkl : k < xs.length := (List.getElem?_eq_some_iff.1 hkx).1
    have hbt : b ≠ t := by rintro rfl; rw [ht.obj] at hb3; cases hb3; rw [ht.es] at hes; omega
    have e1 := ht.put (u + 1)
    have hcs : cs[o + k]? = some (.int .u8 x) := by
      have : (u8s xs)[k]? = some (.int .u8 x) := by simp [u8s, hkx]
      rw [← htake, List.getElem?_take, if_pos (by omega), List.getElem?_drop] at this
      exact this
    have hne : ∀ o', (H.set t o')[b]? = some (.cells j cs) := fun o' => by rw [List.getElem?_set_ne (fun e => hbt e.symm)]; exact hb3
    have hxb := hb x (List.mem_of_getElem? hkx)
    have hx0' : ¬ xs = [] := by rintro rfl; simp at hkl
    have hwx : IntKind.i64.wrap x = x := wrap_i64 (by omega) (by omega)
    have hw : IntKind.i64.wrap (u + 1) = u + 1 := wrap_i64 (by omega) (by omega)
    have hw2 : IntKind.i64.wrap u = u := wrap_i64 (by omega) (by omega)
    have hlt : ¬ hi ≤ lo := by omega
    have hkk : 0 ≤ u.tmod xs.length ∧ u.tmod xs.length < xs.length := by omega
    have hkt : (u.tmod xs.length).toNat = k := by omega
    have hw3 : IntKind.i64.wrap (max 1 (min (IntKind.i64.wrap (hi - lo)) 65535) + 1) = max 1 (min (IntKind.i64.wrap (hi - lo)) 65535) + 1 := wrap_i64 (by omega) (by omega)
    have hz : ¬ max 1 (min (IntKind.i64.wrap (hi - lo)) 65535) + 1 = 0 := by omega
    rw [R_code h20]
    simp [m20, hlt, ld_at ht.obj, st_at ht.obj ht.rw, ld_at e1.obj, hw, hx0', mdraw_plain, hkk, hkt, ld_at (hne _), hcs, hwx, hw2, hw3, hz, pickN]
end Go.Mod

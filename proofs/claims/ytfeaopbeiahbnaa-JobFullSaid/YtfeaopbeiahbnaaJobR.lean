/- The job's functions, the reference's job's: what they come to. -/
import Derived.Test.YtfeaopbeiahbnaaJobP
set_option linter.unusedVariables false
set_option linter.unusedSimpArgs false
namespace Go.Mod

variable {mp : FuncId → Option MDef}

/-- Parts: kind, length, resource. -/
structure Parts (ps : List (List Int)) : Prop where
  w : ∀ p ∈ ps, p.length = 3
  len : ∀ p ∈ ps, 1 ≤ p.getD 1 0 ∧ p.getD 1 0 ≤ 200
  n : ps.length ≤ 10
def pAt (ps : List (List Int)) (k m : Nat) : Int := (ps.getD k []).getD m 0
theorem pAt_get {ps : List (List Int)} {k : Nat} {p : List Int} (h : ps[k]? = some p) (m : Nat) : pAt ps k m = p.getD m 0 := by
  simp [pAt, List.getD_eq_getElem?_getD, h]
theorem Parts.cells {ps : List (List Int)} (P : Parts ps) {k : Nat} (hk : k < ps.length) : ps[k]? = some [pAt ps k 0, pAt ps k 1, pAt ps k 2] := by
  have h := List.getElem?_eq_getElem hk
  have hw := P.w _ (List.getElem_mem hk)
  rw [h]
  congr 1
  rw [pAt_get h, pAt_get h, pAt_get h]
  match ps[k], hw with
  | [a, b, c], _ => rfl
theorem Parts.lens {ps : List (List Int)} (P : Parts ps) {k : Nat} (hk : k < ps.length) : 1 ≤ pAt ps k 1 ∧ pAt ps k 1 ≤ 200 := by
  have := P.len _ (List.getElem_mem hk)
  rw [pAt_get (List.getElem?_eq_getElem hk)]; exact this

/-! ### what a job does -/
structure JS where
  at_ : Nat
  left : Int
  used : Nat
def jbegin (ps : List (List Int)) (xs : List Int) (k u : Nat) : JS := if k < ps.length then ⟨k, jv xs u (pAt ps k 1), ju u (pAt ps k 1)⟩ else ⟨k, 0, u⟩
def jtick (ps : List (List Int)) (xs : List Int) (s : JS) : JS := if ps.length ≤ s.at_ then s else if 1 < s.left then ⟨s.at_, s.left - 1, s.used⟩ else jbegin ps xs (s.at_ + 1) s.used
def jdone (ps : List (List Int)) (s : JS) : Bool := decide (¬ ps.length ≤ s.at_ ∧ ¬ 1 < s.left)
structure JOk (ps : List (List Int)) (s : JS) : Prop where
  left : s.at_ < ps.length → 1 ≤ s.left ∧ s.left ≤ pAt ps s.at_ 1
  over : ps.length ≤ s.at_ → s.left = 0
  le : s.at_ ≤ ps.length
  used : s.used ≤ s.at_ + 1
theorem jbegin_ok {ps : List (List Int)} (P : Parts ps) {xs : List Int} (hb : Bytes xs) {k u : Nat} (hk : k ≤ ps.length) (hu : u ≤ k) : JOk ps (jbegin ps xs k u) := by
  unfold jbegin
  by_cases h : k < ps.length
  · rw [if_pos h]
    have hl := P.lens h
    have := jv_le hb u hl.1 (by omega)
    have := ju_le u (pAt ps k 1)
    exact ⟨fun _ => by simp only; omega, fun h' => by simp only at h'; omega, hk, by simp only; omega⟩
  · rw [if_neg h]
    exact ⟨fun h' => absurd h' h, fun _ => rfl, hk, by simp only; omega⟩
theorem jtick_ok {ps : List (List Int)} (P : Parts ps) {xs : List Int} (hb : Bytes xs) {s : JS} (h : JOk ps s) : JOk ps (jtick ps xs s) := by
  unfold jtick
  by_cases h1 : ps.length ≤ s.at_
  · rw [if_pos h1]; exact h
  · rw [if_neg h1]
    by_cases h2 : 1 < s.left
    · rw [if_pos h2]
      have := h.left (by omega)
      exact ⟨fun _ => by simp only; omega, fun h' => by simp only at h'; omega, h.le, h.used⟩
    · rw [if_neg h2]
      exact jbegin_ok P hb (by omega) h.used

/-- A job: its object, its tape. -/
def JobA (j t : Nat) (v : Value) (rel : Int) (xs : List Int) (s : JS) : HP := Pt j ⟨0, true, false⟩ [v, .int .i64 (s.at_ : Int), .int .i64 s.left, .int .i64 rel, .pointer (some ⟨t, 0, none⟩)] * TapeA t xs s.used
theorem JobA.good {j t : Nat} {v : Value} {rel : Int} {xs : List Int} {s : JS} : Good (JobA j t v rel xs s) := Pt.good.star TapeA.good
def RJobA (r y : Nat) (nm : ByteArray) (q1 q2 q3 q4 : Int) (v : Value) (rel : Int) (xs : List Int) (s : JS) : HP := Pt r ⟨0, true, false⟩ [.string nm, .int .i64 q1, .int .i64 q2, .int .i64 q3, .int .i64 q4, v, .int .i64 rel, .int .i64 (s.at_ : Int), .int .i64 s.left, .pointer (some ⟨y, 0, none⟩)] * RTapeA y xs s.used
theorem RJobA.good {r y : Nat} {nm : ByteArray} {q1 q2 q3 q4 : Int} {v : Value} {rel : Int} {xs : List Int} {s : JS} : Good (RJobA r y nm q1 q2 q3 q4 v rel xs s) := Pt.good.star RTapeA.good

section
variable {H : MH} {F : List Nat} {j t r y : Nat} {v : Value} {rel : Int} {xs : List Int} {s : JS} {ps : List (List Int)} {nm : ByteArray} {q1 q2 q3 q4 : Int}
theorem R_jleft (hf : mp 40 = some (.code m40)) (h : JobA j t v rel xs s H F) : R mp 40 [.pointer (some ⟨j, 0, none⟩)] H = some (.int .i64 s.left, H) := by
  rw [R_code hf]; simp [m40, ld_at (star_at h)]
theorem R_jpart (hf : mp 41 = some (.code m41)) (h : JobA j t v rel xs s H F) : R mp 41 [.pointer (some ⟨j, 0, none⟩)] H = some (.int .i64 s.at_, H) := by
  rw [R_code hf]; simp [m41, ld_at (star_at h)]
theorem R_jrel (hf : mp 45 = some (.code m45)) (h : JobA j t v rel xs s H F) : R mp 45 [.pointer (some ⟨j, 0, none⟩)] H = some (.int .i64 rel, H) := by
  rw [R_code hf]; simp [m45, ld_at (star_at h)]
theorem R_jover (hf : mp 43 = some (.code m43)) (P : Parts ps) (h : JobA j t v rel xs s H F) (hr : Row 3 H v (recs ps)) : R mp 43 [.pointer (some ⟨j, 0, none⟩)] H = some (.bool (decide (ps.length ≤ s.at_)), H) := by
  have hat := star_at h
  obtain ⟨a, n, c, rfl, _⟩ := hr.slice
  have hn := hr.recn P.w (by omega)
  subst hn
  rw [R_code hf]; simp [m43, ld_at hat, mdraw_plain]
theorem R_rover (hf : mp 50 = some (.code m50)) (P : Parts ps) (h : RJobA r y nm q1 q2 q3 q4 v rel xs s H F) (hr : Row 3 H v (recs ps)) : R mp 50 [.pointer (some ⟨r, 0, none⟩)] H = some (.bool (decide (ps.length ≤ s.at_)), H) := by
  have hat := star_at h
  obtain ⟨a, n, c, rfl, _⟩ := hr.slice
  have hn := hr.recn P.w (by omega)
  subst hn
  rw [R_code hf]; simp [m50, ld_at hat, mdraw_plain]
/-- The part at which it is. -/
def partOf (ps : List (List Int)) (k m : Nat) : Int := if ps.length ≤ k then 0 else pAt ps k m
theorem R_jpart_ (hf : mp 72 = some (.code m72)) (h43 : mp 43 = some (.code m43)) (P : Parts ps) (h : JobA j t v rel xs s H F) (hr : Row 3 H v (recs ps)) :
    ∃ X, R mp 72 [.pointer (some ⟨j, 0, none⟩)] H = some (.agg #[.int .i64 (partOf ps s.at_ 0), .int .i64 (partOf ps s.at_ 1), .int .i64 (partOf ps s.at_ 2)], H ++ X) := by
  have e1 : Ext H (H ++ [.cells ⟨0, true, false⟩ [.int .i64 0, .int .i64 0, .int .i64 0]]) := ⟨_, rfl⟩
  have h1 := JobA.good.ext h e1
  have hr1 := e1.row hr
  have ho := R_jover h43 P h1 hr1
  have hat := star_at h1
  by_cases hov : ps.length ≤ s.at_
  · refine ⟨[.cells ⟨0, true, false⟩ [.int .i64 0, .int .i64 0, .int .i64 0]], ?_⟩
    rw [R_code hf]
    simp [hov] at ho
    simp [m72, ho, stx, ldnx, partOf, hov]
  · have hc := P.cells (k := s.at_) (by omega)
    obtain ⟨a, n, c, rfl, _⟩ := hr1.slice
    obtain ⟨hn, b, o, jj, cs, rfl, hB, _, hlen, htk, _⟩ := hr1.rec_ P.w (by omega) hc
    subst hn
    have hld := ldn_at hB (o + s.at_ * 3) 3 hlen (by rw [htk]; exact i64s_one _)
    rw [htk] at hld
    have hlt : s.at_ < ps.length := by omega
    refine ⟨[.cells ⟨0, true, false⟩ [.int .i64 (pAt ps s.at_ 0), .int .i64 (pAt ps s.at_ 1), .int .i64 (pAt ps s.at_ 2)]], ?_⟩
    rw [R_code hf]
    simp [hov] at ho
    simp [i64s] at hld
    simp [m72, ho, hlt, ld_at hat, mdraw_plain, hld, stx, ldnx, partOf, hov]
theorem R_jkind (hf : mp 44 = some (.code m44)) (h72 : mp 72 = some (.code m72)) (h43 : mp 43 = some (.code m43)) (P : Parts ps) (h : JobA j t v rel xs s H F) (hr : Row 3 H v (recs ps)) :
    ∃ X, R mp 44 [.pointer (some ⟨j, 0, none⟩)] H = some (.int .i64 (partOf ps s.at_ 0), H ++ X) := by
  obtain ⟨X, e⟩ := R_jpart_ h72 h43 P h hr
  refine ⟨X, ?_⟩
  rw [R_code hf]; simp [m44, e]
theorem R_jres (hf : mp 48 = some (.code m48)) (h72 : mp 72 = some (.code m72)) (h43 : mp 43 = some (.code m43)) (P : Parts ps) (h : JobA j t v rel xs s H F) (hr : Row 3 H v (recs ps)) :
    ∃ X, R mp 48 [.pointer (some ⟨j, 0, none⟩)] H = some (.int .i64 (partOf ps s.at_ 2), H ++ X) := by
  obtain ⟨X, e⟩ := R_jpart_ h72 h43 P h hr
  refine ⟨X, ?_⟩
  rw [R_code hf]; simp [m48, e]
theorem R_rkind (hf : mp 47 = some (.code m47)) (h50 : mp 50 = some (.code m50)) (P : Parts ps) (h : RJobA r y nm q1 q2 q3 q4 v rel xs s H F) (hr : Row 3 H v (recs ps)) : R mp 47 [.pointer (some ⟨r, 0, none⟩)] H = some (.int .i64 (partOf ps s.at_ 0), H) := by
  have ho := R_rover h50 P h hr
  have hat := star_at h
  by_cases hov : ps.length ≤ s.at_
  · rw [R_code hf]
    simp [hov] at ho
    simp [m47, ho, partOf, hov]
  · have hc := P.cells (k := s.at_) (by omega)
    obtain ⟨a, n, c, rfl, _⟩ := hr.slice
    obtain ⟨hn, b, o, jj, cs, rfl, hB, _, hlen, _, hx⟩ := hr.rec_ P.w (by omega) hc
    subst hn
    have hlt : s.at_ < ps.length := by omega
    have h0 := hx 0 _ rfl
    simp at h0
    rw [R_code hf]
    simp [hov] at ho
    simp [m47, ho, hlt, ld_at hat, mdraw_plain, ld_at hB, h0, partOf, hov]
theorem R_rres (hf : mp 49 = some (.code m49)) (h50 : mp 50 = some (.code m50)) (P : Parts ps) (h : RJobA r y nm q1 q2 q3 q4 v rel xs s H F) (hr : Row 3 H v (recs ps)) : R mp 49 [.pointer (some ⟨r, 0, none⟩)] H = some (.int .i64 (partOf ps s.at_ 2), H) := by
  have ho := R_rover h50 P h hr
  have hat := star_at h
  by_cases hov : ps.length ≤ s.at_
  · rw [R_code hf]
    simp [hov] at ho
    simp [m49, ho, partOf, hov]
  · have hc := P.cells (k := s.at_) (by omega)
    obtain ⟨a, n, c, rfl, _⟩ := hr.slice
    obtain ⟨hn, b, o, jj, cs, rfl, hB, _, hlen, _, hx⟩ := hr.rec_ P.w (by omega) hc
    subst hn
    have hlt : s.at_ < ps.length := by omega
    have h0 := hx 2 _ rfl
    rw [R_code hf]
    simp [hov] at ho
    simp [m49, ho, hlt, ld_at hat, mdraw_plain, ld_at hB, h0, partOf, hov]

/-- A part is begun. -/
theorem R_jbegins (hf : mp 71 = some (.code m71)) (h43 : mp 43 = some (.code m43)) (h19 : mp 19 = some (.code m19)) (h64 : mp 64 = some (.code m64)) (h65 : mp 65 = some (.code m65)) (P : Parts ps) (hb : Bytes xs) (hx : xs.length ≤ 1000000) {k u : Nat} (hu : u < 1000)
    (h : JobA j t v rel xs ⟨k, 0, u⟩ H F) (hr : Stay 3 v (recs ps) H F) : ∃ H', R mp 71 [.pointer (some ⟨j, 0, none⟩)] H = some (.tuple #[], H') ∧ JobA j t v rel xs (jbegin ps xs k u) H' F ∧ Upd H F H' F := by
  have ho := R_jover h43 P h hr.1
  have hat := star_at h
  try simp only [] at hat ho
  unfold jbegin
  by_cases hlt : k < ps.length
  · rw [if_pos hlt]
    have hov : ¬ ps.length ≤ k := by omega
    have hl := P.lens hlt
    have hc := P.cells hlt
    have hrow := hr.1
    obtain ⟨a, n, c, rfl, _⟩ := hrow.slice
    obtain ⟨hn, b, o, jj, cs, rfl, hB, _, hlen, _, hxx⟩ := hrow.rec_ P.w (by omega) hc
    subst hn
    have h1 := hxx 1 _ rfl
    obtain ⟨H1, p1, e1, u1⟩ : ∃ H1, (Pt j ⟨0, true, false⟩ [.slice (some ⟨b, o, none⟩) ps.length c, .int .i64 (k : Int), .int .i64 0, .int .i64 rel, .pointer (some ⟨t, 0, none⟩)] * TapeA t xs (ju u (pAt ps k 1))) H1 F ∧ R mp 19 [.pointer (some ⟨t, 0, none⟩), .int .i64 1, .int .i64 (pAt ps k 1)] H = some (.int .i64 (jv xs u (pAt ps k 1)), H1) ∧ Upd H F H1 F := by
      obtain ⟨A, B, hA, hB', hd, hi⟩ := h
      obtain ⟨H1, e1, t1, u1⟩ := R_tpick (mp := mp) h19 h64 h65 hB' (by simp only; omega) hx hb hl.1
      refine ⟨H1, ⟨A, B, Pt.good.frame hA fun id hid => u1.same id (Pt.good.lt hA id hid) (hd id hid), t1, hd, hi⟩, e1, u1.len, fun id h1 h2 => u1.same id h1 fun h3 => h2 ((hi id).2 (.inr h3)), fun id h => .inl h⟩
    have hat1 := star_at p1
    obtain ⟨H2, s2, p2, u2⟩ := fld_put (n := 2) TapeA.good p1 rfl (by simp) (v := .int .i64 (jv xs u (pAt ps k 1))) rfl
    refine ⟨H2, ?_, p2, u1.trans u2⟩
    simp [hov] at ho
    rw [R_code hf]
    simp [m71, ho, ld_at hat, mdraw_plain, hlt, ld_at hB, h1, e1, s2]
  · rw [if_neg hlt]
    have hov : ps.length ≤ k := by omega
    refine ⟨H, ?_, h, Upd.refl _ _⟩
    simp [hov] at ho
    rw [R_code hf]
    simp [m71, ho]
theorem R_rbegin (hf : mp 73 = some (.code m73)) (h50 : mp 50 = some (.code m50)) (h20 : mp 20 = some (.code m20)) (P : Parts ps) (hb : Bytes xs) (hx : xs.length ≤ 1000000) {k u : Nat} {l0 : Int} (hu : u < 1000)
    (h : RJobA r y nm q1 q2 q3 q4 v rel xs ⟨k, l0, u⟩ H F) (hr : Stay 3 v (recs ps) H F) : ∃ H', R mp 73 [.pointer (some ⟨r, 0, none⟩)] H = some (.tuple #[], H') ∧ RJobA r y nm q1 q2 q3 q4 v rel xs (jbegin ps xs k u) H' F ∧ Upd H F H' F := by
  have hat0 := star_at h
  obtain ⟨H0, s0, p0, u0⟩ := fld_put (n := 8) RTapeA.good h rfl (by simp) (v := .int .i64 0) rfl
  have p0 : RJobA r y nm q1 q2 q3 q4 v rel xs ⟨k, 0, u⟩ H0 F := p0
  have hr0 := hr.upd u0
  have ho := R_rover h50 P p0 hr0.1
  have hat := star_at p0
  try simp only [] at hat ho
  unfold jbegin
  by_cases hlt : k < ps.length
  · rw [if_pos hlt]
    have hov : ¬ ps.length ≤ k := by omega
    have hl := P.lens hlt
    have hc := P.cells hlt
    have hrow := hr0.1
    obtain ⟨a, n, c, rfl, _⟩ := hrow.slice
    obtain ⟨hn, b, o, jj, cs, rfl, hB, _, hlen, _, hxx⟩ := hrow.rec_ P.w (by omega) hc
    subst hn
    have h1 := hxx 1 _ rfl
    obtain ⟨H1, p1, e1, u1⟩ : ∃ H1, (Pt r ⟨0, true, false⟩ [.string nm, .int .i64 q1, .int .i64 q2, .int .i64 q3, .int .i64 q4, .slice (some ⟨b, o, none⟩) ps.length c, .int .i64 rel, .int .i64 (k : Int), .int .i64 0, .pointer (some ⟨y, 0, none⟩)] * RTapeA y xs (ju u (pAt ps k 1))) H1 F ∧ R mp 20 [.pointer (some ⟨y, 0, none⟩), .int .i64 1, .int .i64 (pAt ps k 1)] H0 = some (.int .i64 (jv xs u (pAt ps k 1)), H1) ∧ Upd H0 F H1 F := by
      obtain ⟨A, B, hA, hB', hd, hi⟩ := p0
      obtain ⟨H1, e1, t1, u1⟩ := R_trpick (mp := mp) h20 hB' (by simp only; omega) hx hb hl.1
      refine ⟨H1, ⟨A, B, Pt.good.frame hA fun id hid => u1.same id (Pt.good.lt hA id hid) (hd id hid), t1, hd, hi⟩, e1, u1.len, fun id h1 h2 => u1.same id h1 fun h3 => h2 ((hi id).2 (.inr h3)), fun id h => .inl h⟩
    have hat1 := star_at p1
    obtain ⟨H2, s2, p2, u2⟩ := fld_put (n := 8) RTapeA.good p1 rfl (by simp) (v := .int .i64 (jv xs u (pAt ps k 1))) rfl
    refine ⟨H2, ?_, p2, (u0.trans u1).trans u2⟩
    simp [hov] at ho
    rw [R_code hf]
    simp [m73, s0, ho, ld_at hat, mdraw_plain, hlt, ld_at hB, h1, e1, s2]
  · rw [if_neg hlt]
    have hov : ps.length ≤ k := by omega
    refine ⟨H0, ?_, p0, u0⟩
    simp [hov] at ho
    rw [R_code hf]
    simp [m73, s0, ho]

theorem R_jtick (hf : mp 42 = some (.code m42)) (h71 : mp 71 = some (.code m71)) (h43 : mp 43 = some (.code m43)) (h19 : mp 19 = some (.code m19)) (h64 : mp 64 = some (.code m64)) (h65 : mp 65 = some (.code m65)) (P : Parts ps) (hb : Bytes xs) (hx : xs.length ≤ 1000000) (hs : JOk ps s)
    (h : JobA j t v rel xs s H F) (hr : Stay 3 v (recs ps) H F) : ∃ H', R mp 42 [.pointer (some ⟨j, 0, none⟩)] H = some (.bool (jdone ps s), H') ∧ JobA j t v rel xs (jtick ps xs s) H' F ∧ Upd H F H' F := by
  have ho := R_jover h43 P h hr.1
  have hat := star_at h
  have hn := P.n
  have hle := hs.le
  have hus := hs.used
  unfold jtick jdone
  by_cases hov : ps.length ≤ s.at_
  · rw [if_pos hov]
    refine ⟨H, ?_, h, Upd.refl _ _⟩
    simp [hov] at ho
    rw [R_code hf]
    simp [m42, ho, hov]
  · rw [if_neg hov]
    have hlt : s.at_ < ps.length := by omega
    have hl := hs.left hlt
    have hl2 := P.lens hlt
    simp [hov] at ho
    by_cases h1 : 1 < s.left
    · rw [if_pos h1]
      obtain ⟨H1, s1, p1, u1⟩ := fld_put (n := 2) TapeA.good h rfl (by simp) (v := .int .i64 (s.left - 1)) rfl
      refine ⟨H1, ?_, p1, u1⟩
      have w : IntKind.i64.wrap (s.left - 1) = s.left - 1 := wrap_i64 (by omega) (by omega)
      have h1' : ¬ s.left ≤ 1 := by omega
      rw [R_code hf]
      simp [m42, ho, ld_at hat, h1, h1', w, s1]
    · rw [if_neg h1]
      obtain ⟨H1, s1, p1, u1⟩ := fld_put (n := 1) TapeA.good h rfl (by simp) (v := .int .i64 ((s.at_ + 1 : Nat) : Int)) rfl
      obtain ⟨H2, s2, p2, u2⟩ := fld_put (n := 2) TapeA.good p1 rfl (by simp) (v := .int .i64 0) rfl
      obtain ⟨H3, e3, p3, u3⟩ := R_jbegins (mp := mp) (k := s.at_ + 1) (u := s.used) h71 h43 h19 h64 h65 P hb hx (by omega) p2 ((hr.upd u1).upd u2)
      refine ⟨H3, ?_, p3, (u1.trans u2).trans u3⟩
      have w : IntKind.i64.wrap ((s.at_ : Int) + 1) = (s.at_ : Int) + 1 := wrap_i64 (by omega) (by omega)
      have h1' : s.left ≤ 1 := by omega
      simp at s1
      rw [R_code hf]
      simp [m42, ho, ld_at hat, h1, h1', hov, hlt, w, s1, s2, e3]
theorem R_rtick (hf : mp 52 = some (.code m52)) (h73 : mp 73 = some (.code m73)) (h50 : mp 50 = some (.code m50)) (h20 : mp 20 = some (.code m20)) (P : Parts ps) (hb : Bytes xs) (hx : xs.length ≤ 1000000) (hs : JOk ps s)
    (h : RJobA r y nm q1 q2 q3 q4 v rel xs s H F) (hr : Stay 3 v (recs ps) H F) : ∃ H', R mp 52 [.pointer (some ⟨r, 0, none⟩)] H = some (.bool (jdone ps s), H') ∧ RJobA r y nm q1 q2 q3 q4 v rel xs (jtick ps xs s) H' F ∧ Upd H F H' F := by
  have ho := R_rover h50 P h hr.1
  have hat := star_at h
  have hn := P.n
  have hle := hs.le
  have hus := hs.used
  unfold jtick jdone
  by_cases hov : ps.length ≤ s.at_
  · rw [if_pos hov]
    refine ⟨H, ?_, h, Upd.refl _ _⟩
    simp [hov] at ho
    rw [R_code hf]
    simp [m52, ho, hov]
  · rw [if_neg hov]
    have hlt : s.at_ < ps.length := by omega
    have hl := hs.left hlt
    have hl2 := P.lens hlt
    simp [hov] at ho
    have w1 : IntKind.i64.wrap (s.left - 1) = s.left - 1 := wrap_i64 (by omega) (by omega)
    obtain ⟨H1, s1, p1, u1⟩ := fld_put (n := 8) RTapeA.good h rfl (by simp) (v := .int .i64 (s.left - 1)) rfl
    have hat1 := star_at p1
    simp only [List.set] at hat1
    by_cases h1 : 1 < s.left
    · rw [if_pos h1]
      refine ⟨H1, ?_, p1, u1⟩
      have h1' : ¬ s.left ≤ 1 := by omega
      have h2 : 0 < s.left - 1 := by omega
      rw [R_code hf]
      simp [m52, ho, ld_at hat, h1, h1', w1, s1, ld_at hat1, h2]
    · rw [if_neg h1]
      obtain ⟨H2, s2, p2, u2⟩ := fld_put (n := 7) RTapeA.good p1 rfl (by simp) (v := .int .i64 ((s.at_ + 1 : Nat) : Int)) rfl
      obtain ⟨H3, e3, p3, u3⟩ := R_rbegin (mp := mp) (k := s.at_ + 1) (u := s.used) (l0 := s.left - 1) h73 h50 h20 P hb hx (by omega) p2 ((hr.upd u1).upd u2)
      refine ⟨H3, ?_, p3, (u1.trans u2).trans u3⟩
      have w : IntKind.i64.wrap ((s.at_ : Int) + 1) = (s.at_ : Int) + 1 := wrap_i64 (by omega) (by omega)
      have h1' : s.left ≤ 1 := by omega
      have h2 : ¬ 0 < s.left - 1 := by omega
      simp at s2
      rw [R_code hf]
      simp [m52, ho, ld_at hat, h1, h1', hov, hlt, w, w1, s1, ld_at hat1, h2, s2, e3]
end
end Go.Mod

/- Which tasks fit; JobLengths: the model's side. -/
import Derived.Test.YtfeaopbeiahbnaaJobS
set_option linter.unusedVariables false
set_option linter.unusedSimpArgs false
namespace Go.Mod
open Go.Proofs

theorem ba_refl (s : ByteArray) : (s == s) = true := by
  show (s.data == s.data) = true
  simp
section
variable {mp : FuncId → Option MDef}
theorem fits_loop {H : MH} {t : Nat} {v : Value} {ps : List (List Int)} {nm : ByteArray} {q1 q2 q3 q4 : Int} (hat : H[t]? = some (.cells ⟨0, true, false⟩ [.string nm, .int .i64 q1, .int .i64 q2, .int .i64 q3, .int .i64 q4, v])) (hr : Row 3 H v (recs ps)) (hw : ∀ p ∈ ps, p.length = 3) (hm : ps.length ≤ maxLen) : ∀ (k i : Nat), i + k = ps.length → (∀ j p, j < i → ps[j]? = some p → 1 ≤ p.getD 1 0 ∧ p.getD 1 0 ≤ 200) →
    Rc mp (.loop m38_0) [(1, .pointer (some ⟨t, 0, none⟩)), (3, .int .i64 (i : Int))] H = some (.ret, [(2, .bool false)], H) ∨
    ((∀ p ∈ ps, 1 ≤ p.getD 1 0 ∧ p.getD 1 0 ≤ 200) ∧ Rc mp (.loop m38_0) [(1, .pointer (some ⟨t, 0, none⟩)), (3, .int .i64 (i : Int))] H = some (.exit 0, [(1, .pointer (some ⟨t, 0, none⟩)), (3, .int .i64 (ps.length : Int)), (8, .bool false)], H))
  | 0, i, hk, hg => by
    have hi : i = ps.length := by omega
    subst hi
    obtain ⟨a, n, c, rfl, _⟩ := hr.slice
    have hn := hr.recn hw (by omega)
    subst hn
    refine .inr ⟨fun p hp => ?_, ?_⟩
    · obtain ⟨j, hj⟩ := List.mem_iff_getElem?.1 hp
      exact hg j p (List.getElem?_eq_some_iff.1 hj).1 hj
    · rw [Rc_loop]
      simp [m38_0, ld_at hat]
  | k + 1, i, hk, hg => by
    have hil : i < ps.length := by omega
    obtain ⟨p, hp⟩ : ∃ p, ps[i]? = some p := ⟨_, List.getElem?_eq_getElem hil⟩
    have hpl := hw p (List.mem_of_getElem? hp)
    obtain ⟨a, n, c, rfl, _⟩ := hr.slice
    obtain ⟨hn, b, o, jj, cs, rfl, hB, _, hlen, _, hxx⟩ := hr.rec_ hw (by omega) hp
    subst hn
    have h1 := hxx 1 (p.getD 1 0) (by rw [List.getD_eq_getElem?_getD, List.getElem?_eq_getElem (by omega)]; rfl)
    have hmx : maxLen = 9223372036854775807 := rfl
    have w : IntKind.i64.wrap ((i : Int) + 1) = (i : Int) + 1 := wrap_i64 (by omega) (by omega)
    by_cases hc : 1 ≤ p.getD 1 0 ∧ p.getD 1 0 ≤ 200
    · have ih := fits_loop hat hr hw hm k (i + 1) (by omega) (fun j p' hj hp' => by
        rcases Nat.lt_or_ge j i with h | h
        · exact hg j p' h hp'
        · have : j = i := by omega
          subst this
          rw [hp] at hp'; cases hp'; exact hc)
      generalize p.getD 1 0 = z at *
      have c1 : ¬ z < 1 := by omega
      have c2 : ¬ 200 < z := by omega
      have step : Rc mp (.loop m38_0) [(1, .pointer (some ⟨t, 0, none⟩)), (3, .int .i64 (i : Int))] H = Rc mp (.loop m38_0) [(1, .pointer (some ⟨t, 0, none⟩)), (3, .int .i64 ((i + 1 : Nat) : Int))] H := by
        rw [Rc_loop]
        simp [m38_0, ld_at hat, hil, ld_at hB, h1, c1, c2, w]
      rw [step]; exact ih
    · generalize p.getD 1 0 = z at *
      left
      rw [Rc_loop]
      by_cases c1 : z < 1
      · simp [m38_0, ld_at hat, hil, ld_at hB, h1, c1]
      · have c2 : 200 < z := by omega
        simp [m38_0, ld_at hat, hil, ld_at hB, h1, c1, c2]
theorem R_fits (hf : mp 38 = some (.code m38)) {H : MH} {v : Value} {ps : List (List Int)} {nm : ByteArray} {q1 q2 q3 q4 : Int} (hr : Row 3 H v (recs ps)) (hw : ∀ p ∈ ps, p.length = 3) (hm : ps.length ≤ maxLen) :
    ∃ b X, R mp 38 [taskV nm q1 q2 q3 q4 v] H = some (.bool b, H ++ X) ∧ (b = true → Parts ps ∧ 1 ≤ ps.length) := by
  have e1 : Ext H (H ++ [.cells ⟨0, true, false⟩ [.string nm, .int .i64 q1, .int .i64 q2, .int .i64 q3, .int .i64 q4, v]]) := ⟨_, rfl⟩
  have hat : (H ++ [MObj.cells ⟨0, true, false⟩ [.string nm, .int .i64 q1, .int .i64 q2, .int .i64 q3, .int .i64 q4, v]])[H.length]? = some (.cells ⟨0, true, false⟩ [.string nm, .int .i64 q1, .int .i64 q2, .int .i64 q3, .int .i64 q4, v]) := by simp
  obtain ⟨a, n, c, rfl, _⟩ := hr.slice
  have hn := hr.recn hw (by omega)
  rcases fits_loop (mp := mp) hat (e1.row hr) hw hm ps.length 0 (by omega) (fun j p hj => by omega) with h | ⟨hall, h⟩
  · refine ⟨false, [.cells ⟨0, true, false⟩ [.string nm, .int .i64 q1, .int .i64 q2, .int .i64 q3, .int .i64 q4, .slice a n c]], ?_, by simp⟩
    simp at h
    rw [R_code hf]
    simp [m38, taskV, h]
  · refine ⟨decide (1 ≤ ps.length ∧ ps.length ≤ 10), [.cells ⟨0, true, false⟩ [.string nm, .int .i64 q1, .int .i64 q2, .int .i64 q3, .int .i64 q4, .slice a n c]], ?_, fun hb => ?_⟩
    · simp at h
      subst hn
      rw [R_code hf]
      by_cases h1 : 1 ≤ ps.length
      · have h1' : (1 : Int) ≤ (ps.length : Int) := by omega
        have h10 : (((ps.length : Nat) : Int) ≤ 10) ↔ ps.length ≤ 10 := by omega
        simp [m38, taskV, h, ld_at hat, h1, h1', h10]
      · have h1' : ¬ (1 : Int) ≤ (ps.length : Int) := by omega
        simp [m38, taskV, h, ld_at hat, h1, h1']
    · simp at hb
      exact ⟨⟨hw, hall, hb.2⟩, hb.1⟩
end

section
variable {H : MH} {F : List Nat} {j t tb : Nat} {v v0 : Value} {rel : Int} {xs : List Int} {ps : List (List Int)} {nm : ByteArray} {q1 q2 q3 q4 : Int}
/-- Of a part all ticks. -/
theorem lens_inner (P : Parts ps) (hb : Bytes xs) (hx : xs.length ≤ 1000000) {p : Nat} (hp : p < ps.length) {L : Int} : ∀ (m k : Nat) (s : JS) (H : MH) (ex : Reg), (ex = [] ∨ ex = [(56, .bool false)]) → s.at_ = p → s.left = (m : Int) + 1 → (k : Int) + (m + 1) = L → JOk ps s →
    JobA j t v rel xs s H F → Stay 3 v (recs ps) H F → Stay 3 v0 (recs ps) H F → H[tb]? = some (.cells ⟨0, true, false⟩ [.string nm, .int .i64 q1, .int .i64 q2, .int .i64 q3, .int .i64 q4, v0]) → tb ∉ F → L ≤ pAt ps p 1 →
    ∃ H' s', Rc mpJk (.loop m10_0) ([(2, .pointer (some ⟨tb, 0, none⟩)), (5, .pointer (some ⟨j, 0, none⟩)), (6, .int .i64 (p : Int)), (7, .int .i64 (k : Int)), (8, .int .i64 L)] ++ ex) H =
      some (.exit 2, [(2, .pointer (some ⟨tb, 0, none⟩)), (5, .pointer (some ⟨j, 0, none⟩)), (6, .int .i64 (p : Int)), (7, .int .i64 L), (8, .int .i64 L), (36, .bool false)], H') ∧
      s'.at_ = p + 1 ∧ JOk ps s' ∧ JobA j t v rel xs s' H' F ∧ Upd H F H' F := by
  intro m
  induction m with
  | zero =>
    intro k s H ex hex hsp hsl hk hs h hr hr0 htb hnf hL
    obtain ⟨H1, e1, p1, u1⟩ := R_jtick (mp := mpJk) rfl rfl rfl rfl rfl rfl P hb hx hs h hr
    have hs1 := jtick_ok P hb hs
    have e0 := R_jpart (mp := mpJk) rfl h
    have e2 := R_jpart (mp := mpJk) rfl p1
    have htick : jtick ps xs s = jbegin ps xs (s.at_ + 1) s.used := by
      unfold jtick; rw [if_neg (by omega), if_neg (by omega)]
    have hat1 : (jtick ps xs s).at_ = p + 1 := by rw [htick]; unfold jbegin; split <;> simp [hsp]
    have hd : jdone ps s = true := by unfold jdone; simp; omega
    rw [hat1] at e2
    rw [hsp] at e0
    rw [hd] at e1
    refine ⟨H1, jtick ps xs s, ?_, hat1, hs1, p1, u1⟩
    have htb1 := u1.get htb hnf
    have hr1 := (hr0.upd u1).1
    obtain ⟨a, n, c, rfl, _⟩ := hr1.slice
    obtain ⟨hn, b, o, jj, cs, rfl, hB, _, hlen, _, hxx⟩ := hr1.rec_ P.w (by omega) (P.cells hp)
    subst hn
    have h1 := hxx 1 _ rfl
    have hl := P.lens hp
    have w : IntKind.i64.wrap ((k : Int) + 1) = L := by rw [wrap_i64 (by omega) (by omega)]; omega
    have c1 : ¬ pAt ps p 1 < L := by omega
    have hp' : ¬ ((p : Int) + 1 = (p : Int)) := by omega
    rw [Rc_loop]
    have done : Rc mpJk (.loop m10_0) [(2, .pointer (some ⟨tb, 0, none⟩)), (5, .pointer (some ⟨j, 0, none⟩)), (6, .int .i64 (p : Int)), (7, .int .i64 L), (8, .int .i64 L), (56, .bool false)] H1 = some (.exit 2, [(2, .pointer (some ⟨tb, 0, none⟩)), (5, .pointer (some ⟨j, 0, none⟩)), (6, .int .i64 (p : Int)), (7, .int .i64 L), (8, .int .i64 L), (36, .bool false)], H1) := by
      rw [Rc_loop]
      simp [m10_0, e2, hp']
    have hq : ((p : Int) + 1 != (p : Int)) = true := by simp; omega
    simp at e2
    rcases hex with rfl | rfl
    · simp [m10_0, e0, w, e1, ld_at htb1, hp, ld_at hB, h1, c1, e2, hp', hq]
      exact done
    · simp [m10_0, e0, w, e1, ld_at htb1, hp, ld_at hB, h1, c1, e2, hp', hq]
      exact done
  | succ m ih =>
    intro k s H ex hex hsp hsl hk hs h hr hr0 htb hnf hL
    obtain ⟨H1, e1, p1, u1⟩ := R_jtick (mp := mpJk) rfl rfl rfl rfl rfl rfl P hb hx hs h hr
    have hs1 := jtick_ok P hb hs
    have e0 := R_jpart (mp := mpJk) rfl h
    have e2 := R_jpart (mp := mpJk) rfl p1
    have htick : jtick ps xs s = ⟨s.at_, s.left - 1, s.used⟩ := by
      unfold jtick; rw [if_neg (by omega), if_pos (by omega)]
    have hat1 : (jtick ps xs s).at_ = p := by rw [htick]; exact hsp
    have hd : jdone ps s = false := by unfold jdone; simp; omega
    have htb1 := u1.get htb hnf
    obtain ⟨H2, s2, f1, f2, f3, f4, f5⟩ := ih (k + 1) (jtick ps xs s) H1 [(56, .bool false)] (.inr rfl) hat1 (by rw [htick]; simp only; omega) (by omega) hs1 p1 (hr.upd u1) (hr0.upd u1) htb1 hnf hL
    rw [hat1] at e2
    rw [hsp] at e0
    rw [hd] at e1
    refine ⟨H2, s2, ?_, f2, f3, f4, u1.trans f5⟩
    have hr1 := (hr0.upd u1).1
    obtain ⟨a, n, c, rfl, _⟩ := hr1.slice
    obtain ⟨hn, b, o, jj, cs, rfl, hB, _, hlen, _, hxx⟩ := hr1.rec_ P.w (by omega) (P.cells hp)
    subst hn
    have h1 := hxx 1 _ rfl
    have hl := P.lens hp
    have w : IntKind.i64.wrap ((k : Int) + 1) = (k : Int) + 1 := wrap_i64 (by omega) (by omega)
    have c1 : ¬ pAt ps p 1 < (k : Int) + 1 := by omega
    simp at f1
    rw [Rc_loop]
    rcases hex with rfl | rfl
    · simp [m10_0, e0, w, e1, ld_at htb1, hp, ld_at hB, h1, c1, e2]
      exact f1
    · simp [m10_0, e0, w, e1, ld_at htb1, hp, ld_at hB, h1, c1, e2]
      exact f1

theorem lens_outer (P : Parts ps) (hb : Bytes xs) (hx : xs.length ≤ 1000000) : ∀ (m p : Nat) (s : JS) (H : MH), p + m = ps.length → s.at_ = p → JOk ps s → JobA j t v rel xs s H F → Stay 3 v (recs ps) H F → Stay 3 v0 (recs ps) H F → H[tb]? = some (.cells ⟨0, true, false⟩ [.string nm, .int .i64 q1, .int .i64 q2, .int .i64 q3, .int .i64 q4, v0]) → tb ∉ F →
    ∃ H' s', Rc mpJk (.loop m10_1) [(2, .pointer (some ⟨tb, 0, none⟩)), (5, .pointer (some ⟨j, 0, none⟩)), (6, .int .i64 (p : Int))] H =
      some (.exit 0, [(2, .pointer (some ⟨tb, 0, none⟩)), (5, .pointer (some ⟨j, 0, none⟩)), (6, .int .i64 (ps.length : Int)), (28, .bool false)], H') ∧ s'.at_ = ps.length ∧ JOk ps s' ∧ JobA j t v rel xs s' H' F ∧ Stay 3 v (recs ps) H' F := by
  intro m
  induction m with
  | zero =>
    intro p s H hm hsp hs h hr hr0 htb hnf
    have : p = ps.length := by omega
    subst this
    refine ⟨H, s, ?_, hsp, hs, h, hr⟩
    have hr1 := hr0.1
    obtain ⟨a, n, c, rfl, _⟩ := hr1.slice
    have hn := hr1.recn P.w (by omega)
    subst hn
    rw [Rc_loop]
    simp [m10_1, ld_at htb]
  | succ m ih =>
    intro p s H hm hsp hs h hr hr0 htb hnf
    have hp : p < ps.length := by omega
    have hl := hs.left (by omega)
    rw [hsp] at hl
    obtain ⟨l, hl'⟩ : ∃ l : Nat, s.left = (l : Int) + 1 := ⟨(s.left - 1).toNat, by omega⟩
    obtain ⟨H1, s1, f1, f2, f3, f4, f5⟩ := lens_inner (j := j) (t := t) (tb := tb) (v := v) (v0 := v0) (rel := rel) (nm := nm) (q1 := q1) (q2 := q2) (q3 := q3) (q4 := q4) P hb hx hp (L := s.left) l 0 s H [] (.inl rfl) hsp hl' (by omega) hs h hr hr0 htb hnf hl.2
    obtain ⟨H2, s2, g1, g2, g3, g4, g5⟩ := ih (p + 1) s1 H1 (by omega) f2 f3 f4 (hr.upd f5) (hr0.upd f5) (f5.get htb hnf) hnf
    have e0 := R_jleft (mp := mpJk) rfl h
    have e2 := R_jpart (mp := mpJk) rfl f4
    rw [f2] at e2
    refine ⟨H2, s2, ?_, g2, g3, g4, g5⟩
    have hr1 := hr0.1
    obtain ⟨a, n, c, rfl, _⟩ := hr1.slice
    have hn := hr1.recn P.w (by omega)
    subst hn
    have hn10 := P.n
    have w : IntKind.i64.wrap ((p : Int) + 1) = (p : Int) + 1 := wrap_i64 (by omega) (by omega)
    have c1 : ¬ s.left < 1 := by omega
    simp at f1 g1 e2
    rw [Rc_loop]
    simp [m10_1, ld_at htb, hp, e0, f1, c1, e2, w]
    exact g1

theorem jobLengths {H : MH} {v vb : Value} {ps : List (List Int)} {xs : List Int} (hr : Row 3 H v (recs ps)) (hw : ∀ p ∈ ps, p.length = 3) (hm : ps.length ≤ maxLen) (hro : ∀ (id : Nat) o, H[id]? = some o → o.mut = false) (hrb : Row 1 H vb (u8s xs)) (hb : Bytes xs) :
    ∃ H', R mpJk 10 [taskV nm q1 q2 q3 q4 v, vb] H = some (.bool true, H') := by
  refine isTrue_ex ?_
  have e1 : Ext H (H ++ [.cells ⟨0, true, false⟩ [.string nm, .int .i64 q1, .int .i64 q2, .int .i64 q3, .int .i64 q4, v]]) := ⟨_, rfl⟩
  have hat : (H ++ [MObj.cells ⟨0, true, false⟩ [.string nm, .int .i64 q1, .int .i64 q2, .int .i64 q3, .int .i64 q4, v]])[H.length]? = some (.cells ⟨0, true, false⟩ [.string nm, .int .i64 q1, .int .i64 q2, .int .i64 q3, .int .i64 q4, v]) := by simp
  obtain ⟨bf, X, ef, hf⟩ := R_fits (mp := mpJk) rfl (nm := nm) (q1 := q1) (q2 := q2) (q3 := q3) (q4 := q4) (e1.row hr) hw hm
  obtain ⟨av, nv, cv, hv, _⟩ := hr.slice
  obtain ⟨ab, nb, cb, hvb, hlb⟩ := hrb.slice
  have hnb : nb = xs.length := by rw [u8s_len] at hlb; omega
  have hld := ldn_at hat 0 6 (by simp) (by rw [hv]; rfl)
  simp only [List.drop_zero, List.take_of_length_le (show ([Value.string nm, .int .i64 q1, .int .i64 q2, .int .i64 q3, .int .i64 q4, v] : List Value).length ≤ 6 by simp)] at hld
  have hld' : mread (.ld (some 6)) [.pointer (some ⟨H.length, 0, none⟩)] (H ++ [.cells ⟨0, true, false⟩ [.string nm, .int .i64 q1, .int .i64 q2, .int .i64 q3, .int .i64 q4, v]]) = some (taskV nm q1 q2 q3 q4 v) := hld
  have hbox : malloc .box [taskV nm q1 q2 q3 q4 v] H.length = some (.cells ⟨0, true, false⟩ [.string nm, .int .i64 q1, .int .i64 q2, .int .i64 q3, .int .i64 q4, v], .pointer (some ⟨H.length, 0, none⟩)) := by simp [taskV]
  cases bf with
  | false =>
    rw [R_code (fn := m10) rfl]
    simp only [box_one] at hbox
    simp [m10, knownJ_R, taskV] at ef hld' ⊢
    simp [ef, hld']
  | true =>
    obtain ⟨P, hn1⟩ := hf rfl
    by_cases hbig : 60 < xs.length
    · have hbi : (60 : Int) < (nb : Int) := by omega
      subst hvb
      rw [R_code (fn := m10) rfl]
      simp [m10, knownJ_R, taskV] at ef hld' ⊢
      simp [ef, hld', hbi]
    · have hbi : ¬ (60 : Int) < (nb : Int) := by omega
      have e2 : Ext H (H ++ [.cells ⟨0, true, false⟩ [.string nm, .int .i64 q1, .int .i64 q2, .int .i64 q3, .int .i64 q4, v]] ++ X) := e1.trans ⟨_, rfl⟩
      have hat2 := Ext.get (H' := H ++ [.cells ⟨0, true, false⟩ [.string nm, .int .i64 q1, .int .i64 q2, .int .i64 q3, .int .i64 q4, v]] ++ X) ⟨_, rfl⟩ hat
      generalize hG : H ++ [.cells ⟨0, true, false⟩ [.string nm, .int .i64 q1, .int .i64 q2, .int .i64 q3, .int .i64 q4, v]] ++ X = H2 at ef e2 hat2
      obtain ⟨t, H3, F3, e3, t3, x3, n3⟩ := R_tnew (mp := mpJk) rfl rfl (e2.row hrb) (by omega)
      obtain ⟨j, v', H4, F4, e4, j4, s4, u4⟩ := R_jnew (mp := mpJk) (nm := nm) (q1 := q1) (q2 := q2) (q3 := q3) (q4 := q4) (rel := 0) rfl rfl rfl rfl rfl rfl rfl P hb (by omega) t3 (x3.row (e2.row hr))
      have hH2 : H.length < H2.length := (List.getElem?_eq_some_iff.1 hat2).1
      have hnF3 : H.length ∉ F3 := fun h => by have := n3 _ h; omega
      have hat4 := u4.get (x3.get hat2) hnF3
      have hnF4 : H.length ∉ F4 := fun h => by
        have := x3.len
        rcases u4.new _ h with h | h
        · exact hnF3 h
        · omega
      have st0 : Stay 3 v (recs ps) H3 F3 := ⟨x3.row (e2.row hr), fun b o n c e h => by
        have := n3 b h
        have h2 := e2.len
        rcases hr with ⟨h1, _⟩ | ⟨b', o', n', c', i, cs, h1, _, h3, _⟩
        · rw [h1] at e; cases e
        · rw [h1] at e; cases e
          have := (List.getElem?_eq_some_iff.1 h3).1; omega⟩
      have hst4 := st0.upd u4
      have hs0 := jbegin_ok P hb (xs := xs) (k := 0) (u := 0) (Nat.zero_le _) (Nat.le_refl _)
      have hat0 : (jbegin ps xs 0 0).at_ = 0 := by unfold jbegin; split <;> rfl
      obtain ⟨H5, s5, f1, f2, f3, f4, f5⟩ := lens_outer (tb := H.length) (v0 := v) (nm := nm) (q1 := q1) (q2 := q2) (q3 := q3) (q4 := q4) P hb (by omega) ps.length 0 _ H4 (by omega) hat0 hs0 j4 s4 hst4 hat4 hnF4
      have o5 := R_jover (mp := mpJk) rfl P f4 f5.1
      obtain ⟨H6, e6, _, _⟩ := R_jtick (mp := mpJk) rfl rfl rfl rfl rfl rfl P hb (by omega) f3 f4 f5
      have hd5 : jdone ps s5 = false := by unfold jdone; simp; omega
      rw [hd5] at e6
      have hov : ps.length ≤ s5.at_ := by omega
      simp [hov] at o5
      have hld2 := ldn_at hat2 0 6 (by simp) (by rw [hv]; rfl)
      have hld3 := ldn_at (x3.get hat2) 0 6 (by simp) (by rw [hv]; rfl)
      simp at hld2 hld3
      simp at f1
      subst hvb
      rw [R_code (fn := m10) rfl]
      simp [m10, knownJ_R, taskV] at ef hld' e4 ⊢
      subst hv
      simp [ef, hld', hbi, mdraw_full, hld2, hld3, e3, e4, f1, o5, e6, ba_refl]
end
end Go.Mod

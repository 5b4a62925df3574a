/- JobPlays: the model's side. -/
import Derived.Test.YtfeaopbeiahbnaaJobU
set_option linter.unusedVariables false
set_option linter.unusedSimpArgs false
namespace Go.Mod
open Go.Proofs

/-- Both jobs, alike, each with a tape of its own. -/
def BJobA (j t r y : Nat) (nm : ByteArray) (q1 q2 q3 q4 : Int) (v v0 : Value) (rel : Int) (xs : List Int) (s : JS) : HP := JobA j t v rel xs s * RJobA r y nm q1 q2 q3 q4 v0 rel xs s
theorem BJobA.good {j t r y : Nat} {nm : ByteArray} {q1 q2 q3 q4 : Int} {v v0 : Value} {rel : Int} {xs : List Int} {s : JS} : Good (BJobA j t r y nm q1 q2 q3 q4 v v0 rel xs s) := JobA.good.star RJobA.good

section
variable {H : MH} {F : List Nat} {j t r y : Nat} {v v0 : Value} {rel : Int} {xs : List Int} {s : JS} {ps : List (List Int)} {nm : ByteArray} {q1 q2 q3 q4 : Int}
theorem Stay.less {es : Nat} {v : Value} {l : List Value} {G : List Nat} (h : Stay es v l H F) (hs : ∀ x ∈ G, x ∈ F) : Stay es v l H G := ⟨h.1, fun b o n c e hb => h.2 b o n c e (hs b hb)⟩
theorem jplays_step (P : Parts ps) (hb : Bytes xs) (hx : xs.length ≤ 1000000) (hs : JOk ps s) (h : BJobA j t r y nm q1 q2 q3 q4 v v0 rel xs s H F) (hr : Stay 3 v (recs ps) H F) (hr0 : Stay 3 v0 (recs ps) H F) {i n : Nat} (hi : i ≤ n) (hn : n < 256) :
    ∃ H' F' s', Rc mpJk (.loop m12_0) [(1, .int .i64 rel), (3, .int .u8 (n : Int)), (9, .pointer (some ⟨t, 0, none⟩)), (10, .pointer (some ⟨y, 0, none⟩)), (11, .pointer (some ⟨j, 0, none⟩)), (12, .pointer (some ⟨r, 0, none⟩)), (13, .int .i64 (i : Int))] H =
      Rc mpJk (.loop m12_0) [(1, .int .i64 rel), (3, .int .u8 (n : Int)), (9, .pointer (some ⟨t, 0, none⟩)), (10, .pointer (some ⟨y, 0, none⟩)), (11, .pointer (some ⟨j, 0, none⟩)), (12, .pointer (some ⟨r, 0, none⟩)), (13, .int .i64 ((i + 1 : Nat) : Int))] H' ∧
      JOk ps s' ∧ BJobA j t r y nm q1 q2 q3 q4 v v0 rel xs s' H' F' ∧ Stay 3 v (recs ps) H' F' ∧ Stay 3 v0 (recs ps) H' F' := by
  have wi : IntKind.i64.wrap ((i : Int) + 1) = (i : Int) + 1 := wrap_i64 (by omega) (by omega)
  have wn : IntKind.i64.wrap (n : Int) = (n : Int) := wrap_i64 (by omega) (by omega)
  -- what is asked first
  obtain ⟨A, hA, hAF⟩ := star_l h
  obtain ⟨B, hB, hBF⟩ := star_r h
  have aR := R_jrel (mp := mpJk) rfl hA
  have aP := R_jpart (mp := mpJk) rfl hA
  have oR := star_at hB
  obtain ⟨X1, aK⟩ := R_jkind (mp := mpJk) rfl rfl rfl P hA hr.1
  have x1 : Ext H (H ++ X1) := ⟨_, rfl⟩
  generalize H ++ X1 = H1 at aK x1
  have hA1 := JobA.good.ext hA x1
  have hB1 := RJobA.good.ext hB x1
  have aK' := R_rkind (mp := mpJk) rfl rfl P hB1 (x1.row hr0.1)
  have aL := R_jleft (mp := mpJk) rfl hA1
  have oR1 := star_at hB1
  obtain ⟨X2, aS⟩ := R_jres (mp := mpJk) rfl rfl rfl P hA1 (x1.row hr.1)
  have x2 : Ext H1 (H1 ++ X2) := ⟨_, rfl⟩
  generalize H1 ++ X2 = H2 at aS x2
  have x02 := x1.trans x2
  have hA2 := JobA.good.ext hA1 x2
  have hB2 := RJobA.good.ext hB1 x2
  have aS' := R_rres (mp := mpJk) rfl rfl P hB2 (x02.row hr0.1)
  have aO := R_jover (mp := mpJk) rfl P hA2 (x02.row hr.1)
  have aO' := R_rover (mp := mpJk) rfl P hB2 (x02.row hr0.1)
  obtain ⟨TA, hTA, hTAF⟩ := star_r hA2
  obtain ⟨TB, hTB, _⟩ := star_r hB2
  have aU := R_tused (mp := mpJk) rfl hTA
  obtain ⟨vt, hTB'⟩ := hTB
  have oY := star_at hTB'
  -- the copy
  obtain ⟨t3, H3, F3, e3, p3, x3, n3⟩ := R_tcopy (mp := mpJk) rfl rfl hTA hx
  have hA3 := JobA.good.ext hA2 x3
  obtain ⟨av, nv, cv, hv⟩ : ∃ a n c, v = .slice a n c := by
    obtain ⟨a, n, c, e, _⟩ := hr.1.slice; exact ⟨a, n, c, e⟩
  obtain ⟨H4, F4, e4, p4, x4, n4⟩ := R_jcopy (mp := mpJk) rfl hA3 p3 ⟨av, nv, cv, hv⟩
  have x24 := x3.trans x4
  have x04 := x02.trans x24
  have n4' : ∀ id ∈ F4, H2.length ≤ id := fun id hid => by
    rcases n4 id hid with h | h
    · exact n3 id h
    · have := x3.len; omega
  have hlen := x02.len
  have st4 : Stay 3 v (recs ps) H4 F4 := ⟨x04.row hr.1, fun b o n c e hb' => by
    have := n4' b hb'
    have h1 := x02.row hr.1
    rcases h1 with ⟨h1, _⟩ | ⟨b', o', n', c', i', cs', h1, _, h3, _⟩
    · rw [h1] at e; cases e
    · rw [h1] at e; cases e
      have := (List.getElem?_eq_some_iff.1 h3).1; omega⟩
  obtain ⟨H5, e5, p5, u5⟩ := R_jtick (mp := mpJk) rfl rfl rfl rfl rfl rfl P hb hx hs p4 st4
  -- both go on
  have u05 : Upd H F H5 F := by
    refine ⟨Nat.le_trans x04.len u5.len, fun id h1 h2 => ?_, fun _ h => .inl h⟩
    rw [u5.same id (by have := x04.len; omega) fun h3 => by have := n4' id h3; omega]
    obtain ⟨X, rfl⟩ := x04
    exact List.getElem?_append_left h1
  have h5 : BJobA j t r y nm q1 q2 q3 q4 v v0 rel xs s H5 F := by
    refine BJobA.good.frame h fun id hid => ?_
    have hl := BJobA.good.lt h id hid
    rw [u5.same id (by have := x04.len; omega) fun h3 => by have := n4' id h3; omega]
    obtain ⟨X, rfl⟩ := x04
    exact List.getElem?_append_left hl
  have hr5 := hr.upd u05
  have hr05 := hr0.upd u05
  obtain ⟨_, H6, F6, p6, u6, e6⟩ := star_upd (ι := Unit) (P' := fun _ => JobA j t v rel xs (jtick ps xs s)) (C := fun _ H' => R mpJk 42 [.pointer (some ⟨j, 0, none⟩)] H5 = some (.bool (jdone ps s), H')) RJobA.good (fun _ => JobA.good) h5 (fun A hA hAF => by
    obtain ⟨H6, e6, p6, u6⟩ := R_jtick (mp := mpJk) rfl rfl rfl rfl rfl rfl P hb hx hs hA (hr5.less hAF)
    exact ⟨(), H6, A, p6, u6, e6⟩)
  have hr6 := hr5.upd u6
  have hr06 := hr05.upd u6
  obtain ⟨_, H7, F7, p7, u7, e7⟩ := star_upd (ι := Unit) (P' := fun _ => RJobA r y nm q1 q2 q3 q4 v0 rel xs (jtick ps xs s)) (C := fun _ H' => R mpJk 52 [.pointer (some ⟨r, 0, none⟩)] H6 = some (.bool (jdone ps s), H')) JobA.good (fun _ => RJobA.good) (star_comm p6) (fun A hA hAF => by
    obtain ⟨H7, e7, p7, u7⟩ := R_rtick (mp := mpJk) rfl rfl rfl rfl P hb hx hs hA (hr06.less hAF)
    exact ⟨(), H7, A, p7, u7, e7⟩)
  refine ⟨H7, F7, jtick ps xs s, ?_, jtick_ok P hb hs, star_comm p7, hr6.upd u7, hr06.upd u7⟩
  have hin : (i : Int) ≤ (n : Int) := by omega
  have oR2 := star_at hB2
  generalize partOf ps s.at_ 0 = k0 at aK aK'
  generalize partOf ps s.at_ 2 = k2 at aS aS'
  generalize decide (ps.length ≤ s.at_) = ov at aO aO'
  generalize jdone ps s = dn at e6 e7 e5
  rw [Rc_loop]
  simp [m12_0, wn, hin, mdraw_full, aR, aP, ld_at oR, aK, aK', aL, ld_at oR1, aS, aS', aO, aO', aU, ld_at oY, e3, e4, e5, e6, e7, wi]

theorem jplays_loop (P : Parts ps) (hb : Bytes xs) (hx : xs.length ≤ 1000000) {n : Nat} (hn : n < 256) : ∀ (k i : Nat) (H : MH) (F : List Nat) (s : JS), i + k = n + 1 → JOk ps s → BJobA j t r y nm q1 q2 q3 q4 v v0 rel xs s H F → Stay 3 v (recs ps) H F → Stay 3 v0 (recs ps) H F →
    ∃ H', Rc mpJk (.loop m12_0) [(1, .int .i64 rel), (3, .int .u8 (n : Int)), (9, .pointer (some ⟨t, 0, none⟩)), (10, .pointer (some ⟨y, 0, none⟩)), (11, .pointer (some ⟨j, 0, none⟩)), (12, .pointer (some ⟨r, 0, none⟩)), (13, .int .i64 (i : Int))] H =
      some (.exit 0, [(1, .int .i64 rel), (3, .int .u8 (n : Int)), (9, .pointer (some ⟨t, 0, none⟩)), (10, .pointer (some ⟨y, 0, none⟩)), (11, .pointer (some ⟨j, 0, none⟩)), (12, .pointer (some ⟨r, 0, none⟩)), (13, .int .i64 ((n + 1 : Nat) : Int)), (41, .bool false)], H')
  | 0, i, H, F, s, hk, hs, h, hr, hr0 => by
    have : i = n + 1 := by omega
    subst this
    have wn : IntKind.i64.wrap (n : Int) = (n : Int) := wrap_i64 (by omega) (by omega)
    have hin : ¬ ((n : Int) + 1 ≤ (n : Int)) := by omega
    refine ⟨H, ?_⟩
    rw [Rc_loop]
    simp [m12_0, wn, hin]
  | k + 1, i, H, F, s, hk, hs, h, hr, hr0 => by
    obtain ⟨H1, F1, s1, e1, hs1, h1, hr1, hr01⟩ := jplays_step P hb hx hs h hr hr0 (i := i) (n := n) (by omega) hn
    obtain ⟨H2, e2⟩ := jplays_loop P hb hx hn k (i + 1) H1 F1 s1 (by omega) hs1 h1 hr1 hr01
    exact ⟨H2, by rw [e1]; exact e2⟩
end

theorem row_es {es : Nat} {H : MH} {v : Value} {l : List Value} {b o n c : Nat} (h : Row es H v l) (e : v = .slice (some ⟨b, o, none⟩) n c) : ∃ i cs, H[b]? = some (.cells i cs) ∧ i.es = es := by
  rcases h with ⟨h1, _⟩ | ⟨b', o', n', c', i, cs, h1, _, h3, h4, _⟩
  · rw [h1] at e; cases e
  · rw [h1] at e; cases e; exact ⟨i, cs, h3, h4⟩

theorem jobPlays {H : MH} {v vb : Value} {ps : List (List Int)} {xs : List Int} {nm : ByteArray} {q1 q2 q3 q4 rel : Int} {n : Int} (hr : Row 3 H v (recs ps)) (hw : ∀ p ∈ ps, p.length = 3) (hm : ps.length ≤ maxLen) (hrb : Row 1 H vb (u8s xs)) (hb : Bytes xs) (hn : 0 ≤ n ∧ n < 256) :
    ∃ H', R mpJk 12 [taskV nm q1 q2 q3 q4 v, .int .i64 rel, vb, .int .u8 n] H = some (.bool true, H') := by
  refine isTrue_ex ?_
  obtain ⟨m, hm'⟩ : ∃ m : Nat, (m : Int) = n := ⟨n.toNat, by omega⟩
  subst hm'
  have e1 : Ext H (H ++ [.cells ⟨0, true, false⟩ [.string nm, .int .i64 q1, .int .i64 q2, .int .i64 q3, .int .i64 q4, v]]) := ⟨_, rfl⟩
  have hat : (H ++ [MObj.cells ⟨0, true, false⟩ [.string nm, .int .i64 q1, .int .i64 q2, .int .i64 q3, .int .i64 q4, v]])[H.length]? = some (.cells ⟨0, true, false⟩ [.string nm, .int .i64 q1, .int .i64 q2, .int .i64 q3, .int .i64 q4, v]) := by simp
  obtain ⟨bf, X, ef, hf⟩ := R_fits (mp := mpJk) rfl (nm := nm) (q1 := q1) (q2 := q2) (q3 := q3) (q4 := q4) (e1.row hr) hw hm
  obtain ⟨av, nv, cv, hv, _⟩ := hr.slice
  obtain ⟨ab, nb, cb, hvb, hlb⟩ := hrb.slice
  have hnb : nb = xs.length := by rw [u8s_len] at hlb; omega
  have hld := ldn_at hat 0 6 (by simp) (by rw [hv]; rfl)
  simp only [List.drop_zero, List.take_of_length_le (show ([Value.string nm, .int .i64 q1, .int .i64 q2, .int .i64 q3, .int .i64 q4, v] : List Value).length ≤ 6 by simp)] at hld
  have hld' : mread (.ld (some 6)) [.pointer (some ⟨H.length, 0, none⟩)] (H ++ [.cells ⟨0, true, false⟩ [.string nm, .int .i64 q1, .int .i64 q2, .int .i64 q3, .int .i64 q4, v]]) = some (taskV nm q1 q2 q3 q4 v) := hld
  cases bf with
  | false =>
    rw [R_code (fn := m12) rfl]
    simp [m12, knownJ_R, taskV] at ef hld' ⊢
    simp [ef, hld']
  | true =>
    obtain ⟨P, hn1⟩ := hf rfl
    by_cases hbig : 60 < xs.length
    · have hbi : (60 : Int) < (nb : Int) := by omega
      subst hvb
      rw [R_code (fn := m12) rfl]
      simp [m12, knownJ_R, taskV] at ef hld' ⊢
      simp [ef, hld', hbi]
    · have hbi : ¬ (60 : Int) < (nb : Int) := by omega
      have e2 : Ext H (H ++ [.cells ⟨0, true, false⟩ [.string nm, .int .i64 q1, .int .i64 q2, .int .i64 q3, .int .i64 q4, v]] ++ X) := e1.trans ⟨_, rfl⟩
      have hat2 := Ext.get (H' := H ++ [.cells ⟨0, true, false⟩ [.string nm, .int .i64 q1, .int .i64 q2, .int .i64 q3, .int .i64 q4, v]] ++ X) ⟨_, rfl⟩ hat
      generalize hG : H ++ [.cells ⟨0, true, false⟩ [.string nm, .int .i64 q1, .int .i64 q2, .int .i64 q3, .int .i64 q4, v]] ++ X = H2 at ef e2 hat2
      obtain ⟨t, H3, F3, e3, t3, x3, n3⟩ := R_tnew (mp := mpJk) rfl rfl (e2.row hrb) (by omega)
      have x4 : Ext H3 (H3 ++ [.cells ⟨0, true, false⟩ [vb, .int .i64 0]]) := ⟨_, rfl⟩
      have hy4 : (H3 ++ [MObj.cells ⟨0, true, false⟩ [vb, .int .i64 0]])[H3.length]? = some (.cells ⟨0, true, false⟩ [vb, .int .i64 0]) := by simp
      have hl4 : (H3 ++ [MObj.cells ⟨0, true, false⟩ [vb, .int .i64 0]]).length = H3.length + 1 := by simp
      generalize hG4 : H3 ++ [MObj.cells ⟨0, true, false⟩ [vb, .int .i64 0]] = H4 at x4 hy4 hl4
      have x04 := (e2.trans x3).trans x4
      have hlt2 : H.length < H2.length := (List.getElem?_eq_some_iff.1 hat2).1
      have hx3 := x3.len
      obtain ⟨j, v', H5, F5, e5, j5, s5, u5⟩ := R_jnew (mp := mpJk) (nm := nm) (q1 := q1) (q2 := q2) (q3 := q3) (q4 := q4) (rel := rel) rfl rfl rfl rfl rfl rfl rfl P hb (by omega) (TapeA.good.ext t3 x4) (x04.row hr)
      -- the reference's tape
      have hyF5 : H3.length ∉ F5 := fun h => by
        rcases u5.new _ h with h | h
        · have := TapeA.good.lt t3 _ h; omega
        · omega
      have hyF3 : H3.length ∉ F3 := fun h => by have := TapeA.good.lt t3 _ h; omega
      have hy5 := u5.get hy4 hyF3
      obtain ⟨G, rG, nG⟩ : ∃ G, RowA 1 vb (u8s xs) H5 G ∧ ∀ id ∈ G, id < H.length ∧ ∃ i cs, H5[id]? = some (.cells i cs) ∧ i.es = 1 := by
        have hkeep : ∀ b o, H[b]? = some o → H5[b]? = some o := fun b o h => u5.get (x04.get h) fun h3 => by
          have := n3 b h3
          have := (List.getElem?_eq_some_iff.1 h).1
          omega
        rcases hrb with ⟨h1, h2⟩ | ⟨b, o, nn, c, i, cs, h1, h2, h3, h4, h5, h6⟩
        · exact ⟨[], ⟨.inl ⟨h1, h2⟩, by rw [h1]; simp, by simp⟩, by simp⟩
        · refine ⟨[b], ⟨.inr ⟨b, o, nn, c, i, cs, h1, h2, hkeep b _ h3, h4, h5, h6⟩, fun b' o' n' c' e => by rw [h1] at e; cases e; simp, fun id hid => ?_⟩, fun id hid => ?_⟩
          · simp at hid; subst hid
            exact ⟨(List.getElem?_eq_some_iff.1 (hkeep _ _ h3)).1, by rw [hkeep _ _ h3]; rfl⟩
          · simp at hid; subst hid
            exact ⟨(List.getElem?_eq_some_iff.1 h3).1, i, cs, hkeep _ _ h3, h4⟩
      have ty : RTapeA H3.length xs 0 H5 ([H3.length] ++ G) := ⟨vb, [H3.length], G, ⟨rfl, hy5⟩, rG, fun x hx h => by
        have := (nG x h).1; simp at hx; omega, fun x => by simp⟩
      have hes : ∀ {w : Value} {l : List Value}, Row 3 H5 w l → ∀ b o nn c, w = .slice (some ⟨b, o, none⟩) nn c → b ∉ [H3.length] ++ G := by
        intro w l hw b o nn c e hb'
        obtain ⟨i, cs, h1, h2⟩ := row_es hw e
        rcases List.mem_append.1 hb' with h | h
        · simp at h; subst h
          rw [hy5] at h1; cases h1; cases h2
        · obtain ⟨_, i', cs', h3, h4⟩ := nG b h
          rw [h1] at h3; cases h3; omega
      have st0 : Stay 3 v (recs ps) H4 F3 := ⟨x04.row hr, fun b o nn c e h => by
        have := n3 b h
        obtain ⟨i, cs, h1, _⟩ := row_es hr e
        have := (List.getElem?_eq_some_iff.1 h1).1; omega⟩
      have st05 := st0.upd u5
      obtain ⟨r, H6, G6, e6, r6, u6⟩ := R_rnew (mp := mpJk) (nm := nm) (q1 := q1) (q2 := q2) (q3 := q3) (q4 := q4) (rel := rel) rfl rfl rfl rfl P hb (by omega) ty ⟨st05.1, hes st05.1⟩
      have hdis : ∀ x ∈ F5, x ∉ [H3.length] ++ G := fun x hx h => by
        rcases List.mem_append.1 h with h | h
        · simp at h; subst h; exact hyF5 hx
        · have := (nG x h).1
          rcases u5.new x hx with h' | h'
          · have := n3 x h'; omega
          · omega
      have j6 : JobA j t v' rel xs (jbegin ps xs 0 0) H6 F5 := JobA.good.frame j5 fun id hid => u6.same id (JobA.good.lt j5 id hid) (hdis id hid)
      have h6 : BJobA j t r H3.length nm q1 q2 q3 q4 v' v rel xs (jbegin ps xs 0 0) H6 (F5 ++ G6) := ⟨F5, G6, j6, r6, fun x hx h => by
        rcases u6.new x h with h' | h'
        · exact hdis x hx h'
        · have := JobA.good.lt j5 x hx; omega, fun x => by simp⟩
      have both : ∀ {w : Value}, Stay 3 w (recs ps) H5 F5 → Stay 3 w (recs ps) H6 (F5 ++ G6) := fun {w} h => by
        have h1 := Stay.upd (F := [H3.length] ++ G) ⟨h.1, hes h.1⟩ u6
        refine ⟨h1.1, fun b o nn c e hb' => ?_⟩
        rcases List.mem_append.1 hb' with h' | h'
        · exact h.2 b o nn c e h'
        · exact h1.2 b o nn c e h'
      obtain ⟨H7, e7⟩ := jplays_loop P hb (by omega) (n := m) (by omega) (m + 1) 0 H6 _ _ (by omega) (jbegin_ok P hb (Nat.zero_le _) (Nat.le_refl _)) h6 (both s5) (both st05)
      have hl4' := x4.get (x3.get hat2)
      have hnF3 : H.length ∉ F3 := fun h => by have := n3 _ h; omega
      have hl5 := u5.get hl4' hnF3
      have d4 := ldn_at hl4' 0 6 (by simp) (by rw [hv]; rfl)
      have d5 := ldn_at hl5 0 6 (by simp) (by rw [hv]; rfl)
      simp at d4 d5 e7
      subst hvb
      subst hv
      rw [R_code (fn := m12) rfl]
      simp [m12, knownJ_R, taskV] at ef hld' e5 e6 hG4 ⊢
      simp [ef, hld', hbi, e3, hG4, mdraw_full, d4, d5, e5, e6, e7, ba_refl]
theorem jobPlaysT {H : MH} {ms : List Value} {ds : List D} {vb : Value} {xs : List Int} {rel n : Int} (h : RepL H [.str, .int .i64, .int .i64, .int .i64, .int .i64, .row [.int .i64, .int .i64, .int .i64]] ms ds) (hrb : Row 1 H vb (xs.map fun n => .int .u8 n)) (hb : ∀ x ∈ xs, 0 ≤ x ∧ x < 256) (hn : 0 ≤ n ∧ n < 256) :
    ∃ H', R mpJk 12 [.agg ms.toArray, .int .i64 rel, vb, .int .u8 n] H = some (.bool true, H') := by
  obtain ⟨nm, q1, q2, q3, q4, v, ps, rfl, hr, hw, hm⟩ := task_open h
  exact jobPlays (nm := nm) (q1 := q1) (q2 := q2) (q3 := q3) (q4 := q4) hr hw hm hrb hb hn
end Go.Mod

/- LockFair: the loop, the law. -/
import Derived.Test.YthpeamllfledkaaLfB
set_option linter.unusedVariables false
set_option linter.unusedSimpArgs false
namespace Go.Mod
open Classical

theorem max0 (n : Nat) : max (0 : Int) (n : Int) = (n : Int) := by omega
theorem maxm1 : max (0 : Int) (-1) = 0 := rfl
theorem wrapm1 : IntKind.i64.wrap (-1) = -1 := rfl
section
variable {l : Nat} {s : SetL} {L : Lay} {b5 : Nat} {c : Int}
theorem fair_loop (cs : CrowdS s 1 c) {oa : Option Addr} {on oc : Nat} {xs : List Int} (hx : ∀ x ∈ xs, 0 ≤ x ∧ x < 256) (hn : xs.length = on) (h30 : on ≤ 30) :
    ∀ (k i : Nat) (H : MH) (F : List Nat) (x : LS) (lv : Value) (line : List Nat), i + k = on → 0 ≤ x.cnt → x.cnt + k ≤ 1000 → x.ts.map (·.id) = L.chs → FairS x line true → Sep (FL l s L x lv b5 line line) H F → Stay 1 (.slice oa on oc) (u8s xs) H F →
    ∃ (lv' : Value) (H' : MH), Rc mpLk (.loop m5_0) [(0, .slice oa on oc), (3, .pointer (some ⟨l, 0, none⟩)), (4, lv), (5, .pointer (some ⟨b5, 0, none⟩)), (6, .int .i64 (i : Int))] H =
      some (.exit 0, [(0, .slice oa on oc), (3, .pointer (some ⟨l, 0, none⟩)), (4, lv'), (5, .pointer (some ⟨b5, 0, none⟩)), (6, .int .i64 (on : Int)), (20, .bool false)], H') := by
  intro k
  induction k with
  | zero =>
    intro i H F x lv line hi h0 h1 hid f hS hr
    have : i = on := by omega
    subst this
    refine ⟨lv, H, ?_⟩
    rw [Rc_loop]
    simp [m5_0]
  | succ k ih =>
    intro i H F x lv line hi h0 h1 hid f hS hr
    have hin : i < on := by omega
    obtain ⟨y, hy⟩ : ∃ y, xs[i]? = some y := ⟨_, List.getElem?_eq_getElem (by omega)⟩
    obtain ⟨y0, y1⟩ := hx y (List.mem_of_getElem? hy)
    obtain ⟨ob, oo, oj, ocs, rfl, hB, hrow⟩ := Row.u8 hr.1 (by omega)
    have hat := hrow i y hy
    have w : IntKind.i64.wrap ((i : Int) + 1) = (i : Int) + 1 := wrap_i64 (by omega) (by omega)
    have t0 := Int.tmod_nonneg (6 : Int) y0
    have t1 : y.tmod 6 < 6 := Int.tmod_lt_of_pos _ (by omega)
    obtain ⟨t, ht⟩ : ∃ t : Nat, (t : Int) = y.tmod 6 := ⟨(y.tmod 6).toNat, by omega⟩
    have ht6 : t < 6 := by omega
    have wt : IntKind.i64.wrap (y.tmod 6) = (t : Int) := by rw [← ht]; exact wrap_i64 (by omega) (by omega)
    have hlen6 := f.len6
    obtain ⟨A1, hO⟩ := fl_own hS
    obtain ⟨la, ln, lc, rfl, hlln⟩ := (OwnO.row hO).slice
    have hln : ln = line.length := by rw [linI_len] at hlln; omega
    subst hln
    -- behind a branch
    have next : ∀ (Hb : MH) (Fb : List Nat) (x' : LS) (la' : Option Addr) (lc' : Nat) (line' : List Nat) (h' : Bool), 0 ≤ x'.cnt → x'.cnt + k ≤ 1000 → x'.ts.map (·.id) = L.chs → FairS x' line' h' → Sep (FL l s L x' (.slice la' line'.length lc') b5 line' line') Hb Fb → Upd H F Hb Fb →
        (∀ (gv : Value) (H1 H2 : MH) (wa : Option Addr) (wc : Nat), R mpLk 15 [.pointer (some ⟨l, 0, none⟩)] Hb = some (gv, H1) → R mpLk 24 [.pointer (some ⟨l, 0, none⟩), .int .i64 0] H1 = some (.tuple #[.int .i64 ((line'.headD 0 : Nat) : Int), .bool (!line'.isEmpty)], H1) → R mpLk 25 [.pointer (some ⟨l, 0, none⟩)] H1 = some (.slice wa (line'.length - 1) wc, H2) →
          (∀ u r, line' = u :: r → ∃ b o, la' = some ⟨b, o, none⟩ ∧ mread (.ld none) [.pointer (some ⟨b, o, none⟩)] H1 = some (.int .i64 (u : Int))) →
          Rc mpLk (.loop m5_0) [(0, .slice (some ⟨ob, oo, none⟩) on oc), (3, .pointer (some ⟨l, 0, none⟩)), (4, .slice la line.length lc), (5, .pointer (some ⟨b5, 0, none⟩)), (6, .int .i64 (i : Int))] H = Rc mpLk (.loop m5_0) [(0, .slice (some ⟨ob, oo, none⟩) on oc), (3, .pointer (some ⟨l, 0, none⟩)), (4, .slice la' line'.length lc'), (5, .pointer (some ⟨b5, 0, none⟩)), (6, .int .i64 ((i : Int) + 1))] H2) →
        ∃ (lv' : Value) (H' : MH), Rc mpLk (.loop m5_0) [(0, .slice (some ⟨ob, oo, none⟩) on oc), (3, .pointer (some ⟨l, 0, none⟩)), (4, .slice la line.length lc), (5, .pointer (some ⟨b5, 0, none⟩)), (6, .int .i64 (i : Int))] H =
      some (.exit 0, [(0, .slice (some ⟨ob, oo, none⟩) on oc), (3, .pointer (some ⟨l, 0, none⟩)), (4, lv'), (5, .pointer (some ⟨b5, 0, none⟩)), (6, .int .i64 (on : Int)), (20, .bool false)], H') := by
      intro Hb Fb x' la' lc' line' h' g0 g1 g2 g3 g4 g5 g6
      obtain ⟨gv, H1, H2, F2, y', wa, wn, wc, e1, e2, e3, hwn, p2, f2, u2, k1, k2, p1⟩ := fair_tail cs g2 g3 g0 (by omega) g4
      subst hwn
      have st := g6 gv H1 H2 wa wc e1 e2 e3 (fun u r e => by
        subst e
        obtain ⟨A, hA⟩ := fl_own p1
        obtain ⟨b, o, c', e⟩ := OwnO.shape hA
        injection e with e1 e2 e3
        subst e1
        exact ⟨b, o, rfl, fl_head p1⟩)
      rw [st]
      have := ih (i + 1) H2 F2 y' (.slice la' line'.length lc') line' (by omega) (by rw [k1]; omega) (by rw [k1]; omega) (by rw [k2]; exact g2) f2 p2 (hr.upd (g5.trans u2))
      simpa using this
    by_cases hz : y.tmod 7 = 0 ∧ line ≠ []
    · -- the first one leaves
      obtain ⟨hz, hne⟩ := hz
      obtain ⟨u0, rest, rfl⟩ : ∃ u0 rest, line = u0 :: rest := by
        cases line with
        | nil => exact absurd rfl hne
        | cons a b => exact ⟨a, b, rfl⟩
      obtain ⟨b, o, c', e⟩ := OwnO.shape hO
      injection e with e1 e2 e3
      subst e1
      have hd0 := fl_head hS
      have hm0 : u0 ∈ u0 :: rest := by simp
      have hu6 := f.lt u0 hm0
      have hfs : (findA x.ak (u0 : Int)).isSome = true := f.find.2 hm0
      obtain ⟨a, ha⟩ := Option.isSome_iff_exists.1 hfs
      have hbt : backT s a x.ts = x.ts := by simp [backT, cs.proto]
      obtain ⟨H1, F1, p1, u1, e17⟩ := fl_lk (y := ⟨x.cnt, dropA x.ak (u0 : Int), x.ts⟩) (Q := fun H' => R mpLk 17 [.pointer (some ⟨l, 0, none⟩), .int .i64 (u0 : Int)] H = some (.int .i64 0, H')) hS (fun A hA => by
        obtain ⟨H', F', e, p, u⟩ := R_leave_ok (mp := mpLk) rfl rfl rfl hA ha f.uniq hid (fun h => by rw [cs.proto] at h; omega)
        rw [hbt] at p
        exact ⟨H', F', p, u, e⟩)
      have hd1 := fl_head p1
      have hnd := List.nodup_cons.1 f.nd
      obtain ⟨H2, F2, est, p2, u2⟩ := fl_arr (t := u0) (b := false) (la' := rest) p1 hu6 (fun u => by
        by_cases h : u = u0
        · subst h; simp [hnd.1]
        · simp [h])
      have hd2 := fl_head p2
      obtain ⟨sl2, p3⟩ := fl_sl (n := rest.length) p2
      refine next H2 F2 ⟨x.cnt, dropA x.ak (u0 : Int), x.ts⟩ _ _ rest false h0 (by show x.cnt + k ≤ 1000; omega) hid f.leave p3 (u1.trans u2) (fun gv H3 H4 wa wc e15 e24 e25 hhd => ?_)
      rw [Rc_loop]
      have hu0 : (u0 : Int) < 6 := by omega
      cases rest with
      | nil =>
        simp at e24 e25 sl2
        simp [m5_0, hin, ld_at hB, hat, hz, hd0, e17, hd1, hu0, est, hd2, sl2, e15, e24, e25, w, wrapm1, maxm1]
        done
      | cons u1 r1 =>
        obtain ⟨b', o', hb', hdd⟩ := hhd u1 r1 rfl
        cases hb'
        simp at e24 e25 sl2
        have q1 : (0 : Int) < (r1.length : Int) + 1 + 1 := by omega
        have q2 : (0 : Int) < (r1.length : Int) + 1 := by omega
        have q3 : IntKind.i64.wrap (r1.length : Int) = (r1.length : Int) := wrap_i64 (by omega) (by simp at hlen6; omega)
        have q4 := max0 r1.length
        simp [m5_0, hin, ld_at hB, hat, hz, hd0, e17, hd1, hu0, est, hd2, sl2, e15, e24, e25, hdd, w, q1, q2, q3, q4]
        done
    · -- one asks
      have hcond : y.tmod 7 = 0 → line = [] := fun h => Classical.byContradiction fun h' => hz ⟨h, h'⟩
      have htI : (t : Int) < 6 := by omega
      by_cases hm : t ∈ line
      · have hfs : (findA x.ak (t : Int)).isSome = true := f.find.2 hm
        obtain ⟨A0, hA0, _⟩ := Sep.at_ (k := 0) hS rfl
        have hno : ¬ (((t : Nat) : Int) < 0 ∨ (s.tasks.length : Int) ≤ ((t : Nat) : Int)) := by rw [cs.len]; omega
        have hno2 : ¬ ((0 : Int) < 0 ∨ (s.homes.length : Int) ≤ 0) := by rw [cs.homes]; simp
        have e12 := (R_ask_no (mp := mpLk) rfl (LkV.of hA0) (n := (t : Int)) (res := 0)).2.2 hno hno2 hfs
        have hld := fl_ld hS ht6
        simp only [hm, decide_true] at hld
        have hz7 : ¬ y.tmod 7 = 0 := fun h => by rw [hcond h] at hm; cases hm
        refine next H F x la lc line true h0 (by omega) hid f hS (Upd.refl _ _) (fun gv H3 H4 wa wc e15 e24 e25 hhd => ?_)
        rw [Rc_loop]
        obtain ⟨u1, r1, rfl⟩ : ∃ u1 r1, line = u1 :: r1 := by
          cases line with
          | nil => cases hm
          | cons a b => exact ⟨a, b, rfl⟩
        obtain ⟨b', o', hb', hdd⟩ := hhd u1 r1 rfl
        subst hb'
        have q2 : (0 : Int) < (r1.length : Int) + 1 := by omega
        have q3 : IntKind.i64.wrap (r1.length : Int) = (r1.length : Int) := wrap_i64 (by omega) (by simp at hlen6; omega)
        have q4 := max0 r1.length
        simp at e24 e25
        simp [m5_0, hin, ld_at hB, hat, hz7, wt, e12, htI, hld, mdraw_full, e15, e24, e25, hdd, w, q2, q3, q4]
        done
      · have hnone : findA x.ak (t : Int) = none := by
          cases hfa : findA x.ak (t : Int) with
          | none => rfl
          | some a => exact absurd (f.find.1 (by rw [hfa]; rfl)) hm
        obtain ⟨h', f', hl'⟩ : ∃ h', FairS x line h' ∧ (line = [] → h' = false) := by
          by_cases he : line = []
          · refine ⟨false, ⟨f.n, f.nd, f.lt, f.res, f.inn, f.pl, f.le, fun j a hj => ?_⟩, fun _ => rfl⟩
            have e1 := f.len
            rw [he, List.length_nil] at e1
            have := (List.getElem?_eq_some_iff.1 hj).1
            omega
          · exact ⟨true, f, fun h => absurd h he⟩
        obtain ⟨p, H1, F1, p1, u1, e12⟩ := Sep.upd (ι := Nat) (k := 0) (P' := fun p => LkS l s L ⟨newCnt s x.cnt, x.ak ++ [newA s x.cnt t 0 p], x.ts⟩) (C := fun _ H' => R mpLk 12 [.pointer (some ⟨l, 0, none⟩), .int .i64 (t : Int), .int .i64 0] H = some (.int .i64 0, H')) (fun _ => LkS.good) FL.good hS rfl (fun A hA _ => by
          obtain ⟨H', F', p, e, q, u⟩ := R_ask_ok (mp := mpLk) rfl rfl hA (n := t) (res := 0) (by rw [cs.len]; exact ht6) (by omega) (by rw [cs.homes]; simp) hnone (by rw [f.len]; omega) h0 (by omega)
          exact ⟨p, H', F', q, u, e⟩)
        have p1 : Sep (FL l s L ⟨newCnt s x.cnt, x.ak ++ [newA s x.cnt t 0 p], x.ts⟩ (.slice la line.length lc) b5 line line) H1 F1 := p1
        have hC : newCnt s x.cnt = x.cnt + 1 := by simp [newCnt, cs.proto]
        have hld := fl_ld hS ht6
        have hld1 := fl_ld p1 ht6
        simp only [hm, decide_false] at hld hld1
        obtain ⟨H2, F2, est, p2, u2⟩ := fl_arr (t := t) (b := true) (la' := line ++ [t]) p1 ht6 (fun u => by
          by_cases h : u = t
          · subst h; simp
          · simp [h])
        obtain ⟨la', ln', lc', H3, F3, epu, p3, u3⟩ := fl_push p2 t (by omega)
        obtain ⟨A3, hO3⟩ := fl_own p3
        have hln' : ln' = line.length + 1 := by
          obtain ⟨a, n, c, e, hl⟩ := (OwnO.row hO3).slice
          cases e
          rw [linI_len] at hl
          simp at hl; omega
        have hll : (line ++ [t]).length = line.length + 1 := by simp
        refine next H3 F3 ⟨newCnt s x.cnt, x.ak ++ [newA s x.cnt t 0 p], x.ts⟩ la' lc' (line ++ [t]) h' (by rw [hC]; show 0 ≤ x.cnt + 1; omega) (by show newCnt s x.cnt + k ≤ 1000; rw [hC]; omega) hid (f'.ask hl' cs.proto ht6 hm) (by rw [hll, ← hln']; exact p3) ((u1.trans u2).trans u3) (fun gv H4 H5 wa wc e15 e24 e25 hhd => ?_)
        rw [Rc_loop]
        obtain ⟨v1, r1, hvr⟩ : ∃ v1 r1, line ++ [t] = v1 :: r1 := by
          cases line with
          | nil => exact ⟨_, _, rfl⟩
          | cons a b => exact ⟨a, b ++ [t], rfl⟩
        obtain ⟨b', o', hb', hdd⟩ := hhd v1 r1 hvr
        subst hb'
        have hrl : r1.length = line.length := by have := congrArg List.length hvr; simp at this; omega
        subst hln'
        rw [hvr, List.length_cons] at hll
        rw [hvr] at e24 e25
        have q2 : (0 : Int) < (line.length : Int) + 1 := by omega
        have q3 : IntKind.i64.wrap (line.length : Int) = (line.length : Int) := wrap_i64 (by omega) (by omega)
        have q4 := max0 line.length
        simp only [List.length_cons, hrl, Nat.add_sub_cancel] at e25
        simp at e24 epu
        rw [hvr, List.length_cons, hrl]
        by_cases hz7 : y.tmod 7 = 0
        · have hle : line = [] := hcond hz7
          subst hle
          simp at e25 epu q3 ⊢
          simp [m5_0, hin, ld_at hB, hat, hz7, wt, e12, htI, hld, hld1, est, epu, mdraw_full, e15, e24, e25, hdd, w, q3]
          done
        · simp [m5_0, hin, ld_at hB, hat, hz7, wt, e12, htI, hld, hld1, est, epu, mdraw_full, e15, e24, e25, hdd, w, q2, q3, q4]
          done
theorem lockFair {H : MH} {v : Value} {xs : List Int} (hr : Row 1 H v (u8s xs)) (hx : ∀ x ∈ xs, 0 ≤ x ∧ x < 256) : ∃ H', R mpLk 5 [v] H = some (.bool true, H') := by
  obtain ⟨a, n, cc, rfl, _⟩ := hr.slice
  refine isTrue_ex ?_
  have hn := hr.u8n
  subst hn
  rw [R_code (fn := m5) rfl]
  by_cases h30 : xs.length ≤ 30
  · obtain ⟨v, H1, l, s, L, c0, c1, H2, F2, e1, e2, p2, x2, g2, cs, _⟩ := crowd_new (H := H) (p := 1) (c := 1) (by omega) (by omega)
    have x3 : Ext H2 (H2 ++ [.cells ⟨1, true, false⟩ (barr [])]) := ⟨_, rfl⟩
    have hlt := LkS.good.lt p2
    have hS : Sep (FL l s L ⟨0, [], [c0, c1]⟩ (.slice none 0 0) H2.length [] []) (H2 ++ [.cells ⟨1, true, false⟩ (barr [])]) (F2 ++ ([] ++ [H2.length])) := by
      refine (Sep.one (LkS.good.ext p2 x3)).app ((Sep.one (P := OwnO _ _) (.inl ⟨rfl, rfl, rfl⟩)).app (Sep.one (P := Pt _ _ _) ⟨rfl, by simp⟩) (by simp)) (fun x hx hm => ?_)
      have := hlt x hx
      simp at hm; omega
    have hst : Stay 1 (.slice a xs.length cc) (u8s xs) (H2 ++ [.cells ⟨1, true, false⟩ (barr [])]) (F2 ++ ([] ++ [H2.length])) := by
      refine ⟨(x2.trans x3).row hr, fun b o n' c' e hm => ?_⟩
      have hb : b < H.length := by
        rcases hr with ⟨h1, _⟩ | ⟨b', o', m', d', j', cs', h1, _, h3, _⟩
        · rw [h1] at e; cases e
        · rw [h1] at e; cases e; exact (List.getElem?_eq_some_iff.1 h3).1
      rcases List.mem_append.1 hm with h | h
      · have := g2 b h; omega
      · simp at h; have := x2.len; omega
    have f0 : FairS ⟨0, [], [c0, c1]⟩ [] true := ⟨rfl, by simp, by simp, by simp, by simp, by simp, by simp, by simp⟩
    obtain ⟨lv', H', e3⟩ := fair_loop cs hx rfl h30 xs.length 0 _ _ _ _ [] (by omega) (by show (0 : Int) ≤ 0; omega) (by show (0 : Int) + (xs.length : Int) ≤ 1000; omega) (by rename_i hh; exact hh.1.symm) f0 hS hst
    have hb0 : barr [] = [.bool false, .bool false, .bool false, .bool false, .bool false, .bool false] := rfl
    rw [hb0] at e3
    simp at e3
    have h30' : ¬ (30 : Int) < (xs.length : Int) := by omega
    simp [m5, knownL_R, h30', e1, e2, e3]
  · have h30' : (30 : Int) < (xs.length : Int) := by omega
    simp [m5, knownL_R, h30']
end
end Go.Mod

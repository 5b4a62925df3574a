/- LockAgents: the loop, the law. -/
import Derived.Test.YthpeamllfledkaaLgB
set_option linter.unusedVariables false
set_option linter.unusedSimpArgs false
namespace Go.Mod
open Classical

section
variable {l : Nat} {s : SetL} {L : Lay} {b4 : Nat} {c : Int}
theorem ag_loop (cs : CrowdS s 2 c) {oa : Option Addr} {on oc : Nat} {xs : List Int} (hx : ∀ x ∈ xs, 0 ≤ x ∧ x < 256) (hn : xs.length = on) (h30 : on ≤ 30) :
    ∀ (k i : Nat) (H : MH) (F : List Nat) (x : LS) (line : List Nat) (h : Option Nat), i + k = on → 0 ≤ x.cnt → x.cnt + k ≤ 1000 → x.ts.map (·.id) = L.chs → AgS x line h → (h = none → line = []) → Sep (GL2 l s L x b4 line) H F → Stay 1 (.slice oa on oc) (u8s xs) H F →
    ∃ (hf : Option Nat) (H' : MH), Rc mpLk (.loop m6_2) [(0, .slice oa on oc), (3, .pointer (some ⟨l, 0, none⟩)), (4, .pointer (some ⟨b4, 0, none⟩)), (5, .int .i64 (hV h)), (6, .int .i64 (i : Int))] H =
      some (.exit 0, [(0, .slice oa on oc), (3, .pointer (some ⟨l, 0, none⟩)), (4, .pointer (some ⟨b4, 0, none⟩)), (5, .int .i64 (hV hf)), (6, .int .i64 (on : Int)), (20, .bool false)], H') := by
  intro k
  induction k with
  | zero =>
    intro i H F x line h hi h0 h1 hid f hlh hS hr
    have : i = on := by omega
    subst this
    refine ⟨h, H, ?_⟩
    rw [Rc_loop]
    simp [m6_2]
  | succ k ih =>
    intro i H F x line h hi h0 h1 hid f hlh hS hr
    have hin : i < on := by omega
    obtain ⟨y, hy⟩ : ∃ y, xs[i]? = some y := ⟨_, List.getElem?_eq_getElem (by omega)⟩
    obtain ⟨y0, y1⟩ := hx y (List.mem_of_getElem? hy)
    obtain ⟨ob, oo, oj, ocs, rfl, hB, hrow⟩ := Row.u8 hr.1 (by omega)
    have hat := hrow i y hy
    have w : IntKind.i64.wrap ((i : Int) + 1) = (i : Int) + 1 := wrap_i64 (by omega) (by omega)
    have t0 := Int.tmod_nonneg (6 : Int) y0
    have t1 : y.tmod 6 < 6 := Int.tmod_lt_of_pos _ (by omega)
    obtain ⟨t, ht⟩ : ∃ t : Nat, (t : Int) = y.tmod 6 := ⟨(y.tmod 6).toNat, by omega⟩
    have ht6 : t < 6 := by omega
    have htI : (t : Int) < 6 := by omega
    have wt : IntKind.i64.wrap (y.tmod 6) = (t : Int) := by rw [← ht]; exact wrap_i64 (by omega) (by omega)
    have d0 : 0 ≤ y.tdiv 6 := Int.tdiv_nonneg y0 (by omega)
    have wd : IntKind.u8.wrap (y.tdiv 6) = y.tdiv 6 := by
      have : y.tdiv 6 ≤ y := Int.tdiv_le_self _ y0
      exact Int.emod_eq_of_lt d0 (by show y.tdiv 6 < 256; omega)
    have r0 := Int.tmod_nonneg (2 : Int) d0
    have r1 : (y.tdiv 6).tmod 2 < 2 := Int.tmod_lt_of_pos _ (by omega)
    have wr : IntKind.i64.wrap ((y.tdiv 6).tmod 2) = (y.tdiv 6).tmod 2 := wrap_i64 (by omega) (by omega)
    have hlen6 := f.len6
    -- behind a branch
    have next : ∀ (Hb : MH) (Fb : List Nat) (x' : LS) (line' : List Nat) (h' : Option Nat), 0 ≤ x'.cnt → x'.cnt + k ≤ 1000 → x'.ts.map (·.id) = L.chs → AgS x' line' h' → Sep (GL2 l s L x' b4 line') Hb Fb → Upd H F Hb Fb →
        (∀ (gv : Value) (H1 : MH), R mpLk 15 [.pointer (some ⟨l, 0, none⟩)] Hb = some (gv, H1) →
          (Rc mpLk (.loop m6_1) [(0, .slice (some ⟨ob, oo, none⟩) on oc), (3, .pointer (some ⟨l, 0, none⟩)), (4, .pointer (some ⟨b4, 0, none⟩)), (5, .int .i64 (-1)), (6, .int .i64 (i : Int)), (8, .int .i64 0)] H1 =
            some (.exit 2, [(0, .slice (some ⟨ob, oo, none⟩) on oc), (3, .pointer (some ⟨l, 0, none⟩)), (4, .pointer (some ⟨b4, 0, none⟩)), (5, .int .i64 (hV (topN line'))), (6, .int .i64 (i : Int)), (8, .int .i64 6), (67, .bool false)], H1)) →
          (Rc mpLk (.loop m6_0) [(0, .slice (some ⟨ob, oo, none⟩) on oc), (3, .pointer (some ⟨l, 0, none⟩)), (4, .pointer (some ⟨b4, 0, none⟩)), (5, .int .i64 (hV (if h' = none then topN line' else h'))), (6, .int .i64 (i : Int)), (9, .int .i64 0)] H1 =
            some (.exit 4, [(0, .slice (some ⟨ob, oo, none⟩) on oc), (3, .pointer (some ⟨l, 0, none⟩)), (4, .pointer (some ⟨b4, 0, none⟩)), (5, .int .i64 (hV (if h' = none then topN line' else h'))), (6, .int .i64 (i : Int)), (9, .int .i64 6), (75, .bool false)], H1)) →
          Rc mpLk (.loop m6_2) [(0, .slice (some ⟨ob, oo, none⟩) on oc), (3, .pointer (some ⟨l, 0, none⟩)), (4, .pointer (some ⟨b4, 0, none⟩)), (5, .int .i64 (hV h)), (6, .int .i64 (i : Int))] H = Rc mpLk (.loop m6_2) [(0, .slice (some ⟨ob, oo, none⟩) on oc), (3, .pointer (some ⟨l, 0, none⟩)), (4, .pointer (some ⟨b4, 0, none⟩)), (5, .int .i64 (hV (if h' = none then topN line' else h'))), (6, .int .i64 ((i : Int) + 1))] H1) →
        ∃ (hf : Option Nat) (H' : MH), Rc mpLk (.loop m6_2) [(0, .slice (some ⟨ob, oo, none⟩) on oc), (3, .pointer (some ⟨l, 0, none⟩)), (4, .pointer (some ⟨b4, 0, none⟩)), (5, .int .i64 (hV h)), (6, .int .i64 (i : Int))] H =
      some (.exit 0, [(0, .slice (some ⟨ob, oo, none⟩) on oc), (3, .pointer (some ⟨l, 0, none⟩)), (4, .pointer (some ⟨b4, 0, none⟩)), (5, .int .i64 (hV hf)), (6, .int .i64 (on : Int)), (20, .bool false)], H') := by
      intro Hb Fb x' line' h' g0 g1 g2 g3 g4 g5 g6
      obtain ⟨gv, H1, F1, y', e1, p1, f1, u1, k1, k2⟩ := ag_grant cs g2 g3 g0 (by omega) g4
      have l1 := top_loop (o := .slice (some ⟨ob, oo, none⟩) on oc) (i := (i : Int)) p1 6 0 (by omega)
      have l2 := chk_loop (o := .slice (some ⟨ob, oo, none⟩) on oc) (i := (i : Int)) cs f1 p1 6 0 (by omega)
      rw [tpI_top g3.lt] at l1
      have st := g6 gv H1 e1 l1 l2
      rw [st]
      have hl' : (if h' = none then topN line' else h') = none → line' = [] := fun e => by
        cases h' with
        | none => simp at e; exact List.max?_eq_none_iff.1 e
        | some m => simp at e
      have := ih (i + 1) H1 F1 y' line' _ (by omega) (by rw [k1]; omega) (by rw [k1]; omega) (by rw [k2]; exact g2) f1 hl' p1 (hr.upd (g5.trans u1))
      simpa using this
    by_cases hz : y.tmod 5 = 0 ∧ h ≠ none
    · obtain ⟨hz, hne⟩ := hz
      obtain ⟨m, rfl⟩ := Option.ne_none_iff_exists'.1 hne
      have hm0 := f.hm m rfl
      have hm6 := f.lt m hm0
      have hmI : (m : Int) < 6 := by omega
      obtain ⟨a, ha⟩ := Option.isSome_iff_exists.1 (f.find.2 hm0)
      have hbt : backT s a x.ts = x.ts := by simp [backT, cs.proto]
      obtain ⟨_, H1, F1, p1, u1, e17⟩ := Sep.upd (ι := Unit) (k := 0) (P' := fun _ => LkS l s L ⟨x.cnt, dropA x.ak (m : Int), x.ts⟩) (C := fun _ H' => R mpLk 17 [.pointer (some ⟨l, 0, none⟩), .int .i64 (m : Int)] H = some (.int .i64 0, H')) (fun _ => LkS.good) GL2.good hS rfl (fun A hA _ => by
        obtain ⟨H', F', e, p, u⟩ := R_leave_ok (mp := mpLk) rfl rfl rfl hA ha f.uniq hid (fun h => by rw [cs.proto] at h; omega)
        rw [hbt] at p
        exact ⟨(), H', F', p, u, e⟩)
      have p1 : Sep (GL2 l s L ⟨x.cnt, dropA x.ak (m : Int), x.ts⟩ b4 line) H1 F1 := p1
      obtain ⟨H2, F2, est, p2, u2⟩ := gl_arr (t := m) (b := false) (la' := line.filter fun u => !decide (u = m)) p1 hm6 (fun u => by
        rw [List.mem_filter]
        by_cases e : u = m
        · subst e; simp
        · simp [e])
      refine next H2 F2 ⟨x.cnt, dropA x.ak (m : Int), x.ts⟩ _ none h0 (by show x.cnt + k ≤ 1000; omega) hid f.leave p2 (u1.trans u2) (fun gv H3 e15 l1 l2 => ?_)
      simp only [if_true] at l2 ⊢
      have hv : hV (some m) = (m : Int) := rfl
      rw [hv, Rc_loop]
      simp [m6_2, hin, ld_at hB, hat, hz, e17, hmI, est, e15, l1, l2, w]
    · by_cases hm : t ∈ line
      · obtain ⟨m, rfl⟩ : ∃ m, h = some m := by
          cases h with
          | none => rw [hlh rfl] at hm; cases hm
          | some m => exact ⟨m, rfl⟩
        have hz5 : ¬ y.tmod 5 = 0 := fun e => hz ⟨e, by simp⟩
        have hld := gl_ld hS ht6
        simp only [hm, decide_true] at hld
        refine next H F x line (some m) h0 (by omega) hid f hS (Upd.refl _ _) (fun gv H3 e15 l1 l2 => ?_)
        simp only [reduceCtorEq, if_false] at l2 ⊢
        have hv : hV (some m) = (m : Int) := rfl
        rw [hv] at l2 ⊢
        rw [Rc_loop]
        simp [m6_2, hin, ld_at hB, hat, hz5, wt, htI, hld, e15, l2, w]
      · have hnone : findA x.ak (t : Int) = none := by
          cases hfa : findA x.ak (t : Int) with
          | none => rfl
          | some a => exact absurd (f.find.1 (by rw [hfa]; rfl)) hm
        have hres : (y.tdiv 6).tmod 2 = 0 ∨ (y.tdiv 6).tmod 2 = 1 := by omega
        obtain ⟨p, H1, F1, p1, u1, e12⟩ := Sep.upd (ι := Nat) (k := 0) (P' := fun p => LkS l s L ⟨newCnt s x.cnt, x.ak ++ [newA s x.cnt t ((y.tdiv 6).tmod 2) p], x.ts⟩) (C := fun _ H' => R mpLk 12 [.pointer (some ⟨l, 0, none⟩), .int .i64 (t : Int), .int .i64 ((y.tdiv 6).tmod 2)] H = some (.int .i64 0, H')) (fun _ => LkS.good) GL2.good hS rfl (fun A hA _ => by
          obtain ⟨H', F', p, e, q, u⟩ := R_ask_ok (mp := mpLk) rfl rfl hA (n := t) (res := (y.tdiv 6).tmod 2) (by rw [cs.len]; exact ht6) r0 (by rw [cs.homes]; show _ < (2 : Int); omega) hnone (by rw [f.len]; omega) h0 (by omega)
          exact ⟨p, H', F', q, u, e⟩)
        have p1 : Sep (GL2 l s L ⟨newCnt s x.cnt, x.ak ++ [newA s x.cnt t ((y.tdiv 6).tmod 2) p], x.ts⟩ b4 line) H1 F1 := p1
        have hC : newCnt s x.cnt = x.cnt + 1 := by simp [newCnt, cs.proto]
        have hld := gl_ld hS ht6
        simp only [hm, decide_false] at hld
        obtain ⟨H2, F2, est, p2, u2⟩ := gl_arr (t := t) (b := true) (la' := line ++ [t]) p1 ht6 (fun u => by
          by_cases h : u = t
          · subst h; simp
          · simp [h])
        refine next H2 F2 ⟨newCnt s x.cnt, x.ak ++ [newA s x.cnt t ((y.tdiv 6).tmod 2) p], x.ts⟩ (line ++ [t]) h (by rw [hC]; show 0 ≤ x.cnt + 1; omega) (by show newCnt s x.cnt + k ≤ 1000; rw [hC]; omega) hid (f.ask cs.proto ht6 hm hres) p2 (u1.trans u2) (fun gv H3 e15 l1 l2 => ?_)
        have hrd : IntKind.u8.wrap (y.tdiv 6) = y.tdiv 6 := wd
        cases h with
        | none =>
          simp only [if_true] at l2 ⊢
          have hv : hV none = -1 := rfl
          rw [hv, Rc_loop]
          by_cases hz5 : y.tmod 5 = 0
          · simp [m6_2, hin, ld_at hB, hat, hz5, wt, htI, hld, wd, wr, e12, est, e15, l1, l2, w]
          · simp [m6_2, hin, ld_at hB, hat, hz5, wt, htI, hld, wd, wr, e12, est, e15, l1, l2, w]
        | some m =>
          have hz5 : ¬ y.tmod 5 = 0 := fun e => hz ⟨e, by simp⟩
          simp only [reduceCtorEq, if_false] at l2 ⊢
          have hv : hV (some m) = (m : Int) := rfl
          rw [hv] at l2 ⊢
          rw [Rc_loop]
          simp [m6_2, hin, ld_at hB, hat, hz5, wt, htI, hld, wd, wr, e12, est, e15, l2, w]
theorem lockAgents {H : MH} {v : Value} {xs : List Int} (hr : Row 1 H v (u8s xs)) (hx : ∀ x ∈ xs, 0 ≤ x ∧ x < 256) : ∃ H', R mpLk 6 [v] H = some (.bool true, H') := by
  obtain ⟨a, n, cc, rfl, _⟩ := hr.slice
  refine isTrue_ex ?_
  have hn := hr.u8n
  subst hn
  rw [R_code (fn := m6) rfl]
  by_cases h30 : xs.length ≤ 30
  · obtain ⟨v, H1, l, s, L, c0, c1, H2, F2, e1, e2, p2, x2, g2, cs, hch, _⟩ := crowd_new (H := H) (p := 2) (c := 1) (by omega) (by omega)
    have x3 : Ext H2 (H2 ++ [.cells ⟨1, true, false⟩ (barr [])]) := ⟨_, rfl⟩
    have hlt := LkS.good.lt p2
    have hS : Sep (GL2 l s L ⟨0, [], [c0, c1]⟩ H2.length []) (H2 ++ [.cells ⟨1, true, false⟩ (barr [])]) (F2 ++ [H2.length]) := by
      refine (Sep.one (LkS.good.ext p2 x3)).app (Sep.one (P := Pt _ _ _) ⟨rfl, by simp⟩) (fun x hx hm => ?_)
      have := hlt x hx
      simp at hm; omega
    have hst : Stay 1 (.slice a xs.length cc) (u8s xs) (H2 ++ [.cells ⟨1, true, false⟩ (barr [])]) (F2 ++ [H2.length]) := by
      refine ⟨(x2.trans x3).row hr, fun b o n' c' e hm => ?_⟩
      have hb : b < H.length := by
        rcases hr with ⟨h1, _⟩ | ⟨b', o', m', d', j', cs', h1, _, h3, _⟩
        · rw [h1] at e; cases e
        · rw [h1] at e; cases e; exact (List.getElem?_eq_some_iff.1 h3).1
      rcases List.mem_append.1 hm with h | h
      · have := g2 b h; omega
      · simp at h; have := x2.len; omega
    have f0 : AgS ⟨0, [], [c0, c1]⟩ [] none := ⟨rfl, by simp, by simp, by simp, by simp, by simp, by simp⟩
    obtain ⟨hf, H', e3⟩ := ag_loop cs hx rfl h30 xs.length 0 _ _ ⟨0, [], [c0, c1]⟩ [] none (by omega) (by show (0 : Int) ≤ 0; omega) (by show (0 : Int) + (xs.length : Int) ≤ 1000; omega) (show [c0, c1].map (·.id) = L.chs from hch.symm) f0 (fun _ => rfl) hS hst
    have hb0 : barr [] = [.bool false, .bool false, .bool false, .bool false, .bool false, .bool false] := rfl
    have hv0 : hV none = -1 := rfl
    rw [hb0, hv0] at e3
    simp at e3
    have h30' : ¬ (30 : Int) < (xs.length : Int) := by omega
    simp [m6, knownL_R, h30', e1, e2, e3]
  · have h30' : (30 : Int) < (xs.length : Int) := by omega
    simp [m6, knownL_R, h30']
end
end Go.Mod

/- LockGates: the loop, the law. -/
import Derived.Test.YthpeamllfledkaaLhE
set_option linter.unusedVariables false
set_option linter.unusedSimpArgs false
namespace Go.Mod
open Classical

section
variable {l : Nat} {s : SetL} {L : Lay} {c : Nat}
theorem gt_loop (cs : CrowdS s 3 (c : Int)) (hc1 : 1 ≤ c) (hc3 : c ≤ 3) {oa : Option Addr} {on oc : Nat} {xs : List Int} (hx : ∀ x ∈ xs, 0 ≤ x ∧ x < 256) (hn : xs.length = on) (h30 : on ≤ 30) :
    ∀ (k i : Nat) (H : MH) (F : List Nat) (x : LS) (asked : List Nat) (aa : Option Addr) (ac : Nat) (last : Int), i + k = on → 0 ≤ x.cnt → x.cnt ≤ i → 0 ≤ last → last ≤ on → x.ts.map (·.id) = L.chs → GtS x asked c (min c asked.length) → Sep (HL l s L x (.slice aa asked.length ac) asked) H F → Stay 1 (.slice oa on oc) (u8s xs) H F →
    ∃ (aa' : Option Addr) (an' ac' : Nat) (last' : Int) (H' : MH), Rc mpLk (.loop m7_1) [(0, .slice oa on oc), (5, .int .i64 (c : Int)), (6, .pointer (some ⟨l, 0, none⟩)), (7, .slice aa asked.length ac), (8, .int .i64 last), (9, .int .i64 (i : Int))] H =
      some (.exit 0, [(0, .slice oa on oc), (5, .int .i64 (c : Int)), (6, .pointer (some ⟨l, 0, none⟩)), (7, .slice aa' an' ac'), (8, .int .i64 last'), (9, .int .i64 (on : Int)), (30, .bool false)], H') := by
  intro k
  induction k with
  | zero =>
    intro i H F x asked aa ac last hi h0 h1 l0 l1 hid f hS hr
    have : i = on := by omega
    subst this
    refine ⟨aa, asked.length, ac, last, H, ?_⟩
    rw [Rc_loop]
    simp [m7_1]
  | succ k ih =>
    intro i H F x asked aa ac last hi h0 h1 l0 l1 hid f hS hr
    have hin : i < on := by omega
    obtain ⟨y, hy⟩ : ∃ y, xs[i]? = some y := ⟨_, List.getElem?_eq_getElem (by omega)⟩
    obtain ⟨y0, y1⟩ := hx y (List.mem_of_getElem? hy)
    obtain ⟨ob, oo, oj, ocs, rfl, hB, hrow⟩ := Row.u8 hr.1 (by omega)
    have hat := hrow i y hy
    have w : IntKind.i64.wrap ((i : Int) + 1) = (i : Int) + 1 := wrap_i64 (by omega) (by omega)
    have hlen6 := f.len6
    -- behind a branch
    have next : ∀ (Hb : MH) (Fb : List Nat) (x' : LS) (asked' : List Nat) (m' : Nat) (aa' : Option Addr) (ac' : Nat), 0 ≤ x'.cnt → x'.cnt ≤ i → x'.ts.map (·.id) = L.chs → GtS x' asked' c m' → (m' = min c asked'.length ∨ m' + 1 = min c asked'.length) → Sep (HL l s L x' (.slice aa' asked'.length ac') asked') Hb Fb → Upd H F Hb Fb →
        (∀ (gv : Value) (H1 : MH) (last' : Int) (n : Nat), R mpLk 15 [.pointer (some ⟨l, 0, none⟩)] Hb = some (gv, H1) → 0 ≤ last' → last' ≤ on → n ≤ c → n ≤ 2 →
          (Rc mpLk (.loop m7_0) [(0, .slice (some ⟨ob, oo, none⟩) on oc), (5, .int .i64 (c : Int)), (6, .pointer (some ⟨l, 0, none⟩)), (7, .slice aa' asked'.length ac'), (8, .int .i64 last), (9, .int .i64 (i : Int)), (13, .int .i64 0), (14, .int .i64 0)] H1 =
            some (.exit 2, [(0, .slice (some ⟨ob, oo, none⟩) on oc), (5, .int .i64 (c : Int)), (6, .pointer (some ⟨l, 0, none⟩)), (7, .slice aa' asked'.length ac'), (8, .int .i64 last'), (9, .int .i64 (i : Int)), (13, .int .i64 (n : Int)), (14, .int .i64 (asked'.length : Int)), (98, .bool false)], H1)) →
          (∀ t r, asked' = t :: r → 1 ≤ n ∧ R mpLk 21 [.pointer (some ⟨l, 0, none⟩), .int .i64 (t : Int)] H1 = some (.bool true, H1) ∧ ∃ b o, aa' = some ⟨b, o, none⟩ ∧ mread (.ld none) [.pointer (some ⟨b, o, none⟩)] H1 = some (.int .i64 (t : Int))) →
          Rc mpLk (.loop m7_1) [(0, .slice (some ⟨ob, oo, none⟩) on oc), (5, .int .i64 (c : Int)), (6, .pointer (some ⟨l, 0, none⟩)), (7, .slice aa asked.length ac), (8, .int .i64 last), (9, .int .i64 (i : Int))] H = Rc mpLk (.loop m7_1) [(0, .slice (some ⟨ob, oo, none⟩) on oc), (5, .int .i64 (c : Int)), (6, .pointer (some ⟨l, 0, none⟩)), (7, .slice aa' asked'.length ac'), (8, .int .i64 last'), (9, .int .i64 ((i : Int) + 1))] H1) →
        ∃ (aa' : Option Addr) (an' ac' : Nat) (last' : Int) (H' : MH), Rc mpLk (.loop m7_1) [(0, .slice (some ⟨ob, oo, none⟩) on oc), (5, .int .i64 (c : Int)), (6, .pointer (some ⟨l, 0, none⟩)), (7, .slice aa asked.length ac), (8, .int .i64 last), (9, .int .i64 (i : Int))] H =
      some (.exit 0, [(0, .slice (some ⟨ob, oo, none⟩) on oc), (5, .int .i64 (c : Int)), (6, .pointer (some ⟨l, 0, none⟩)), (7, .slice aa' an' ac'), (8, .int .i64 last'), (9, .int .i64 (on : Int)), (30, .bool false)], H') := by
      intro Hb Fb x' asked' m' aa' ac' g0 g1 g2 g3 gm g4 g5 g6
      obtain ⟨gv, H1, F1, y', last', n, e1, p1, u1, f1, q0, q1, q2, b0, b1, n1, n2, e2, e3⟩ := gt_tail cs hc1 g2 g3 gm g0 (B := (on : Int)) (by omega) (by omega) l0 l1 (o := .slice (some ⟨ob, oo, none⟩) on oc) (i := (i : Int)) g4
      have st := g6 gv H1 last' n e1 b0 b1 n1 n2 e2 e3
      rw [st]
      have := ih (i + 1) H1 F1 y' asked' aa' ac' last' (by omega) q0 (by omega) b0 b1 q2 f1 p1 (hr.upd (g5.trans u1))
      simpa using this
    have wd : ∀ d : Int, 0 < d → IntKind.u8.wrap (y.tdiv d) = y.tdiv d := fun d hd => by
      have d0 : 0 ≤ y.tdiv d := Int.tdiv_nonneg y0 (by omega)
      have : y.tdiv d ≤ y := Int.tdiv_le_self _ y0
      exact Int.emod_eq_of_lt d0 (by show y.tdiv d < 256; omega)
    have wi : ∀ d : Int, 0 < d → IntKind.i64.wrap (y.tdiv d) = y.tdiv d := fun d hd => by
      have d0 : 0 ≤ y.tdiv d := Int.tdiv_nonneg y0 (by omega)
      have : y.tdiv d ≤ y := Int.tdiv_le_self _ y0
      exact wrap_i64 (by omega) (by omega)
    have hcl : ∀ a ∈ x.ak, ∃ tk, s.tasks[a.n]? = some tk ∧ tk.cluster = 0 := fun a ha => by
      obtain ⟨t, h1, h2, _⟩ := cs.at (f.ltA a ha); exact ⟨t, h1, h2⟩
    by_cases hz : y.tmod 4 = 0 ∧ asked ≠ []
    · obtain ⟨hz, hne⟩ := hz
      have hpos : 0 < asked.length := List.length_pos_iff.2 hne
      obtain ⟨kk, hkk⟩ : ∃ kk : Nat, (kk : Int) = (y.tdiv 4).tmod (min (asked.length : Int) (c : Int)) := ⟨((y.tdiv 4).tmod (min (asked.length : Int) (c : Int))).toNat, by
        have := Int.tmod_nonneg (min (asked.length : Int) (c : Int)) (Int.tdiv_nonneg y0 (by omega : (0 : Int) ≤ 4)); omega⟩
      have hklt : (kk : Int) < min (asked.length : Int) (c : Int) := by rw [hkk]; exact Int.tmod_lt_of_pos _ (by omega)
      have hkm : kk < min c asked.length := by omega
      have hka : kk < asked.length := by omega
      obtain ⟨t, ht⟩ : ∃ t, asked[kk]? = some t := ⟨_, List.getElem?_eq_getElem hka⟩
      obtain ⟨a, hfa, hain, f1, hbid⟩ := f.leave cs.proto hkm ht hcl
      obtain ⟨c0, c1, hts, hcc0, hcap⟩ := f.ts
      obtain ⟨_, H1, F1, p1, u1, e17⟩ := Sep.upd (ι := Unit) (k := 0) (P' := fun _ => LkS l s L ⟨x.cnt, dropA x.ak (t : Int), backT s a x.ts⟩) (C := fun _ H' => R mpLk 17 [.pointer (some ⟨l, 0, none⟩), .int .i64 (t : Int)] H = some (.int .i64 0, H')) (fun _ => LkS.good) HL.good hS rfl (fun A hA _ => by
        obtain ⟨H', F', e, p, u⟩ := R_leave_ok (mp := mpLk) rfl rfl rfl hA hfa f.uniq hid (fun _ _ => by
          obtain ⟨tk, h1, h2⟩ := hcl a (findA_mem hfa).1
          exact ⟨tk, c0, h1, by omega, by rw [hts, h2]; rfl, by omega⟩)
        exact ⟨(), H', F', p, u, e⟩)
      obtain ⟨A0, hO0, _⟩ := Sep.at_ (k := 1) hS rfl
      obtain ⟨b, o, j, cs', haa, hBb, hes, hatk⟩ := (Own.row hO0).at (k := kk) (by omega)
      subst haa
      have hlk : (linI asked)[kk]? = some (t : Int) := by unfold linI; rw [List.getElem?_map, ht]; rfl
      rw [i64s_get hlk] at hatk
      have p1 : Sep [LkS l s L ⟨x.cnt, dropA x.ak (t : Int), backT s a x.ts⟩, OwnA 1 (.slice (some ⟨b, o, none⟩) asked.length ac) (i64s (linI asked))] H1 F1 := p1
      obtain ⟨A1, hO1, _⟩ := Sep.at_ (k := 1) p1 rfl
      obtain ⟨a', c', s1, s2, v1, H2, H3, a2, n2, c2, G, ev, k1, k2, k3, k4, k5, k6, x6, g6, o1, o2, o3, bs2, os2, ns2, cs2, rfl⟩ := own_cut hO1 (linI_one _) (by rw [linI_len]; omega) (k := kk) (by rw [linI_len]; exact hka)
      injection ev with ev1 ev2 ev3
      subst ev1; subst ev3
      have hEr : (i64s (linI asked)).eraseIdx kk = i64s (linI (asked.eraseIdx kk)) := by simp [i64s, linI, List.eraseIdx_eq_take_drop_succ, List.map_take, List.map_drop]
      rw [hEr] at k6
      have hEl : (asked.eraseIdx kk).length = asked.length - 1 := List.length_eraseIdx_of_lt hka
      have hn2 : n2 = (asked.eraseIdx kk).length := by
        obtain ⟨a, n, c, e, hl⟩ := (Own.row k6).slice
        cases e; rw [linI_len] at hl; omega
      subst hn2
      obtain ⟨F3, p3, u3⟩ := star_swap (P := LkS l s L ⟨x.cnt, dropA x.ak (t : Int), backT s a x.ts⟩) (Q' := Sep [OwnA 1 (.slice a2 (asked.eraseIdx kk).length c2) (i64s (linI (asked.eraseIdx kk)))]) LkS.good p1 x6 (Sep.one k6) g6
      refine next H3 F3 ⟨x.cnt, dropA x.ak (t : Int), backT s a x.ts⟩ (asked.eraseIdx kk) (min c asked.length - 1) a2 c2 h0 h1 (by show (backT s a x.ts).map (·.id) = L.chs; rw [hbid]; exact hid) f1 (by rw [hEl]; omega) p3 (u1.trans u3) (fun gv H4 last' n e15 b0 b1 n1 n2 e2 e3 => ?_)
      rw [Rc_loop]
      have hmin0 : ¬ min (asked.length : Int) (c : Int) = 0 := by omega
      have hposI : (0 : Int) < (asked.length : Int) := by omega
      have wkk : IntKind.i64.wrap ((kk : Int) + 1) = (kk : Int) + 1 := wrap_i64 (by omega) (by omega)
      have hkI : (kk : Int) < (asked.length : Int) := by omega
      have hminc : ¬ min (c : Int) 2 < (n : Int) := by omega
      have hlast : ¬ (xs.length : Int) < last' := by omega
      have hlast2 : ¬ (on : Int) < last' := by omega
      have q4 := wi 4 (by omega)
      have q5 := wd 4 (by omega)
      cases her : asked.eraseIdx kk with
      | nil =>
        rw [her] at e2 k5
        simp at e2 k5
        simp [m7_1, hin, ld_at hB, hat, hz, hposI, hpos, hne, q4, q5, hmin0, ← hkk, hkI, ld_at hBb, hatk, e17, mdraw_full, k1, k2, k3, k4, k5, wkk, e15, e2, w, hminc, hlast2]
        done
      | cons t1 r1 =>
        obtain ⟨e31, e32, b1, o1', hb1, hld1⟩ := e3 t1 r1 her
        subst hb1
        rw [her] at e2 k5
        simp at e2 k5
        have hn0 : ¬ n = 0 := by omega
        have hp1 : (0 : Int) < (r1.length : Int) + 1 := by omega
        simp [m7_1, hin, ld_at hB, hat, hz, hposI, hpos, hne, q4, q5, hmin0, ← hkk, hkI, ld_at hBb, hatk, e17, mdraw_full, k1, k2, k3, k4, k5, wkk, e15, e2, w, hminc, hlast2, e32, hld1, hn0, hp1]
        done
    · have t0 := Int.tmod_nonneg (6 : Int) y0
      have t1 : y.tmod 6 < 6 := Int.tmod_lt_of_pos _ (by omega)
      obtain ⟨t, ht⟩ : ∃ t : Nat, (t : Int) = y.tmod 6 := ⟨(y.tmod 6).toNat, by omega⟩
      have ht6 : t < 6 := by omega
      have wt : IntKind.i64.wrap (y.tmod 6) = (t : Int) := by rw [← ht]; exact wrap_i64 (by omega) (by omega)
      have d0 : 0 ≤ y.tdiv 6 := Int.tdiv_nonneg y0 (by omega)
      have wd6 := wd 6 (by omega)
      have r0 := Int.tmod_nonneg (2 : Int) d0
      have r1 : (y.tdiv 6).tmod 2 < 2 := Int.tmod_lt_of_pos _ (by omega)
      have wr : IntKind.i64.wrap ((y.tdiv 6).tmod 2) = (y.tdiv 6).tmod 2 := wrap_i64 (by omega) (by omega)
      have hres : (y.tdiv 6).tmod 2 = 0 ∨ (y.tdiv 6).tmod 2 = 1 := by omega
      have hmin2 : ∀ n : Nat, n ≤ c → n ≤ 2 → ¬ min (c : Int) 2 < (n : Int) := fun n h1 h2 => by omega
      have hc0 : y.tmod 4 = 0 → asked = [] := fun h => Classical.byContradiction fun h' => hz ⟨h, h'⟩
      by_cases hm : t ∈ asked
      · have hfs : (findA x.ak (t : Int)).isSome = true := f.find.2 hm
        obtain ⟨A0, hA0, _⟩ := Sep.at_ (k := 0) hS rfl
        have hno : ¬ (((t : Nat) : Int) < 0 ∨ (s.tasks.length : Int) ≤ ((t : Nat) : Int)) := by rw [cs.len]; omega
        have hno2 : ¬ ((y.tdiv 6).tmod 2 < 0 ∨ (s.homes.length : Int) ≤ (y.tdiv 6).tmod 2) := by rw [cs.homes]; show ¬ (_ ∨ (2 : Int) ≤ _); omega
        have e12 := (R_ask_no (mp := mpLk) rfl (LkV.of hA0) (n := (t : Int)) (res := (y.tdiv 6).tmod 2)).2.2 hno hno2 hfs
        have hz4 : ¬ y.tmod 4 = 0 := fun h => by rw [hc0 h] at hm; cases hm
        refine next H F x asked (min c asked.length) aa ac h0 h1 hid f (.inl rfl) hS (Upd.refl _ _) (fun gv H4 last' n e15 b0 b1 n1 n2 e2 e3 => ?_)
        rw [Rc_loop]
        have hlast2 : ¬ (on : Int) < last' := by omega
        have hminc := hmin2 n n1 n2
        obtain ⟨u1, s1, rfl⟩ : ∃ u1 s1, asked = u1 :: s1 := by
          cases asked with
          | nil => cases hm
          | cons a b => exact ⟨a, b, rfl⟩
        obtain ⟨e31, e32, b1, o1', hb1, hld1⟩ := e3 u1 s1 rfl
        subst hb1
        have hn0 : ¬ n = 0 := by omega
        have hp1 : (0 : Int) < (s1.length : Int) + 1 := by omega
        simp at e2
        simp [m7_1, hin, ld_at hB, hat, hz4, wt, wd6, wr, e12, mdraw_full, e15, e2, w, hminc, hlast2, e32, hld1, hn0, hp1]
        done
      · have hnone : findA x.ak (t : Int) = none := by
          cases hfa : findA x.ak (t : Int) with
          | none => rfl
          | some a => exact absurd (f.find.1 (by rw [hfa]; rfl)) hm
        obtain ⟨p, H1, F1, p1, u1, e12⟩ := Sep.upd (ι := Nat) (k := 0) (P' := fun p => LkS l s L ⟨newCnt s x.cnt, x.ak ++ [newA s x.cnt t ((y.tdiv 6).tmod 2) p], x.ts⟩) (C := fun _ H' => R mpLk 12 [.pointer (some ⟨l, 0, none⟩), .int .i64 (t : Int), .int .i64 ((y.tdiv 6).tmod 2)] H = some (.int .i64 0, H')) (fun _ => LkS.good) HL.good hS rfl (fun A hA _ => by
          obtain ⟨H', F', p, e, q, u⟩ := R_ask_ok (mp := mpLk) rfl rfl hA (n := t) (res := (y.tdiv 6).tmod 2) (by rw [cs.len]; exact ht6) r0 (by rw [cs.homes]; show _ < (2 : Int); omega) hnone (by rw [f.len]; omega) h0 (by omega)
          exact ⟨p, H', F', q, u, e⟩)
        have p1 : Sep (HL l s L ⟨newCnt s x.cnt, x.ak ++ [newA s x.cnt t ((y.tdiv 6).tmod 2) p], x.ts⟩ (.slice aa asked.length ac) asked) H1 F1 := p1
        have hC : newCnt s x.cnt = x.cnt := by simp [newCnt, cs.proto]
        obtain ⟨v2, H2, F2, p2, u2, epu, a2, n2, c2, rfl⟩ := Sep.upd (ι := Value) (k := 1) (P' := fun v => OwnA 1 v (i64s (linI (asked ++ [t])))) (C := fun v H' => meff (.app 1 8) [.slice aa asked.length ac, .slice (some ⟨H1.length, 0, none⟩) 1 1] (H1 ++ [.cells ⟨1, true, true⟩ [.int .i64 (t : Int)]]) = some (v, H') ∧ ∃ a n c, v = .slice a n c) (fun _ => OwnA.good) HL.good p1 rfl (fun A hA _ => by
          obtain ⟨a, n, c, H', F', e, o, u⟩ := own_push1 (xs := [.int .i64 (t : Int)]) (bytes := 8) hA (linI_one _) rfl rfl (by omega) (by rw [linI_len]; omega) (by omega)
          refine ⟨.slice a n c, H', F', ?_, u, e, a, n, c, rfl⟩
          have : i64s (linI (asked ++ [t])) = i64s (linI asked) ++ [.int .i64 (t : Int)] := by simp [i64s, linI]
          rw [this]; exact o)
        have p2 : Sep (HL l s L ⟨newCnt s x.cnt, x.ak ++ [newA s x.cnt t ((y.tdiv 6).tmod 2) p], x.ts⟩ (.slice a2 n2 c2) (asked ++ [t])) H2 F2 := p2
        have hn2 : n2 = (asked ++ [t]).length := by
          obtain ⟨A0, hO0, _⟩ := Sep.at_ (k := 1) p2 rfl
          obtain ⟨a, n, c, e, hl⟩ := (Own.row hO0).slice
          cases e; rw [linI_len] at hl; omega
        subst hn2
        have hll : (asked ++ [t]).length = asked.length + 1 := by simp
        refine next H2 F2 ⟨newCnt s x.cnt, x.ak ++ [newA s x.cnt t ((y.tdiv 6).tmod 2) p], x.ts⟩ (asked ++ [t]) (min c asked.length) a2 c2 (by show 0 ≤ newCnt s x.cnt; omega) (by show newCnt s x.cnt ≤ _; omega) hid (f.ask cs.proto ht6 hm hres) (by rw [hll]; omega) p2 (u1.trans u2) (fun gv H4 last' n e15 b0 b1 n1 n2 e2 e3 => ?_)
        rw [Rc_loop]
        have hlast2 : ¬ (on : Int) < last' := by omega
        have hminc := hmin2 n n1 n2
        obtain ⟨v1, s1, hvr⟩ : ∃ v1 s1, asked ++ [t] = v1 :: s1 := by
          cases asked with
          | nil => exact ⟨_, _, rfl⟩
          | cons a b => exact ⟨a, b ++ [t], rfl⟩
        obtain ⟨e31, e32, b1, o1', hb1, hld1⟩ := e3 v1 s1 hvr
        subst hb1
        have hn0 : ¬ n = 0 := by omega
        have hp1 : (0 : Int) < (asked.length : Int) + 1 := by omega
        rw [hll] at e2 epu ⊢
        simp at e2 epu ⊢
        by_cases hz4 : y.tmod 4 = 0
        · have hle : asked = [] := hc0 hz4
          subst hle
          simp at e2 epu ⊢
          simp [m7_1, hin, ld_at hB, hat, hz4, wt, wd6, wr, e12, epu, mdraw_full, e15, e2, w, hminc, hlast2, e32, hld1, hn0]
          done
        · simp [m7_1, hin, ld_at hB, hat, hz4, wt, wd6, wr, e12, epu, mdraw_full, e15, e2, w, hminc, hlast2, e32, hld1, hn0, hp1]
          done
theorem lockGates {H : MH} {v : Value} {xs : List Int} {z : Int} (hr : Row 1 H v (u8s xs)) (hx : ∀ x ∈ xs, 0 ≤ x ∧ x < 256) (hz : 0 ≤ z ∧ z < 256) : ∃ H', R mpLk 7 [v, .int .u8 z] H = some (.bool true, H') := by
  obtain ⟨a, n, cc, rfl, _⟩ := hr.slice
  refine isTrue_ex ?_
  have hn := hr.u8n
  subst hn
  rw [R_code (fn := m7) rfl]
  by_cases h30 : xs.length ≤ 30
  · have z0 := Int.tmod_nonneg (3 : Int) hz.1
    have z1 : z.tmod 3 < 3 := Int.tmod_lt_of_pos _ (by omega)
    obtain ⟨c, hc⟩ : ∃ c : Nat, (c : Int) = z.tmod 3 + 1 := ⟨(z.tmod 3 + 1).toNat, by omega⟩
    have wz : IntKind.i64.wrap (z.tmod 3) = z.tmod 3 := wrap_i64 (by omega) (by omega)
    have wc : IntKind.i64.wrap (z.tmod 3 + 1) = (c : Int) := by rw [hc]; exact wrap_i64 (by omega) (by omega)
    obtain ⟨v, H1, l, s, L, c0, c1, H2, F2, e1, e2, p2, x2, g2, cs, hch, k0, k1, k2, k3⟩ := crowd_new (H := H) (p := 3) (c := (c : Int)) (by omega) (by omega)
    have hlt := LkS.good.lt p2
    have hS : Sep (HL l s L ⟨0, [], [c0, c1]⟩ (.slice none 0 0) []) H2 (F2 ++ []) := by
      refine (Sep.one p2).app (Sep.one (P := OwnA _ _ _) (.inl ⟨rfl, rfl, rfl⟩)) (fun x hx hm => ?_)
      cases hm
    rw [List.append_nil] at hS
    have hst : Stay 1 (.slice a xs.length cc) (u8s xs) H2 F2 := by
      refine ⟨x2.row hr, fun b o n' c' e hm => ?_⟩
      have hb : b < H.length := by
        rcases hr with ⟨h1, _⟩ | ⟨b', o', m', d', j', cs', h1, _, h3, _⟩
        · rw [h1] at e; cases e
        · rw [h1] at e; cases e; exact (List.getElem?_eq_some_iff.1 h3).1
      have := g2 b hm; omega
    have f0 : GtS ⟨0, [], [c0, c1]⟩ [] c (min c ([] : List Nat).length) := ⟨rfl, by simp, by simp, by simp, by simp, by simp, by simp, by simp, ⟨c0, c1, rfl, by simpa using k1, by omega⟩, by simp⟩
    obtain ⟨aa', an', ac', last', H', e3⟩ := gt_loop cs (by omega) (by omega) hx rfl h30 xs.length 0 _ _ ⟨0, [], [c0, c1]⟩ [] none 0 0 (by omega) (by show (0 : Int) ≤ 0; omega) (by show (0 : Int) ≤ ((0 : Nat) : Int); omega) (by omega) (by omega) (show [c0, c1].map (·.id) = L.chs from hch.symm) f0 hS hst
    simp at e3
    have h30' : ¬ (30 : Int) < (xs.length : Int) := by omega
    simp [m7, knownL_R, h30', wz, wc, e1, e2, e3]
  · have h30' : (30 : Int) < (xs.length : Int) := by omega
    simp [m7, knownL_R, h30']
end
end Go.Mod

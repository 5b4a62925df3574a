/- Who holds: Grant. -/
import Derived.Test.YthpeamllfledkaaLkY
set_option linter.unusedVariables false
set_option linter.unusedSimpArgs false
namespace Go.Mod

def sortI (xs : List Int) : List Int := xs.mergeSort fun a b => decide (a ≤ b)
theorem sortI_perm (xs : List Int) : (sortI xs).Perm xs := List.mergeSort_perm ..
theorem sortI_sorted (xs : List Int) : Sorted (sortI xs) := by
  have := List.pairwise_mergeSort (le := fun a b : Int => decide (a ≤ b)) (fun a b c h1 h2 => by simp at *; omega) (fun a b => by simp; omega) xs
  exact this.imp fun h => by simpa using h
theorem sortI_eq {xs D : List Int} (h1 : Sorted D) (h2 : D.Perm xs) : D = sortI xs := sorted_uniq h1 (sortI_sorted xs) (h2.trans (sortI_perm xs).symm)

theorem selF_sub {s : SetL} : ∀ (wa : List Ask) (ts : List Chn) (xs : List Int), ∃ ys, (selF s ts xs wa).2 = xs ++ ys ∧ ys.Sublist (wa.map fun a => (a.n : Int))
  | [], ts, xs => ⟨[], by simp [selF], by simp⟩
  | a :: wa, ts, xs => by
    simp only [selF]
    have skip : ∀ ts', ∃ ys, (selF s ts' xs wa).2 = xs ++ ys ∧ ys.Sublist ((a :: wa).map fun a => (a.n : Int)) := fun ts' => by
      obtain ⟨ys, h1, h2⟩ := selF_sub wa ts' xs
      exact ⟨ys, h1, h2.cons _⟩
    split
    · exact skip _
    · split
      · exact skip _
      · split
        · exact skip _
        · split
          · obtain ⟨ys, h1, h2⟩ := selF_sub wa (ts.set _ _) (xs ++ [(a.n : Int)])
            exact ⟨(a.n : Int) :: ys, by rw [h1]; simp, h2.cons_cons _⟩
          · exact skip _
theorem selF_mem {s : SetL} {ts : List Chn} {ak : List Ask} : ∀ n ∈ (selF s ts [] (waitA ak)).2, ∃ a ∈ ak, (a.n : Int) = n := fun n hn => by
  obtain ⟨ys, h1, h2⟩ := selF_sub (s := s) (waitA ak) ts []
  rw [h1] at hn
  obtain ⟨a, ha, e⟩ := List.mem_map.1 (h2.subset (by simpa using hn))
  exact ⟨a, (List.mem_filter.1 ha).1, e⟩
theorem selF_len {s : SetL} {ts : List Chn} {ak : List Ask} : (selF s ts [] (waitA ak)).2.length ≤ ak.length := by
  obtain ⟨ys, h1, h2⟩ := selF_sub (s := s) (waitA ak) ts []
  have h3 := h2.length_le
  have h4 : (waitA ak).length ≤ ak.length := List.length_filter_le _ _
  rw [h1]
  simp at h3 ⊢; omega
theorem selF_ids {s : SetL} : ∀ (wa : List Ask) (ts : List Chn) (xs : List Int), (selF s ts xs wa).1.map (·.id) = ts.map (·.id)
  | [], ts, xs => rfl
  | a :: wa, ts, xs => by
    simp only [selF]
    split
    · exact selF_ids wa _ _
    · split
      · exact selF_ids wa _ _
      · split
        · exact selF_ids wa _ _
        · rename_i c hc
          split
          · rw [selF_ids wa _ _, List.map_set]
            apply List.ext_getElem?
            intro q
            obtain ⟨hl, hc'⟩ := List.getElem?_eq_some_iff.1 hc
            by_cases hq : (‹TaskL›).cluster.toNat = q
            · subst hq
              rw [List.getElem?_set_self (by simpa using hl), List.getElem?_map, hc]; rfl
            · rw [List.getElem?_set_ne hq]
          · exact selF_ids wa _ _
theorem putF_n : ∀ (ids : List Int) (cnt : Int) (ak : List Ask), (putF cnt ak ids).2.map (·.n) = ak.map (·.n)
  | [], cnt, ak => rfl
  | n :: t, cnt, ak => by
    simp only [putF]
    rw [putF_n t]; exact updA_n fun _ => rfl
theorem updA_all {P : Ask → Prop} {f : Ask → Ask} (hf : ∀ a, P a → P (f a)) {ak : List Ask} {n : Int} (h : ∀ a ∈ ak, P a) : ∀ a ∈ updA ak n f, P a := by
  intro a ha
  obtain ⟨b, hb, rfl⟩ := List.mem_map.1 ha
  show P (if (b.n : Int) = n then f b else b)
  split
  · exact hf b (h b hb)
  · exact h b hb
theorem putF_all {P : Ask → Prop} (hP : ∀ p a, P a → P (inA p a)) : ∀ (ids : List Int) (cnt : Int) (ak : List Ask), (∀ a ∈ ak, P a) → ∀ a ∈ (putF cnt ak ids).2, P a
  | [], cnt, ak, h => h
  | n :: t, cnt, ak, h => by
    simp only [putF]
    exact putF_all hP t _ _ (updA_all (hP _) h)
theorem putF_cnt : ∀ (ids : List Int) (cnt : Int) (ak : List Ask), (putF cnt ak ids).1 = cnt + ids.length
  | [], cnt, ak => by simp [putF]
  | n :: t, cnt, ak => by simp only [putF]; rw [putF_cnt t]; simp; omega
theorem giveF_n {free : List Ask → Int → Bool} : ∀ (ids : List Int) (ak : List Ask), (giveF free ak ids).map (·.n) = ak.map (·.n)
  | [], ak => rfl
  | n :: t, ak => by simp only [giveF]; rw [giveF_n t, giveOne_n]
theorem giveF_all {free : List Ask → Int → Bool} {P : Ask → Prop} (hP : ∀ a, P a → P { a with holds := true }) : ∀ (ids : List Int) (ak : List Ask), (∀ a ∈ ak, P a) → ∀ a ∈ giveF free ak ids, P a
  | [], ak, h => h
  | n :: t, ak, h => by simp only [giveF]; exact giveF_all hP t _ (giveOne_res hP h)
def tellA (a : Ask) : Ask := { a with told := true }
def tellF : List Ask → List Int → Nat → Nat → List Ask × List Int
  | ak, out, _, 0 => (ak, out)
  | ak, out, i, k + 1 => match findA ak (i : Int) with
    | some a => if a.holds && !a.told then tellF (updA ak (i : Int) tellA) (out ++ [(i : Int)]) (i + 1) k else tellF ak out (i + 1) k
    | none => tellF ak out (i + 1) k
def prioK (s : SetL) (a : Ask) : Int := match s.tasks[a.n]? with
  | some t => t.prio
  | none => 0
structure LS where
  cnt : Int
  ak : List Ask
  ts : List Chn
def letsF (s : SetL) (x : LS) : LS := ⟨(putF x.cnt x.ak (sortI (selF s x.ts [] (waitA x.ak)).2)).1, (putF x.cnt x.ak (sortI (selF s x.ts [] (waitA x.ak)).2)).2, (selF s x.ts [] (waitA x.ak)).1⟩
def givesF (s : SetL) (key : Ask → Int) (x : LS) : LS := { x with ak := giveF (freeF s) x.ak (idsR (rankG key [] (waitA x.ak))) }
def grant0 (s : SetL) (x : LS) : LS := if s.proto = 2 then givesF s (prioK s) x else givesF s (·.place) (letsF s x)
def grantF (s : SetL) (x : LS) : LS := { grant0 s x with ak := (tellF (grant0 s x).ak [] 0 s.tasks.length).1 }
def grantO (s : SetL) (x : LS) : List Int := (tellF (grant0 s x).ak [] 0 s.tasks.length).2
/-- What is so of every state. -/
structure LkOk (s : SetL) (L : Lay) (x : LS) : Prop where
  uniq : uniqA x.ak
  len : x.ak.length ≤ 12
  n : ∀ a ∈ x.ak, a.n < s.tasks.length
  res : ∀ a ∈ x.ak, 0 ≤ a.res ∧ a.res < (s.homes.length : Int)
  cnt0 : 0 ≤ x.cnt
  cnt1 : x.cnt < 1000000
  ids : x.ts.map (·.id) = L.chs
  nT : s.tasks.length ≤ 1000
  nH : s.homes.length ≤ 1000
  chs : ∀ a ∈ x.ak, a.isIn = false → ∃ t c, s.tasks[a.n]? = some t ∧ 0 ≤ t.cluster ∧ x.ts[t.cluster.toNat]? = some c
def LkS (l : Nat) (s : SetL) (L : Lay) (x : LS) : HP := LkA l s L x.cnt x.ak x.ts
theorem LkS.good {l : Nat} {s : SetL} {L : Lay} {x : LS} : Good (LkS l s L x) := LkA.good
section
variable {mp : FuncId → Option MDef} {H H0 H1 : MH} {F : List Nat} {l : Nat} {s : SetL} {L : Lay} {cnt : Int} {ak : List Ask} {ts : List Chn} {bx : Nat}
theorem tell_loop {N : Nat} (hN : N ≤ 1000) : ∀ (k i : Nat) (H : MH) (F : List Nat) (ak : List Ask) (out : List Int) (ia : Option Addr) (inn ic : Nat), i + k = N → out.length + k ≤ 2000 → uniqA ak → (LkA l s L cnt ak ts * OwnA 1 (.slice ia inn ic) (i64s out)) H F → Out bx (lB l) H F →
    ∃ (ia' : Option Addr) (inn' ic' : Nat) (H' : MH) (F' : List Nat), Rc mp (.loop m15_0) [(1, .pointer (some ⟨bx, 0, none⟩)), (5, .slice ia inn ic), (32, .int .i64 (N : Int)), (33, .int .i64 (i : Int))] H =
      some (.exit 1, [(1, .pointer (some ⟨bx, 0, none⟩)), (5, .slice ia' inn' ic'), (32, .int .i64 (N : Int)), (33, .int .i64 (N : Int)), (34, .bool false)], H') ∧
      (LkA l s L cnt (tellF ak out i k).1 ts * OwnA 1 (.slice ia' inn' ic') (i64s (tellF ak out i k).2)) H' F' ∧ Upd H F H' F' := by
  intro k
  induction k with
  | zero =>
    intro i H F ak out ia inn ic hi hxs hu hA ho
    have : i = N := by omega
    subst this
    refine ⟨ia, inn, ic, H, F, ?_, hA, Upd.refl _ _⟩
    rw [Rc_loop]
    simp [m15_0]
  | succ k ih =>
    intro i H F ak out ia inn ic hi hxs hu hA ho
    obtain ⟨A, hLk, _⟩ := star_l hA
    have V := LkV.of hLk
    have hloc := ld_at V.loc
    simp only [lkC] at hloc
    have hl := mlook_ent (i : Int) ak
    have hin : (i : Int) < (N : Int) := by omega
    have hiN : i < N := by omega
    have w : IntKind.i64.wrap ((i : Int) + 1) = (i : Int) + 1 := wrap_i64 (by omega) (by omega)
    have hbo := ld_at ho.1
    simp only [tellF]
    have next : ∀ (out' : List Int) (H1 : MH) (F1 : List Nat) (ak' : List Ask) (ia1 : Option Addr) (inn1 ic1 : Nat), out'.length + k ≤ 2000 → uniqA ak' → (LkA l s L cnt ak' ts * OwnA 1 (.slice ia1 inn1 ic1) (i64s out')) H1 F1 → Upd H F H1 F1 →
        Rc mp (.loop m15_0) [(1, .pointer (some ⟨bx, 0, none⟩)), (5, .slice ia inn ic), (32, .int .i64 (N : Int)), (33, .int .i64 (i : Int))] H = Rc mp (.loop m15_0) [(1, .pointer (some ⟨bx, 0, none⟩)), (5, .slice ia1 inn1 ic1), (32, .int .i64 (N : Int)), (33, .int .i64 ((i : Int) + 1))] H1 →
        ∃ (ia' : Option Addr) (inn' ic' : Nat) (H' : MH) (F' : List Nat), Rc mp (.loop m15_0) [(1, .pointer (some ⟨bx, 0, none⟩)), (5, .slice ia inn ic), (32, .int .i64 (N : Int)), (33, .int .i64 (i : Int))] H =
      some (.exit 1, [(1, .pointer (some ⟨bx, 0, none⟩)), (5, .slice ia' inn' ic'), (32, .int .i64 (N : Int)), (33, .int .i64 (N : Int)), (34, .bool false)], H') ∧
      (LkA l s L cnt (tellF ak' out' (i + 1) k).1 ts * OwnA 1 (.slice ia' inn' ic') (i64s (tellF ak' out' (i + 1) k).2)) H' F' ∧ Upd H F H' F' := by
      intro out' H1 F1 ak' ia1 inn1 ic1 h1 h2 h3 h4 h5
      obtain ⟨ia', inn', ic', H', F', e1, p1, u1⟩ := ih (i + 1) H1 F1 ak' out' ia1 inn1 ic1 (by omega) h1 h2 h3 (ho.upd h4)
      exact ⟨ia', inn', ic', H', F', by rw [h5]; exact e1, p1, h4.trans u1⟩
    cases hfa : findA ak (i : Int) with
    | none =>
      rw [hfa] at hl
      refine next out H F ak ia inn ic (by omega) hu hA (Upd.refl _ _) ?_
      rw [Rc_loop]
      simp [m15_0, hiN, hbo, hloc, look_none V.map hl, w]
    | some a =>
      rw [hfa] at hl
      obtain ⟨hak, han⟩ := findA_mem hfa
      have hbx := ld_at (V.box a hak)
      simp only [askC] at hbx
      by_cases hh : a.holds = true
      · cases ht : a.told with
        | true =>
          simp only [hh, ht, Bool.not_true, Bool.and_false, Bool.false_eq_true, if_false]
          refine next out H F ak ia inn ic (by omega) hu hA (Upd.refl _ _) ?_
          rw [Rc_loop]
          simp [m15_0, hiN, hbo, hloc, look_some V.map hl, hbx, hh, ht, w]
        | false =>
          simp only [hh, ht, Bool.not_false, Bool.and_true, if_true]
          obtain ⟨q, hq, _⟩ := find_at hfa
          obtain ⟨_, H1, F1, p2, u2, e2⟩ := star_upd (ι := Unit) (P' := fun _ => LkA l s L cnt (updA ak (i : Int) tellA) ts) (C := fun _ H' => meff (.st 1) [.pointer (some ⟨a.p, 4, none⟩), .bool true] H = some (.tuple #[], H')) OwnA.good (fun _ => LkA.good) hA (fun A hA _ => by
            obtain ⟨H', F', e, p, u⟩ := lk_box hA hq (j := 4) (a' := tellA a) (v := .bool true) (by omega) rfl rfl rfl
            have hS := updA_set (f := tellA) hu hq han
            have hE := updA_ent (ak := ak) (n := (i : Int)) (f := tellA) (fun _ => rfl) (fun _ => rfl)
            have hW := waitL_upd (f := tellA) (fun _ => rfl) (fun _ => rfl) ak (i : Int)
            rw [← hS, ← hE, ← hW] at p
            exact ⟨(), H', F', p, u, e⟩)
          obtain ⟨q, H2, F2, p3, u3, e3⟩ := star_upd (ι := Option Addr × Nat × Nat) (P' := fun q => OwnA 1 (.slice q.1 q.2.1 q.2.2) (i64s (out ++ [(i : Int)]))) (C := fun q H' => meff (.app 1 8) [.slice ia inn ic, .slice (some ⟨H1.length, 0, none⟩) 1 1] (H1 ++ [.cells ⟨1, true, true⟩ [.int .i64 (i : Int)]]) = some (.slice q.1 q.2.1 q.2.2, H')) LkA.good (fun _ => OwnA.good) (star_comm p2) (fun A hA _ => by
            obtain ⟨a2, n2, c2, H2, G2, q1, q2, q3⟩ := own_push1 (es := 1) (bytes := 8) (xs := [.int .i64 (i : Int)]) hA (i64s_one _) rfl rfl (by omega) (by rw [i64s_len]; omega) (by omega)
            rw [i64s_snoc] at q2
            exact ⟨(a2, n2, c2), H2, G2, q2, q3, q1⟩)
          refine next _ H2 F2 _ q.1 q.2.1 q.2.2 (by simp; omega) (updA_uniq (fun _ => rfl) hu) (star_comm p3) (u2.trans u3) ?_
          rw [Rc_loop]
          simp [m15_0, hiN, hbo, hloc, look_some V.map hl, hbx, hh, ht, e2, e3, w]
      · have hh : a.holds = false := by simpa using hh
        simp only [hh, Bool.false_and, Bool.false_eq_true, if_false]
        refine next out H F ak ia inn ic (by omega) hu hA (Upd.refl _ _) ?_
        rw [Rc_loop]
        simp [m15_0, hiN, hbo, hloc, look_some V.map hl, hbx, hh, w]
/-- The program's functions, by their numbers. -/
structure LkP (mp : FuncId → Option MDef) : Prop where
  f10 : mp 10 = some (.code m10)
  f12 : mp 12 = some (.code m12)
  f15 : mp 15 = some (.code m15)
  f17 : mp 17 = some (.code m17)
  f21 : mp 21 = some (.code m21)
  f24 : mp 24 = some (.code m24)
  f25 : mp 25 = some (.code m25)
  f26 : mp 26 = some (.code m26)
  f28 : mp 28 = some (.code m28)
  f30 : mp 30 = some (.code m30)
  f31 : mp 31 = some (.code m31)
  f33 : mp 33 = some (.code m33)
  f34 : mp 34 = some (.code m34)
  f35 : mp 35 = some (.code m35)
  f36 : mp 36 = some (.code m36)
  f37 : mp 37 = some (.code m37)
  f38 : mp 38 = some (.code m38)
  f39 : mp 39 = some (.code m39)
  f42 : mp 42 = some (.code m42)
  f49 : mp 49 = some (.code m49)
  f50 : mp 50 = some (.code m50)
  f55 : mp 55 = some (.code m55)
  f56 : mp 56 = some (.code m56)
  f57 : mp 57 = some (.code m57)
  f58 : mp 58 = some (.code m58)
  f59 : mp 59 = some (.code m59)
  f60 : mp 60 = some (.code m60)
  f63 : mp 63 = some (.code m63)
  f66 : mp 66 = some (.code m66)
  f67 : mp 67 = some (.code m67)
  f75 : mp 75 = some (.intr (insertS 2))
  f78 : mp 78 = some (.code m78)
  f84 : mp 84 = some (.code m84)
  f88 : mp 88 = some (.code m88)
  f98 : mp 98 = some (.code m98)
theorem lk_grantS (P : LkP mp) {x : LS} (h : LkS l s L x H F) (ok : LkOk s L x) :
    ∃ (v : Value) (H' : MH) (F' : List Nat), R mp 15 [.pointer (some ⟨l, 0, none⟩)] H = some (v, H') ∧ (LkS l s L (grantF s x) * OwnA 1 v (i64s (grantO s x))) H' F' ∧ Upd H F H' F' := by
  have x1 : Ext H (H ++ [lB l]) := ⟨_, rfl⟩
  have hlt := LkA.good.lt h
  have hA := LkA.good.ext h x1
  have ho : Out H.length (lB l) (H ++ [lB l]) F := ⟨by simp, fun hm => by have := hlt _ hm; omega⟩
  have V := LkV.of hA
  have hloc := ld_at V.loc
  simp only [lkC] at hloc
  have hbo := ld_at ho.1
  -- what is given
  have key : ∃ H1 F1, LkA l s L (grant0 s x).cnt (grant0 s x).ak (grant0 s x).ts H1 F1 ∧ Upd (H ++ [lB l]) F H1 F1 ∧ uniqA (grant0 s x).ak ∧
      (s.proto = 2 → R mp 35 [.pointer (some ⟨l, 0, none⟩), .func (.func 34) #[] #[.pointer (some ⟨H.length, 0, none⟩)], .func (.func 36) #[] #[.pointer (some ⟨H.length, 0, none⟩)]] (H ++ [lB l]) = some (.tuple #[], H1)) ∧
      (s.proto ≠ 2 → ∃ H2, R mp 38 [.pointer (some ⟨l, 0, none⟩)] (H ++ [lB l]) = some (.tuple #[], H2) ∧ H2[H.length]? = some (lB l) ∧ R mp 35 [.pointer (some ⟨l, 0, none⟩), .func (.func 33) #[] #[.pointer (some ⟨H.length, 0, none⟩)], .func (.func 39) #[] #[.pointer (some ⟨H.length, 0, none⟩)]] H2 = some (.tuple #[], H1)) := by
    by_cases hp : s.proto = 2
    · obtain ⟨H1, F1, e1, p1, u1⟩ := R_gives (mp := mp) (fk := 34) (ff := 36) (key := prioK s) (free := freeF s) P.f35 P.f58 P.f49 P.f55 P.f59 P.f75 P.f60 P.f42 P.f63 (fun H' V' hb a ha => by
        have hn := ok.n a ha
        have ht : s.tasks[a.n]? = some (s.tasks[a.n]) := List.getElem?_eq_getElem hn
        have := R_prio (mp := mp) P.f34 V' hb ht
        rw [this]; simp [prioK, ht]) (fun H' ak' V' hb res h0 h1 => R_free2 P.f36 P.f37 P.f24 P.f21 V' hb ok.nT ok.nH hp h0 h1) hA ho ok.uniq ok.len ok.res
      refine ⟨H1, F1, ?_, u1, ?_, fun _ => e1, fun h => absurd hp h⟩
      · simp only [grant0, hp, if_true, givesF]; exact p1
      · simp only [grant0, hp, if_true, givesF]; unfold uniqA; rw [giveF_n]; exact ok.uniq
    · obtain ⟨D, H2, F2, d1, d2, e2, p2, u2⟩ := R_lets (mp := mp) P.f38 P.f49 P.f55 P.f50 P.f66 P.f67 P.f88 P.f78 P.f84 P.f98 hA ok.uniq ok.len ok.cnt0 ok.cnt1 ok.ids (fun a ha hi => ok.chs a (List.mem_filter.1 ha).1 hi) selF_mem (Nat.le_trans selF_len ok.len)
      have hD := sortI_eq d1 d2
      subst hD
      have hu2 : uniqA (letsF s x).ak := by unfold uniqA letsF; simp only []; rw [putF_n]; exact ok.uniq
      have ho2 := ho.upd u2
      obtain ⟨H1, F1, e1, p1, u1⟩ := R_gives (mp := mp) (fk := 33) (ff := 39) (key := (·.place)) (free := freeF s) (cnt := (letsF s x).cnt) (ak := (letsF s x).ak) (ts := (letsF s x).ts) P.f35 P.f58 P.f49 P.f55 P.f59 P.f75 P.f60 P.f42 P.f63 (fun H' V' hb a ha => R_place (mp := mp) P.f33 V' hb hu2 ha) (fun H' ak' V' hb res h0 h1 => R_free1 P.f39 P.f24 P.f21 V' hb ok.nT hp) p2 ho2 hu2 (by
        have := congrArg List.length (putF_n (sortI (selF s x.ts [] (waitA x.ak)).2) x.cnt x.ak)
        rw [List.length_map, List.length_map] at this
        show (putF x.cnt x.ak (sortI (selF s x.ts [] (waitA x.ak)).2)).2.length ≤ 12
        rw [this]; exact ok.len) (putF_all (P := fun a => 0 ≤ a.res ∧ a.res < (s.homes.length : Int)) (fun _ _ h => h) _ _ _ ok.res)
      refine ⟨H1, F1, ?_, u2.trans u1, ?_, fun h => absurd h hp, fun _ => ⟨H2, e2, ho2.1, e1⟩⟩
      · simp only [grant0, hp, if_false, givesF]; exact p1
      · simp only [grant0, hp, if_false, givesF]; unfold uniqA; rw [giveF_n]; exact hu2
  obtain ⟨H1, F1, p1, u1, hu1, c1, c2⟩ := key
  have ho1 := ho.upd u1
  have V1 := LkV.of p1
  have hloc1 := ld_at V1.loc
  simp only [lkC] at hloc1
  have hbo1 := ld_at ho1.1
  obtain ⟨ia, inn, ic, H3, F3, e3, p3, u3⟩ := tell_loop (mp := mp) (bx := H.length) (N := s.tasks.length) ok.nT s.tasks.length 0 H1 F1 (grant0 s x).ak [] none 0 0 (by omega) (by simp; have := ok.nT; omega) hu1 ⟨F1, [], p1, .inl ⟨rfl, rfl, rfl⟩, by simp, by simp⟩ ho1
  refine ⟨.slice ia inn ic, H3, F3, ?_, p3, (Upd.ext (F := F) x1).trans (u1.trans u3)⟩
  simp at e3
  rw [R_code P.f15]
  by_cases hp : s.proto = 2
  · have c1 := c1 hp
    simp only [lB] at hloc hbo hloc1 hbo1 c1
    simp [m15, hbo, hloc, hp, c1, hbo1, hloc1, e3]
  · obtain ⟨H2, c3, c4, c5⟩ := c2 hp
    have hb2 := ld_at c4
    simp only [lB] at hloc hbo hloc1 hbo1 c3 c5 hb2
    simp [m15, hbo, hloc, hp, c3, hb2, c5, hbo1, hloc1, e3]
theorem lk_grant (P : LkP mp) {x : LS} (h : LkS l s L x H F) (ok : LkOk s L x) :
    ∃ (v : Value) (H' : MH) (F' : List Nat), R mp 15 [.pointer (some ⟨l, 0, none⟩)] H = some (v, H') ∧ LkS l s L (grantF s x) H' F' ∧ Upd H F H' F' ∧ Row 1 H' v (i64s (grantO s x)) := by
  obtain ⟨v, H', F', e, p, u⟩ := lk_grantS P h ok
  obtain ⟨A, hA3, hs3⟩ := star_l p
  obtain ⟨B, hB3, _⟩ := star_r p
  exact ⟨v, H', A, e, hA3, ⟨u.len, u.same, fun id hid => u.new id (hs3 id hid)⟩, Own.row hB3⟩
end
end Go.Mod

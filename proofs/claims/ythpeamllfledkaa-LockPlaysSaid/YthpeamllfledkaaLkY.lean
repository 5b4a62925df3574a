/- Who holds: who is let in; Grant. -/
import Derived.Test.YthpeamllfledkaaLkX
set_option linter.unusedVariables false
set_option linter.unusedSimpArgs false
namespace Go.Mod

/-- Who gets a token. -/
def selF (s : SetL) : List Chn → List Int → List Ask → List Chn × List Int
  | ts, xs, [] => (ts, xs)
  | ts, xs, a :: t => if a.isIn then selF s ts xs t else
    match s.tasks[a.n]? with
    | none => selF s ts xs t
    | some tk => match ts[tk.cluster.toNat]? with
      | none => selF s ts xs t
      | some c => if c.cnt < c.cap then selF s (ts.set tk.cluster.toNat { c with cnt := c.cnt + 1 }) (xs ++ [(a.n : Int)]) t else selF s ts xs t
def inA (p : Int) (a : Ask) : Ask := { a with place := p, isIn := true }
/-- Those that are let in, each with a place of its own. -/
def putF : Int → List Ask → List Int → Int × List Ask
  | cnt, ak, [] => (cnt, ak)
  | cnt, ak, n :: t => putF (cnt + 1) (updA ak n (inA (cnt + 1))) t
theorem waitL_upd {f : Ask → Ask} (hn : ∀ a, (f a).n = a.n) (hh : ∀ a, (f a).holds = a.holds) (ak : List Ask) (n : Int) : waitL (updA ak n f) = waitL ak := by
  unfold waitL updA
  rw [List.filter_map, List.map_map]
  have e : ((fun a : Ask => !a.holds) ∘ fun a : Ask => if (a.n : Int) = n then f a else a) = fun a : Ask => !a.holds := by
    funext a
    simp only [Function.comp]
    split
    · rw [hh]
    · rfl
  rw [e]
  apply List.map_congr_left
  intro a _
  simp only [Function.comp]
  split
  · rw [hn]
  · rfl
section
variable {mp : FuncId → Option MDef} {H H0 H1 : MH} {F : List Nat} {l : Nat} {s : SetL} {L : Lay} {es : List (Int × Value)} {cnt : Int} {wl : List Int} {bs ak : List Ask} {ts : List Chn} {bx : Nat}
theorem lets_in (hu : uniqA ak) {sa : Option Addr} {sn sc : Nat} (wa : List Ask) (hwa : ∀ a ∈ wa, a ∈ ak) (hn : sn = wa.length) (hwl : wa.length ≤ 12) :
    ∀ (k i : Nat) (H : MH) (F : List Nat) (ts : List Chn) (xs : List Int) (ia : Option Addr) (inn ic : Nat), i + k = wa.length → xs.length + k ≤ 20 → (LkA l s L cnt ak ts * OwnA 1 (.slice ia inn ic) (i64s xs)) H F → ts.map (·.id) = L.chs →
    (∀ a ∈ wa, a.isIn = false → ∃ t c, s.tasks[a.n]? = some t ∧ 0 ≤ t.cluster ∧ ts[t.cluster.toNat]? = some c) → Stay 1 (.slice sa sn sc) (wa.map fun a => Value.int .i64 (a.n : Int)) H F →
    ∃ (ia' : Option Addr) (inn' ic' : Nat) (H' : MH) (F' : List Nat), Rc mp (.loop m38_1) [(0, .pointer (some ⟨l, 0, none⟩)), (2, .slice ia inn ic), (11, .slice sa sn sc), (12, .int .i64 (sn : Int)), (13, .int .i64 (i : Int))] H =
      some (.exit 0, [(0, .pointer (some ⟨l, 0, none⟩)), (2, .slice ia' inn' ic'), (11, .slice sa sn sc), (12, .int .i64 (sn : Int)), (13, .int .i64 (sn : Int)), (14, .bool false)], H') ∧
      (LkA l s L cnt ak (selF s ts xs (wa.drop i)).1 * OwnA 1 (.slice ia' inn' ic') (i64s (selF s ts xs (wa.drop i)).2)) H' F' ∧ Upd H F H' F' := by
  intro k
  induction k with
  | zero =>
    intro i H F ts xs ia inn ic hi hxs hA hid hch hr
    have : i = sn := by omega
    subst this
    refine ⟨ia, inn, ic, H, F, ?_, by rw [hn, List.drop_length]; exact hA, Upd.refl _ _⟩
    rw [Rc_loop]
    simp [m38_1]
  | succ k ih =>
    intro i H F ts xs ia inn ic hi hxs hA hid hch hr
    have hil : i < wa.length := by omega
    obtain ⟨a, ha⟩ : ∃ a, wa[i]? = some a := ⟨_, List.getElem?_eq_getElem hil⟩
    have hdr : wa.drop i = a :: wa.drop (i + 1) := by rw [List.drop_eq_getElem_cons hil]; congr 1; exact (List.getElem?_eq_some_iff.1 ha).2
    have haw := List.mem_of_getElem? ha
    have hak := hwa a haw
    obtain ⟨A, hLk, _⟩ := star_l hA
    have V := LkV.of hLk
    have hloc := ld_at V.loc
    simp only [lkC] at hloc
    have hl := mlook_ent (a.n : Int) ak
    rw [uniq_find hu hak] at hl
    have hbx := ld_at (V.box a hak)
    simp only [askC] at hbx
    have hin : (i : Int) < (sn : Int) := by omega
    have w : IntKind.i64.wrap ((i : Int) + 1) = (i : Int) + 1 := wrap_i64 (by omega) (by omega)
    obtain ⟨b, o, j, cs, rfl, hB, hes, hat⟩ := hr.1.at (k := i) (by omega)
    rw [List.getElem?_map, ha] at hat
    simp at hat
    rw [hdr]
    simp only [selF]
    cases hI : a.isIn with
    | true =>
      obtain ⟨ia', inn', ic', H', F', e1, p1, u1⟩ := ih (i + 1) H F ts xs ia inn ic (by omega) (by omega) hA hid hch hr
      refine ⟨ia', inn', ic', H', F', ?_, by simpa using p1, u1⟩
      rw [Rc_loop]
      simp at e1
      simp [m38_1, hin, ld_at hB, hat, hloc, look_some V.map hl, hbx, hI, w, show i < sn by omega]
      exact e1
    | false =>
      obtain ⟨t, c, ht, hc0, hcc⟩ := hch a haw hI
      have hnl := (List.getElem?_eq_some_iff.1 ht).1
      have hrd := V.tasks.rd ht _ 4 (Ext.refl _) (by omega)
      simp only [taskC] at hrd
      have hchs : L.chs[t.cluster.toNat]? = some c.id := by rw [← hid, List.getElem?_map, hcc]; rfl
      have hcl := (List.getElem?_eq_some_iff.1 hchs).1
      have hrk := V.toks.rd1 hchs _ (Ext.refl _)
      simp only [chC] at hrk
      have i1 := V.tasks.ia s.tc .i64 (a.n : Int)
      rw [if_pos (by omega)] at i1
      simp at i1
      have i2 := V.toks.ia L.kc .i64 t.cluster
      rw [if_pos (by omega)] at i2
      simp at i2
      by_cases hroom : c.cnt < c.cap
      · obtain ⟨_, H1, F1, p2, u2, e2⟩ := star_upd (ι := Unit) (P' := fun _ => LkA l s L cnt ak (ts.set t.cluster.toNat { c with cnt := c.cnt + 1 })) (C := fun _ H' => meff (.sel1 true (.agg #[]) false) [.chan (some c.id), .agg #[]] H = some (.tuple #[.int .i64 0, .bool false], H')) OwnA.good (fun _ => LkA.good) hA (fun A hA _ => by
          obtain ⟨H', F', e, p, u⟩ := lk_room (z := .agg #[]) hA hcc hroom
          exact ⟨(), H', F', p, u, e⟩)
        obtain ⟨q, H2, F2, p3, u3, e3⟩ := star_upd (ι := Option Addr × Nat × Nat) (P' := fun q => OwnA 1 (.slice q.1 q.2.1 q.2.2) (i64s (xs ++ [(a.n : Int)]))) (C := fun q H' => meff (.app 1 8) [.slice ia inn ic, .slice (some ⟨H1.length, 0, none⟩) 1 1] (H1 ++ [.cells ⟨1, true, true⟩ [.int .i64 (a.n : Int)]]) = some (.slice q.1 q.2.1 q.2.2, H')) LkA.good (fun _ => OwnA.good) (star_comm p2) (fun A hA _ => by
          obtain ⟨a2, n2, c2, H2, G2, q1, q2, q3⟩ := own_push1 (es := 1) (bytes := 8) (xs := [.int .i64 (a.n : Int)]) hA (i64s_one _) rfl rfl (by omega) (by rw [i64s_len]; omega) (by omega)
          rw [i64s_snoc] at q2
          exact ⟨(a2, n2, c2), H2, G2, q2, q3, q1⟩)
        have u := u2.trans u3
        have hid' : (ts.set t.cluster.toNat { c with cnt := c.cnt + 1 }).map (·.id) = L.chs := by
          rw [List.map_set, hid]
          apply List.ext_getElem?
          intro q
          by_cases hq : t.cluster.toNat = q
          · subst hq; rw [List.getElem?_set_self hcl]; exact hchs.symm
          · rw [List.getElem?_set_ne hq]
        obtain ⟨ia', inn', ic', H', F', e1, p1, u1⟩ := ih (i + 1) H2 F2 _ (xs ++ [(a.n : Int)]) q.1 q.2.1 q.2.2 (by omega) (by simp; omega) (star_comm p3) hid' (fun a' ha' hI' => by
          obtain ⟨t', c', h1, h2, h3⟩ := hch a' ha' hI'
          by_cases hq : t.cluster.toNat = t'.cluster.toNat
          · exact ⟨t', _, h1, h2, by rw [← hq]; exact List.getElem?_set_self (List.getElem?_eq_some_iff.1 hcc).1⟩
          · exact ⟨t', c', h1, h2, by rw [List.getElem?_set_ne hq]; exact h3⟩) (hr.upd u)
        refine ⟨ia', inn', ic', H', F', ?_, by simpa [ht, hcc, hroom] using p1, u.trans u1⟩
        rw [Rc_loop]
        simp at e1
        simp [m38_1, hin, ld_at hB, hat, hloc, look_some V.map hl, hbx, hI, mdraw_plain, i1, hrd, i2, hrk, hnl, hc0, hcl, e2, e3, w, show i < sn by omega]
        exact e1
      · have hfull : meff (.sel1 true (.agg #[]) false) [.chan (some c.id), .agg #[]] H = some (.tuple #[.int .i64 (-1), .bool false], H) := lk_full hLk hcc hroom
        obtain ⟨ia', inn', ic', H', F', e1, p1, u1⟩ := ih (i + 1) H F ts xs ia inn ic (by omega) (by omega) hA hid hch hr
        refine ⟨ia', inn', ic', H', F', ?_, by simpa [ht, hcc, hroom] using p1, u1⟩
        rw [Rc_loop]
        simp at e1
        simp [m38_1, hin, ld_at hB, hat, hloc, look_some V.map hl, hbx, hI, mdraw_plain, i1, hrd, i2, hrk, hnl, hc0, hcl, hfull, w, show i < sn by omega]
        exact e1
theorem lets_put {sa : Option Addr} {sn sc : Nat} (ids : List Int) (hn : sn = ids.length) (hil : ids.length ≤ 100) :
    ∀ (k i : Nat) (H : MH) (F : List Nat) (cnt : Int) (ak : List Ask), i + k = ids.length → 0 ≤ cnt → cnt + k < 2000000 → uniqA ak → (∀ n ∈ ids, ∃ a ∈ ak, (a.n : Int) = n) → LkA l s L cnt ak ts H F → Stay 1 (.slice sa sn sc) (i64s ids) H F →
    ∃ H' F', Rc mp (.loop m38_0) [(0, .pointer (some ⟨l, 0, none⟩)), (52, .slice sa sn sc), (53, .int .i64 (sn : Int)), (54, .int .i64 (i : Int))] H =
      some (.exit 3, [(0, .pointer (some ⟨l, 0, none⟩)), (52, .slice sa sn sc), (53, .int .i64 (sn : Int)), (54, .int .i64 (sn : Int)), (55, .bool false)], H') ∧
      LkA l s L (putF cnt ak (ids.drop i)).1 (putF cnt ak (ids.drop i)).2 ts H' F' ∧ Upd H F H' F' := by
  intro k
  induction k with
  | zero =>
    intro i H F cnt ak hi hc0 hc hu hid hA hr
    have : i = sn := by omega
    subst this
    refine ⟨H, F, ?_, by rw [hn, List.drop_length]; exact hA, Upd.refl _ _⟩
    rw [Rc_loop]
    simp [m38_0]
  | succ k ih =>
    intro i H F cnt ak hi hc0 hc hu hid hA hr
    have hlt : i < ids.length := by omega
    obtain ⟨n, hnn⟩ : ∃ n, ids[i]? = some n := ⟨_, List.getElem?_eq_getElem hlt⟩
    have hdr : ids.drop i = n :: ids.drop (i + 1) := by rw [List.drop_eq_getElem_cons hlt]; congr 1; exact (List.getElem?_eq_some_iff.1 hnn).2
    obtain ⟨a, hak, han⟩ := hid n (List.mem_of_getElem? hnn)
    have hfa : findA ak n = some a := by rw [← han]; exact uniq_find hu hak
    have V := LkV.of hA
    have hloc := ld_at V.loc
    simp only [lkC] at hloc
    have hl := mlook_ent n ak
    rw [hfa] at hl
    have hin : (i : Int) < (sn : Int) := by omega
    have w : IntKind.i64.wrap ((i : Int) + 1) = (i : Int) + 1 := wrap_i64 (by omega) (by omega)
    have wc : IntKind.i64.wrap (cnt + 1) = cnt + 1 := wrap_i64 (by omega) (by omega)
    obtain ⟨b, o, j, cs, rfl, hB, hes, hat⟩ := hr.1.at (k := i) (by omega)
    rw [i64s_get hnn] at hat
    obtain ⟨q, hq, _⟩ := find_at hfa
    obtain ⟨H1, F1, e1, p1, u1⟩ := lk_cnt hA (cnt + 1)
    have V1 := LkV.of p1
    have hl1 := ld_at V1.loc
    simp only [lkC] at hl1
    obtain ⟨H2, F2, e2, p2, u2⟩ := lk_box p1 hq (j := 1) (a' := { a with place := cnt + 1 }) (v := .int .i64 (cnt + 1)) (by omega) rfl rfl rfl
    obtain ⟨H3, F3, e3, p3, u3⟩ := lk_box p2 (i := q) (j := 2) (a := { a with place := cnt + 1 }) (a' := inA (cnt + 1) a) (v := .bool true) (List.getElem?_set_self (List.getElem?_eq_some_iff.1 hq).1) (by omega) rfl rfl rfl
    rw [List.set_set] at p3
    have hS := updA_set (f := inA (cnt + 1)) hu hq han
    have hE := updA_ent (ak := ak) (n := n) (f := inA (cnt + 1)) (fun _ => rfl) (fun _ => rfl)
    have hW := waitL_upd (f := inA (cnt + 1)) (fun _ => rfl) (fun _ => rfl) ak n
    rw [← hS, ← hE, ← hW] at p3
    have u := (u1.trans u2).trans u3
    rw [hdr]
    simp only [putF]
    obtain ⟨H', F', e4, p4, u4⟩ := ih (i + 1) H3 F3 (cnt + 1) (updA ak n (inA (cnt + 1))) (by omega) (by omega) (by omega) (updA_uniq (fun _ => rfl) hu) (fun m hm => by
      obtain ⟨b, hb, e⟩ := hid m hm
      refine ⟨if (b.n : Int) = n then inA (cnt + 1) b else b, List.mem_map.2 ⟨b, hb, rfl⟩, ?_⟩
      split <;> exact e) p3 (hr.upd u)
    refine ⟨H', F', ?_, p4, u.trans u4⟩
    rw [Rc_loop]
    simp at e4
    simp [m38_0, hin, ld_at hB, hat, hloc, wc, e1, hl1, mdraw_plain, look_some V1.map hl, e2, e3, w, show i < sn by omega]
    exact e4
/-- Who is let in: the tokens, what there is behind. -/
theorem R_lets (hf : mp 38 = some (.code m38)) (h49 : mp 49 = some (.code m49)) (h55 : mp 55 = some (.code m55)) (h50 : mp 50 = some (.code m50)) (h66 : mp 66 = some (.code m66)) (h67 : mp 67 = some (.code m67)) (h88 : mp 88 = some (.code m88)) (h78 : mp 78 = some (.code m78)) (h84 : mp 84 = some (.code m84)) (h98 : mp 98 = some (.code m98))
    (h : LkA l s L cnt ak ts H F) (hu : uniqA ak) (hlen : ak.length ≤ 12) (hc0 : 0 ≤ cnt) (hc : cnt < 1000000) (hid : ts.map (·.id) = L.chs)
    (hch : ∀ a ∈ waitA ak, a.isIn = false → ∃ t c, s.tasks[a.n]? = some t ∧ 0 ≤ t.cluster ∧ ts[t.cluster.toNat]? = some c) (hsel : ∀ n ∈ (selF s ts [] (waitA ak)).2, ∃ a ∈ ak, (a.n : Int) = n) (hsl : (selF s ts [] (waitA ak)).2.length ≤ 12) :
    ∃ (D : List Int) (H' : MH) (F' : List Nat), Sorted D ∧ D.Perm (selF s ts [] (waitA ak)).2 ∧ R mp 38 [.pointer (some ⟨l, 0, none⟩)] H = some (.tuple #[], H') ∧
      LkA l s L (putF cnt ak D).1 (putF cnt ak D).2 (selF s ts [] (waitA ak)).1 H' F' ∧ Upd H F H' F' := by
  have V := LkV.of h
  have hloc := ld_at V.loc
  simp only [lkC] at hloc
  obtain ⟨lv, lfp, hline⟩ := V.line
  obtain ⟨v', X, fp', e2, hown, hrow, hfp, hblk, sa, sn, sc, rfl⟩ := R_all (mp := mp) h49 h55 hline
  have x2 : Ext H (H ++ X) := ⟨X, rfl⟩
  have hlt := LkA.good.lt h
  have hwl : (waitA ak).length ≤ 12 := Nat.le_trans (List.length_filter_le _ _) hlen
  have hsn : sn = (waitA ak).length := by
    obtain ⟨a, n, c, e, hl⟩ := hrow.slice
    cases e
    rw [waitA_vals, List.length_map] at hl; omega
  have hst : (LkA l s L cnt ak ts * OwnA 1 (.slice none 0 0) (i64s [])) (H ++ X) F := ⟨F, [], LkA.good.ext h x2, .inl ⟨rfl, rfl, rfl⟩, by simp, by simp⟩
  obtain ⟨ia, inn, ic, H3, F3, e3, p3, u3⟩ := lets_in (mp := mp) (l := l) (s := s) (L := L) (cnt := cnt) (ak := ak) hu (sa := sa) (sn := sn) (sc := sc) (waitA ak) (fun a ha => (List.mem_filter.1 ha).1) hsn hwl
    (waitA ak).length 0 (H ++ X) F ts [] none 0 0 (by omega) (by simp; omega) hst hid hch ⟨by rw [← waitA_vals]; exact hrow, fun b o n c e hm => by have := hblk b o n c e; have := hlt b hm; omega⟩
  rw [List.drop_zero] at p3
  obtain ⟨D, H4, F4, p4, u4, d1, d2, e4⟩ := star_upd (P' := fun D => OwnA 1 (.slice ia inn ic) (i64s D)) (C := fun D H' => Sorted D ∧ D.Perm (selF s ts [] (waitA ak)).2 ∧ R mp 50 [.slice ia inn ic] H3 = some (.tuple #[], H')) LkA.good (fun _ => OwnA.good) (star_comm p3) (fun A hA _ => by
    obtain ⟨D, H', d1, d2, d3, d4, d5, _⟩ := R_sort (mp := mp) (H := H3) (v := .slice ia inn ic) (fp := A) h50 h66 h67 h88 h78 h84 h98 hsl (.inl hA)
    exact ⟨D, H', A, d4 hA, Upd.of_fp d5 (fun _ _ h => h) fun _ h => .inl h, d1, d2, d3⟩)
  obtain ⟨A, B, hO, hL, hdis, hF⟩ := p4
  have hDl := d2.length_eq
  have hin : inn = D.length := by
    obtain ⟨a, n, c, e, hl⟩ := (Own.row hO).slice
    cases e
    rw [i64s_len] at hl; omega
  obtain ⟨H5, F5, e5, p5, u5⟩ := lets_put (mp := mp) (l := l) (s := s) (L := L) (ts := (selF s ts [] (waitA ak)).1) (sa := ia) (sn := inn) (sc := ic) D hin (by omega) D.length 0 H4 B cnt ak (by omega) hc0 (by omega) hu (fun n hn => hsel n (d2.subset hn)) hL ⟨Own.row hO, fun b o n c e hm => hdis b (Own.blk hO b o n c e) hm⟩
  rw [List.drop_zero] at p5
  refine ⟨D, H5, F5, d1, d2, ?_, p5, ((Upd.ext x2).trans u3).trans (u4.trans (u5.wide fun x hx => (hF x).2 (.inr hx)))⟩
  rw [R_code hf]
  simp at e3 e5
  simp [m38, hloc, e2, e3, e4, e5]
end
end Go.Mod

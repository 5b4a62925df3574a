/- Who holds: who is served, who is given what. -/
import Derived.Test.YthpeamllfledkaaLkU
set_option linter.unusedVariables false
set_option linter.unusedSimpArgs false
namespace Go.Mod

def lB (l : Nat) : MObj := .cells ⟨0, true, false⟩ [.pointer (some ⟨l, 0, none⟩)]
def servesF (ak : List Ask) (N : Nat) (cluster : Int) : Nat → List Int → Bool
  | _, [] => false
  | i, h :: t => ((holderF ak N (i : Int)).isSome && decide (h = cluster)) || servesF ak N cluster (i + 1) t
section
variable {mp : FuncId → Option MDef} {H H0 H1 : MH} {F : List Nat} {l : Nat} {s : SetL} {L : Lay} {es : List (Int × Value)} {cnt : Int} {wl : List Int} {bs ak : List Ask} {ts : List Chn} {bx : Nat}
theorem serves_loop (h24 : mp 24 = some (.code m24)) (h21 : mp 21 = some (.code m21)) (h : LkV H l s L (ak.map entC) cnt wl ak ts) (hN : s.tasks.length ≤ 1000) (hM : s.homes.length ≤ 1000) (cluster : Int) : ∀ (k i : Nat), i + k = s.homes.length →
    (servesF ak s.tasks.length cluster i (s.homes.drop i) = true → Rc mp (.loop m37_0) [(0, .pointer (some ⟨l, 0, none⟩)), (1, .int .i64 cluster), (13, .slice s.ha s.homes.length s.hc), (14, .int .i64 (s.homes.length : Int)), (15, .int .i64 (i : Int))] H = some (.ret, [(4, .bool true)], H)) ∧
    (servesF ak s.tasks.length cluster i (s.homes.drop i) = false → Rc mp (.loop m37_0) [(0, .pointer (some ⟨l, 0, none⟩)), (1, .int .i64 cluster), (13, .slice s.ha s.homes.length s.hc), (14, .int .i64 (s.homes.length : Int)), (15, .int .i64 (i : Int))] H = some (.exit 0, [(0, .pointer (some ⟨l, 0, none⟩)), (1, .int .i64 cluster), (13, .slice s.ha s.homes.length s.hc), (14, .int .i64 (s.homes.length : Int)), (15, .int .i64 (s.homes.length : Int)), (16, .bool false)], H)) := by
  intro k
  induction k with
  | zero =>
    intro i hi
    have : i = s.homes.length := by omega
    subst this
    refine ⟨fun hs => by simp [servesF] at hs, fun _ => ?_⟩
    rw [Rc_loop]
    simp [m37_0]
  | succ k ih =>
    intro i hi
    have hil : i < s.homes.length := by omega
    obtain ⟨y, hy⟩ : ∃ y, s.homes[i]? = some y := ⟨_, List.getElem?_eq_getElem hil⟩
    have hd : s.homes.drop i = y :: s.homes.drop (i + 1) := by rw [List.drop_eq_getElem_cons hil]; congr 1; exact (List.getElem?_eq_some_iff.1 hy).2
    have hin : (i : Int) < (s.homes.length : Int) := by omega
    have w : IntKind.i64.wrap ((i : Int) + 1) = (i : Int) + 1 := wrap_i64 (by omega) (by omega)
    obtain ⟨ih1, ih2⟩ := ih (i + 1) (by omega)
    have hh := R_holder (mp := mp) h24 h21 h hN (i : Int)
    have hia := h.homes.ia s.hc .i64 (i : Int)
    rw [if_pos (by omega)] at hia
    have hrd := h.homes.rd1 hy _ (Ext.refl _)
    simp only [intC] at hrd
    simp at hia
    rw [hd]
    simp only [servesF]
    unfold holderV at hh
    cases hx : holderF ak s.tasks.length (i : Int) with
    | none =>
      rw [hx] at hh
      have step : Rc mp (.loop m37_0) [(0, .pointer (some ⟨l, 0, none⟩)), (1, .int .i64 cluster), (13, .slice s.ha s.homes.length s.hc), (14, .int .i64 (s.homes.length : Int)), (15, .int .i64 (i : Int))] H = Rc mp (.loop m37_0) [(0, .pointer (some ⟨l, 0, none⟩)), (1, .int .i64 cluster), (13, .slice s.ha s.homes.length s.hc), (14, .int .i64 (s.homes.length : Int)), (15, .int .i64 ((i + 1 : Nat) : Int))] H := by
        rw [Rc_loop]
        simp at hh
        simp [m37_0, hin, hil, hia, hrd, hh, w]
      rw [step]
      refine ⟨fun hn => ih1 ?_, fun hn => ih2 ?_⟩ <;> simpa using hn
    | some n =>
      rw [hx] at hh
      simp at hh
      by_cases hc : y = cluster
      · refine ⟨fun _ => ?_, fun hn => by simp [hc] at hn⟩
        rw [Rc_loop]
        simp [m37_0, hin, hil, hia, hrd, hh, w, hc]
      · have step : Rc mp (.loop m37_0) [(0, .pointer (some ⟨l, 0, none⟩)), (1, .int .i64 cluster), (13, .slice s.ha s.homes.length s.hc), (14, .int .i64 (s.homes.length : Int)), (15, .int .i64 (i : Int))] H = Rc mp (.loop m37_0) [(0, .pointer (some ⟨l, 0, none⟩)), (1, .int .i64 cluster), (13, .slice s.ha s.homes.length s.hc), (14, .int .i64 (s.homes.length : Int)), (15, .int .i64 ((i + 1 : Nat) : Int))] H := by
          rw [Rc_loop]
          simp [m37_0, hin, hil, hia, hrd, hh, w, hc]
        rw [step]
        refine ⟨fun hn => ih1 ?_, fun hn => ih2 ?_⟩ <;> simpa [hc] using hn
theorem R_serves (hf : mp 37 = some (.code m37)) (h24 : mp 24 = some (.code m24)) (h21 : mp 21 = some (.code m21)) (h : LkV H l s L (ak.map entC) cnt wl ak ts) (hN : s.tasks.length ≤ 1000) (hM : s.homes.length ≤ 1000) (cluster : Int) :
    R mp 37 [.pointer (some ⟨l, 0, none⟩), .int .i64 cluster] H = some (.bool (servesF ak s.tasks.length cluster 0 s.homes), H) := by
  have hloc := ld_at h.loc
  simp only [lkC] at hloc
  obtain ⟨h1, h2⟩ := serves_loop (mp := mp) h24 h21 h hN hM cluster s.homes.length 0 (by omega)
  rw [List.drop_zero] at h1 h2
  rw [R_code hf]
  cases hx : servesF ak s.tasks.length cluster 0 s.homes with
  | false =>
    have h2 := h2 hx
    simp at h2
    simp [m37, hloc, h2]
  | true =>
    have h1 := h1 hx
    simp at h1
    simp [m37, hloc, h1]

/-! ### keys, what is free -/
theorem R_place (hf : mp 33 = some (.code m33)) (h : LkV H l s L (ak.map entC) cnt wl ak ts) (hb : H[bx]? = some (lB l)) (hu : uniqA ak) {a : Ask} (ha : a ∈ ak) : R mp 33 [.int .i64 (a.n : Int), .pointer (some ⟨bx, 0, none⟩)] H = some (.int .i64 a.place, H) := by
  have hloc := ld_at h.loc
  simp only [lkC] at hloc
  have hl := mlook_ent (a.n : Int) ak
  rw [uniq_find hu ha] at hl
  have hbx := ld_at (h.box a ha)
  simp only [askC] at hbx
  rw [R_code hf]
  simp [m33, ld_at hb, hloc, look_some h.map hl, hbx]
theorem R_prio (hf : mp 34 = some (.code m34)) (h : LkV H l s L (ak.map entC) cnt wl ak ts) (hb : H[bx]? = some (lB l)) {n : Nat} {t : TaskL} (ht : s.tasks[n]? = some t) : R mp 34 [.int .i64 (n : Int), .pointer (some ⟨bx, 0, none⟩)] H = some (.int .i64 t.prio, H) := by
  have hloc := ld_at h.loc
  simp only [lkC] at hloc
  have hrd := h.tasks.rd ht _ 3 (Ext.refl _) (by omega)
  simp only [taskC] at hrd
  have hnl := (List.getElem?_eq_some_iff.1 ht).1
  have i1 := h.tasks.ia s.tc .i64 (n : Int)
  rw [if_pos (by omega)] at i1
  simp at i1
  rw [R_code hf]
  simp [m34, ld_at hb, hloc, i1, hrd]
def freeF (s : SetL) (ak : List Ask) (res : Int) : Bool := if s.proto = 2 then !servesF ak s.tasks.length (s.homes.getD res.toNat 0) 0 s.homes else !(holderF ak s.tasks.length res).isSome
theorem R_free2 (hf : mp 36 = some (.code m36)) (h37 : mp 37 = some (.code m37)) (h24 : mp 24 = some (.code m24)) (h21 : mp 21 = some (.code m21)) (h : LkV H l s L (ak.map entC) cnt wl ak ts) (hb : H[bx]? = some (lB l)) (hN : s.tasks.length ≤ 1000) (hM : s.homes.length ≤ 1000) (hp : s.proto = 2) {res : Int} (h0 : 0 ≤ res) (h1 : res < (s.homes.length : Int)) :
    R mp 36 [.int .i64 res, .pointer (some ⟨bx, 0, none⟩)] H = some (.bool (freeF s ak res), H) := by
  have hloc := ld_at h.loc
  simp only [lkC] at hloc
  have hil : res.toNat < s.homes.length := by omega
  obtain ⟨y, hy⟩ : ∃ y, s.homes[res.toNat]? = some y := ⟨_, List.getElem?_eq_getElem hil⟩
  have hia := h.homes.ia s.hc .i64 res
  rw [if_pos ⟨h0, h1⟩] at hia
  simp at hia
  have hrd := h.homes.rd1 hy _ (Ext.refl _)
  simp only [intC] at hrd
  have hsv := R_serves (mp := mp) h37 h24 h21 h hN hM y
  have hF : freeF s ak res = !servesF ak s.tasks.length y 0 s.homes := by
    unfold freeF
    rw [if_pos hp, List.getD_eq_getElem?_getD, hy]; rfl
  rw [hF, R_code hf]
  simp [m36, mdraw_plain, ld_at hb, hloc, hia, hrd, hsv]
theorem R_free1 (hf : mp 39 = some (.code m39)) (h24 : mp 24 = some (.code m24)) (h21 : mp 21 = some (.code m21)) (h : LkV H l s L (ak.map entC) cnt wl ak ts) (hb : H[bx]? = some (lB l)) (hN : s.tasks.length ≤ 1000) (hp : s.proto ≠ 2) {res : Int} :
    R mp 39 [.int .i64 res, .pointer (some ⟨bx, 0, none⟩)] H = some (.bool (freeF s ak res), H) := by
  have hh := R_holder (mp := mp) h24 h21 h hN res
  unfold holderV at hh
  unfold freeF
  rw [if_neg hp, R_code hf]
  simp [m39, ld_at hb, hh]

/-! ### gives -/
def rankG (key : Ask → Int) : List (Int × Int) → List Ask → List (Int × Int)
  | ps, [] => ps
  | ps, a :: t => rankG key (if a.isIn then putAt ps (posR (key a) ps) (key a, (a.n : Int)) else ps) t
theorem gives_in {fk : FuncId} {key : Ask → Int} {fv : Value} (h59 : mp 59 = some (.code m59)) (h75 : mp 75 = some (.intr (insertS 2)))
    (hkey : ∀ H', LkV H' l s L (ak.map entC) cnt (waitL ak) ak ts → H'[bx]? = some (lB l) → ∀ a ∈ ak, R mp fk [.int .i64 (a.n : Int), .pointer (some ⟨bx, 0, none⟩)] H' = some (.int .i64 (key a), H'))
    (hu : uniqA ak) {r : Nat} {sa : Option Addr} {sn sc : Nat} (wa : List Ask) (hwa : ∀ a ∈ wa, a ∈ ak) (hn : sn = wa.length) (hwl : wa.length ≤ 12) :
    ∀ (k i : Nat) (H : MH) (F G : List Nat) (ps : List (Int × Int)), i + k = wa.length → ps.length + k ≤ 20 → LkA l s L cnt ak ts H F → RankA r ps 64 H G → (∀ x ∈ F, x ∉ G) → Out bx (lB l) H G → Stay 1 (.slice sa sn sc) (wa.map fun a => Value.int .i64 (a.n : Int)) H G →
    ∃ H' G', Rc mp (.loop m35_1) [(0, .pointer (some ⟨l, 0, none⟩)), (1, .func (.func fk) #[] #[.pointer (some ⟨bx, 0, none⟩)]), (2, fv), (6, .pointer (some ⟨r, 0, none⟩)), (17, .slice sa sn sc), (18, .int .i64 (sn : Int)), (19, .int .i64 (i : Int))] H =
      some (.exit 0, [(0, .pointer (some ⟨l, 0, none⟩)), (1, .func (.func fk) #[] #[.pointer (some ⟨bx, 0, none⟩)]), (2, fv), (6, .pointer (some ⟨r, 0, none⟩)), (17, .slice sa sn sc), (18, .int .i64 (sn : Int)), (19, .int .i64 (sn : Int)), (20, .bool false)], H') ∧
      RankA r (rankG key ps (wa.drop i)) 64 H' G' ∧ Upd H G H' G' := by
  intro k
  induction k with
  | zero =>
    intro i H F G ps hi hps hA hR hd ho hr
    have : i = sn := by omega
    subst this
    refine ⟨H, G, ?_, by rw [hn, List.drop_length]; exact hR, Upd.refl _ _⟩
    rw [Rc_loop]
    simp [m35_1]
  | succ k ih =>
    intro i H F G ps hi hps hA hR hd ho hr
    have hil : i < wa.length := by omega
    obtain ⟨a, ha⟩ : ∃ a, wa[i]? = some a := ⟨_, List.getElem?_eq_getElem hil⟩
    have hdr : wa.drop i = a :: wa.drop (i + 1) := by rw [List.drop_eq_getElem_cons hil]; congr 1; exact (List.getElem?_eq_some_iff.1 ha).2
    have hak := hwa a (List.mem_of_getElem? ha)
    have V := LkV.of hA
    have hloc := ld_at V.loc
    simp only [lkC] at hloc
    have hl := mlook_ent (a.n : Int) ak
    rw [uniq_find hu hak] at hl
    have hbx := ld_at (V.box a hak)
    simp only [askC] at hbx
    have hin : (i : Int) < (sn : Int) := by omega
    have w : IntKind.i64.wrap ((i : Int) + 1) = (i : Int) + 1 := wrap_i64 (by omega) (by omega)
    obtain ⟨b, o, j, cs, rfl, hB, hes, hat⟩ := hr.1.at (k := i) (by omega)
    rw [List.getElem?_map, ha] at hat
    simp at hat
    rw [hdr]
    simp only [rankG]
    cases hI : a.isIn with
    | false =>
      obtain ⟨H', G', e1, p1, u1⟩ := ih (i + 1) H F G ps (by omega) (by omega) hA hR hd ho hr
      refine ⟨H', G', ?_, by simpa using p1, u1⟩
      rw [Rc_loop]
      simp at e1
      simp [m35_1, hin, ld_at hB, hat, hloc, look_some V.map hl, hbx, hI, w, show i < sn by omega]
      exact e1
    | true =>
      have hk := hkey H V ho.1 a hak
      obtain ⟨H1, G1, e2, p2, u2⟩ := R_kput (mp := mp) h59 h75 hR (by omega) (key a) (a.n : Int)
      obtain ⟨hA1, hd1⟩ := LkA.good.upd hA hd u2
      obtain ⟨H', G', e1, p1, u1⟩ := ih (i + 1) H1 F G1 (putAt ps (posR (key a) ps) (key a, (a.n : Int))) (by omega) (by rw [putAt_len (posR_le _ _)]; omega) hA1 p2 hd1 (ho.upd u2) (hr.upd u2)
      refine ⟨H', G', ?_, by simpa using p1, u2.trans u1⟩
      rw [Rc_loop]
      simp at e1
      simp [m35_1, hin, ld_at hB, hat, hloc, look_some V.map hl, hbx, hI, hk, e2, w, show i < sn by omega]
      exact e1
def giveOne (free : List Ask → Int → Bool) (ak : List Ask) (n : Int) : List Ask := match findA ak n with
  | some a => if free ak a.res then updA ak n fun a => { a with holds := true } else ak
  | none => ak
def giveF (free : List Ask → Int → Bool) : List Ask → List Int → List Ask
  | ak, [] => ak
  | ak, n :: t => giveF free (giveOne free ak n) t
theorem giveOne_n {free : List Ask → Int → Bool} (ak : List Ask) (n : Int) : (giveOne free ak n).map (·.n) = ak.map (·.n) := by
  unfold giveOne
  split
  · split
    · exact updA_n fun _ => rfl
    · rfl
  · rfl
theorem giveOne_res {free : List Ask → Int → Bool} {ak : List Ask} {n : Int} {P : Ask → Prop} (hP : ∀ a, P a → P { a with holds := true }) (h : ∀ a ∈ ak, P a) : ∀ a ∈ giveOne free ak n, P a := by
  unfold giveOne
  split
  · split
    · intro a ha
      obtain ⟨b, hb, rfl⟩ := List.mem_map.1 ha
      simp only []
      split
      · exact hP b (h b hb)
      · exact h b hb
    · exact h
  · exact h
theorem gives_out {ff : FuncId} {free : List Ask → Int → Bool} (h42 : mp 42 = some (.code m42)) (h63 : mp 63 = some (.code (cDelete 1 8 [.int .i64 0])))
    (hfree : ∀ H' ak', LkV H' l s L (ak'.map entC) cnt (waitL ak') ak' ts → H'[bx]? = some (lB l) → ∀ res : Int, 0 ≤ res → res < (s.homes.length : Int) → R mp ff [.int .i64 res, .pointer (some ⟨bx, 0, none⟩)] H' = some (.bool (free ak' res), H'))
    {sa : Option Addr} {sn sc : Nat} (ids : List Int) (hn : sn = ids.length) (hil : ids.length ≤ 100) :
    ∀ (k i : Nat) (H : MH) (F : List Nat) (ak : List Ask), i + k = ids.length → uniqA ak → (∀ a ∈ ak, 0 ≤ a.res ∧ a.res < (s.homes.length : Int)) → (∀ n ∈ ids, n ∈ ak.map fun a => (a.n : Int)) → LkA l s L cnt ak ts H F → Out bx (lB l) H F → Stay 1 (.slice sa sn sc) (i64s ids) H F →
    ∃ H' F', Rc mp (.loop m35_0) [(0, .pointer (some ⟨l, 0, none⟩)), (2, .func (.func ff) #[] #[.pointer (some ⟨bx, 0, none⟩)]), (41, .slice sa sn sc), (42, .int .i64 (sn : Int)), (43, .int .i64 (i : Int))] H =
      some (.exit 2, [(0, .pointer (some ⟨l, 0, none⟩)), (2, .func (.func ff) #[] #[.pointer (some ⟨bx, 0, none⟩)]), (41, .slice sa sn sc), (42, .int .i64 (sn : Int)), (43, .int .i64 (sn : Int)), (44, .bool false)], H') ∧
      LkA l s L cnt (giveF free ak (ids.drop i)) ts H' F' ∧ Upd H F H' F' := by
  intro k
  induction k with
  | zero =>
    intro i H F ak hi hu hres hid hA ho hr
    have : i = sn := by omega
    subst this
    refine ⟨H, F, ?_, by rw [hn, List.drop_length]; exact hA, Upd.refl _ _⟩
    rw [Rc_loop]
    simp [m35_0]
  | succ k ih =>
    intro i H F ak hi hu hres hid hA ho hr
    have hlt : i < ids.length := by omega
    obtain ⟨n, hnn⟩ : ∃ n, ids[i]? = some n := ⟨_, List.getElem?_eq_getElem hlt⟩
    have hdr : ids.drop i = n :: ids.drop (i + 1) := by rw [List.drop_eq_getElem_cons hlt]; congr 1; exact (List.getElem?_eq_some_iff.1 hnn).2
    obtain ⟨a, hak, han⟩ : ∃ a ∈ ak, (a.n : Int) = n := by
      obtain ⟨a, h1, h2⟩ := List.mem_map.1 (hid n (List.mem_of_getElem? hnn))
      exact ⟨a, h1, h2⟩
    have hfa : findA ak n = some a := by rw [← han]; exact uniq_find hu hak
    have V := LkV.of hA
    have hloc := ld_at V.loc
    simp only [lkC] at hloc
    have hl := mlook_ent n ak
    rw [hfa] at hl
    have hbx := ld_at (V.box a hak)
    simp only [askC] at hbx
    have hin : (i : Int) < (sn : Int) := by omega
    have w : IntKind.i64.wrap ((i : Int) + 1) = (i : Int) + 1 := wrap_i64 (by omega) (by omega)
    obtain ⟨b, o, j, cs, rfl, hB, hes, hat⟩ := hr.1.at (k := i) (by omega)
    rw [i64s_get hnn] at hat
    have hfr := hfree H ak V ho.1 a.res (hres a hak).1 (hres a hak).2
    rw [hdr]
    simp only [giveF]
    have hG : giveOne free ak n = if free ak a.res then updA ak n fun a => { a with holds := true } else ak := by unfold giveOne; rw [hfa]
    have hu' : uniqA (giveOne free ak n) := by unfold uniqA; rw [giveOne_n]; exact hu
    have hres' := giveOne_res (free := free) (n := n) (P := fun a => 0 ≤ a.res ∧ a.res < (s.homes.length : Int)) (fun _ h => h) hres
    have hid' : ∀ m ∈ ids, m ∈ (giveOne free ak n).map fun a => (a.n : Int) := fun m hm => by
      obtain ⟨b, hb, e⟩ := List.mem_map.1 (hid m hm)
      have hx : b.n ∈ (giveOne free ak n).map (·.n) := by rw [giveOne_n]; exact List.mem_map_of_mem hb
      obtain ⟨d, hd, e'⟩ := List.mem_map.1 hx
      exact List.mem_map.2 ⟨d, hd, by rw [← e]; exact congrArg Int.ofNat e'⟩
    cases hfv : free ak a.res with
    | false =>
      rw [hfv] at hfr hG
      simp only [Bool.false_eq_true, if_false] at hG
      obtain ⟨H', F', e1, p1, u1⟩ := ih (i + 1) H F ak (by omega) hu hres hid hA ho hr
      refine ⟨H', F', ?_, by rw [hG]; exact p1, u1⟩
      rw [Rc_loop]
      simp at e1
      simp [m35_0, hin, ld_at hB, hat, hloc, look_some V.map hl, hbx, hfr, w, show i < sn by omega]
      exact e1
    | true =>
      rw [hfv] at hfr hG
      simp only [if_true] at hG
      obtain ⟨q, hq, _⟩ := find_at hfa
      obtain ⟨H1, F1, e2, p2, u2⟩ := lk_box hA hq (j := 3) (a' := { a with holds := true }) (v := .bool true) (by omega) rfl rfl rfl
      have V1 := LkV.of p2
      have hl1 := ld_at V1.loc
      simp only [lkC] at hl1
      obtain ⟨H2, F2, e3, p3, u3⟩ := lk_drop (mp := mp) h42 h63 p2 n
      have hS := updA_set (f := fun a => { a with holds := true }) hu hq han
      rw [← hS, ← waitL_hold hu, ← updA_ent (n := n) (f := fun a => { a with holds := true }) (fun _ => rfl) (fun _ => rfl)] at p3
      have u := u2.trans u3
      rw [hG] at hu' hres' hid'
      obtain ⟨H', F', e1, p1, u1⟩ := ih (i + 1) H2 F2 _ (by omega) hu' hres' hid' p3 (ho.upd u) (hr.upd u)
      refine ⟨H', F', ?_, by rw [hG]; exact p1, u.trans u1⟩
      rw [Rc_loop]
      simp at e1
      simp [m35_0, hin, ld_at hB, hat, hloc, look_some V.map hl, hbx, hfr, e2, hl1, e3, w, show i < sn by omega]
      exact e1
end
end Go.Mod

/- Who holds: how it lies, what is read. -/
import Derived.Test.YthpeamllfledkaaLkT
set_option linter.unusedVariables false
set_option linter.unusedSimpArgs false
namespace Go.Mod

/-! ### maps -/
section
variable {H : MH} {b : Nat} {es : List (Int × Value)} {z v : Value} {k : Int}
theorem look_some (h : H[b]? = some (.map es)) (hk : mlook k es = some v) : mread (.look z false) [.map (some b), .int .i64 k] H = some v := by
  simp [mread, h, hk]
theorem look_none (h : H[b]? = some (.map es)) (hk : mlook k es = none) : mread (.look z false) [.map (some b), .int .i64 k] H = some z := by
  simp [mread, h, hk]
theorem mset_at (h : H[b]? = some (.map es)) (hv : one v = true) : meff .mset [.map (some b), .int .i64 k, v] H = some (.tuple #[], H.set b (.map (mupd k v es))) := by
  have : isUnk v = false := by
    cases v <;> simp_all [one, isUnk]
  simp [meff, h, this]
theorem mdel_at (h : H[b]? = some (.map es)) : meff .mdel [.map (some b), .int .i64 k] H = some (.tuple #[], H.set b (.map (mera k es))) := by
  simp [meff, h]
end

def LineA (t : Nat) (ids : List Int) (room : Int) : HP := fun H F => ∃ v fp, LineAt H t ids room v fp ∧ ∀ x, x ∈ F ↔ x = t ∨ x ∈ fp
theorem LineA.good {t : Nat} {ids : List Int} {room : Int} : Good (LineA t ids room) := by
  refine ⟨?_, ?_⟩
  · rintro H H' F ⟨v, fp, h1, h2⟩ hf
    exact ⟨v, fp, h1.frame fun id hid => hf id ((h2 id).2 hid), h2⟩
  · rintro H F ⟨v, fp, h1, h2⟩ id hid
    rcases (h2 id).1 hid with rfl | h
    · exact h1.lt
    · exact h1.own.lt id h
theorem LineA.of {H : MH} {t : Nat} {ids : List Int} {room : Int} {v : Value} {fp : List Nat} (h : LineAt H t ids room v fp) : LineA t ids room H (t :: fp) := ⟨v, fp, h, by simp⟩

/-! ### asks -/
structure Ask where
  n : Nat
  res : Int
  place : Int
  isIn : Bool
  holds : Bool
  told : Bool
  p : Nat
def askC (a : Ask) : List Value := [.int .i64 a.res, .int .i64 a.place, .bool a.isIn, .bool a.holds, .bool a.told]
def askO (a : Ask) : MObj := .cells ⟨0, true, false⟩ (askC a)
def entC (a : Ask) : Int × Value := ((a.n : Int), .pointer (some ⟨a.p, 0, none⟩))
/-- A cluster's tokens: how many there are, how many are taken. -/
structure Chn where
  id : Nat
  cap : Nat
  cnt : Nat
def chnO (c : Chn) : MObj := .chan c.cap (List.replicate c.cnt (.agg #[]))
def chC (c : Nat) : List Value := [.chan (some c)]
structure Lay where
  m : Nat
  w : Nat
  ka : Option Addr
  kc : Nat
  chs : List Nat
def findA (ak : List Ask) (n : Int) : Option Ask := ak.find? fun a => decide ((a.n : Int) = n)
def waitL (ak : List Ask) : List Int := (ak.filter fun a => !a.holds).map fun a => (a.n : Int)
theorem mlook_ent (n : Int) : ∀ (ak : List Ask), mlook n (ak.map entC) = (findA ak n).map fun a => .pointer (some ⟨a.p, 0, none⟩)
  | [] => rfl
  | a :: ak => by
    have ih := mlook_ent n ak
    unfold findA at ih ⊢
    by_cases h : (a.n : Int) = n
    · have h1 : mlook n ((a :: ak).map entC) = some (.pointer (some ⟨a.p, 0, none⟩)) := if_pos h.symm
      rw [h1, List.find?_cons_of_pos (by simpa using h)]
      rfl
    · have h1 : mlook n ((a :: ak).map entC) = mlook n (ak.map entC) := if_neg fun e => h e.symm
      rw [h1, ih, List.find?_cons_of_neg (by simpa using h)]
theorem findA_mem {ak : List Ask} {n : Int} {a : Ask} (h : findA ak n = some a) : a ∈ ak ∧ (a.n : Int) = n := ⟨List.mem_of_find?_eq_some h, by simpa using List.find?_some h⟩

def lkC (s : SetL) (L : Lay) (cnt : Int) : List Value := [.int .i64 s.proto, .slice s.ca s.cores.length s.cc, .slice s.ha s.homes.length s.hc, .slice s.ta s.tasks.length s.tc, .map (some L.m), .pointer (some ⟨L.w, 0, none⟩), .slice L.ka L.chs.length L.kc, .int .i64 cnt]
def LkL (l : Nat) (s : SetL) (L : Lay) (es : List (Int × Value)) (cnt : Int) (wl : List Int) (bs : List Ask) (ts : List Chn) : List (MH → List Nat → Prop) :=
  [Pt l ⟨0, true, false⟩ (lkC s L cnt), At L.m (.map es), LineA L.w wl 64, Objs (·.p) askO bs, Objs (·.id) chnO ts, RecA 1 s.ca s.cores intC, RecA 1 s.ha s.homes intC, RecA 6 s.ta s.tasks taskC, RecA 1 L.ka L.chs chC]
/-- What may be read. -/
structure LkV (H : MH) (l : Nat) (s : SetL) (L : Lay) (es : List (Int × Value)) (cnt : Int) (wl : List Int) (bs : List Ask) (ts : List Chn) : Prop where
  loc : H[l]? = some (.cells ⟨0, true, false⟩ (lkC s L cnt))
  map : H[L.m]? = some (.map es)
  line : ∃ v fp, LineAt H L.w wl 64 v fp
  box : ∀ a ∈ bs, H[a.p]? = some (askO a)
  chn : ∀ c ∈ ts, H[c.id]? = some (chnO c)
  cores : RowG 1 H s.ca s.cores intC
  homes : RowG 1 H s.ha s.homes intC
  tasks : RowG 6 H s.ta s.tasks taskC
  toks : RowG 1 H L.ka L.chs chC
section
variable {mp : FuncId → Option MDef} {H H0 H1 : MH} {F : List Nat} {l : Nat} {s : SetL} {L : Lay} {es : List (Int × Value)} {cnt : Int} {wl : List Int} {bs ak : List Ask} {ts : List Chn}
theorem LkL.good : ∀ P ∈ LkL l s L es cnt wl bs ts, Good P := by
  intro P hP
  simp only [LkL, List.mem_cons, List.not_mem_nil, or_false] at hP
  rcases hP with rfl | rfl | rfl | rfl | rfl | rfl | rfl | rfl | rfl
  · exact Pt.good
  · exact At.good
  · exact LineA.good
  · exact Objs.good
  · exact Objs.good
  · exact RecA.good
  · exact RecA.good
  · exact RecA.good
  · exact RecA.good
theorem LkV.of (h : Sep (LkL l s L es cnt wl bs ts) H F) : LkV H l s L es cnt wl bs ts := by
  obtain ⟨_, ⟨_, h0⟩, _⟩ := Sep.at_ (k := 0) h rfl
  obtain ⟨_, ⟨_, h1⟩, _⟩ := Sep.at_ (k := 1) h rfl
  obtain ⟨_, ⟨v, fp, h2, _⟩, _⟩ := Sep.at_ (k := 2) h rfl
  obtain ⟨_, ⟨_, _, h3⟩, _⟩ := Sep.at_ (k := 3) h rfl
  obtain ⟨_, ⟨_, _, h4⟩, _⟩ := Sep.at_ (k := 4) h rfl
  obtain ⟨_, ⟨h5, _⟩, _⟩ := Sep.at_ (k := 5) h rfl
  obtain ⟨_, ⟨h6, _⟩, _⟩ := Sep.at_ (k := 6) h rfl
  obtain ⟨_, ⟨h7, _⟩, _⟩ := Sep.at_ (k := 7) h rfl
  obtain ⟨_, ⟨h8, _⟩, _⟩ := Sep.at_ (k := 8) h rfl
  exact ⟨h0, h1, ⟨v, fp, h2⟩, h3, h4, h5, h6, h7, h8⟩
theorem LkV.ext (h : LkV H l s L es cnt wl bs ts) (e : Ext H H1) : LkV H1 l s L es cnt wl bs ts := by
  obtain ⟨v, fp, hl⟩ := h.line
  exact ⟨e.get h.loc, e.get h.map, ⟨v, fp, hl.ext e⟩, fun a ha => e.get (h.box a ha), fun a ha => e.get (h.chn a ha), h.cores.ext e, h.homes.ext e, h.tasks.ext e, h.toks.ext e⟩

/-! ### what is read -/
def holdsB (ak : List Ask) (n : Int) : Bool := match findA ak n with
  | some a => a.holds
  | none => false
theorem R_holds (hf : mp 21 = some (.code m21)) (h : LkV H l s L (ak.map entC) cnt wl ak ts) (n : Int) : R mp 21 [.pointer (some ⟨l, 0, none⟩), .int .i64 n] H = some (.bool (holdsB ak n), H) := by
  have hl := mlook_ent n ak
  have hloc := ld_at h.loc
  simp only [lkC] at hloc
  unfold holdsB
  rw [R_code hf]
  cases hfa : findA ak n with
  | none =>
    rw [hfa] at hl
    simp [m21, hloc, look_none h.map hl]
  | some a =>
    rw [hfa] at hl
    obtain ⟨ha, _⟩ := findA_mem hfa
    have hbx := ld_at (h.box a ha)
    simp only [askC] at hbx
    simp [m21, hloc, look_some h.map hl, hbx]
/-- The first of so many. -/
def firstN (p : Nat → Bool) : Nat → Nat → Option Nat
  | _, 0 => none
  | i, k + 1 => if p i then some i else firstN p (i + 1) k
def holdsR (ak : List Ask) (res : Int) (n : Nat) : Bool := match findA ak n with
  | some a => a.holds && decide (a.res = res)
  | none => false
def holderF (ak : List Ask) (N : Nat) (res : Int) : Option Nat := firstN (holdsR ak res) 0 N
def holderV (o : Option Nat) : Value := .tuple #[.int .i64 ((o.getD 0 : Nat) : Int), .bool o.isSome]
theorem holder_loop (h21 : mp 21 = some (.code m21)) (h : LkV H l s L (ak.map entC) cnt wl ak ts) {N : Nat} (hN : N ≤ 1000) (res : Int) : ∀ (k i : Nat), i + k = N →
    (∀ n, firstN (holdsR ak res) i k = some n → Rc mp (.loop m24_0) [(0, .pointer (some ⟨l, 0, none⟩)), (1, .int .i64 res), (12, .int .i64 (N : Int)), (13, .int .i64 (i : Int))] H = some (.ret, [(4, .int .i64 (n : Int)), (5, .bool true)], H)) ∧
    (firstN (holdsR ak res) i k = none → Rc mp (.loop m24_0) [(0, .pointer (some ⟨l, 0, none⟩)), (1, .int .i64 res), (12, .int .i64 (N : Int)), (13, .int .i64 (i : Int))] H = some (.exit 0, [(0, .pointer (some ⟨l, 0, none⟩)), (1, .int .i64 res), (12, .int .i64 (N : Int)), (13, .int .i64 (N : Int)), (14, .bool false)], H)) := by
  intro k
  induction k with
  | zero =>
    intro i hi
    have : i = N := by omega
    subst this
    refine ⟨fun n hn => by simp [firstN] at hn, fun _ => ?_⟩
    rw [Rc_loop]
    simp [m24_0]
  | succ k ih =>
    intro i hi
    have hin : (i : Int) < (N : Int) := by omega
    have w : IntKind.i64.wrap ((i : Int) + 1) = (i : Int) + 1 := wrap_i64 (by omega) (by omega)
    obtain ⟨ih1, ih2⟩ := ih (i + 1) (by omega)
    have hh := R_holds (mp := mp) h21 h (i : Int)
    have hloc := ld_at h.loc
    simp only [lkC] at hloc
    have hl := mlook_ent (i : Int) ak
    by_cases hp : holdsR ak res i = true
    · have hp0 := hp
      unfold holdsR at hp
      cases hfa : findA ak (i : Int) with
      | none => rw [hfa] at hp; simp at hp
      | some a =>
        rw [hfa] at hp hl
        simp at hp
        obtain ⟨ha, _⟩ := findA_mem hfa
        have hbx := ld_at (h.box a ha)
        simp only [askC] at hbx
        have hB : holdsB ak (i : Int) = true := by unfold holdsB; rw [hfa]; exact hp.1
        rw [hB] at hh
        refine ⟨fun n hn => ?_, fun hn => ?_⟩
        · simp only [firstN, hp0, if_true, Option.some.injEq] at hn
          subst hn
          rw [Rc_loop]
          simp [m24_0, hin, hh, hloc, look_some h.map hl, hbx, hp.2]
        · simp [firstN, hp0] at hn
    · have step : Rc mp (.loop m24_0) [(0, .pointer (some ⟨l, 0, none⟩)), (1, .int .i64 res), (12, .int .i64 (N : Int)), (13, .int .i64 (i : Int))] H = Rc mp (.loop m24_0) [(0, .pointer (some ⟨l, 0, none⟩)), (1, .int .i64 res), (12, .int .i64 (N : Int)), (13, .int .i64 ((i + 1 : Nat) : Int))] H := by
        rw [Rc_loop]
        cases hfa : findA ak (i : Int) with
        | none =>
          have hB : holdsB ak (i : Int) = false := by unfold holdsB; rw [hfa]
          rw [hB] at hh
          simp [m24_0, hin, hh, w]
        | some a =>
          obtain ⟨ha, _⟩ := findA_mem hfa
          have hbx := ld_at (h.box a ha)
          simp only [askC] at hbx
          rw [hfa] at hl
          unfold holdsR at hp
          rw [hfa] at hp
          by_cases hB : a.holds = true
          · have hr : ¬ a.res = res := fun e => hp (by simp [hB, e])
            have hB : holdsB ak (i : Int) = true := by unfold holdsB; rw [hfa]; exact hB
            rw [hB] at hh
            simp [m24_0, hin, hh, hloc, look_some h.map hl, hbx, hr, w]
          · have hB : holdsB ak (i : Int) = false := by unfold holdsB; rw [hfa]; simpa using hB
            rw [hB] at hh
            simp [m24_0, hin, hh, w]
      rw [step]
      refine ⟨fun n hn => ih1 n ?_, fun hn => ih2 ?_⟩ <;> simpa [firstN, hp] using hn
theorem R_holder (hf : mp 24 = some (.code m24)) (h21 : mp 21 = some (.code m21)) (h : LkV H l s L (ak.map entC) cnt wl ak ts) (hN : s.tasks.length ≤ 1000) (res : Int) :
    R mp 24 [.pointer (some ⟨l, 0, none⟩), .int .i64 res] H = some (holderV (holderF ak s.tasks.length res), H) := by
  have hloc := ld_at h.loc
  simp only [lkC] at hloc
  obtain ⟨h1, h2⟩ := holder_loop (mp := mp) h21 h hN res s.tasks.length 0 (by omega)
  rw [R_code hf]
  unfold holderV holderF
  cases hx : firstN (holdsR ak res) 0 s.tasks.length with
  | none =>
    have h2 := h2 hx
    simp at h2
    simp [m24, hloc, h2]
  | some n =>
    have h1 := h1 n hx
    simp at h1
    simp [m24, hloc, h1]
def boostF (proto : Int) (ak : List Ask) (n : Int) : Int := match findA ak n with
  | some a => if a.holds then (if proto = 2 then 1 else a.place) else 0
  | none => 0
theorem R_boost (hf : mp 26 = some (.code m26)) (h21 : mp 21 = some (.code m21)) (h : LkV H l s L (ak.map entC) cnt wl ak ts) (n : Int) :
    R mp 26 [.pointer (some ⟨l, 0, none⟩), .int .i64 n] H = some (.int .i64 (boostF s.proto ak n), H) := by
  have hh := R_holds (mp := mp) h21 h n
  have hloc := ld_at h.loc
  simp only [lkC] at hloc
  have hl := mlook_ent n ak
  rw [R_code hf]
  unfold boostF
  unfold holdsB at hh
  cases hfa : findA ak n with
  | none =>
    rw [hfa] at hh
    simp [m26, hh]
  | some a =>
    obtain ⟨ha, _⟩ := findA_mem hfa
    have hbx := ld_at (h.box a ha)
    simp only [askC] at hbx
    rw [hfa] at hh hl
    by_cases hB : a.holds = true
    · simp only [hB] at hh
      by_cases hp : s.proto = 2
      · simp [m26, hh, hB, hloc, hp]
      · simp [m26, hh, hB, hloc, hp, look_some h.map hl, hbx]
    · simp only [hB] at hh
      simp [m26, hh, hB]
/-- All that wait, a slice of its own. -/
theorem R_all (h49 : mp 49 = some (.code m49)) (h55 : mp 55 = some (.code m55)) {t : Nat} {ids : List Int} {room : Int} {v : Value} {fp : List Nat} (h : LineAt H t ids room v fp) :
    ∃ (v' : Value) (X : MH) (fp' : List Nat), R mp 49 [.pointer (some ⟨t, 0, none⟩)] H = some (v', H ++ X) ∧ (Own 1 (H ++ X) v' (i64s ids) fp' ∨ ∃ a, v' = .slice a 0 0 ∧ ids = []) ∧ Row 1 (H ++ X) v' (i64s ids) ∧ (∀ id ∈ fp', H.length ≤ id) ∧ (∀ b o n c, v' = .slice (some ⟨b, o, none⟩) n c → H.length ≤ b) ∧ ∃ a n c, v' = .slice a n c := by
  obtain ⟨v', X, h1, h2⟩ := R_cloneX (mp := mp) (f := 55) (es := 1) (bytes := 8) (z := [.int .i64 0]) h55 rfl (by omega) (by omega) h.own.row (i64s_one ids) (by rw [i64s_len]; have := h.len; omega)
  obtain ⟨a, n, c, rfl, hl⟩ := h.own.row.slice
  have e1 : R mp 49 [.pointer (some ⟨t, 0, none⟩)] H = some (v', H ++ X) := by
    rcases h2 with ⟨rfl, _, _⟩ | ⟨rfl, _, _⟩ | ⟨n', rfl, _, _, _⟩ <;>
    · rw [R_code h49]
      simp [m49, ld_at h.obj, h1]
  have nil : i64s ids = [] → ids = [] := fun e => by cases ids with
    | nil => rfl
    | cons x ids => simp [i64s] at e
  rcases h2 with ⟨rfl, h3, rfl⟩ | ⟨rfl, h3, rfl⟩ | ⟨n', rfl, rfl, h4, h5⟩
  · have := nil h3; subst this
    exact ⟨_, _, [], e1, .inl (.inl ⟨rfl, rfl, rfl⟩), .inl ⟨rfl, rfl⟩, by simp, (fun b o n c e => by cases e), _, _, _, rfl⟩
  · have := nil h3; subst this
    exact ⟨_, _, [], e1, .inr ⟨_, rfl, rfl⟩, .inr ⟨H.length, 0, 0, 0, ⟨1, true, true⟩, [], rfl, Nat.le_refl _, by simp, rfl, by simp, by simp [i64s]⟩, by simp, (fun b o n c e => by cases e; exact Nat.le_refl _), _, _, _, rfl⟩
  · have ho : Own 1 (H ++ [.cells ⟨1, true, true⟩ [], .cells ⟨1, true, false⟩ (i64s ids)]) (.slice (some ⟨H.length + 1, 0, none⟩) n' n') (i64s ids) [H.length + 1] := .inr ⟨H.length + 1, n', n', i64s ids, rfl, Nat.le_refl _, by simp, h4, by rw [← h4, List.take_length], rfl⟩
    exact ⟨_, _, [H.length + 1], e1, .inl ho, ho.row, by simp, (fun b o n c e => by cases e; exact Nat.le_succ _), _, _, _, rfl⟩
theorem R_waiting (hf : mp 25 = some (.code m25)) (h49 : mp 49 = some (.code m49)) (h55 : mp 55 = some (.code m55)) (h50 : mp 50 = some (.code m50)) (h66 : mp 66 = some (.code m66)) (h67 : mp 67 = some (.code m67)) (h88 : mp 88 = some (.code m88)) (h78 : mp 78 = some (.code m78)) (h84 : mp 84 = some (.code m84)) (h98 : mp 98 = some (.code m98))
    (h : LkV H l s L (ak.map entC) cnt wl ak ts) (hx : wl.length ≤ 12) : ∃ (D : List Int) (v' : Value) (H' : MH), Sorted D ∧ D.Perm wl ∧ R mp 25 [.pointer (some ⟨l, 0, none⟩)] H = some (v', H') ∧ Ext H H' ∧ Row 1 H' v' (i64s D) := by
  obtain ⟨v, fp, hln⟩ := h.line
  have hloc := ld_at h.loc
  simp only [lkC] at hloc
  obtain ⟨v', X, fp', e1, ho, hr, hn, _, _⟩ := R_all (mp := mp) h49 h55 hln
  obtain ⟨D, H', d1, d2, d3, d4, d5, d6⟩ := R_sort (mp := mp) (H := H ++ X) (v := v') (fp := fp') h50 h66 h67 h88 h78 h84 h98 hx (ho.imp id fun ⟨a, h1, h2⟩ => ⟨a, 0, h1, h2⟩)
  have u : Upd H [] H' fp' := (Upd.push (F := []) (X := X) (G := fp') fun id hid => .inr (hn id hid)).trans (Upd.of_fp d5 (fun _ _ h => h) fun _ h => .inl h)
  refine ⟨D, v', H', d1, d2, ?_, u.toExt.1, ?_⟩
  · have ⟨a, n, c, e⟩ : ∃ a n c, v' = .slice a n c := by obtain ⟨a, n, c, e, _⟩ := hr.slice; exact ⟨a, n, c, e⟩
    subst e
    rw [R_code hf]
    simp [m25, hloc, e1, d3]
  · rcases ho with ho | ⟨a, rfl, rfl⟩
    · exact (d4 ho).row
    · have : D = [] := by simpa using d2
      subst this
      rw [d6 rfl]
      exact hr
end
end Go.Mod

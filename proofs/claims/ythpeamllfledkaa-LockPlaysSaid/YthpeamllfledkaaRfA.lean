/- The document's locks: what is read. -/
import Derived.Test.YthpeamllfledkaaLiZ
set_option linter.unusedVariables false
set_option linter.unusedSimpArgs false
namespace Go.Mod
open Classical

def askR (a : Ask) : List Value := [.int .i64 a.n, .int .i64 a.res, .int .i64 a.place, .bool a.holds]
theorem askR_len (a : Ask) : (askR a).length = 4 ∧ (askR a).all one = true := ⟨rfl, rfl⟩
def rfC (s : SetL) (a : Option Addr) (n c : Nat) (cnt : Int) : List Value := [.int .i64 s.proto, .slice s.ca s.cores.length s.cc, .slice s.ha s.homes.length s.hc, .slice s.ta s.tasks.length s.tc, .slice a n c, .int .i64 cnt]
structure RfV (H : MH) (r : Nat) (s : SetL) (cnt : Int) (ak : List Ask) (a : Option Addr) (c : Nat) : Prop where
  loc : H[r]? = some (.cells ⟨0, true, false⟩ (rfC s a ak.length c cnt))
  row : RowG 4 H a ak askR
  set : SetAt H s
theorem RfV.ext {H H1 : MH} {r : Nat} {s : SetL} {cnt : Int} {ak : List Ask} {a : Option Addr} {c : Nat} (h : RfV H r s cnt ak a c) (e : Ext H H1) : RfV H1 r s cnt ak a c := ⟨e.get h.loc, h.row.ext e, h.set.ext e⟩

section
variable {mp : FuncId → Option MDef} {H H0 : MH} {r : Nat} {s : SetL} {cnt : Int} {ak : List Ask} {a : Option Addr} {c : Nat}
theorem rat_loop (V : RfV H r s cnt ak a c) (hl : ak.length ≤ 1000) (n : Int) : ∀ (k i : Nat), i + k = ak.length →
    (∃ (q : Nat) (d : Ask), ak[q]? = some d ∧ (d.n : Int) = n ∧ Rc mp (.loop m32_0) [(0, .pointer (some ⟨r, 0, none⟩)), (1, .int .i64 n), (5, .int .i64 (i : Int))] H = some (.ret, [(4, .int .i64 (q : Int))], H)) ∨
    ((∀ d ∈ ak.drop i, (d.n : Int) ≠ n) ∧ Rc mp (.loop m32_0) [(0, .pointer (some ⟨r, 0, none⟩)), (1, .int .i64 n), (5, .int .i64 (i : Int))] H = some (.exit 0, [(0, .pointer (some ⟨r, 0, none⟩)), (1, .int .i64 n), (5, .int .i64 (ak.length : Int)), (12, .bool false)], H)) := by
  have hd := ld_at V.loc
  simp only [rfC] at hd
  intro k
  induction k with
  | zero =>
    intro i hi
    have : i = ak.length := by omega
    subst this
    refine .inr ⟨by simp, ?_⟩
    rw [Rc_loop]
    simp [m32_0, hd]
  | succ k ih =>
    intro i hi
    have hin : i < ak.length := by omega
    obtain ⟨d, hdk⟩ : ∃ d, ak[i]? = some d := ⟨_, List.getElem?_eq_getElem hin⟩
    have w : IntKind.i64.wrap ((i : Int) + 1) = (i : Int) + 1 := wrap_i64 (by omega) (by omega)
    have hia := V.row.ia
    have hrd := V.row.rd0 hdk (by omega) H (Ext.refl _)
    simp only [askR] at hrd
    by_cases hn : (d.n : Int) = n
    · refine .inl ⟨i, d, hdk, hn, ?_⟩
      rw [Rc_loop]
      simp [m32_0, hd, hin, hia, hrd, hn]
    · have step : Rc mp (.loop m32_0) [(0, .pointer (some ⟨r, 0, none⟩)), (1, .int .i64 n), (5, .int .i64 (i : Int))] H = Rc mp (.loop m32_0) [(0, .pointer (some ⟨r, 0, none⟩)), (1, .int .i64 n), (5, .int .i64 ((i + 1 : Nat) : Int))] H := by
        rw [Rc_loop]
        simp [m32_0, hd, hin, hia, hrd, hn, w]
      rw [step]
      rcases ih (i + 1) (by omega) with ⟨q, e, h1, h2, h3⟩ | ⟨h1, h2⟩
      · exact .inl ⟨q, e, h1, h2, h3⟩
      · refine .inr ⟨fun e he => ?_, h2⟩
        rw [drop_at hdk] at he
        rcases List.mem_cons.1 he with rfl | he
        · exact hn
        · exact h1 e he
theorem R_atR (hf : mp 32 = some (.code m32)) (V : RfV H r s cnt ak a c) (hl : ak.length ≤ 1000) (n : Int) :
    (∃ (q : Nat) (d : Ask), ak[q]? = some d ∧ (d.n : Int) = n ∧ R mp 32 [.pointer (some ⟨r, 0, none⟩), .int .i64 n] H = some (.int .i64 (q : Int), H)) ∨
    ((∀ d ∈ ak, (d.n : Int) ≠ n) ∧ R mp 32 [.pointer (some ⟨r, 0, none⟩), .int .i64 n] H = some (.int .i64 (-1), H)) := by
  rcases rat_loop (mp := mp) V hl n ak.length 0 (by omega) with ⟨q, d, h1, h2, h3⟩ | ⟨h1, h2⟩
  · refine .inl ⟨q, d, h1, h2, ?_⟩
    simp at h3
    rw [R_code hf]
    simp [m32, h3]
  · refine .inr ⟨by simpa using h1, ?_⟩
    simp at h2
    rw [R_code hf]
    simp [m32, h2]
theorem holdsB_at {q : Nat} {d : Ask} (hu : uniqA ak) (hd : ak[q]? = some d) : holdsB ak (d.n : Int) = d.holds := by
  unfold holdsB
  rw [uniq_find hu (List.mem_of_getElem? hd)]
theorem find_no {n : Int} (h : ∀ d ∈ ak, (d.n : Int) ≠ n) : findA ak n = none := by
  unfold findA
  rw [List.find?_eq_none]
  intro d hd
  simpa using h d hd
theorem R_holdsR (hf : mp 43 = some (.code m43)) (h32 : mp 32 = some (.code m32)) (V : RfV H r s cnt ak a c) (hu : uniqA ak) (hl : ak.length ≤ 1000) (n : Int) : R mp 43 [.pointer (some ⟨r, 0, none⟩), .int .i64 n] H = some (.bool (holdsB ak n), H) := by
  have hd := ld_at V.loc
  simp only [rfC] at hd
  rcases R_atR (mp := mp) h32 V hl n with ⟨q, d, h1, rfl, h3⟩ | ⟨h1, h2⟩
  · have hin := (List.getElem?_eq_some_iff.1 h1).1
    have hia := V.row.ia
    have hrd := V.row.rd h1 H 3 (Ext.refl _) (by omega)
    simp only [askR] at hrd
    rw [holdsB_at hu h1, R_code hf]
    simp [m43, h3, hd, hin, hia, hrd]
  · have : holdsB ak n = false := by unfold holdsB; rw [find_no h1]
    rw [this, R_code hf]
    simp [m43, h2]
theorem R_boostR (hf : mp 44 = some (.code m44)) (h43 : mp 43 = some (.code m43)) (h32 : mp 32 = some (.code m32)) (V : RfV H r s cnt ak a c) (hu : uniqA ak) (hl : ak.length ≤ 1000) (n : Int) : R mp 44 [.pointer (some ⟨r, 0, none⟩), .int .i64 n] H = some (.int .i64 (boostF s.proto ak n), H) := by
  have hd := ld_at V.loc
  simp only [rfC] at hd
  have h43' := R_holdsR (mp := mp) h43 h32 V hu hl n
  rw [R_code hf]
  rcases R_atR (mp := mp) h32 V hl n with ⟨q, d, h1, rfl, h3⟩ | ⟨h1, h2⟩
  · have hin := (List.getElem?_eq_some_iff.1 h1).1
    have hia := V.row.ia
    have hrd := V.row.rd h1 H 2 (Ext.refl _) (by omega)
    simp only [askR] at hrd
    rw [holdsB_at hu h1] at h43'
    have hb : boostF s.proto ak (d.n : Int) = if d.holds then (if s.proto = 2 then 1 else d.place) else 0 := by
      unfold boostF; rw [uniq_find hu (List.mem_of_getElem? h1)]
    rw [hb]
    cases hh : d.holds with
    | false => rw [hh] at h43'; simp [m44, h43']
    | true =>
      rw [hh] at h43'
      by_cases hp : s.proto = 2
      · simp [m44, h43', hd, hp]
      · simp [m44, h43', hd, hp, h3, hin, hia, hrd, mdraw_full]
  · have e1 : holdsB ak n = false := by unfold holdsB; rw [find_no h1]
    have e2 : boostF s.proto ak n = 0 := by unfold boostF; rw [find_no h1]
    rw [e1] at h43'
    rw [e2]
    simp [m44, h43']
/-- Who holds a resource, in the order in which they asked. -/
def holdR (ak : List Ask) (res : Int) : Option Ask := ak.find? fun a => decide (a.res = res) && a.holds
def holdRV : Option Ask → Value
  | some d => .tuple #[.int .i64 d.n, .bool true]
  | none => .tuple #[.int .i64 0, .bool false]
theorem rholder_loop (V : RfV H r s cnt ak a c) (hl : ak.length ≤ 1000) (res : Int) : ∀ (k i : Nat), i + k = ak.length →
    (∃ d, holdR (ak.drop i) res = some d ∧ Rc mp (.loop m45_0) [(0, .pointer (some ⟨r, 0, none⟩)), (1, .int .i64 res), (6, .int .i64 (i : Int))] H = some (.ret, [(4, .int .i64 d.n), (5, .bool true)], H)) ∨
    (holdR (ak.drop i) res = none ∧ Rc mp (.loop m45_0) [(0, .pointer (some ⟨r, 0, none⟩)), (1, .int .i64 res), (6, .int .i64 (i : Int))] H = some (.exit 0, [(0, .pointer (some ⟨r, 0, none⟩)), (1, .int .i64 res), (6, .int .i64 (ak.length : Int)), (13, .bool false)], H)) := by
  have hd := ld_at V.loc
  simp only [rfC] at hd
  intro k
  induction k with
  | zero =>
    intro i hi
    have : i = ak.length := by omega
    subst this
    refine .inr ⟨by simp [holdR], ?_⟩
    rw [Rc_loop]
    simp [m45_0, hd]
  | succ k ih =>
    intro i hi
    have hin : i < ak.length := by omega
    obtain ⟨d, hdk⟩ : ∃ d, ak[i]? = some d := ⟨_, List.getElem?_eq_getElem hin⟩
    have w : IntKind.i64.wrap ((i : Int) + 1) = (i : Int) + 1 := wrap_i64 (by omega) (by omega)
    have hia := V.row.ia
    have hr0 := V.row.rd0 hdk (by omega) H (Ext.refl _)
    have hr1 := V.row.rd hdk H 1 (Ext.refl _) (by omega)
    have hr3 := V.row.rd hdk H 3 (Ext.refl _) (by omega)
    simp only [askR] at hr0 hr1 hr3
    rw [drop_at hdk]
    unfold holdR at ih ⊢
    rw [List.find?_cons]
    have step : (decide (d.res = res) && d.holds) = false → Rc mp (.loop m45_0) [(0, .pointer (some ⟨r, 0, none⟩)), (1, .int .i64 res), (6, .int .i64 (i : Int))] H = Rc mp (.loop m45_0) [(0, .pointer (some ⟨r, 0, none⟩)), (1, .int .i64 res), (6, .int .i64 ((i + 1 : Nat) : Int))] H := fun hb => by
      rw [Rc_loop]
      by_cases hr : d.res = res
      · simp [hr] at hb
        simp [m45_0, hd, hin, hia, hr1, hr3, hr, hb, w]
      · simp [m45_0, hd, hin, hia, hr1, hr, w]
    cases hb : (decide (d.res = res) && d.holds) with
    | true =>
      refine .inl ⟨d, rfl, ?_⟩
      simp at hb
      rw [Rc_loop]
      simp [m45_0, hd, hin, hia, hr0, hr1, hr3, hb.1, hb.2]
    | false =>
      rw [step hb]
      exact ih (i + 1) (by omega)
theorem R_holderR (hf : mp 45 = some (.code m45)) (V : RfV H r s cnt ak a c) (hl : ak.length ≤ 1000) (res : Int) : R mp 45 [.pointer (some ⟨r, 0, none⟩), .int .i64 res] H =
    some (holdRV (holdR ak res), H) := by
  rw [R_code hf]
  rcases rholder_loop (mp := mp) V hl res ak.length 0 (by omega) with ⟨d, h1, h2⟩ | ⟨h1, h2⟩
  · rw [List.drop_zero] at h1
    rw [h1]
    simp at h2
    simp [m45, h2, holdRV]
  · rw [List.drop_zero] at h1
    rw [h1]
    simp at h2
    simp [m45, h2, holdRV]
/-- Is it held: by one of its group. -/
def heldR (s : SetL) (ak : List Ask) (res : Int) : Bool := ak.any fun a => a.holds && decide (grpR s a.res = grpR s res)
theorem held_loop (V : RfV H r s cnt ak a c) (hl : ak.length ≤ 1000) (hres : ∀ d ∈ ak, 0 ≤ d.res ∧ d.res < (s.homes.length : Int)) {res : Int} (h0 : 0 ≤ res) (h1 : res < (s.homes.length : Int)) : ∀ (k i : Nat), i + k = ak.length →
    (heldR s (ak.drop i) res = true ∧ Rc mp (.loop m61_0) [(0, .pointer (some ⟨r, 0, none⟩)), (1, .int .i64 res), (5, .int .i64 (i : Int))] H = some (.ret, [(4, .bool true)], H)) ∨
    (heldR s (ak.drop i) res = false ∧ Rc mp (.loop m61_0) [(0, .pointer (some ⟨r, 0, none⟩)), (1, .int .i64 res), (5, .int .i64 (i : Int))] H = some (.exit 0, [(0, .pointer (some ⟨r, 0, none⟩)), (1, .int .i64 res), (5, .int .i64 (ak.length : Int)), (12, .bool false)], H)) := by
  have hd := ld_at V.loc
  simp only [rfC] at hd
  obtain ⟨y, hy⟩ : ∃ y, s.homes[res.toNat]? = some y := ⟨_, List.getElem?_eq_getElem (by omega)⟩
  have hhy := V.set.homes.rd1 hy H (Ext.refl _)
  simp only [intC] at hhy
  intro k
  induction k with
  | zero =>
    intro i hi
    have : i = ak.length := by omega
    subst this
    refine .inr ⟨by simp [heldR], ?_⟩
    rw [Rc_loop]
    simp [m61_0, hd]
  | succ k ih =>
    intro i hi
    have hin : i < ak.length := by omega
    obtain ⟨d, hdk⟩ : ∃ d, ak[i]? = some d := ⟨_, List.getElem?_eq_getElem hin⟩
    have w : IntKind.i64.wrap ((i : Int) + 1) = (i : Int) + 1 := wrap_i64 (by omega) (by omega)
    have hia := V.row.ia
    have hih := V.set.homes.ia
    have hr1 := V.row.rd hdk H 1 (Ext.refl _) (by omega)
    have hr3 := V.row.rd hdk H 3 (Ext.refl _) (by omega)
    simp only [askR] at hr1 hr3
    obtain ⟨g0, g1⟩ := hres d (List.mem_of_getElem? hdk)
    obtain ⟨z, hz⟩ : ∃ z, s.homes[d.res.toNat]? = some z := ⟨_, List.getElem?_eq_getElem (by omega)⟩
    have hhz := V.set.homes.rd1 hz H (Ext.refl _)
    simp only [intC] at hhz
    have hg : s.proto = 2 → (grpR s d.res = grpR s res ↔ z = y) := fun hp => by
      unfold grpR
      rw [if_pos hp, if_pos hp]
      simp [List.getD, hz, hy]
    have hg' : ¬ s.proto = 2 → (grpR s d.res = grpR s res ↔ d.res = res) := fun hp => by
      unfold grpR
      rw [if_neg hp, if_neg hp]
    rw [drop_at hdk]
    unfold heldR at ih ⊢
    rw [List.any_cons]
    have step : (d.holds && decide (grpR s d.res = grpR s res)) = false → Rc mp (.loop m61_0) [(0, .pointer (some ⟨r, 0, none⟩)), (1, .int .i64 res), (5, .int .i64 (i : Int))] H = Rc mp (.loop m61_0) [(0, .pointer (some ⟨r, 0, none⟩)), (1, .int .i64 res), (5, .int .i64 ((i + 1 : Nat) : Int))] H := fun hb => by
      rw [Rc_loop]
      cases hh : d.holds with
      | false => simp (maxDischargeDepth := 8) [m61_0, hd, hin, hia, hr1, hr3, hh, w, mdraw_full]
      | true =>
        rw [hh] at hb
        simp at hb
        have hrr : ¬ d.res = res := fun e => hb (by rw [e])
        by_cases hp : s.proto = 2
        · have hzy : ¬ z = y := fun e => hb ((hg hp).2 e)
          simp (maxDischargeDepth := 8) [m61_0, hd, hin, hia, hih, hr1, hr3, hh, hrr, hp, hzy, g0, g1, h0, h1, hhy, hhz, w, mdraw_full]
        · simp (maxDischargeDepth := 8) [m61_0, hd, hin, hia, hr1, hr3, hh, hrr, hp, w, mdraw_full]
    cases hb : (d.holds && decide (grpR s d.res = grpR s res)) with
    | true =>
      refine .inl ⟨by simp, ?_⟩
      simp at hb
      rw [Rc_loop]
      by_cases hrr : d.res = res
      · simp (maxDischargeDepth := 8) [m61_0, hd, hin, hia, hr1, hr3, hb.1, hrr, mdraw_full]
      · by_cases hp : s.proto = 2
        · have hzy := (hg hp).1 hb.2
          simp (maxDischargeDepth := 8) [m61_0, hd, hin, hia, hih, hr1, hr3, hb.1, hrr, hp, hzy, g0, g1, h0, h1, hhy, hhz, mdraw_full]
        · exact absurd ((hg' hp).1 hb.2) hrr
    | false =>
      rw [step hb, Bool.false_or]
      exact ih (i + 1) (by omega)
theorem R_held (hf : mp 61 = some (.code m61)) (V : RfV H r s cnt ak a c) (hl : ak.length ≤ 1000) (hres : ∀ d ∈ ak, 0 ≤ d.res ∧ d.res < (s.homes.length : Int)) {res : Int} (h0 : 0 ≤ res) (h1 : res < (s.homes.length : Int)) : R mp 61 [.pointer (some ⟨r, 0, none⟩), .int .i64 res] H = some (.bool (heldR s ak res), H) := by
  rw [R_code hf]
  rcases held_loop (mp := mp) V hl hres h0 h1 ak.length 0 (by omega) with ⟨g1, g2⟩ | ⟨g1, g2⟩
  · rw [List.drop_zero] at g1
    rw [g1]
    simp at g2
    simp [m61, g2]
  · rw [List.drop_zero] at g1
    rw [g1]
    simp at g2
    simp [m61, g2]
def keyR (s : SetL) (a : Ask) : Int := if s.proto = 2 then prioK s a else a.place
theorem G_key (hf : mp 62 = some (.code m62)) (V : RfV H0 r s cnt ak a c) {d : Ask} (hn : d.n < s.tasks.length) (e : Ext H0 H) : GR mp 62 [.pointer (some ⟨r, 0, none⟩), .agg (askR d).toArray] H (.int .i64 (keyR s d)) := by
  have hd := ldb V.loc
  simp only [rfC] at hd
  have htk : s.tasks[d.n]? = some (s.tasks[d.n]'hn) := List.getElem?_eq_getElem _
  generalize s.tasks[d.n]'hn = t at htk
  have hia := V.set.tasks.ia
  have hrd := V.set.tasks.rd htk
  simp only [taskC] at hrd
  unfold GR
  rw [R_code hf]
  unfold keyR prioK
  rw [htk]
  have hnI : (d.n : Int) < (s.tasks.length : Int) := by omega
  by_cases hp : s.proto = 2
  · simp (maxDischargeDepth := 12) [m62, askR, ldx, hd, e, hp, hia, hn, hrd, mdraw_full]
  · simp (maxDischargeDepth := 12) [m62, askR, ldx, hd, e, hp]
end
end Go.Mod

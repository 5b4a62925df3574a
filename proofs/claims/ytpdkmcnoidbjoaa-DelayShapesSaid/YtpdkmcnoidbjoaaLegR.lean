/- Slots that may be: the program's. -/
import Derived.Test.YtpdkmcnoidbjoaaLegP
set_option linter.unusedVariables false
set_option linter.unusedSimpArgs false
namespace Go.Mod

section
variable {mp : FuncId → Option MDef} {H0 H : MH}
/-! ### in order -/
def cmpI (a b : Int) : Int := if a < b then -1 else if b < a then 1 else 0
theorem R_nan (hf : mp 112 = some (.code m112)) {a : Int} : R mp 112 [.int .i64 a] H = some (.bool false, H) := by
  rw [R_code hf]; simp [m112]
theorem R_cmp (hf : mp 99 = some (.code m99)) (hn : mp 112 = some (.code m112)) {a b : Int} : R mp 99 [.int .i64 a, .int .i64 b] H = some (.int .i64 (cmpI a b), H) := by
  rw [R_code hf]
  unfold cmpI
  by_cases h1 : a < b
  · simp [m99, R_nan hn, h1]
  · by_cases h2 : b < a
    · simp [m99, R_nan hn, h1, h2]
    · simp [m99, R_nan hn, h1, h2]
theorem R_or (hf : mp 98 = some (.code m98)) {b : Nat} {i : Info} {x y : Int} (h : H[b]? = some (.cells i [.int .i64 x, .int .i64 y])) : R mp 98 [.slice (some ⟨b, 0, none⟩) 2 2] H = some (.int .i64 (if x = 0 then y else x), H) := by
  have hd := ldb h
  have hd' := fun o => hd H o (Ext.refl H)
  rw [R_code hf]
  have w1 : IntKind.i64.wrap 1 = 1 := rfl
  have w2 : IntKind.i64.wrap 2 = 2 := rfl
  by_cases h1 : x = 0
  · by_cases h2 : y = 0
    · have s3 : Rc mp (.loop m98_0) [(3, .int .i64 0), (6, .slice (some ⟨b, 0, none⟩) 2 2), (7, .int .i64 2), (8, .int .i64 2)] H = some (.exit 0, [(3, .int .i64 0), (6, .slice (some ⟨b, 0, none⟩) 2 2), (7, .int .i64 2), (8, .int .i64 2), (9, .bool false)], H) := by
        rw [Rc_loop]; simp [m98_0]
      have s2 : Rc mp (.loop m98_0) [(3, .int .i64 0), (6, .slice (some ⟨b, 0, none⟩) 2 2), (7, .int .i64 2), (8, .int .i64 1)] H = some (.exit 0, [(3, .int .i64 0), (6, .slice (some ⟨b, 0, none⟩) 2 2), (7, .int .i64 2), (8, .int .i64 2), (9, .bool false)], H) := by
        rw [Rc_loop]; simp [m98_0, hd', h2, w2]; exact s3
      have s1 : Rc mp (.loop m98_0) [(3, .int .i64 0), (6, .slice (some ⟨b, 0, none⟩) 2 2), (7, .int .i64 2), (8, .int .i64 0)] H = some (.exit 0, [(3, .int .i64 0), (6, .slice (some ⟨b, 0, none⟩) 2 2), (7, .int .i64 2), (8, .int .i64 2), (9, .bool false)], H) := by
        rw [Rc_loop]; simp [m98_0, hd', h1, w1]; exact s2
      simp [m98, s1, h1, h2]
    · have s2 : Rc mp (.loop m98_0) [(3, .int .i64 0), (6, .slice (some ⟨b, 0, none⟩) 2 2), (7, .int .i64 2), (8, .int .i64 1)] H = some (.ret, [(2, .int .i64 y)], H) := by
        rw [Rc_loop]; simp [m98_0, hd', h2]
      have s1 : Rc mp (.loop m98_0) [(3, .int .i64 0), (6, .slice (some ⟨b, 0, none⟩) 2 2), (7, .int .i64 2), (8, .int .i64 0)] H = some (.ret, [(2, .int .i64 y)], H) := by
        rw [Rc_loop]; simp [m98_0, hd', h1, w1]; exact s2
      simp [m98, s1, h1]
  · have s1 : Rc mp (.loop m98_0) [(3, .int .i64 0), (6, .slice (some ⟨b, 0, none⟩) 2 2), (7, .int .i64 2), (8, .int .i64 0)] H = some (.ret, [(2, .int .i64 x)], H) := by
      rw [Rc_loop]; simp [m98_0, hd', h1]
    simp [m98, s1, h1]
structure SrtF (mp : FuncId → Option MDef) : Prop where
  h97 : mp 97 = some (.code m97)
  h98 : mp 98 = some (.code m98)
  h99 : mp 99 = some (.code m99)
  h100 : mp 100 = some (.code m100)
  h112 : mp 112 = some (.code m112)
/-- How two slots are compared. -/
def cmpS (a b : SlotL) : Int := if cmpI a.time b.time = 0 then cmpI a.cluster b.cluster else cmpI a.time b.time
theorem cmpS_lt {a b : SlotL} : cmpS a b < 0 ↔ ltS a b := by
  unfold cmpS cmpI ltS
  constructor
  · intro h; split at h <;> split at h <;> (try split at h) <;> (try split at h) <;> omega
  · intro h; split <;> split <;> (try split) <;> (try split) <;> omega
theorem G_cmpS (h : SrtF mp) (x y : SlotL) : GR mp 97 [.agg (slC x).toArray, .agg (slC y).toArray] H (.int .i64 (cmpS x y)) := by
  have hor := R_or (mp := mp) (H := H ++ [.cells ⟨0, true, false⟩ (slC x), .cells ⟨0, true, false⟩ (slC y), .cells ⟨1, true, true⟩ [.int .i64 (cmpI x.time y.time), .int .i64 (cmpI x.cluster y.cluster)]]) h.h98 (b := H.length + 2) (i := ⟨1, true, true⟩) (x := cmpI x.time y.time) (y := cmpI x.cluster y.cluster) (by simp)
  simp only [slC] at hor
  unfold GR
  rw [R_code h.h97]
  simp (maxDischargeDepth := 12) [m97, slC, mdraw_full, ldx, R_cmp h.h99 h.h112, hor]
  simp [cmpS, ext_app]
theorem sorted_loop (h : SrtF mp) {a : Option Addr} {c : Nat} {l : List SlotL} (hr : RowG 4 H0 a l slC) (hn : l.length ≤ 100000) : ∀ (i : Nat) (H : MH), i < l.length → Ext H0 H →
    ((∀ (j : Nat) x y, j < i → l[j]? = some x → l[j + 1]? = some y → ¬ ltS y x) ∧ ∃ q : Int, GL mp (.loop m100_0) [(0, .slice a l.length c), (1, .func (.func 97) #[] #[]), (5, .int .i64 (i : Int))] H (.exit 0) [(0, .slice a l.length c), (1, .func (.func 97) #[] #[]), (5, .int .i64 0), (10, .bool false)]) ∨
    ((∃ (j : Nat) (x y : SlotL), l[j]? = some x ∧ l[j + 1]? = some y ∧ ltS y x) ∧ GL mp (.loop m100_0) [(0, .slice a l.length c), (1, .func (.func 97) #[] #[]), (5, .int .i64 (i : Int))] H .ret [(4, .bool false)]) := by
  intro i
  induction i with
  | zero =>
    intro H hi e
    refine .inl ⟨fun j x y hj => by omega, 0, ?_⟩
    unfold GL
    rw [Rc_loop]
    simp [m100_0]
  | succ i ih =>
    intro H hi e
    obtain ⟨x, hx⟩ : ∃ x, l[i]? = some x := ⟨_, List.getElem?_eq_getElem (by omega)⟩
    obtain ⟨y, hy⟩ : ∃ y, l[i + 1]? = some y := ⟨_, List.getElem?_eq_getElem hi⟩
    have w : IntKind.i64.wrap ((i : Int) + 1 - 1) = (i : Int) := by rw [show (i : Int) + 1 - 1 = (i : Int) by omega]; exact wrap_i64 (by omega) (by omega)
    have w' : IntKind.i64.wrap (i : Int) = (i : Int) := wrap_i64 (by omega) (by omega)
    have hcx := hr.rdn hx
    have hcy := hr.rdn hy
    have hg := fun (H' : MH) => (G_cmpS (H := H') h y x).eq
    have hi' : i < l.length := by omega
    have hii : (i : Int) + 1 < (l.length : Int) := by omega
    have hpos : (0 : Int) < (i : Int) + 1 := by omega
    have hpos' : (0 : Int) ≤ (i : Int) + 1 := by omega
    have hnat : ((i : Int) + 1).toNat = i + 1 := by omega
    by_cases hlt : ltS y x
    · refine .inr ⟨⟨i, x, y, hx, hy, hlt⟩, ?_⟩
      have hc := cmpS_lt.2 hlt
      unfold GL
      rw [Rc_loop]
      simp (maxDischargeDepth := 12) [m100_0, mdraw_plain, hr.ia, hi', hii, hpos, hpos', hnat, w, w', hcx, hcy, e, hg, hc]
    · have hc : ¬ cmpS y x < 0 := fun h => hlt (cmpS_lt.1 h)
      rcases ih (aft mp 97 [.agg (slC y).toArray, .agg (slC x).toArray] H) hi' (by simp [e]) with ⟨h1, q, h2⟩ | ⟨h1, h2⟩
      · refine .inl ⟨fun j x' y' hj hx' hy' => ?_, q, ?_⟩
        · rcases Nat.lt_or_ge j i with h | h
          · exact h1 j x' y' h hx' hy'
          · have : j = i := by omega
            subst this
            rw [hx] at hx'; rw [hy] at hy'
            cases hx'; cases hy'; exact hlt
        · unfold GL
          rw [Rc_loop]
          simp (maxDischargeDepth := 12) [m100_0, mdraw_plain, hr.ia, hi', hii, hpos, hpos', hnat, w, w', hcx, hcy, e, hg, hc]
          exact h2.next (by simp)
      · refine .inr ⟨h1, ?_⟩
        unfold GL
        rw [Rc_loop]
        simp (maxDischargeDepth := 12) [m100_0, mdraw_plain, hr.ia, hi', hii, hpos, hpos', hnat, w, w', hcx, hcy, e, hg, hc]
        exact h2.next (by simp)
open Classical in
theorem G_sorted (h : SrtF mp) {a : Option Addr} {c : Nat} {l : List SlotL} (hr : RowG 4 H0 a l slC) (hn : l.length ≤ 100000) (e : Ext H0 H) : GR mp 100 [.slice a l.length c, .func (.func 97) #[] #[]] H (.bool (decide (sortedS l))) := by
  rcases Nat.eq_zero_or_pos l.length with h0 | h0
  · have : decide (sortedS l) = true := decide_eq_true fun j x y hx => by
      have := (List.getElem?_eq_some_iff.1 hx).1; omega
    rw [this]
    unfold GR
    rw [R_code h.h100]
    have s1 : Rc mp (.loop m100_0) [(0, .slice a 0 c), (1, .func (.func 97) #[] #[]), (5, .int .i64 (-1))] H = some (.exit 0, [(0, .slice a 0 c), (1, .func (.func 97) #[] #[]), (5, .int .i64 (-1)), (10, .bool false)], H) := by
      rw [Rc_loop]; simp [m100_0]
    have w : IntKind.i64.wrap (-1) = -1 := rfl
    simp [m100, h0, w, s1]
  · have w : IntKind.i64.wrap ((l.length : Int) - 1) = ((l.length - 1 : Nat) : Int) := by rw [show (l.length : Int) - 1 = ((l.length - 1 : Nat) : Int) by omega]; exact wrap_i64 (by omega) (by omega)
    rcases sorted_loop (mp := mp) (c := c) h hr hn (l.length - 1) H (by omega) e with ⟨h1, q, h2⟩ | ⟨h1, h2⟩
    · have : decide (sortedS l) = true := decide_eq_true fun j x y hx hy => by
        have := (List.getElem?_eq_some_iff.1 hy).1
        exact h1 j x y (by omega) hx hy
      rw [this]
      have h2 := h2.eq
      unfold GR
      rw [R_code h.h100]
      simp [m100, w, h2]
    · have : decide (sortedS l) = false := decide_eq_false fun hs => by
        obtain ⟨j, x, y, hx, hy, hlt⟩ := h1
        exact hs j x y hx hy hlt
      rw [this]
      have h2 := h2.eq
      unfold GR
      rw [R_code h.h100]
      simp [m100, w, h2]

/-! ### one slot -/
theorem slotted_iff {s : SetL} {tk : Int} {x : SlotL} {t : TaskL} {k : Nat} (hk : x.task = (k : Int)) (ht : s.tasks[k]? = some t) : slottedB s tk x ↔ rangeS s tk x ∧ (x.cluster = t.cluster ∨ (s.proto = 2 ∧ x.held = true)) := by
  unfold slottedB ruleS
  rw [hk, Int.toNat_natCast]
  constructor
  · rintro ⟨h1, t', h2, h3⟩
    rw [ht] at h2; cases h2
    exact ⟨h1, h3⟩
  · rintro ⟨h1, h2⟩
    exact ⟨h1, t, ht, h2⟩
open Classical in
theorem G_slotted (hf : mp 101 = some (.code m101)) {s : SetL} {t : TraceL} (hs : SetAt H0 s) (e : Ext H0 H) (x : SlotL) : GR mp 101 [.agg s.cells.toArray, .agg t.cells.toArray, .agg (slC x).toArray] H (.bool (decide (slottedB s t.ticks x))) := by
  unfold GR
  rw [R_code hf]
  by_cases h1 : 0 ≤ x.cluster
  case neg =>
    rw [decide_eq_false fun h => h1 h.1.1]
    simp (maxDischargeDepth := 12) [m101, SetL.cells, TraceL.cells, slC, ldx, h1]
  by_cases h2 : x.cluster < (s.cores.length : Int)
  case neg =>
    rw [decide_eq_false fun h => h2 h.1.2.1]
    simp (maxDischargeDepth := 12) [m101, SetL.cells, TraceL.cells, slC, ldx, h1, h2]
  by_cases h3 : 0 ≤ x.task
  case neg =>
    rw [decide_eq_false fun h => h3 h.1.2.2.1]
    simp (maxDischargeDepth := 12) [m101, SetL.cells, TraceL.cells, slC, ldx, h1, h2, h3]
  by_cases h4 : x.task < (s.tasks.length : Int)
  case neg =>
    rw [decide_eq_false fun h => h4 h.1.2.2.2.1]
    simp (maxDischargeDepth := 12) [m101, SetL.cells, TraceL.cells, slC, ldx, h1, h2, h3, h4]
  by_cases h5 : x.time < 0
  · rw [decide_eq_false fun h => by have := h.1.2.2.2.2.1; omega]
    simp (maxDischargeDepth := 12) [m101, SetL.cells, TraceL.cells, slC, ldx, h1, h2, h3, h4, h5]
  by_cases h6 : t.ticks ≤ x.time
  · rw [decide_eq_false fun h => by have := h.1.2.2.2.2.2; omega]
    simp (maxDischargeDepth := 12) [m101, SetL.cells, TraceL.cells, slC, ldx, h1, h2, h3, h4, h5, h6]
  obtain ⟨k, hk⟩ := Int.eq_ofNat_of_zero_le h3
  have hkl : k < s.tasks.length := by omega
  obtain ⟨y, hy⟩ : ∃ t, s.tasks[k]? = some t := ⟨_, List.getElem?_eq_getElem hkl⟩
  have hrd := hs.tasks.rd hy
  have hiff := slotted_iff (tk := t.ticks) hk hy
  have hrg : rangeS s t.ticks x := ⟨h1, h2, h3, h4, by omega, by omega⟩
  rw [decide_eq_decide.2 hiff]
  have h3' : (0 : Int) ≤ (k : Int) := by omega
  by_cases h7 : x.cluster = y.cluster
  · rw [decide_eq_true ⟨hrg, .inl h7⟩]
    simp (maxDischargeDepth := 12) [m101, SetL.cells, TraceL.cells, slC, taskC, mdraw_plain, ldx, h1, h2, hk, hkl, h5, h6, hs.tasks.ia, hrd, e, h7.symm]
  · by_cases h8 : s.proto = 2
    · by_cases hh : x.held = true
      · rw [decide_eq_true ⟨hrg, .inr ⟨h8, hh⟩⟩]
        simp (maxDischargeDepth := 12) [m101, SetL.cells, TraceL.cells, slC, taskC, mdraw_plain, ldx, h1, h2, hk, hkl, h5, h6, hs.tasks.ia, hrd, e, h7, h8, hh]
      · rw [decide_eq_false (by rintro ⟨_, h | ⟨_, h⟩⟩; · exact h7 h
                                · exact hh h)]
        have hh : x.held = false := by simpa using hh
        simp (maxDischargeDepth := 12) [m101, SetL.cells, TraceL.cells, slC, taskC, mdraw_plain, ldx, h1, h2, hk, hkl, h5, h6, hs.tasks.ia, hrd, e, h7, h8, hh]
    · rw [decide_eq_false (by rintro ⟨_, h | ⟨h, _⟩⟩; · exact h7 h
                              · exact h8 h)]
      simp (maxDischargeDepth := 12) [m101, SetL.cells, TraceL.cells, slC, taskC, mdraw_plain, ldx, h1, h2, hk, hkl, h5, h6, hs.tasks.ia, hrd, e, h7, h8]
end
end Go.Mod

/- LegalHolders: the model's side. -/
import Derived.Test.YtpdkmcnoidbjoaaLegX
set_option linter.unusedVariables false
set_option linter.unusedSimpArgs false
namespace Go.Mod
open Classical

/-! ### a set of two tasks -/
theorem RowG.lit {α : Type} {w : Nat} {H : MH} {b : Nat} {i : Info} {cs : List Value} {l : List α} {g : α → List Value} (h : H[b]? = some (.cells i cs)) (he : i.es = w) (hc : cs = l.flatMap g) (hw0 : 0 < w) (hw : ∀ x ∈ l, (g x).length = w ∧ (g x).all one = true) : RowG w H (some ⟨b, 0, none⟩) l g := by
  have hl := flat_len (f := g) (w := w) (l := l) fun x hx => (hw x hx).1
  refine (RowG.of (n := l.length) (c := l.length) (.inr ⟨b, 0, l.length, l.length, i, cs, rfl, Nat.le_refl _, h, he, ?_, ?_⟩) hw0 hw).1
  · rw [hc, hl]; omega
  · rw [hc, List.drop_zero, ← hl, List.take_length]
theorem RowG.litF {α : Type} {w : Nat} {H : MH} {b : Nat} {i : Info} {l : List α} {g : α → List Value} (h : H[b]? = some (.cells i (l.flatMap g))) (he : i.es = w) (hw0 : 0 < w) (hw : ∀ x ∈ l, (g x).length = w ∧ (g x).all one = true) : RowG w H (some ⟨b, 0, none⟩) l g := RowG.lit h he rfl hw0 hw
def tA (b : Nat) (r l : Int) : TaskL := ⟨⟨#[97]⟩, 100, 100, 1, 0, some ⟨b + 1, 0, none⟩, 2, [⟨1, r, 0⟩, ⟨3, l, 0⟩]⟩
def tB (b : Nat) (r l : Int) : TaskL := ⟨⟨#[98]⟩, 200, 200, 2, 0, some ⟨b + 7, 0, none⟩, 2, [⟨1, r, 0⟩, ⟨3, l, 0⟩]⟩
def s2 (b : Nat) (p r l r2 l2 : Int) : SetL := ⟨p, [1], some ⟨b + 3, 0, none⟩, 1, [0], some ⟨b + 4, 0, none⟩, 1, [tA b r l, tB b r2 l2], some ⟨b + 9, 0, none⟩, 2⟩
theorem intC_ok {l : List Int} : ∀ x ∈ l, (intC x).length = 1 ∧ (intC x).all one = true := fun _ _ => ⟨rfl, rfl⟩
theorem partC_ok {l : List PartL} : ∀ x ∈ l, (partC x).length = 3 ∧ (partC x).all one = true := fun _ _ => ⟨rfl, rfl⟩
theorem taskC_ok {l : List TaskL} : ∀ x ∈ l, (taskC x).length = 6 ∧ (taskC x).all one = true := fun _ _ => ⟨rfl, rfl⟩
theorem slC_ok {l : List SlotL} : ∀ x ∈ l, (slC x).length = 4 ∧ (slC x).all one = true := fun _ _ => ⟨rfl, rfl⟩
theorem dnC_ok {l : List DoneL} : ∀ x ∈ l, (dnC x).length = 3 ∧ (dnC x).all one = true := fun _ _ => ⟨rfl, rfl⟩
theorem wtC_ok {l : List WaitL} : ∀ x ∈ l, (wtC x).length = 5 ∧ (wtC x).all one = true := fun _ _ => ⟨rfl, rfl⟩
/-- The objects of a set of two tasks. -/
def twoObjs (b : Nat) (p r l r2 l2 : Int) : MH :=
  [.cells ⟨0, true, false⟩ [.int .i64 p, .slice (some ⟨b + 3, 0, none⟩) 1 1, .slice (some ⟨b + 4, 0, none⟩) 1 1, .slice (some ⟨b + 9, 0, none⟩) 2 2],
   .cells ⟨3, true, true⟩ [.int .i64 1, .int .i64 r, .int .i64 0, .int .i64 3, .int .i64 l, .int .i64 0],
   .cells ⟨0, true, false⟩ [.int .i64 p, .slice (some ⟨b + 3, 0, none⟩) 1 1, .slice (some ⟨b + 4, 0, none⟩) 1 1, .slice (some ⟨b + 5, 0, none⟩) 1 1],
   .cells ⟨1, true, true⟩ [.int .i64 1], .cells ⟨1, true, true⟩ [.int .i64 0],
   .cells ⟨6, true, true⟩ [.string ⟨#[97]⟩, .int .i64 100, .int .i64 100, .int .i64 1, .int .i64 0, .slice (some ⟨b + 1, 0, none⟩) 2 2],
   .cells ⟨0, true, false⟩ [.int .i64 p, .slice (some ⟨b + 3, 0, none⟩) 1 1, .slice (some ⟨b + 4, 0, none⟩) 1 1, .slice (some ⟨b + 9, 0, none⟩) 2 2],
   .cells ⟨3, true, true⟩ [.int .i64 1, .int .i64 r2, .int .i64 0, .int .i64 3, .int .i64 l2, .int .i64 0],
   .cells ⟨6, true, true⟩ [.string ⟨#[98]⟩, .int .i64 200, .int .i64 200, .int .i64 2, .int .i64 0, .slice (some ⟨b + 7, 0, none⟩) 2 2],
   .cells ⟨6, true, false⟩ [.string ⟨#[97]⟩, .int .i64 100, .int .i64 100, .int .i64 1, .int .i64 0, .slice (some ⟨b + 1, 0, none⟩) 2 2, .string ⟨#[98]⟩, .int .i64 200, .int .i64 200, .int .i64 2, .int .i64 0, .slice (some ⟨b + 7, 0, none⟩) 2 2]]
section
variable {mp : FuncId → Option MDef} {H : MH}
theorem two_at {p r l r2 l2 : Int} : SetAt (H ++ twoObjs H.length p r l r2 l2) (s2 H.length p r l r2 l2) := by
  refine ⟨?_, ?_, ?_, fun t ht => ?_, by simp [s2, tA, tB]; decide⟩
  · exact RowG.lit (b := H.length + 3) (i := ⟨1, true, true⟩) (cs := [.int .i64 1]) (by simp [twoObjs]) rfl rfl (by omega) intC_ok
  · exact RowG.lit (b := H.length + 4) (i := ⟨1, true, true⟩) (cs := [.int .i64 0]) (by simp [twoObjs]) rfl rfl (by omega) intC_ok
  · exact RowG.litF (b := H.length + 9) (i := ⟨6, true, false⟩) (by simp [twoObjs, taskC, tA, tB, s2]) rfl (by omega) taskC_ok
  · simp [s2] at ht
    rcases ht with rfl | rfl
    · exact RowG.lit (b := H.length + 1) (i := ⟨3, true, true⟩) (cs := [.int .i64 1, .int .i64 r, .int .i64 0, .int .i64 3, .int .i64 l, .int .i64 0]) (by simp [twoObjs]) rfl rfl (by omega) partC_ok
    · exact RowG.lit (b := H.length + 7) (i := ⟨3, true, true⟩) (cs := [.int .i64 1, .int .i64 r2, .int .i64 0, .int .i64 3, .int .i64 l2, .int .i64 0]) (by simp [twoObjs]) rfl rfl (by omega) partC_ok
theorem R_two (h62 : mp 62 = some (.code m62)) (h80 : mp 80 = some (.code m80)) {p r l r2 l2 : Int} : R mp 62 [.int .i64 p, .int .i64 r, .int .i64 l, .int .i64 r2, .int .i64 l2] H = some (.agg (s2 H.length p r l r2 l2).cells.toArray, H ++ twoObjs H.length p r l r2 l2) := by
  have h80 : ∀ H' (a : Option Addr) (n c : Nat), R mp 80 [.int .i64 p, .slice a n c] H' = some (.agg #[.int .i64 p, .slice (some ⟨H'.length + 1, 0, none⟩) 1 1, .slice (some ⟨H'.length + 2, 0, none⟩) 1 1, .slice (some ⟨H'.length + 3, 0, none⟩) 1 1], H' ++ [.cells ⟨0, true, false⟩ [.int .i64 p, .slice (some ⟨H'.length + 1, 0, none⟩) 1 1, .slice (some ⟨H'.length + 2, 0, none⟩) 1 1, .slice (some ⟨H'.length + 3, 0, none⟩) 1 1], .cells ⟨1, true, true⟩ [.int .i64 1], .cells ⟨1, true, true⟩ [.int .i64 0], .cells ⟨6, true, true⟩ [.string ⟨#[97]⟩, .int .i64 100, .int .i64 100, .int .i64 1, .int .i64 0, .slice a n c]]) := by
    intro H' a n c
    rw [R_code h80]
    simp (maxDischargeDepth := 12) [m80, ldnx, ldx, stx]
  have happ : meff (.app 6 72) [.slice (some ⟨H.length + 5, 0, none⟩) 1 1, .slice (some ⟨H.length + 8, 0, none⟩) 1 1] (H ++ [.cells ⟨0, true, false⟩ [.int .i64 0, .slice none 0 0, .slice none 0 0, .slice none 0 0],
     .cells ⟨3, true, true⟩ [.int .i64 1, .int .i64 r, .int .i64 0, .int .i64 3, .int .i64 l, .int .i64 0],
     .cells ⟨0, true, false⟩ [.int .i64 p, .slice (some ⟨H.length + 3, 0, none⟩) 1 1, .slice (some ⟨H.length + 4, 0, none⟩) 1 1, .slice (some ⟨H.length + 5, 0, none⟩) 1 1],
     .cells ⟨1, true, true⟩ [.int .i64 1], .cells ⟨1, true, true⟩ [.int .i64 0],
     .cells ⟨6, true, true⟩ [.string ⟨#[97]⟩, .int .i64 100, .int .i64 100, .int .i64 1, .int .i64 0, .slice (some ⟨H.length + 1, 0, none⟩) 2 2],
     .cells ⟨0, true, false⟩ [.int .i64 p, .slice (some ⟨H.length + 3, 0, none⟩) 1 1, .slice (some ⟨H.length + 4, 0, none⟩) 1 1, .slice (some ⟨H.length + 5, 0, none⟩) 1 1],
     .cells ⟨3, true, true⟩ [.int .i64 1, .int .i64 r2, .int .i64 0, .int .i64 3, .int .i64 l2, .int .i64 0],
     .cells ⟨6, true, true⟩ [.string ⟨#[98]⟩, .int .i64 200, .int .i64 200, .int .i64 2, .int .i64 0, .slice (some ⟨H.length + 7, 0, none⟩) 2 2]]) =
      some (.slice (some ⟨H.length + 9, 0, none⟩) 2 2, H ++ [.cells ⟨0, true, false⟩ [.int .i64 0, .slice none 0 0, .slice none 0 0, .slice none 0 0],
     .cells ⟨3, true, true⟩ [.int .i64 1, .int .i64 r, .int .i64 0, .int .i64 3, .int .i64 l, .int .i64 0],
     .cells ⟨0, true, false⟩ [.int .i64 p, .slice (some ⟨H.length + 3, 0, none⟩) 1 1, .slice (some ⟨H.length + 4, 0, none⟩) 1 1, .slice (some ⟨H.length + 5, 0, none⟩) 1 1],
     .cells ⟨1, true, true⟩ [.int .i64 1], .cells ⟨1, true, true⟩ [.int .i64 0],
     .cells ⟨6, true, true⟩ [.string ⟨#[97]⟩, .int .i64 100, .int .i64 100, .int .i64 1, .int .i64 0, .slice (some ⟨H.length + 1, 0, none⟩) 2 2],
     .cells ⟨0, true, false⟩ [.int .i64 p, .slice (some ⟨H.length + 3, 0, none⟩) 1 1, .slice (some ⟨H.length + 4, 0, none⟩) 1 1, .slice (some ⟨H.length + 5, 0, none⟩) 1 1],
     .cells ⟨3, true, true⟩ [.int .i64 1, .int .i64 r2, .int .i64 0, .int .i64 3, .int .i64 l2, .int .i64 0],
     .cells ⟨6, true, true⟩ [.string ⟨#[98]⟩, .int .i64 200, .int .i64 200, .int .i64 2, .int .i64 0, .slice (some ⟨H.length + 7, 0, none⟩) 2 2],
     .cells ⟨6, true, false⟩ [.string ⟨#[97]⟩, .int .i64 100, .int .i64 100, .int .i64 1, .int .i64 0, .slice (some ⟨H.length + 1, 0, none⟩) 2 2, .string ⟨#[98]⟩, .int .i64 200, .int .i64 200, .int .i64 2, .int .i64 0, .slice (some ⟨H.length + 7, 0, none⟩) 2 2]]) := by
    rw [app_ex (i := ⟨6, true, true⟩) (c := [.string ⟨#[97]⟩, .int .i64 100, .int .i64 100, .int .i64 1, .int .i64 0, .slice (some ⟨H.length + 1, 0, none⟩) 2 2]) (n := 1) (ys := [.string ⟨#[98]⟩, .int .i64 200, .int .i64 200, .int .i64 2, .int .i64 0, .slice (some ⟨H.length + 7, 0, none⟩) 2 2]) (by simp) (by simp [srcCells]) (by omega) rfl (by omega) (by omega) (by omega) (by omega) rfl (by simp) rfl]
    simp
  rw [R_code h62]
  simp (maxDischargeDepth := 12) [m62, ldnx, ldx, stx, h80, happ, s2, SetL.cells, twoObjs]
end

/-! ### it may be -/
theorem name1 {c : UInt8} (h : 97 ≤ c.toNat ∧ c.toNat ≤ 122) : nameB ⟨#[c]⟩ := by
  refine ⟨fun j b hj => ?_, by simp [ByteArray.size], by simp [ByteArray.size]⟩
  cases j with
  | zero =>
    have : b = c := by
      have h1 : (⟨#[c]⟩ : ByteArray)[0]? = some c := rfl
      rw [h1] at hj; cases hj; rfl
    subst this
    exact .inl h
  | succ j =>
    rw [getElem?_neg _ _ (by simp [ByteArray.size])] at hj
    cases hj
theorem two_ok {s : SetL} {b : Nat} {r l r2 l2 : Int} (hp : 1 ≤ s.proto ∧ s.proto ≤ 3) (hc : s.cores = [1]) (hh : s.homes = [0] ∨ s.homes = [0, 0]) (ht : s.tasks = [tA b r l, tB b r2 l2]) (h1 : 1 ≤ r ∧ r ≤ 60) (h2 : 1 ≤ l ∧ l ≤ 60) (h3 : 1 ≤ r2 ∧ r2 ≤ 60) (h4 : 1 ≤ l2 ∧ l2 ≤ 60) : okSet s := by
  have nA : nameB ⟨#[97]⟩ := name1 (by decide)
  have nB : nameB ⟨#[98]⟩ := name1 (by decide)
  have hhl : 1 ≤ s.homes.length ∧ s.homes.length ≤ 2 := by rcases hh with h | h <;> rw [h] <;> decide
  have pl : placesB s.cores s.homes := by
    rw [hc]
    rcases hh with h | h <;> rw [h] <;> simp [placesB]
  have pA : partsOk s.homes.length (tA b r l).parts := by
    refine ⟨fun p hp => ?_, by simp [tA], by simp [tA]⟩
    simp [tA] at hp
    rcases hp with rfl | rfl <;> simp [partOk] <;> omega
  have pB : partsOk s.homes.length (tB b r2 l2).parts := by
    refine ⟨fun p hp => ?_, by simp [tB], by simp [tB]⟩
    simp [tB] at hp
    rcases hp with rfl | rfl <;> simp [partOk] <;> omega
  have eA : taskE s 0 (tA b r l) = 0 := by
    unfold taskE
    rw [if_neg (by simp only [Classical.not_not]; exact ⟨nA, by simp [tA], by simp [tA], by simp [tA]⟩), if_neg (by simp [tA, hc]), if_neg (by simp), if_neg (by simpa using pA)]
  have eB : taskE s 1 (tB b r2 l2) = 0 := by
    unfold taskE
    rw [if_neg (by simp only [Classical.not_not]; exact ⟨nB, by simp [tB], by simp [tB], by simp [tB]⟩), if_neg (by simp [tB, hc]), if_neg (by rw [ht]; simp [tA, tB]), if_neg (by simpa using pB)]
  unfold okSet checkE
  rw [if_neg (by simpa using hp), if_neg (by simpa using pl), if_neg (by rw [ht]; simp), if_neg (by rw [ht]; simp), ht]
  simp only [firstE, eA, eB, if_true]
theorem lk_two {s : SetL} {b : Nat} {r l r2 l2 : Int} (ht : s.tasks = [tA b r l, tB b r2 l2]) : lk s 1 1 = (⟨3, l2, 0⟩, true) ∧ lk s 0 1 = (⟨3, l, 0⟩, true) ∧ lk s 0 0 = (⟨1, r, 0⟩, false) := by
  refine ⟨?_, ?_, ?_⟩ <;> simp [lk, lkT, ht, tA, tB]

/-! ### who held -/
theorem legalHolders {H : MH} {got long time res : Int} (h0 : 0 ≤ got ∧ got < 256) (h1 : 0 ≤ long ∧ long < 256) (h2 : 0 ≤ time ∧ time < 256) (h3 : 0 ≤ res ∧ res < 256) : ∃ H', R mpGk 15 [.int .u8 got, .int .u8 long, .int .u8 time, .int .u8 res] H = some (.bool true, H') := by
  refine isTrue_ex ?_
  rw [R_code (fn := m15) rfl]
  have t1 : got.tmod 50 = got % 50 := Int.tmod_eq_emod_of_nonneg (by omega)
  have t2 : long.tmod 20 = long % 20 := Int.tmod_eq_emod_of_nonneg (by omega)
  have t3 : time.tmod 80 = time % 80 := Int.tmod_eq_emod_of_nonneg (by omega)
  have t4 : res.tmod 3 = res % 3 := Int.tmod_eq_emod_of_nonneg (by omega)
  have hT := fun (H' : MH) => R_two (mp := mpGk) (H := H') rfl rfl (p := 1) (r := 1) (l := 9) (r2 := 1) (l2 := 9)
  obtain ⟨g, hg⟩ : ∃ g, got % 50 = g := ⟨_, rfl⟩
  obtain ⟨l, hl⟩ : ∃ l, long % 20 = l := ⟨_, rfl⟩
  obtain ⟨t, ht⟩ : ∃ t, time % 80 = t := ⟨_, rfl⟩
  obtain ⟨q, hq⟩ : ∃ q, res % 3 = q := ⟨_, rfl⟩
  rw [hg] at t1; rw [hl] at t2; rw [ht] at t3; rw [hq] at t4
  have w1 : IntKind.i64.wrap g = g := wrap_i64 (by omega) (by omega)
  have w2 : IntKind.i64.wrap l = l := wrap_i64 (by omega) (by omega)
  have w3 : IntKind.i64.wrap (l + 1) = l + 1 := wrap_i64 (by omega) (by omega)
  have w4 : IntKind.i64.wrap t = t := wrap_i64 (by omega) (by omega)
  have w5 : IntKind.i64.wrap q = q := wrap_i64 (by omega) (by omega)
  have w6 : IntKind.i64.wrap (g + (l + 1)) = g + (l + 1) := wrap_i64 (by omega) (by omega)
  -- the heap ahead of the call
  obtain ⟨s, hs⟩ : ∃ s : SetL, s = ⟨1, [1], some ⟨H.length + 3, 0, none⟩, 1, [0, 0], some ⟨H.length + 11, 0, none⟩, 2, [tA H.length 1 9, tB H.length 1 9], some ⟨H.length + 9, 0, none⟩, 2⟩ := ⟨_, rfl⟩
  obtain ⟨tr, htr⟩ : ∃ tr : TraceL, tr = ⟨100, [], none, 0, [], none, 0, [⟨1, 1, g, g, g + (l + 1)⟩, ⟨0, 0, 0, g, g + (l + 1)⟩], some ⟨H.length + 12, 0, none⟩, 2⟩ := ⟨_, rfl⟩
  obtain ⟨X, hX⟩ : ∃ X : MH, X = [.cells ⟨0, true, false⟩ [.int .i64 1, .slice (some ⟨H.length + 3, 0, none⟩) 1 1, .slice (some ⟨H.length + 11, 0, none⟩) 2 2, .slice (some ⟨H.length + 9, 0, none⟩) 2 2], .cells ⟨1, true, true⟩ [.int .i64 0, .int .i64 0],
    .cells ⟨5, true, true⟩ [.int .i64 1, .int .i64 1, .int .i64 g, .int .i64 g, .int .i64 (g + (l + 1)), .int .i64 0, .int .i64 0, .int .i64 0, .int .i64 g, .int .i64 (g + (l + 1))], .cells ⟨0, true, false⟩ [.int .i64 100, .slice none 0 0, .slice none 0 0, .slice (some ⟨H.length + 12, 0, none⟩) 2 2]] := ⟨_, rfl⟩
  have hat : SetAt (H ++ twoObjs H.length 1 1 9 1 9 ++ X) s := by
    have h := (two_at (H := H) (p := 1) (r := 1) (l := 9) (r2 := 1) (l2 := 9)).ext ⟨X, rfl⟩
    rw [hs]
    exact ⟨h.cores, RowG.lit (b := H.length + 11) (i := ⟨1, true, true⟩) (cs := [.int .i64 0, .int .i64 0]) (by simp [twoObjs, hX]) rfl rfl (by omega) intC_ok, h.tasks, h.parts, by simp [tA, tB]; decide⟩
  have htat : TraceAt (H ++ twoObjs H.length 1 1 9 1 9 ++ X) tr := by
    rw [htr]
    exact ⟨RowG.nil, RowG.nil, RowG.litF (b := H.length + 12) (i := ⟨5, true, true⟩) (by simp [twoObjs, hX, wtC]) rfl (by omega) wtC_ok, by simp⟩
  have hk := (G_holder (mp := mpGk) (H := H ++ twoObjs H.length 1 1 9 1 9 ++ X) cpG rfl rfl hat htat (Ext.refl _) t q).eq
  have hok : okSet s := two_ok (b := H.length) (r := 1) (l := 9) (r2 := 1) (l2 := 9) (by rw [hs]; simp) (by rw [hs]) (by rw [hs]; exact .inr rfl) (by rw [hs]) (by decide) (by decide) (by decide) (by decide)
  have hlk := lk_two (s := s) (b := H.length) (r := 1) (l := 9) (r2 := 1) (l2 := 9) (by rw [hs])
  have hb : holderB s tr t q = if g ≤ t ∧ t < g + (l + 1) ∧ q = 0 then (1, true) else (0, false) := by
    unfold holderB
    rw [if_pos hok, htr]
    by_cases c : g ≤ t ∧ t < g + (l + 1) ∧ q = 0
    · rw [if_pos c]
      obtain ⟨c1, c2, c3⟩ := c
      have : holdB s t q ⟨1, 1, g, g, g + (l + 1)⟩ := by unfold holdB; rw [hlk.1]; exact ⟨rfl, c3.symm, c1, c2⟩
      simp only [List.find?_cons, decide_eq_true this]
    · rw [if_neg c]
      have n1 : ¬ holdB s t q ⟨1, 1, g, g, g + (l + 1)⟩ := by unfold holdB; rw [hlk.1]; rintro ⟨_, a, b', c'⟩; exact c ⟨b', c', a.symm⟩
      have n2 : ¬ holdB s t q ⟨0, 0, 0, g, g + (l + 1)⟩ := by unfold holdB; rw [hlk.2.2]; rintro ⟨a, _⟩; cases a
      simp only [List.find?_cons, decide_eq_false n1, decide_eq_false n2, List.find?_nil]
  rw [hb] at hk
  simp only [hs, htr, hX, SetL.cells, TraceL.cells, twoObjs] at hk
  simp at hk
  by_cases c1 : g ≤ t
  · by_cases c2 : t < g + (l + 1)
    · by_cases c3 : q = 0
      · subst c3
        simp [c1, c2] at hk
        simp (maxDischargeDepth := 12) [m15, knownG_R, hT, s2, twoObjs, SetL.cells, stx, ldnx, t1, t2, t3, t4, w1, w2, w3, w4, w5, w6, hk, c1, c2]
      · simp [c1, c2, c3] at hk
        simp (maxDischargeDepth := 12) [m15, knownG_R, hT, s2, twoObjs, SetL.cells, stx, ldnx, t1, t2, t3, t4, w1, w2, w3, w4, w5, w6, hk, c1, c2, c3]
    · simp [c1, c2] at hk
      simp (maxDischargeDepth := 12) [m15, knownG_R, hT, s2, twoObjs, SetL.cells, stx, ldnx, t1, t2, t3, t4, w1, w2, w3, w4, w5, w6, hk, c1, c2]
  · simp [c1] at hk
    simp (maxDischargeDepth := 12) [m15, knownG_R, hT, s2, twoObjs, SetL.cells, stx, ldnx, t1, t2, t3, t4, w1, w2, w3, w4, w5, w6, hk, c1]
end Go.Mod

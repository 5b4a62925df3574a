/- Slots that may be: the program's loop. -/
import Derived.Test.YtpdkmcnoidbjoaaLegR
set_option linter.unusedVariables false
set_option linter.unusedSimpArgs false
namespace Go.Mod

def hasS (r : List SlotL) (k : Int) : Bool := r.any fun y => y.task == k
def corC (r : List SlotL) : List Value := [.int .i64 (cntS r 0), .int .i64 (cntS r 1), .int .i64 (cntS r 2)]
def tskC (r : List SlotL) : List Value := [.bool (hasS r 0), .bool (hasS r 1), .bool (hasS r 2), .bool (hasS r 3), .bool (hasS r 4), .bool (hasS r 5)]
theorem cor_nil : corC [] = [.int .i64 0, .int .i64 0, .int .i64 0] := rfl
theorem tsk_nil : tskC [] = [.bool false, .bool false, .bool false, .bool false, .bool false, .bool false] := rfl
theorem cor_get {r : List SlotL} {c : Nat} (h : c < 3) : (corC r)[c]? = some (.int .i64 (cntS r (c : Int))) := by
  match c, h with
  | 0, _ => rfl
  | 1, _ => rfl
  | 2, _ => rfl
theorem tsk_get {r : List SlotL} {c : Nat} (h : c < 6) : (tskC r)[c]? = some (.bool (hasS r (c : Int))) := by
  match c, h with
  | 0, _ => rfl
  | 1, _ => rfl
  | 2, _ => rfl
  | 3, _ => rfl
  | 4, _ => rfl
  | 5, _ => rfl
theorem cnt_cons {r : List SlotL} {x : SlotL} {c : Int} : cntS (x :: r) c = if x.cluster = c then cntS r c + 1 else cntS r c := by
  unfold cntS
  rw [List.countP_cons]
  by_cases h : x.cluster = c
  · simp [h]
  · simp [h]
theorem cor_set {r : List SlotL} {x : SlotL} {c : Nat} (h : c < 3) (hx : x.cluster = (c : Int)) : (corC r).set c (.int .i64 (cntS r (c : Int) + 1)) = corC (x :: r) := by
  match c, h with
  | 0, _ => simp [corC, cnt_cons, hx]
  | 1, _ => simp [corC, cnt_cons, hx]
  | 2, _ => simp [corC, cnt_cons, hx]
theorem has_cons {r : List SlotL} {x : SlotL} {c : Int} : hasS (x :: r) c = if x.task = c then true else hasS r c := by
  unfold hasS
  rw [List.any_cons]
  by_cases h : x.task = c
  · simp [h]
  · simp [h]
theorem tsk_set {r : List SlotL} {x : SlotL} {c : Nat} (h : c < 6) (hx : x.task = (c : Int)) : (tskC r).set c (.bool true) = tskC (x :: r) := by
  match c, h with
  | 0, _ => simp [tskC, has_cons, hx]
  | 1, _ => simp [tskC, has_cons, hx]
  | 2, _ => simp [tskC, has_cons, hx]
  | 3, _ => simp [tskC, has_cons, hx]
  | 4, _ => simp [tskC, has_cons, hx]
  | 5, _ => simp [tskC, has_cons, hx]
theorem cnt_le {r : List SlotL} {c : Int} : 0 ≤ cntS r c ∧ cntS r c ≤ (r.length : Int) := by
  unfold cntS
  have := List.countP_le_length (p := fun y : SlotL => y.cluster == c) (l := r)
  omega
/-- Two arrays and a slot, side by side. -/
structure Arr (H0 H : MH) (b7 b8 bx : Nat) (x : SlotL) (r7 r8 : List SlotL) : Prop where
  e : Ext H0 H
  g7 : H[b7]? = some (.cells ⟨1, true, false⟩ (corC r7))
  g8 : H[b8]? = some (.cells ⟨1, true, false⟩ (tskC r8))
  gx : H[bx]? = some (.cells ⟨0, true, false⟩ (slC x))
  h7 : H0.length ≤ b7
  h8 : H0.length ≤ b8
  n78 : b7 ≠ b8
  n7x : b7 ≠ bx
  n8x : b8 ≠ bx
section
variable {H0 H : MH} {b7 b8 bx : Nat} {x : SlotL} {r7 r8 r : List SlotL}
theorem Arr.set7 (h : Arr H0 H b7 b8 bx x r7 r8) : Arr H0 (H.set b7 (.cells ⟨1, true, false⟩ (corC r))) b7 b8 bx x r r8 := by
  have hlt := (List.getElem?_eq_some_iff.1 h.g7).1
  exact ⟨ext_set h.e h.h7, List.getElem?_set_self hlt, by rw [List.getElem?_set_ne h.n78]; exact h.g8, by rw [List.getElem?_set_ne h.n7x]; exact h.gx, h.h7, h.h8, h.n78, h.n7x, h.n8x⟩
theorem Arr.set8 (h : Arr H0 H b7 b8 bx x r7 r8) : Arr H0 (H.set b8 (.cells ⟨1, true, false⟩ (tskC r))) b7 b8 bx x r7 r := by
  have hlt := (List.getElem?_eq_some_iff.1 h.g8).1
  exact ⟨ext_set h.e h.h8, by rw [List.getElem?_set_ne (Ne.symm h.n78)]; exact h.g7, List.getElem?_set_self hlt, by rw [List.getElem?_set_ne h.n8x]; exact h.gx, h.h7, h.h8, h.n78, h.n7x, h.n8x⟩
theorem Arr.st3 (h : Arr H0 H b7 b8 bx x r7 r8) : ∃ H', meff (.st 3) [.pointer (some ⟨b7, 0, none⟩), .agg #[.int .i64 0, .int .i64 0, .int .i64 0]] H = some (.tuple #[], H') ∧ Arr H0 H' b7 b8 bx x [] r8 := by
  refine ⟨_, stn_at h.g7 rfl _ 3 0 rfl rfl (by simp [corC]), ?_⟩
  have := h.set7 (r := [])
  rw [cor_nil] at this
  simpa [corC] using this
theorem Arr.st6 (h : Arr H0 H b7 b8 bx x r7 r8) : ∃ H', meff (.st 6) [.pointer (some ⟨b8, 0, none⟩), .agg #[.bool false, .bool false, .bool false, .bool false, .bool false, .bool false]] H = some (.tuple #[], H') ∧ Arr H0 H' b7 b8 bx x r7 [] := by
  refine ⟨_, stn_at h.g8 rfl _ 6 0 rfl rfl (by simp [tskC]), ?_⟩
  have := h.set8 (r := [])
  rw [tsk_nil] at this
  simpa [tskC] using this
theorem Arr.st7 (h : Arr H0 H b7 b8 bx x r7 r8) {c : Nat} (hc : c < 3) (hx : x.cluster = (c : Int)) : ∃ H', meff (.st 1) [.pointer (some ⟨b7, c, none⟩), .int .i64 (cntS r7 (c : Int) + 1)] H = some (.tuple #[], H') ∧ Arr H0 H' b7 b8 bx x (x :: r7) r8 := by
  refine ⟨_, st_at h.g7 rfl c _ rfl (by simpa [corC] using hc), ?_⟩
  rw [cor_set hc hx]
  exact h.set7
theorem Arr.st8 (h : Arr H0 H b7 b8 bx x r7 r8) {c : Nat} (hc : c < 6) (hx : x.task = (c : Int)) : ∃ H', meff (.st 1) [.pointer (some ⟨b8, c, none⟩), .bool true] H = some (.tuple #[], H') ∧ Arr H0 H' b7 b8 bx x r7 (x :: r8) := by
  refine ⟨_, st_at h.g8 rfl c _ rfl (by simpa [tskC] using hc), ?_⟩
  rw [tsk_set hc hx]
  exact h.set8
theorem Arr.ld7 (h : Arr H0 H b7 b8 bx x r7 r8) {c : Nat} (hc : c < 3) : mread (.ld none) [.pointer (some ⟨b7, c, none⟩)] H = some (.int .i64 (cntS r7 (c : Int))) := by
  rw [ld_at h.g7, cor_get hc]; rfl
theorem Arr.ld8 (h : Arr H0 H b7 b8 bx x r7 r8) {c : Nat} (hc : c < 6) : mread (.ld none) [.pointer (some ⟨b8, c, none⟩)] H = some (.bool (hasS r8 (c : Int))) := by
  rw [ld_at h.g8, tsk_get hc]; rfl
theorem Arr.ldx (h : Arr H0 H b7 b8 bx x r7 r8) (o : Nat) : mread (.ld none) [.pointer (some ⟨bx, o, none⟩)] H = knownO (slC x)[o]? := ld_at h.gx o
end
/-- The tick of the last one. -/
def LastS (tm : Int) (rev : List SlotL) : Prop := (rev = [] ∧ tm = -1) ∨ ∃ y l, rev = y :: l ∧ tm = y.time
theorem run_other {tm : Int} {rev : List SlotL} (h : LastS tm rev) {u : Int} (hu : u ≠ tm) : runS rev u = [] := by
  rcases h with ⟨rfl, _⟩ | ⟨y, l, rfl, rfl⟩
  · rfl
  · unfold runS
    rw [List.takeWhile_cons, if_neg (by simpa using fun h => hu h.symm)]
theorem run_cons {x : SlotL} {rev : List SlotL} : runS (x :: rev) x.time = x :: runS rev x.time := by
  unfold runS
  rw [List.takeWhile_cons, if_pos (by simp)]
theorem run_len {rev : List SlotL} {u : Int} : (runS rev u).length ≤ rev.length := (List.takeWhile_sublist _).length_le
theorem has_iff {r : List SlotL} {k : Int} : hasS r k = false ↔ ∀ y ∈ r, y.task ≠ k := by
  unfold hasS
  rw [List.any_eq_false]
  simp
section
variable {mp : FuncId → Option MDef} {H0 H : MH}
open Classical in
theorem slots_loop (hf : mp 101 = some (.code m101)) {s : SetL} {t : TraceL} (hs : SetAt H0 s) (ht : TraceAt H0 t) {bs bt b7 b8 : Nat} {is it : Info} (hxs : H0[bs]? = some (.cells is s.cells)) (hxt : H0[bt]? = some (.cells it t.cells))
    (h7 : H0.length ≤ b7) (h8 : H0.length ≤ b8) (n78 : b7 ≠ b8) (hc3 : s.cores.length ≤ 3) (ht6 : s.tasks.length ≤ 6) : ∀ (rest rev : List SlotL) (i : Nat) (H : MH) (tm : Int), t.slots.drop i = rest → i ≤ t.slots.length → rev.length = i → LastS tm rev → Ext H0 H →
    H[b7]? = some (.cells ⟨1, true, false⟩ (corC (runS rev tm))) → H[b8]? = some (.cells ⟨1, true, false⟩ (tskC (runS rev tm))) →
    (allGood s t.ticks rev rest ∧ ∃ (H' : MH) (tm' : Int), Rc mp (.loop m82_0) [(2, .pointer (some ⟨bs, 0, none⟩)), (3, .pointer (some ⟨bt, 0, none⟩)), (6, .int .i64 tm), (7, .pointer (some ⟨b7, 0, none⟩)), (8, .pointer (some ⟨b8, 0, none⟩)), (17, .slice t.sa t.slots.length t.sc), (18, .int .i64 (t.slots.length : Int)), (19, .int .i64 (i : Int))] H =
      some (.exit 0, [(2, .pointer (some ⟨bs, 0, none⟩)), (3, .pointer (some ⟨bt, 0, none⟩)), (6, .int .i64 tm'), (7, .pointer (some ⟨b7, 0, none⟩)), (8, .pointer (some ⟨b8, 0, none⟩)), (17, .slice t.sa t.slots.length t.sc), (18, .int .i64 (t.slots.length : Int)), (19, .int .i64 (t.slots.length : Int)), (20, .bool false)], H') ∧ Ext H0 H') ∨
    (¬ allGood s t.ticks rev rest ∧ ∃ H' : MH, Rc mp (.loop m82_0) [(2, .pointer (some ⟨bs, 0, none⟩)), (3, .pointer (some ⟨bt, 0, none⟩)), (6, .int .i64 tm), (7, .pointer (some ⟨b7, 0, none⟩)), (8, .pointer (some ⟨b8, 0, none⟩)), (17, .slice t.sa t.slots.length t.sc), (18, .int .i64 (t.slots.length : Int)), (19, .int .i64 (i : Int))] H =
      some (.ret, [(4, .bool false)], H') ∧ Ext H0 H') := by
  obtain ⟨n1, n2, n3, n4⟩ := ht.few
  have hds := ldbn hxs
  have hdt := ldbn hxt
  have hd := ldb hxs
  simp only [SetL.cells] at hds hd
  simp only [TraceL.cells] at hdt
  intro rest
  induction rest with
  | nil =>
    intro rev i H tm hdr hi hrl hlast e g7 g8
    have : i = t.slots.length := by
      have := congrArg List.length hdr
      simp at this; omega
    subst this
    refine .inl ⟨trivial, H, tm, ?_, e⟩
    rw [Rc_loop]
    simp [m82_0]
  | cons x rest ih =>
    intro rev i H tm hdr hi hrl hlast e g7 g8
    have hy : t.slots[i]? = some x := by
      have := congrArg (fun l => l[0]?) hdr
      simpa using this
    have hdr' : t.slots.drop (i + 1) = rest := by
      have := congrArg (List.drop 1) hdr
      simpa [List.drop_drop, Nat.add_comm] using this
    have hin : i < t.slots.length := (List.getElem?_eq_some_iff.1 hy).1
    have w : IntKind.i64.wrap ((i : Int) + 1) = (i : Int) + 1 := wrap_i64 (by omega) (by omega)
    have l7 := (List.getElem?_eq_some_iff.1 g7).1
    have l8 := (List.getElem?_eq_some_iff.1 g8).1
    have hrd := ht.slots.rdn hy
    simp only [slC] at hrd
    have hsl := (G_slotted (mp := mp) (t := t) (H0 := H0) (H := H ++ [.cells ⟨0, true, false⟩ (slC x)]) hf hs (by simp [e]) x).eq
    have hA : Arr H0 (aft mp 101 [.agg s.cells.toArray, .agg t.cells.toArray, .agg (slC x).toArray] (H ++ [.cells ⟨0, true, false⟩ (slC x)])) b7 b8 H.length x (runS rev tm) (runS rev tm) := by
      have l7' : b7 < (H ++ [MObj.cells ⟨0, true, false⟩ (slC x)]).length := by simp; omega
      have l8' : b8 < (H ++ [MObj.cells ⟨0, true, false⟩ (slC x)]).length := by simp; omega
      exact ⟨by simp (maxDischargeDepth := 12) [e], by rw [get_aft l7', get_app_lt l7]; exact g7, by rw [get_aft l8', get_app_lt l8]; exact g8, by rw [get_aft (by simp)]; simp, h7, h8, n78, by omega, by omega⟩
    generalize hH2 : aft mp 101 [.agg s.cells.toArray, .agg t.cells.toArray, .agg (slC x).toArray] (H ++ [.cells ⟨0, true, false⟩ (slC x)]) = H2 at hsl hA
    simp only [SetL.cells, TraceL.cells, slC] at hsl
    by_cases hsx : slottedB s t.ticks x
    case neg =>
      rw [decide_eq_false hsx] at hsl
      refine .inr ⟨fun h => hsx h.1.1, H2, ?_, hA.e⟩
      rw [Rc_loop]
      simp (maxDischargeDepth := 12) [m82_0, hin, ht.slots.ia, hrd, e, stx, ldnx, hds, hdt, hsl]
    rw [decide_eq_true hsx] at hsl
    obtain ⟨xt, xc, xk, xh⟩ := x
    obtain ⟨r1, r2, r3, r4, r5, r6⟩ := hsx.1
    simp only at r1 r2 r3 r4 r5 r6
    obtain ⟨kc, rfl⟩ := Int.eq_ofNat_of_zero_le r1
    obtain ⟨kt, rfl⟩ := Int.eq_ofNat_of_zero_le r3
    have q1 : kc < 3 := by omega
    have q2 : kt < 6 := by omega
    have q3 : kc < s.cores.length := by omega
    obtain ⟨cn, hcn⟩ : ∃ c, s.cores[kc]? = some c := ⟨_, List.getElem?_eq_getElem q3⟩
    have hrc := hs.cores.rd1 hcn
    have q1' : (kc : Int) < 3 := by omega
    have q2' : (kt : Int) < 6 := by omega
    -- the state behind the reset
    have hR : ∃ H3, Arr H0 H3 b7 b8 H.length ⟨xt, kc, kt, xh⟩ (runS rev xt) (runS rev xt) ∧ ((xt = tm ∧ H3 = H2) ∨ (xt ≠ tm ∧ ∃ Ha, meff (.st 3) [.pointer (some ⟨b7, 0, none⟩), .agg #[.int .i64 0, .int .i64 0, .int .i64 0]] H2 = some (.tuple #[], Ha) ∧
        meff (.st 6) [.pointer (some ⟨b8, 0, none⟩), .agg #[.bool false, .bool false, .bool false, .bool false, .bool false, .bool false]] Ha = some (.tuple #[], H3))) := by
      by_cases hxt : xt = tm
      · exact ⟨H2, by rw [hxt]; rw [hxt] at hA; exact hA, .inl ⟨hxt, rfl⟩⟩
      · obtain ⟨Ha, a1, a2⟩ := hA.st3
        obtain ⟨Hb, b1, b2⟩ := a2.st6
        exact ⟨Hb, by rw [run_other hlast hxt]; exact b2, .inr ⟨hxt, Ha, a1, b1⟩⟩
    obtain ⟨H3, hA3, hR⟩ := hR
    obtain ⟨H4, s4, hA4⟩ := hA3.st7 q1 rfl
    obtain ⟨H5, s5, hA5⟩ := hA4.st8 q2 rfl
    have hcl := cnt_le (r := runS rev xt) (c := (kc : Int))
    have hrn := run_len (rev := rev) (u := xt)
    have wc : IntKind.i64.wrap (cntS (runS rev xt) (kc : Int) + 1) = cntS (runS rev xt) (kc : Int) + 1 := wrap_i64 (by omega) (by omega)
    have d3 := hA3.ld7 q1
    have d4 := hA4.ld7 q1
    have d4' := hA4.ld8 q2
    have f2 := hA.ldx
    have f3 := hA3.ldx
    have f4 := hA4.ldx
    have hcc : cntS (⟨xt, (kc : Int), (kt : Int), xh⟩ :: runS rev xt) (kc : Int) = cntS (runS rev xt) (kc : Int) + 1 := by rw [cnt_cons, if_pos rfl]
    rw [hcc] at d4
    simp only [slC] at f2 f3 f4
    have e4 := hA4.e
    have hd4 := fun o => hd H4 o e4
    have hrc4 := hrc H4 e4
    have hia := hs.cores.ia
    have goodIff : goodS s t.ticks rev ⟨xt, (kc : Int), (kt : Int), xh⟩ ↔ cntS (runS rev xt) (kc : Int) + 1 ≤ cn ∧ hasS (runS rev xt) (kt : Int) = false := by
      unfold goodS
      simp only [Int.toNat_natCast, has_iff]
      constructor
      · rintro ⟨_, ⟨c, h1, h2⟩, h3⟩
        rw [hcn] at h1; cases h1
        exact ⟨h2, h3⟩
      · rintro ⟨h2, h3⟩
        exact ⟨hsx, ⟨cn, hcn, h2⟩, h3⟩
    by_cases hg : goodS s t.ticks rev ⟨xt, (kc : Int), (kt : Int), xh⟩
    · obtain ⟨k1, k2⟩ := goodIff.1 hg
      have k1' : ¬ cn < cntS (runS rev xt) (kc : Int) + 1 := by omega
      rw [k2] at d4'
      have hrun : runS (⟨xt, (kc : Int), (kt : Int), xh⟩ :: rev) xt = ⟨xt, (kc : Int), (kt : Int), xh⟩ :: runS rev xt := run_cons (x := ⟨xt, (kc : Int), (kt : Int), xh⟩)
      rcases ih (⟨xt, (kc : Int), (kt : Int), xh⟩ :: rev) (i + 1) H5 xt hdr' (by omega) (by simp [hrl]) (.inr ⟨_, _, rfl, rfl⟩) hA5.e (by rw [hrun]; exact hA5.g7) (by rw [hrun]; exact hA5.g8) with ⟨g1, H', tm', g2, g3⟩ | ⟨g1, H', g2, g3⟩
      · refine .inl ⟨⟨hg, g1⟩, H', tm', ?_, g3⟩
        rw [Rc_loop]
        rcases hR with ⟨hxt, rfl⟩ | ⟨hxt, Ha, a1, a2⟩
        · subst hxt
          simp (maxDischargeDepth := 12) [m82_0, mdraw_plain, hin, ht.slots.ia, hrd, e, stx, ldnx, hds, hdt, hsl, w, f2, f3, f4, q1, q1', q2, q2', q3, d3, d4, d4', wc, s4, s5, hd4, hrc4, hia, intC, k1']
          simp at g2
          exact g2
        · simp (maxDischargeDepth := 12) [m82_0, mdraw_plain, hin, ht.slots.ia, hrd, e, stx, ldnx, hds, hdt, hsl, w, f2, f3, f4, hxt, a1, a2, q1, q1', q2, q2', q3, d3, d4, d4', wc, s4, s5, hd4, hrc4, hia, intC, k1']
          exact g2
      · refine .inr ⟨fun h => g1 h.2, H', ?_, g3⟩
        rw [Rc_loop]
        rcases hR with ⟨hxt, rfl⟩ | ⟨hxt, Ha, a1, a2⟩
        · subst hxt
          simp (maxDischargeDepth := 12) [m82_0, mdraw_plain, hin, ht.slots.ia, hrd, e, stx, ldnx, hds, hdt, hsl, w, f2, f3, f4, q1, q1', q2, q2', q3, d3, d4, d4', wc, s4, s5, hd4, hrc4, hia, intC, k1']
          simp at g2
          exact g2
        · simp (maxDischargeDepth := 12) [m82_0, mdraw_plain, hin, ht.slots.ia, hrd, e, stx, ldnx, hds, hdt, hsl, w, f2, f3, f4, hxt, a1, a2, q1, q1', q2, q2', q3, d3, d4, d4', wc, s4, s5, hd4, hrc4, hia, intC, k1']
          exact g2
    · refine .inr ⟨fun h => hg h.1, H4, ?_, hA4.e⟩
      rw [Rc_loop]
      by_cases k1 : cn < cntS (runS rev xt) (kc : Int) + 1
      · rcases hR with ⟨hxt, rfl⟩ | ⟨hxt, Ha, a1, a2⟩
        · subst hxt
          simp (maxDischargeDepth := 12) [m82_0, mdraw_plain, hin, ht.slots.ia, hrd, e, stx, ldnx, hds, hdt, hsl, w, f2, f3, f4, q1, q1', q2, q2', q3, d3, d4, d4', wc, s4, hd4, hrc4, hia, intC, k1]
        · simp (maxDischargeDepth := 12) [m82_0, mdraw_plain, hin, ht.slots.ia, hrd, e, stx, ldnx, hds, hdt, hsl, w, f2, f3, f4, hxt, a1, a2, q1, q1', q2, q2', q3, d3, d4, d4', wc, s4, hd4, hrc4, hia, intC, k1]
      · have k2 : hasS (runS rev xt) (kt : Int) = true := by
          cases hh : hasS (runS rev xt) (kt : Int) with
          | true => rfl
          | false => exact absurd (goodIff.2 ⟨by omega, hh⟩) hg
        rw [k2] at d4'
        rcases hR with ⟨hxt, rfl⟩ | ⟨hxt, Ha, a1, a2⟩
        · subst hxt
          simp (maxDischargeDepth := 12) [m82_0, mdraw_plain, hin, ht.slots.ia, hrd, e, stx, ldnx, hds, hdt, hsl, w, f2, f3, f4, q1, q1', q2, q2', q3, d3, d4, d4', wc, s4, hd4, hrc4, hia, intC, k1]
        · simp (maxDischargeDepth := 12) [m82_0, mdraw_plain, hin, ht.slots.ia, hrd, e, stx, ldnx, hds, hdt, hsl, w, f2, f3, f4, hxt, a1, a2, q1, q1', q2, q2', q3, d3, d4, d4', wc, s4, hd4, hrc4, hia, intC, k1]
open Classical in
theorem G_slots (hf : mp 82 = some (.code m82)) (h101 : mp 101 = some (.code m101)) (hsr : SrtF mp) {s : SetL} {t : TraceL} (hs : SetAt H0 s) (ht : TraceAt H0 t) (e : Ext H0 H) (hc3 : s.cores.length ≤ 3) (ht6 : s.tasks.length ≤ 6) : GR mp 82 [.agg s.cells.toArray, .agg t.cells.toArray] H (.bool (decide (slotsB s t))) := by
  obtain ⟨n1, n2, n3, n4⟩ := ht.few
  have e1 : Ext H (H ++ [.cells ⟨0, true, false⟩ s.cells, .cells ⟨0, true, false⟩ t.cells]) := ⟨_, rfl⟩
  have hx1 : (H ++ [MObj.cells ⟨0, true, false⟩ s.cells, .cells ⟨0, true, false⟩ t.cells])[H.length]? = some (.cells ⟨0, true, false⟩ s.cells) := by simp
  have hx2 : (H ++ [MObj.cells ⟨0, true, false⟩ s.cells, .cells ⟨0, true, false⟩ t.cells])[H.length + 1]? = some (.cells ⟨0, true, false⟩ t.cells) := by simp
  have hsd := (G_sorted (mp := mp) (H := H ++ [.cells ⟨0, true, false⟩ s.cells, .cells ⟨0, true, false⟩ t.cells]) (c := t.sc) hsr (ht.slots.ext (e.trans e1)) n1 (Ext.refl _)).eq
  have e2 := ext_aft0 (mp := mp) (f := 100) (vs := [.slice t.sa t.slots.length t.sc, .func (.func 97) #[] #[]]) (H := H ++ [.cells ⟨0, true, false⟩ s.cells, .cells ⟨0, true, false⟩ t.cells])
  generalize hH2 : aft mp 100 [.slice t.sa t.slots.length t.sc, .func (.func 97) #[] #[]] (H ++ [.cells ⟨0, true, false⟩ s.cells, .cells ⟨0, true, false⟩ t.cells]) = H2 at hsd e2
  have eH2 := (e.trans e1).trans e2
  have hg1 := e2.get hx1
  have hg2 := e2.get hx2
  have hd2 := ldb hg2
  have hdA := fun o => ldb hx2 _ o (Ext.refl _)
  simp only [SetL.cells, TraceL.cells] at hsd hd2 hdA
  unfold GR
  rw [R_code hf]
  by_cases h1 : sortedS t.slots
  case neg =>
    rw [decide_eq_false h1] at hsd
    rw [decide_eq_false fun h => h1 h.1]
    simp (maxDischargeDepth := 12) [m82, SetL.cells, TraceL.cells, hdA, hsd]
    exact (e1.trans e2)
  rw [decide_eq_true h1] at hsd
  have hl := slots_loop (mp := mp) (H0 := H2) h101 (hs.ext eH2) (ht.ext eH2) hg1 hg2 (b7 := H2.length) (b8 := H2.length + 1) (by omega) (by omega) (by omega) hc3 ht6 t.slots [] 0 (H2 ++ [.cells ⟨1, true, false⟩ (corC []), .cells ⟨1, true, false⟩ (tskC [])]) (-1) (by simp) (by omega) rfl (.inl ⟨rfl, rfl⟩) ⟨_, rfl⟩ (by simp [runS]) (by simp [runS])
  rcases hl with ⟨g1, H', tm', g2, g3⟩ | ⟨g1, H', g2, g3⟩
  · rw [decide_eq_true ⟨h1, g1⟩]
    simp [cor_nil, tsk_nil] at g2
    simp (maxDischargeDepth := 12) [m82, SetL.cells, TraceL.cells, hdA, hsd, hd2, g2]
    exact (e1.trans e2).trans g3
  · rw [decide_eq_false fun h => g1 h.2]
    simp [cor_nil, tsk_nil] at g2
    simp (maxDischargeDepth := 12) [m82, SetL.cells, TraceL.cells, hdA, hsd, hd2, g2]
    exact (e1.trans e2).trans g3
end
end Go.Mod

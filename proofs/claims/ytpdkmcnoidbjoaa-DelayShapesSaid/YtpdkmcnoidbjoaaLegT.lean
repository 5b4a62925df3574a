/- Jobs that may be: the program's. -/
import Derived.Test.YtpdkmcnoidbjoaaLegS
set_option linter.unusedVariables false
set_option linter.unusedSimpArgs false
namespace Go.Mod

def ltJ (rev : List DoneL) (k : Int) : DoneL := (rev.find? fun y => y.task == k).getD ⟨0, 0, 0⟩
def hadJ (rev : List DoneL) (k : Int) : Bool := (rev.find? fun y => y.task == k).isSome
def lastC (r : List DoneL) : List Value := dnC (ltJ r 0) ++ dnC (ltJ r 1) ++ dnC (ltJ r 2) ++ dnC (ltJ r 3) ++ dnC (ltJ r 4) ++ dnC (ltJ r 5)
def hadC (r : List DoneL) : List Value := [.bool (hadJ r 0), .bool (hadJ r 1), .bool (hadJ r 2), .bool (hadJ r 3), .bool (hadJ r 4), .bool (hadJ r 5)]
theorem last_nil : lastC [] = [.int .i64 0, .int .i64 0, .int .i64 0, .int .i64 0, .int .i64 0, .int .i64 0, .int .i64 0, .int .i64 0, .int .i64 0, .int .i64 0, .int .i64 0, .int .i64 0, .int .i64 0, .int .i64 0, .int .i64 0, .int .i64 0, .int .i64 0, .int .i64 0] := rfl
theorem had_nil : hadC [] = [.bool false, .bool false, .bool false, .bool false, .bool false, .bool false] := rfl
theorem lastC_len {r : List DoneL} : (lastC r).length = 18 := rfl
theorem lastC_one {r : List DoneL} : (lastC r).all one = true := rfl
theorem last_get {r : List DoneL} {c : Nat} (h : c < 6) : ((lastC r).drop (c * 3)).take 3 = dnC (ltJ r (c : Int)) := by
  match c, h with
  | 0, _ => rfl
  | 1, _ => rfl
  | 2, _ => rfl
  | 3, _ => rfl
  | 4, _ => rfl
  | 5, _ => rfl
theorem hadC_get {r : List DoneL} {c : Nat} (h : c < 6) : (hadC r)[c]? = some (.bool (hadJ r (c : Int))) := by
  match c, h with
  | 0, _ => rfl
  | 1, _ => rfl
  | 2, _ => rfl
  | 3, _ => rfl
  | 4, _ => rfl
  | 5, _ => rfl
theorem lt_cons {r : List DoneL} {x : DoneL} {c : Int} : ltJ (x :: r) c = if x.task = c then x else ltJ r c := by
  unfold ltJ
  rw [List.find?_cons]
  by_cases h : x.task = c
  · simp [h]
  · have : (x.task == c) = false := by simpa using h
    simp [this, h]
theorem hadJ_cons {r : List DoneL} {x : DoneL} {c : Int} : hadJ (x :: r) c = if x.task = c then true else hadJ r c := by
  unfold hadJ
  rw [List.find?_cons]
  by_cases h : x.task = c
  · simp [h]
  · have : (x.task == c) = false := by simpa using h
    simp [this, h]
theorem last_set {r : List DoneL} {x : DoneL} {c : Nat} (h : c < 6) (hx : x.task = (c : Int)) : (lastC r).take (c * 3) ++ dnC x ++ (lastC r).drop (c * 3 + 3) = lastC (x :: r) := by
  match c, h with
  | 0, _ => simp [lastC, lt_cons, hx, dnC]
  | 1, _ => simp [lastC, lt_cons, hx, dnC]
  | 2, _ => simp [lastC, lt_cons, hx, dnC]
  | 3, _ => simp [lastC, lt_cons, hx, dnC]
  | 4, _ => simp [lastC, lt_cons, hx, dnC]
  | 5, _ => simp [lastC, lt_cons, hx, dnC]
theorem had_set {r : List DoneL} {x : DoneL} {c : Nat} (h : c < 6) (hx : x.task = (c : Int)) : (hadC r).set c (.bool true) = hadC (x :: r) := by
  match c, h with
  | 0, _ => simp [hadC, hadJ_cons, hx]
  | 1, _ => simp [hadC, hadJ_cons, hx]
  | 2, _ => simp [hadC, hadJ_cons, hx]
  | 3, _ => simp [hadC, hadJ_cons, hx]
  | 4, _ => simp [hadC, hadJ_cons, hx]
  | 5, _ => simp [hadC, hadJ_cons, hx]
/-- Two arrays and two jobs, side by side. -/
structure ArJ (H0 H : MH) (b5 b6 bx bo : Nat) (x o : DoneL) (r5 r6 : List DoneL) : Prop where
  e : Ext H0 H
  g5 : H[b5]? = some (.cells ⟨3, true, false⟩ (lastC r5))
  g6 : H[b6]? = some (.cells ⟨1, true, false⟩ (hadC r6))
  gx : H[bx]? = some (.cells ⟨0, true, false⟩ (dnC x))
  go : H[bo]? = some (.cells ⟨0, true, false⟩ (dnC o))
  h5 : H0.length ≤ b5
  h6 : H0.length ≤ b6
  n56 : b5 ≠ b6
  n5x : b5 ≠ bx
  n6x : b6 ≠ bx
  n5o : b5 ≠ bo
  n6o : b6 ≠ bo
section
variable {H0 H : MH} {b5 b6 bx bo : Nat} {x o : DoneL} {r5 r6 r : List DoneL}
theorem ArJ.st5 (h : ArJ H0 H b5 b6 bx bo x o r5 r6) {c : Nat} (hc : c < 6) (hx : x.task = (c : Int)) : ∃ H', meff (.st 3) [.pointer (some ⟨b5, c * 3, none⟩), .agg (dnC x).toArray] H = some (.tuple #[], H') ∧ ArJ H0 H' b5 b6 bx bo x o (x :: r5) r6 := by
  have hlt := (List.getElem?_eq_some_iff.1 h.g5).1
  refine ⟨_, stn_at h.g5 rfl _ 3 (c * 3) rfl rfl (by rw [lastC_len]; omega), ?_⟩
  rw [show (dnC x).toArray.toList = dnC x from rfl, last_set hc hx]
  exact ⟨ext_set h.e h.h5, List.getElem?_set_self hlt, by rw [List.getElem?_set_ne h.n56]; exact h.g6, by rw [List.getElem?_set_ne h.n5x]; exact h.gx, by rw [List.getElem?_set_ne h.n5o]; exact h.go, h.h5, h.h6, h.n56, h.n5x, h.n6x, h.n5o, h.n6o⟩
theorem ArJ.st6 (h : ArJ H0 H b5 b6 bx bo x o r5 r6) {c : Nat} (hc : c < 6) (hx : x.task = (c : Int)) : ∃ H', meff (.st 1) [.pointer (some ⟨b6, c, none⟩), .bool true] H = some (.tuple #[], H') ∧ ArJ H0 H' b5 b6 bx bo x o r5 (x :: r6) := by
  have hlt := (List.getElem?_eq_some_iff.1 h.g6).1
  refine ⟨_, st_at h.g6 rfl c _ rfl (by simpa [hadC] using hc), ?_⟩
  rw [had_set hc hx]
  exact ⟨ext_set h.e h.h6, by rw [List.getElem?_set_ne (Ne.symm h.n56)]; exact h.g5, List.getElem?_set_self hlt, by rw [List.getElem?_set_ne h.n6x]; exact h.gx, by rw [List.getElem?_set_ne h.n6o]; exact h.go, h.h5, h.h6, h.n56, h.n5x, h.n6x, h.n5o, h.n6o⟩
theorem ArJ.ld6 (h : ArJ H0 H b5 b6 bx bo x o r5 r6) {c : Nat} (hc : c < 6) : mread (.ld none) [.pointer (some ⟨b6, c, none⟩)] H = some (.bool (hadJ r6 (c : Int))) := by
  rw [ld_at h.g6, hadC_get hc]; rfl
theorem ArJ.ldx (h : ArJ H0 H b5 b6 bx bo x o r5 r6) (j : Nat) : mread (.ld none) [.pointer (some ⟨bx, j, none⟩)] H = knownO (dnC x)[j]? := ld_at h.gx j
theorem ArJ.ldo (h : ArJ H0 H b5 b6 bx bo x o r5 r6) (j : Nat) : mread (.ld none) [.pointer (some ⟨bo, j, none⟩)] H = knownO (dnC o)[j]? := ld_at h.go j
theorem ArJ.ldn (h : ArJ H0 H b5 b6 bx bo x o r5 r6) : mread (.ld (some 3)) [.pointer (some ⟨bx, 0, none⟩)] H = some (.agg (dnC x).toArray) := ldn_at h.gx 0 3 (by simp [dnC]) rfl
end
theorem job_find {rev : List DoneL} {k : Int} : rev.find? (fun y => y.task == k) = if hadJ rev k = true then some (ltJ rev k) else none := by
  unfold hadJ ltJ
  cases rev.find? (fun y => y.task == k) <;> simp
section
variable {mp : FuncId → Option MDef} {H0 H : MH}
set_option maxHeartbeats 1000000 in
theorem jobs_loop {s : SetL} {t : TraceL} (hs : SetAt H0 s) (ht : TraceAt H0 t) {bs bt b5 b6 : Nat} {is it : Info} (hxs : H0[bs]? = some (.cells is s.cells)) (hxt : H0[bt]? = some (.cells it t.cells))
    (h5 : H0.length ≤ b5) (h6 : H0.length ≤ b6) (n56 : b5 ≠ b6) (ht6 : s.tasks.length ≤ 6) (htk : t.ticks ≤ 20000) : ∀ (rest rev : List DoneL) (i : Nat) (H : MH), t.jobs.drop i = rest → i ≤ t.jobs.length → (∀ y ∈ rev, 0 ≤ y.release ∧ y.release ≤ 20000) → Ext H0 H →
    H[b5]? = some (.cells ⟨3, true, false⟩ (lastC rev)) → H[b6]? = some (.cells ⟨1, true, false⟩ (hadC rev)) →
    (allJ s t.ticks rev rest ∧ ∃ (H' : MH), Rc mp (.loop m83_0) [(2, .pointer (some ⟨bs, 0, none⟩)), (3, .pointer (some ⟨bt, 0, none⟩)), (5, .pointer (some ⟨b5, 0, none⟩)), (6, .pointer (some ⟨b6, 0, none⟩)), (11, .slice t.ja t.jobs.length t.jc), (12, .int .i64 (t.jobs.length : Int)), (13, .int .i64 (i : Int))] H =
      some (.exit 0, [(2, .pointer (some ⟨bs, 0, none⟩)), (3, .pointer (some ⟨bt, 0, none⟩)), (5, .pointer (some ⟨b5, 0, none⟩)), (6, .pointer (some ⟨b6, 0, none⟩)), (11, .slice t.ja t.jobs.length t.jc), (12, .int .i64 (t.jobs.length : Int)), (13, .int .i64 (t.jobs.length : Int)), (14, .bool false)], H') ∧ Ext H0 H') ∨
    (¬ allJ s t.ticks rev rest ∧ ∃ H' : MH, Rc mp (.loop m83_0) [(2, .pointer (some ⟨bs, 0, none⟩)), (3, .pointer (some ⟨bt, 0, none⟩)), (5, .pointer (some ⟨b5, 0, none⟩)), (6, .pointer (some ⟨b6, 0, none⟩)), (11, .slice t.ja t.jobs.length t.jc), (12, .int .i64 (t.jobs.length : Int)), (13, .int .i64 (i : Int))] H =
      some (.ret, [(4, .bool false)], H') ∧ Ext H0 H') := by
  obtain ⟨n1, n2, n3, n4⟩ := ht.few
  have hd := ldb hxs
  have hdt := ldb hxt
  simp only [SetL.cells] at hd
  simp only [TraceL.cells] at hdt
  intro rest
  induction rest with
  | nil =>
    intro rev i H hdr hi hrl e g5 g6
    have : i = t.jobs.length := by
      have := congrArg List.length hdr
      simp at this; omega
    subst this
    refine .inl ⟨trivial, H, ?_, e⟩
    rw [Rc_loop]
    simp [m83_0]
  | cons x rest ih =>
    intro rev i H hdr hi hrl e g5 g6
    have hy : t.jobs[i]? = some x := by
      have := congrArg (fun l => l[0]?) hdr
      simpa using this
    have hdr' : t.jobs.drop (i + 1) = rest := by
      have := congrArg (List.drop 1) hdr
      simpa [List.drop_drop, Nat.add_comm] using this
    have hin : i < t.jobs.length := (List.getElem?_eq_some_iff.1 hy).1
    have w : IntKind.i64.wrap ((i : Int) + 1) = (i : Int) + 1 := wrap_i64 (by omega) (by omega)
    have l5 := (List.getElem?_eq_some_iff.1 g5).1
    have l6 := (List.getElem?_eq_some_iff.1 g6).1
    have hrd := ht.jobs.rdn hy
    have hdA : ∀ o, mread (.ld none) [.pointer (some ⟨H.length, o, none⟩)] (H ++ [MObj.cells ⟨0, true, false⟩ (dnC x)]) = knownO (dnC x)[o]? := fun o => ldb (H0 := H ++ [MObj.cells ⟨0, true, false⟩ (dnC x)]) (b := H.length) (i := ⟨0, true, false⟩) (by simp) _ o (Ext.refl _)
    obtain ⟨xk, xr, xf⟩ := x
    simp only [dnC] at hrd hdA
    by_cases k1 : xk < 0
    · refine .inr ⟨fun h => by have := h.1.1.1; simp at this; omega, H ++ [MObj.cells ⟨0, true, false⟩ (dnC ⟨xk, xr, xf⟩)], ?_, by simp [e]⟩
      rw [Rc_loop]
      simp (maxDischargeDepth := 12) [m83_0, hin, ht.jobs.ia, hrd, e, stx, hdA, k1]
      rfl
    obtain ⟨kt, rfl⟩ := Int.eq_ofNat_of_zero_le (show 0 ≤ xk by omega)
    by_cases k2 : s.tasks.length ≤ kt
    · refine .inr ⟨fun h => by have := h.1.1.2.1; simp at this; omega, H ++ [MObj.cells ⟨0, true, false⟩ (dnC ⟨kt, xr, xf⟩)], ?_, by simp [e]⟩
      rw [Rc_loop]
      simp (maxDischargeDepth := 12) [m83_0, hin, ht.jobs.ia, hrd, e, stx, hdA, hd, k1, k2]
      rfl
    by_cases k3 : xr < 0
    · refine .inr ⟨fun h => by have := h.1.1.2.2.1; simp at this; omega, H ++ [MObj.cells ⟨0, true, false⟩ (dnC ⟨kt, xr, xf⟩)], ?_, by simp [e]⟩
      rw [Rc_loop]
      simp (maxDischargeDepth := 12) [m83_0, hin, ht.jobs.ia, hrd, e, stx, hdA, hd, k1, k2, k3]
      rfl
    by_cases k4 : xf ≤ xr
    · refine .inr ⟨fun h => by have := h.1.1.2.2.2.1; simp at this; omega, H ++ [MObj.cells ⟨0, true, false⟩ (dnC ⟨kt, xr, xf⟩)], ?_, by simp [e]⟩
      rw [Rc_loop]
      simp (maxDischargeDepth := 12) [m83_0, hin, ht.jobs.ia, hrd, e, stx, hdA, hd, k1, k2, k3, k4]
      rfl
    by_cases k5 : t.ticks < xf
    · refine .inr ⟨fun h => by have := h.1.1.2.2.2.2; simp at this; omega, H ++ [MObj.cells ⟨0, true, false⟩ (dnC ⟨kt, xr, xf⟩)], ?_, by simp [e]⟩
      rw [Rc_loop]
      simp (maxDischargeDepth := 12) [m83_0, hin, ht.jobs.ia, hrd, e, stx, hdA, hd, hdt, k1, k2, k3, k4, k5]
      rfl
    have k2' : kt < s.tasks.length := by omega
    have k6 : kt < 6 := by omega
    have k6' : (kt : Int) < 6 := by omega
    obtain ⟨tt, htt⟩ : ∃ c, s.tasks[kt]? = some c := ⟨_, List.getElem?_eq_getElem k2'⟩
    have hrt := hs.tasks.rd htt
    -- the last one of this task
    obtain ⟨o, ho⟩ : ∃ o, ltJ rev (kt : Int) = o := ⟨_, rfl⟩
    have hA : ArJ H0 (H ++ [MObj.cells ⟨0, true, false⟩ (dnC ⟨kt, xr, xf⟩), .cells ⟨0, true, false⟩ (dnC o)]) b5 b6 H.length (H.length + 1) ⟨kt, xr, xf⟩ o rev rev :=
      ⟨by simp [e], by rw [get_app_lt l5]; exact g5, by rw [get_app_lt l6]; exact g6, by simp, by simp, h5, h6, n56, by omega, by omega, by omega, by omega⟩
    have hlo : mread (.ld (some 3)) [.pointer (some ⟨b5, kt * 3, none⟩)] (H ++ [MObj.cells ⟨0, true, false⟩ (dnC ⟨kt, xr, xf⟩)]) = some (.agg (dnC o).toArray) := by
      have := ldn_at (H := H ++ [MObj.cells ⟨0, true, false⟩ (dnC ⟨kt, xr, xf⟩)]) (b := b5) (by rw [get_app_lt l5]; exact g5) (kt * 3) 3 (by rw [lastC_len]; omega) (by rw [last_get k6]; rfl)
      rw [last_get k6, ho] at this
      exact this
    have hl6 := hA.ld6 k6
    have hlx := hA.ldx
    have hlo' := hA.ldo
    have hln := hA.ldn
    obtain ⟨H3, s3, hA3⟩ := hA.st5 k6 rfl
    obtain ⟨H4, s4, hA4⟩ := hA3.st6 k6 rfl
    have hlx3 := hA3.ldx
    have eA := hA.e
    simp only [dnC] at hlo hlx hlo' s3 hlx3 hA eA hl6 hln s4
    have hiff : jobB s t.ticks rev ⟨kt, xr, xf⟩ ↔ (hadJ rev (kt : Int) = true → o.finish ≤ xr ∧ tt.period ≤ xr - o.release) := by
      unfold jobB
      simp only [job_find, ho]
      constructor
      · rintro ⟨_, h⟩ hh
        rw [if_pos hh] at h
        obtain ⟨t', h1, h2, h3⟩ := h o rfl
        simp only [Int.toNat_natCast] at h1
        rw [htt] at h1; cases h1
        exact ⟨h2, h3⟩
      · intro h
        refine ⟨⟨by omega, by omega, by omega, by omega, by omega⟩, fun y hy => ?_⟩
        split at hy
        · rename_i hh
          cases hy
          exact ⟨tt, by simp only [Int.toNat_natCast]; exact htt, h hh⟩
        · cases hy
    have hgood : jobB s t.ticks rev ⟨kt, xr, xf⟩ → ∀ y ∈ (⟨kt, xr, xf⟩ :: rev : List DoneL), 0 ≤ y.release ∧ y.release ≤ 20000 := fun h y hy => by
      rcases List.mem_cons.1 hy with rfl | hy
      · simp only; omega
      · exact hrl y hy
    cases hh : hadJ rev (kt : Int) with
    | false =>
      rw [hh] at hl6
      have hj : jobB s t.ticks rev ⟨kt, xr, xf⟩ := hiff.2 fun h => by rw [hh] at h; cases h
      rcases ih (⟨kt, xr, xf⟩ :: rev) (i + 1) H4 hdr' (by omega) (hgood hj) hA4.e hA4.g5 hA4.g6 with ⟨g1, H', g2, g3⟩ | ⟨g1, H', g2, g3⟩
      · refine .inl ⟨⟨hj, g1⟩, H', ?_, g3⟩
        rw [Rc_loop]
        simp (maxDischargeDepth := 12) [m83_0, mdraw_plain, mdraw_full, hin, ht.jobs.ia, hrd, e, stx, hdA, hd, hdt, k1, k2, k3, k4, k5, k6, k6', hlo, hl6, hlx, hlo', hln, s3, s4, hlx3, eA, w]
        exact g2
      · refine .inr ⟨fun h => g1 h.2, H', ?_, g3⟩
        rw [Rc_loop]
        simp (maxDischargeDepth := 12) [m83_0, mdraw_plain, mdraw_full, hin, ht.jobs.ia, hrd, e, stx, hdA, hd, hdt, k1, k2, k3, k4, k5, k6, k6', hlo, hl6, hlx, hlo', hln, s3, s4, hlx3, eA, w]
        exact g2
    | true =>
      rw [hh] at hl6
      have hob : 0 ≤ o.release ∧ o.release ≤ 20000 := by
        have := job_find (rev := rev) (k := (kt : Int))
        rw [if_pos hh, ho] at this
        exact hrl o (List.mem_of_find?_eq_some this)
      have w2 : IntKind.i64.wrap (xr - o.release) = xr - o.release := wrap_i64 (by omega) (by omega)
      by_cases p1 : xr < o.finish
      · refine .inr ⟨fun h => by have := (hiff.1 h.1 hh).1; omega, _, ?_, eA⟩
        rw [Rc_loop]
        simp (maxDischargeDepth := 12) [m83_0, mdraw_plain, hin, ht.jobs.ia, hrd, e, stx, hdA, hd, hdt, k1, k2, k3, k4, k5, k6, k6', hlo, hl6, hlx, hlo', hln, eA, p1]
      by_cases p2 : xr - o.release < tt.period
      · refine .inr ⟨fun h => by have := (hiff.1 h.1 hh).2; omega, _, ?_, eA⟩
        rw [Rc_loop]
        simp (maxDischargeDepth := 12) [m83_0, mdraw_plain, hin, ht.jobs.ia, hrd, e, stx, hdA, hd, hdt, k1, k2, k2', k3, k4, k5, k6, k6', hlo, hl6, hlx, hlo', hln, eA, p1, p2, w2, hs.tasks.ia, hrt, taskC]
      have hj : jobB s t.ticks rev ⟨kt, xr, xf⟩ := hiff.2 fun h => by omega
      rcases ih (⟨kt, xr, xf⟩ :: rev) (i + 1) H4 hdr' (by omega) (hgood hj) hA4.e hA4.g5 hA4.g6 with ⟨g1, H', g2, g3⟩ | ⟨g1, H', g2, g3⟩
      · refine .inl ⟨⟨hj, g1⟩, H', ?_, g3⟩
        rw [Rc_loop]
        simp (maxDischargeDepth := 12) [m83_0, mdraw_plain, mdraw_full, hin, ht.jobs.ia, hrd, e, stx, hdA, hd, hdt, k1, k2, k2', k3, k4, k5, k6, k6', hlo, hl6, hlx, hlo', hln, s3, s4, hlx3, eA, w, p1, p2, w2, hs.tasks.ia, hrt, taskC]
        exact g2
      · refine .inr ⟨fun h => g1 h.2, H', ?_, g3⟩
        rw [Rc_loop]
        simp (maxDischargeDepth := 12) [m83_0, mdraw_plain, mdraw_full, hin, ht.jobs.ia, hrd, e, stx, hdA, hd, hdt, k1, k2, k2', k3, k4, k5, k6, k6', hlo, hl6, hlx, hlo', hln, s3, s4, hlx3, eA, w, p1, p2, w2, hs.tasks.ia, hrt, taskC]
        exact g2
open Classical in
theorem G_jobs (hf : mp 83 = some (.code m83)) {s : SetL} {t : TraceL} (hs : SetAt H0 s) (ht : TraceAt H0 t) (e : Ext H0 H) (ht6 : s.tasks.length ≤ 6) (htk : t.ticks ≤ 20000) : GR mp 83 [.agg s.cells.toArray, .agg t.cells.toArray] H (.bool (decide (allJ s t.ticks [] t.jobs))) := by
  have e1 : Ext H (H ++ [.cells ⟨0, true, false⟩ s.cells, .cells ⟨0, true, false⟩ t.cells]) := ⟨_, rfl⟩
  have hx1 : (H ++ [MObj.cells ⟨0, true, false⟩ s.cells, .cells ⟨0, true, false⟩ t.cells])[H.length]? = some (.cells ⟨0, true, false⟩ s.cells) := by simp
  have hx2 : (H ++ [MObj.cells ⟨0, true, false⟩ s.cells, .cells ⟨0, true, false⟩ t.cells])[H.length + 1]? = some (.cells ⟨0, true, false⟩ t.cells) := by simp
  unfold GR
  rw [R_code hf]
  rcases jobs_loop (mp := mp) (hs.ext (e.trans e1)) (ht.ext (e.trans e1)) hx1 hx2 (b5 := H.length + 2) (b6 := H.length + 3) (by simp) (by simp) (by omega) ht6 htk t.jobs [] 0 (H ++ [.cells ⟨0, true, false⟩ s.cells, .cells ⟨0, true, false⟩ t.cells] ++ [.cells ⟨3, true, false⟩ (lastC []), .cells ⟨1, true, false⟩ (hadC [])]) (by simp) (by omega) (by simp) ⟨_, rfl⟩ (by simp) (by simp) with ⟨g1, H', g2, g3⟩ | ⟨g1, H', g2, g3⟩
  · rw [decide_eq_true g1]
    simp [last_nil, had_nil, SetL.cells, TraceL.cells] at g2
    simp (maxDischargeDepth := 12) [m83, SetL.cells, TraceL.cells, ldx, g2]
    exact e1.trans g3
  · rw [decide_eq_false g1]
    simp [last_nil, had_nil, SetL.cells, TraceL.cells] at g2
    simp (maxDischargeDepth := 12) [m83, SetL.cells, TraceL.cells, ldx, g2]
    exact e1.trans g3
end
end Go.Mod

/- The locks' functions in the model: slices.Insert as one operation; the closed run. -/
import Derived.Test.YthpeamllfledkaaLkF
set_option linter.unusedVariables false
set_option linter.unusedSimpArgs false
namespace Go.Mod
open Go.Proofs

noncomputable def fn91 : Func := (Try.prog.funcs[91]?).getD default
noncomputable def t91 : TypeId := fn91.params.getD 0 0
noncomputable def r91 : TypeId := fn91.resultTypes.getD 0 0
noncomputable def e91 : TypeId := match Try.prog.underlying t91 with
  | some (.slice e) => e
  | _ => 0
theorem over91 : OverFn Try.prog 91 := ⟨fn91, t91, r91, e91, 2, by kernel_rfl, by kernel_rfl, by kernel_rfl, by kernel_rfl, by kernel_rfl, by kernel_rfl, by kernel_rfl⟩
def mpL0 (f : FuncId) : Option MDef := if f = 91 then some (.intr overS) else mpL f
theorem mpL0_ok : MapOk Try.prog mpL0 := by
  refine ⟨mpL_ok.mixed, fun f fn hf => ?_, fun f s hf => ?_⟩
  · unfold mpL0 at hf
    split at hf
    · cases hf
    · exact mpL_code f fn hf
  · unfold mpL0 at hf
    split at hf
    · rename_i e; subst e
      cases hf
      exact over_ok over91
    · exact mpL_ok.intr f s hf
def mpL1 (f : FuncId) : Option MDef := if f = 75 then some (.intr (insertS 2)) else mpL f
theorem mpL1_ok : MapOk Try.prog mpL1 := by
  refine ⟨mpL_ok.mixed, fun f fn hf => ?_, fun f s hf => ?_⟩
  · unfold mpL1 at hf
    split at hf
    · cases hf
    · exact mpL_code f fn hf
  · unfold mpL1 at hf
    split at hf
    · rename_i e; subst e
      cases hf
      exact insertS_ok mpL0_ok (f := 75) (fo := 91) (fr := 92) (es := 2) (bytes := 16) (z := [.int .i64 0, .int .i64 0]) rfl rfl (by omega) (by omega) rfl rfl
    · exact mpL_ok.intr f s hf
theorem knownL_ok : ∃ H0, R mpL1 8 [] [] = some (.bool true, H0) := known_of (k := 60) (by kernel_rfl)
def mpLk (f : FuncId) : Option MDef := if f = 8 then some (.intr (constS (.bool true))) else mpL1 f
theorem mpLk_ok : MapOk Try.prog mpLk := by
  obtain ⟨H0, h⟩ := knownL_ok
  refine ⟨mpL_ok.mixed, fun f fn hf => ?_, fun f s hf => ?_⟩
  · unfold mpLk at hf
    split at hf
    · cases hf
    · exact mpL1_ok.code f fn hf
  · unfold mpLk at hf
    split at hf
    · rename_i e; subst e
      cases hf
      exact closed_intr mpL1_ok h rfl
    · exact mpL1_ok.intr f s hf
theorem knownL_R {H : MH} : R mpLk 8 [] H = some (.bool true, H) := by rw [R_intr (s := constS (.bool true)) rfl]; simp
theorem lkP : LkP mpLk := ⟨rfl, rfl, rfl, rfl, rfl, rfl, rfl, rfl, rfl, rfl, rfl, rfl, rfl, rfl, rfl, rfl, rfl, rfl, rfl, rfl, rfl, rfl, rfl, rfl, rfl, rfl, rfl, rfl, rfl, rfl, rfl, rfl, rfl, rfl, rfl⟩
theorem lkChk : ChkP mpLk 52 68 69 70 89 53 72 71 73 90 74 54 29 := ⟨rfl, rfl, rfl, rfl, rfl, rfl, rfl, rfl, rfl, rfl, rfl, rfl, rfl⟩

/-! ### crowds may be -/
theorem le5 {n : Nat} (hn : n < 6) : n = 0 ∨ n = 1 ∨ n = 2 ∨ n = 3 ∨ n = 4 ∨ n = 5 := by omega
theorem nmI_name {i : Nat} (hi : i < 6) : nameB (nmI i) := by
  have hs : (nmI i).size = 1 := rfl
  refine ⟨fun j b hj => ?_, by omega, by omega⟩
  have hj0 : j = 0 := by
    rcases Nat.lt_or_ge j 1 with h | h
    · omega
    · rw [getElem?_neg] at hj
      · cases hj
      · rw [hs]; omega
  subst hj0
  have e : b = UInt8.ofNat (97 + i) := by
    have : (nmI i)[0]? = some (UInt8.ofNat (97 + i)) := rfl
    rw [this] at hj; exact (Option.some.inj hj).symm
  subst e
  rcases le5 hi with rfl | rfl | rfl | rfl | rfl | rfl <;> decide
theorem nmI_inj {i j : Nat} (hi : i < 6) (hj : j < 6) (h : nmI i = nmI j) : i = j := by
  have h1 : (nmI i)[0]? = (nmI j)[0]? := by rw [h]
  have e : ∀ k, (nmI k)[0]? = some (UInt8.ofNat (97 + k)) := fun k => rfl
  rw [e, e] at h1
  have h2 := congrArg UInt8.toNat (Option.some.inj h1)
  simp at h2
  omega
open Classical in
theorem crowd_ok {s : SetL} {c : Int} (hp : 1 ≤ s.proto ∧ s.proto ≤ 3) (hc : s.cores = [c, 1]) (hc1 : 1 ≤ c ∧ c ≤ 3) (hh : s.homes = [0, 0]) (ht : s.tasks.map coreT = (List.range 6).map (crT 6)) : okSet s := by
  have hlen : s.tasks.length = 6 := by have := congrArg List.length ht; simpa using this
  have key : ∀ (i : Nat) t, s.tasks[i]? = some t → taskE s i t = 0 := fun i t hi => by
    obtain ⟨hq, h6⟩ := crowd_cores (n := 6) ht hi
    have hq : coreT t = crT 6 i := hq
    have q1 : t.name = nmI i := congrArg TCore.name hq
    have q2 : t.period = 100 := congrArg TCore.period hq
    have q3 : t.deadline = 100 := congrArg TCore.deadline hq
    have q4 : t.prio = (6 : Int) - i := congrArg TCore.prio hq
    have q5 : t.cluster = 0 := congrArg TCore.cluster hq
    have q6 : t.parts = [⟨3, 1, 0⟩] := congrArg TCore.parts hq
    unfold taskE
    rw [if_neg, if_neg, if_neg, if_neg]
    · rw [Classical.not_not, q6, hh]
      exact ⟨fun p hp => by simp at hp; subst hp; decide, by decide, by decide⟩
    · rintro ⟨o, ho, hor⟩
      obtain ⟨k, hk⟩ := List.mem_iff_getElem?.1 ho
      have hkl := (List.getElem?_eq_some_iff.1 hk).1
      rw [List.length_take] at hkl
      rw [List.getElem?_take_of_lt (by omega)] at hk
      obtain ⟨hq', h6'⟩ := crowd_cores (n := 6) ht hk
      have hq' : coreT o = crT 6 k := hq'
      have p1 : o.name = nmI k := congrArg TCore.name hq'
      have p4 : o.prio = (6 : Int) - k := congrArg TCore.prio hq'
      rcases hor with h | h
      · rw [p1, q1] at h
        have := nmI_inj h6' h6 h; omega
      · omega
    · rw [Classical.not_not, q5, hc]; simp
    · rw [Classical.not_not, formOk, q1, q2, q3, q4]
      exact ⟨nmI_name h6, by omega, by omega, by omega⟩
  have all : ∀ (l : List TaskL) (j : Nat), (∀ (k : Nat) t, l[k]? = some t → taskE s (j + k) t = 0) → (firstE s j l).2 = 0 := by
    intro l
    induction l with
    | nil => intro j _; rfl
    | cons t l ih =>
      intro j h
      simp only [firstE]
      rw [if_pos (by simpa using h 0 t rfl)]
      exact ih (j + 1) fun k u hk => by have := h (k + 1) u (by simpa using hk); rwa [show j + (k + 1) = j + 1 + k by omega] at this
  have pl : placesB s.cores s.homes := by
    rw [hc, hh]
    refine ⟨by simp, fun y hy => ?_, fun y hy => ?_⟩
    · simp at hy; rcases hy with rfl | rfl <;> omega
    · simp at hy; subst hy; simp
  unfold okSet checkE
  rw [if_neg (by simpa using hp), if_neg (by simpa using pl), if_neg (by omega), if_neg (fun e => by rw [e] at hlen; simp at hlen)]
  exact all _ 0 fun k t hk => by rw [Nat.zero_add]; exact key k t hk
/-- What is so of a crowd's set. -/
structure CrowdS (s : SetL) (p c : Int) : Prop where
  proto : s.proto = p
  cores : s.cores = [c, 1]
  homes : s.homes = [0, 0]
  tasks : s.tasks.map coreT = (List.range 6).map (crT 6)
theorem CrowdS.len {s : SetL} {p c : Int} (h : CrowdS s p c) : s.tasks.length = 6 := by have := congrArg List.length h.tasks; simpa using this
theorem CrowdS.at {s : SetL} {p c : Int} (h : CrowdS s p c) {i : Nat} (hi : i < 6) : ∃ t, s.tasks[i]? = some t ∧ t.cluster = 0 ∧ t.prio = (6 : Int) - i := by
  have hl : i < s.tasks.length := by rw [h.len]; exact hi
  have ht : s.tasks[i]? = some s.tasks[i] := List.getElem?_eq_getElem hl
  have hq : coreT s.tasks[i] = crT 6 i := (crowd_cores (n := 6) h.tasks ht).1
  exact ⟨_, ht, congrArg TCore.cluster hq, congrArg TCore.prio hq⟩
/-- New locks of a crowd. -/
theorem crowd_new {H : MH} {p c : Int} (hp : 1 ≤ p ∧ p ≤ 3) (hc : 1 ≤ c ∧ c ≤ 3) : ∃ (v : Value) (H1 : MH) (l : Nat) (s : SetL) (L : Lay) (c0 c1 : Chn) (H' : MH) (F' : List Nat), R mpLk 23 [.int .i64 p, .int .i64 6, .int .i64 c] H = some (v, H1) ∧ R mpLk 10 [v] H1 = some (.pointer (some ⟨l, 0, none⟩), H') ∧
    LkS l s L ⟨0, [], [c0, c1]⟩ H' F' ∧ Ext H H' ∧ (∀ id ∈ F', H.length ≤ id) ∧ CrowdS s p c ∧ L.chs = [c0.id, c1.id] ∧ (c0.cap : Int) = c ∧ c0.cnt = 0 ∧ c1.cap = 1 ∧ c1.cnt = 0 := by
  obtain ⟨s0, H1, e1, x1, a1, a2, a3, a4, a5, a6⟩ := R_crowd (mp := mpLk) (H := H) (p := p) (c := c) (n := 6) rfl (by omega)
  have hk : okSet s0 := crowd_ok (by omega) a4 hc a5 a6
  have hlen : s0.tasks.length = 6 := by have := congrArg List.length a6; simpa using this
  obtain ⟨l, s, L, x, H', F', e2, p2, x2, g2, c2, k2, i2, o2⟩ := R_new lkP lkChk a1 a2 ⟨by rw [a4]; simp, by rw [a5]; simp, by omega, fun t ht => by
      obtain ⟨i, hi⟩ := List.mem_iff_getElem?.1 ht
      have hq := (crowd_cores a6 hi).1
      have q6 : t.parts = [⟨3, 1, 0⟩] := congrArg TCore.parts hq
      rw [q6]; decide⟩ (fun _ => ⟨by rw [a4]; simp, fun e => by rw [e] at hlen; simp at hlen, fun k hk => by rw [a4] at hk; simp at hk; rcases hk with rfl | rfl <;> omega⟩)
  rcases o2 with ⟨_, b1, b2, b3, b4, b5⟩ | ⟨h, _⟩
  · obtain ⟨xc, xa, xt⟩ := x
    simp only at c2 k2 i2 b5
    subst c2; subst k2
    rw [a4] at b5
    obtain ⟨d0, d1, rfl⟩ : ∃ d0 d1, xt = [d0, d1] := by
      match xt, b5 with
      | [d0, d1], _ => exact ⟨d0, d1, rfl⟩
      | [], b5 => simp at b5
      | [_], b5 => simp at b5
      | _ :: _ :: _ :: _, b5 => simp at b5
    · simp at b5
      refine ⟨_, H1, l, s, L, d0, d1, H', F', e1, e2, p2, x1.trans x2, fun id hid => Nat.le_trans x1.len (g2 id hid), ⟨by rw [b1, a3], by rw [b2, a4], by rw [b3, a5], b4.trans a6⟩, i2.symm, b5.1.1, b5.1.2, by omega, b5.2.2⟩
  · exact absurd hk h
end Go.Mod

/- Traces: how they lie; when one may be: two ways to say it. -/
import Derived.Test.YtpdkmcnoidbjoaaGrG
set_option linter.unusedVariables false
set_option linter.unusedSimpArgs false
namespace Go.Mod

structure SlotL where
  time : Int
  cluster : Int
  task : Int
  held : Bool
structure DoneL where
  task : Int
  release : Int
  finish : Int
structure WaitL where
  task : Int
  part : Int
  ask : Int
  got : Int
  finish : Int
structure TraceL where
  ticks : Int
  slots : List SlotL
  sa : Option Addr
  sc : Nat
  jobs : List DoneL
  ja : Option Addr
  jc : Nat
  waits : List WaitL
  wa : Option Addr
  wc : Nat
def slC (x : SlotL) : List Value := [.int .i64 x.time, .int .i64 x.cluster, .int .i64 x.task, .bool x.held]
def dnC (x : DoneL) : List Value := [.int .i64 x.task, .int .i64 x.release, .int .i64 x.finish]
def wtC (x : WaitL) : List Value := [.int .i64 x.task, .int .i64 x.part, .int .i64 x.ask, .int .i64 x.got, .int .i64 x.finish]
def TraceL.cells (t : TraceL) : List Value := [.int .i64 t.ticks, .slice t.sa t.slots.length t.sc, .slice t.ja t.jobs.length t.jc, .slice t.wa t.waits.length t.wc]
structure TraceAt (H : MH) (t : TraceL) : Prop where
  slots : RowG 4 H t.sa t.slots slC
  jobs : RowG 3 H t.ja t.jobs dnC
  waits : RowG 5 H t.wa t.waits wtC
  few : t.slots.length ≤ 100000 ∧ t.jobs.length ≤ 100000 ∧ t.waits.length ≤ 100000 ∧ t.waits.length ≤ t.wc
theorem TraceAt.ext {H H1 : MH} {t : TraceL} (h : TraceAt H t) (e : Ext H H1) : TraceAt H1 t := ⟨h.slots.ext e, h.jobs.ext e, h.waits.ext e, h.few⟩

/-! ### a task's lock -/
def lkT (s : SetL) (n p : Int) : Option PartL := if 0 ≤ n ∧ 0 ≤ p then (s.tasks[n.toNat]?).bind fun t => t.parts[p.toNat]? else none
def lk (s : SetL) (n p : Int) : PartL × Bool := match lkT s n p with
  | some q => (q, q.kind == 3)
  | none => (⟨0, 0, 0⟩, false)
theorem lk_some {s : SetL} {n p : Int} {q : PartL} (h : lkT s n p = some q) : lk s n p = (q, q.kind == 3) := by unfold lk; rw [h]
theorem lk_none {s : SetL} {n p : Int} (h : lkT s n p = none) : lk s n p = (⟨0, 0, 0⟩, false) := by unfold lk; rw [h]

/-! ### slots -/
def ltS (a b : SlotL) : Prop := a.time < b.time ∨ (a.time = b.time ∧ a.cluster < b.cluster)
instance (a b : SlotL) : Decidable (ltS a b) := by unfold ltS; exact inferInstance
def sortedS (l : List SlotL) : Prop := ∀ (j : Nat) a b, l[j]? = some a → l[j + 1]? = some b → ¬ ltS b a
def rangeS (s : SetL) (tk : Int) (x : SlotL) : Prop := 0 ≤ x.cluster ∧ x.cluster < (s.cores.length : Int) ∧ 0 ≤ x.task ∧ x.task < (s.tasks.length : Int) ∧ 0 ≤ x.time ∧ x.time < tk
def ruleS (s : SetL) (x : SlotL) : Prop := ∃ t, s.tasks[x.task.toNat]? = some t ∧ (x.cluster = t.cluster ∨ (s.proto = 2 ∧ x.held = true))
def slottedB (s : SetL) (tk : Int) (x : SlotL) : Prop := rangeS s tk x ∧ ruleS s x
def runS (rev : List SlotL) (tm : Int) : List SlotL := rev.takeWhile fun y => y.time == tm
def cntS (r : List SlotL) (c : Int) : Int := (r.countP fun y => y.cluster == c : Nat)
def goodS (s : SetL) (tk : Int) (rev : List SlotL) (x : SlotL) : Prop :=
  slottedB s tk x ∧ (∃ c, s.cores[x.cluster.toNat]? = some c ∧ cntS (runS rev x.time) x.cluster + 1 ≤ c) ∧ ∀ y ∈ runS rev x.time, y.task ≠ x.task
def allGood (s : SetL) (tk : Int) : List SlotL → List SlotL → Prop
  | _, [] => True
  | rev, x :: l => goodS s tk rev x ∧ allGood s tk (x :: rev) l
def slotsB (s : SetL) (t : TraceL) : Prop := sortedS t.slots ∧ allGood s t.ticks [] t.slots
def goodR (s : SetL) (tk : Int) (rev : List SlotL) (x : SlotL) : Prop :=
  goodS s tk rev x ∧ (∀ y ∈ runS rev x.time, y.cluster ≤ x.cluster) ∧ ∀ y, rev.head? = some y → y.time ≤ x.time
def allR (s : SetL) (tk : Int) : List SlotL → List SlotL → Prop
  | _, [] => True
  | rev, x :: l => goodR s tk rev x ∧ allR s tk (x :: rev) l
theorem runS_mem {rev : List SlotL} {tm : Int} {y : SlotL} (h : y ∈ runS rev tm) : y ∈ rev ∧ y.time = tm := by
  unfold runS at h
  induction rev with
  | nil => simp at h
  | cons a l ih =>
    rw [List.takeWhile_cons] at h
    split at h
    · rename_i ha
      rcases List.mem_cons.1 h with rfl | h
      · exact ⟨by simp, by simpa using ha⟩
      · exact ⟨List.mem_cons_of_mem _ (ih h).1, (ih h).2⟩
    · cases h
theorem mem_runS {rev : List SlotL} {tm : Int} {y : SlotL} (hp : rev.Pairwise fun a b => ¬ ltS a b) (hle : ∀ z ∈ rev, z.time ≤ tm) (hy : y ∈ rev) (ht : y.time = tm) : y ∈ runS rev tm := by
  unfold runS
  induction rev with
  | nil => cases hy
  | cons a l ih =>
    rw [List.pairwise_cons] at hp
    have ha : a.time = tm := by
      rcases List.mem_cons.1 hy with rfl | h
      · exact ht
      · have h1 := hp.1 y h
        have h2 := hle a (by simp)
        simp only [ltS] at h1; omega
    rw [List.takeWhile_cons]
    rw [if_pos (by simpa using ha)]
    rcases List.mem_cons.1 hy with rfl | h
    · simp
    · exact List.mem_cons_of_mem _ (ih hp.2 (fun z hz => hle z (by simp [hz])) h)
theorem pair_sorted {l : List SlotL} : sortedS l ↔ l.Pairwise fun a b => ¬ ltS b a := by
  constructor
  · intro h
    rw [List.pairwise_iff_getElem]
    intro i j hi hj hij
    obtain ⟨d, rfl⟩ : ∃ d, j = i + 1 + d := ⟨j - (i + 1), by omega⟩
    clear hij
    induction d with
    | zero => exact h i _ _ (List.getElem?_eq_getElem hi) (List.getElem?_eq_getElem hj)
    | succ d ih =>
      have h1 := ih (by omega)
      have h2 := h (i + 1 + d) _ _ (List.getElem?_eq_getElem (by omega)) (List.getElem?_eq_getElem hj)
      simp only [ltS] at h1 h2 ⊢; omega
  · intro h j a b ha hb
    obtain ⟨h1, rfl⟩ := List.getElem?_eq_some_iff.1 ha
    obtain ⟨h2, rfl⟩ := List.getElem?_eq_some_iff.1 hb
    exact List.pairwise_iff_getElem.1 h j (j + 1) h1 h2 (by omega)
theorem allR_iff {s : SetL} {tk : Int} : ∀ {l rev : List SlotL}, (rev.Pairwise fun a b => ¬ ltS a b) → (allR s tk rev l ↔ ((rev.reverse ++ l).Pairwise fun a b => ¬ ltS b a) ∧ allGood s tk rev l)
  | [], rev, hp => by simp only [allR, allGood, List.append_nil, List.pairwise_reverse]; simp [hp]
  | x :: l, rev, hp => by
    have hr : rev.reverse ++ x :: l = (x :: rev).reverse ++ l := by simp
    simp only [allR, allGood]
    rw [hr]
    constructor
    · rintro ⟨⟨h1, h2, h3⟩, h4⟩
      have hp' : (x :: rev).Pairwise fun a b => ¬ ltS a b := by
        rw [List.pairwise_cons]
        refine ⟨fun y hy => ?_, hp⟩
        have hle : ∀ z ∈ rev, z.time ≤ x.time := fun z hz => by
          cases rev with
          | nil => cases hz
          | cons a m =>
            have g1 := h3 a rfl
            rcases List.mem_cons.1 hz with rfl | h
            · exact g1
            · have := (List.pairwise_cons.1 hp).1 z h
              simp only [ltS] at this; omega
        have g := hle y hy
        by_cases ht : y.time = x.time
        · have := h2 y (mem_runS hp hle hy ht)
          simp only [ltS]; omega
        · simp only [ltS]; omega
      obtain ⟨a, b⟩ := (allR_iff hp').1 h4
      exact ⟨a, h1, b⟩
    · rintro ⟨h1, h2, h3⟩
      have hx : ∀ y ∈ rev, ¬ ltS x y := fun y hy => by
        rw [List.pairwise_append] at h1
        have := h1.1
        rw [List.pairwise_reverse, List.pairwise_cons] at this
        exact this.1 y hy
      have hp' : (x :: rev).Pairwise fun a b => ¬ ltS a b := List.pairwise_cons.2 ⟨hx, hp⟩
      refine ⟨⟨h2, fun y hy => ?_, fun y hy => ?_⟩, (allR_iff hp').2 ⟨h1, h3⟩⟩
      · obtain ⟨g1, g2⟩ := runS_mem hy
        have := hx y g1
        simp only [ltS] at this; omega
      · have := hx y (List.mem_of_mem_head? hy)
        simp only [ltS] at this; omega
theorem slotsB_iff {s : SetL} {t : TraceL} : slotsB s t ↔ allR s t.ticks [] t.slots := by
  rw [allR_iff List.Pairwise.nil]
  simp only [slotsB, pair_sorted, List.reverse_nil, List.nil_append]

/-! ### jobs, waits -/
def jobB (s : SetL) (tk : Int) (rev : List DoneL) (x : DoneL) : Prop := (0 ≤ x.task ∧ x.task < (s.tasks.length : Int) ∧ 0 ≤ x.release ∧ x.release < x.finish ∧ x.finish ≤ tk) ∧
  ∀ y, rev.find? (fun y => y.task == x.task) = some y → ∃ t, s.tasks[x.task.toNat]? = some t ∧ y.finish ≤ x.release ∧ t.period ≤ x.release - y.release
def allJ (s : SetL) (tk : Int) : List DoneL → List DoneL → Prop
  | _, [] => True
  | rev, x :: l => jobB s tk rev x ∧ allJ s tk (x :: rev) l
def waitB (s : SetL) (tk : Int) (prev : List WaitL) (x : WaitL) : Prop := ((lk s x.task x.part).2 = true ∧ 0 ≤ x.ask ∧ x.ask ≤ x.got ∧ x.got < x.finish ∧ x.finish ≤ tk) ∧
  ∀ y ∈ prev, (lk s y.task y.part).1.res = (lk s x.task x.part).1.res → ¬ (y.got < x.finish ∧ x.got < y.finish)
def allW (s : SetL) (tk : Int) : List WaitL → List WaitL → Prop
  | _, [] => True
  | prev, x :: l => waitB s tk prev x ∧ allW s tk (prev ++ [x]) l
def legalB (s : SetL) (t : TraceL) : Prop := okSet s ∧ 0 ≤ t.ticks ∧ t.ticks ≤ 20000 ∧ slotsB s t ∧ allJ s t.ticks [] t.jobs ∧ allW s t.ticks [] t.waits
def holdB (s : SetL) (tm res : Int) (w : WaitL) : Prop := (lk s w.task w.part).2 = true ∧ (lk s w.task w.part).1.res = res ∧ w.got ≤ tm ∧ tm < w.finish
instance (s : SetL) (tm res : Int) (w : WaitL) : Decidable (holdB s tm res w) := by unfold holdB; exact inferInstance
open Classical in
noncomputable def holderB (s : SetL) (t : TraceL) (tm res : Int) : Int × Bool := if okSet s then (match t.waits.find? (fun w => decide (holdB s tm res w)) with
  | some w => (w.task, true)
  | none => (0, false)) else (0, false)
def busyB (t : TraceL) (tm cl : Int) : List Int := (t.slots.filter fun x => x.time == tm && x.cluster == cl).map (·.task)
/-- In a set that may be, what is no lock names no resource. -/
theorem okSet.task {s : SetL} (h : okSet s) {i : Nat} {t : TaskL} (ht : s.tasks[i]? = some t) : taskE s i t = 0 := by
  unfold okSet checkE at h
  split at h
  · simp at h
  split at h
  · simp at h
  split at h
  · simp at h
  split at h
  · simp at h
  have key : ∀ (l : List TaskL) (j : Nat), (firstE s j l).2 = 0 → ∀ (k : Nat) t, l[k]? = some t → taskE s (j + k) t = 0 := by
    intro l
    induction l with
    | nil => intro j _ k t hk; simp at hk
    | cons a l ih =>
      intro j hj k t hk
      simp only [firstE] at hj
      split at hj
      · rename_i h0
        cases k with
        | zero => simp at hk; subst hk; exact h0
        | succ k =>
          have := ih (j + 1) hj k t (by simpa using hk)
          rw [← this]; congr 1; omega
      · rename_i h0; exact absurd hj h0
  have := key s.tasks 0 h i t ht
  simpa using this
theorem okSet.places {s : SetL} (h : okSet s) : placesB s.cores s.homes ∧ s.tasks.length ≤ 6 ∧ 1 ≤ s.proto ∧ s.proto ≤ 3 ∧ s.tasks ≠ [] := by
  unfold okSet checkE at h
  split at h
  · simp at h
  rename_i h1
  split at h
  · simp at h
  rename_i h2
  split at h
  · simp at h
  rename_i h3
  split at h
  · simp at h
  rename_i h4
  exact ⟨Classical.not_not.1 h2, by omega, by omega, by omega, h4⟩
theorem taskE_zero {s : SetL} {i : Nat} {t : TaskL} (h : taskE s i t = 0) : formOk t ∧ (0 ≤ t.cluster ∧ t.cluster < (s.cores.length : Int)) ∧ partsOk s.homes.length t.parts := by
  unfold taskE at h
  split at h
  · simp at h
  rename_i h1
  split at h
  · simp at h
  rename_i h2
  split at h
  · simp at h
  split at h
  · simp at h
  rename_i h4
  exact ⟨Classical.not_not.1 h1, Classical.not_not.1 h2, Classical.not_not.1 h4⟩
theorem lk_no {s : SetL} (h : okSet s) {n p : Int} (hf : (lk s n p).2 = false) : (lk s n p).1.res = 0 := by
  cases hk : lkT s n p with
  | none => rw [lk_none hk]
  | some q =>
    rw [lk_some hk] at hf ⊢
    unfold lkT at hk
    split at hk
    · cases ht : s.tasks[n.toNat]? with
      | none => rw [ht] at hk; cases hk
      | some t =>
        rw [ht] at hk
        have hq := (taskE_zero (h.task ht)).2.2.1 q (List.mem_of_getElem? (by simpa using hk))
        have h3 : ¬ q.kind = 3 := by simpa using hf
        simp only [partOk] at hq
        show q.res = 0
        omega
    · cases hk
end Go.Mod

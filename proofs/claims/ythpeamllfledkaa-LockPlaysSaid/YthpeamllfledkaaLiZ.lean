/- Who holds: sets that are right, a new one's locks. -/
import Derived.Test.YthpeamllfledkaaLkN
set_option linter.unusedVariables false
set_option linter.unusedSimpArgs false
namespace Go.Mod
open Classical

/-- A set, and the copy that the locks have. -/
structure SameS (s s0 : SetL) : Prop where
  proto : s.proto = s0.proto
  cores : s.cores = s0.cores
  homes : s.homes = s0.homes
  tasks : s.tasks.map coreT = s0.tasks.map coreT
theorem SameS.len {s s0 : SetL} (h : SameS s s0) : s.tasks.length = s0.tasks.length := by have := congrArg List.length h.tasks; simpa using this

structure StepL where
  what : Int
  task : Int
  res : Int
def stpC (s : StepL) : List Value := [.int .i64 s.what, .int .i64 s.task, .int .i64 s.res]
theorem rep_step {H : MH} {ms : List Value} {ds : List D} (h : RepL H [.int .i64, .int .i64, .int .i64] ms ds) : ∃ x : StepL, ms = stpC x ∧ True ∧ (stpC x).all one = true := by
  obtain ⟨m0, m1, m2, d0, d1, d2, rfl, g0, g1, g2⟩ := repL3 h
  cases g0; cases g1; cases g2
  exact ⟨⟨_, _, _⟩, rfl, trivial, rfl⟩
theorem ext_iff' {H0 H : MH} : Ext H0 H ↔ H0.length ≤ H.length ∧ ∀ id, id < H0.length → H[id]? = H0[id]? := by
  constructor
  · intro e; exact ⟨e.len, fun id h => ext_get e h⟩
  · rintro ⟨h1, h2⟩
    refine ⟨H.drop H0.length, ?_⟩
    apply List.ext_getElem?
    intro k
    rcases Nat.lt_or_ge k H0.length with h | h
    · rw [List.getElem?_append_left h, h2 k h]
    · rw [List.getElem?_append_right h, List.getElem?_drop]; congr 1; omega
theorem upd_extL {H0 H H1 : MH} {F F1 : List Nat} (e : Ext H0 H) (hF : ∀ id ∈ F, H0.length ≤ id) (u : Upd H F H1 F1) : Ext H0 H1 ∧ ∀ id ∈ F1, H0.length ≤ id := by
  have hl := e.len
  refine ⟨ext_iff'.2 ⟨Nat.le_trans hl u.len, fun id h => ?_⟩, fun id h => ?_⟩
  · rw [u.same id (by omega) fun h' => by have := hF id h'; omega]
    exact ext_get e h
  · rcases u.new id h with h' | h'
    · exact hF id h'
    · omega
/-- What is needed of a set that is right. -/
theorem places_of {s0 : SetL} (h : okSet s0) : placesB s0.cores s0.homes ∧ s0.tasks.length ≤ 6 ∧ s0.tasks ≠ [] ∧ (1 ≤ s0.proto ∧ s0.proto ≤ 3) ∧ (firstE s0 0 s0.tasks).2 = 0 := by
  unfold okSet checkE at h
  split at h
  · exact absurd h (by simp)
  · rename_i h1
    split at h
    · exact absurd h (by simp)
    · rename_i h2
      split at h
      · exact absurd h (by simp)
      · rename_i h3
        split at h
        · exact absurd h (by simp)
        · rename_i h4
          exact ⟨by simpa using h2, by omega, h4, by simpa using h1, h⟩
theorem first_all {s : SetL} : ∀ (l : List TaskL) (i : Nat), (firstE s i l).2 = 0 → ∀ (k : Nat) t, l[k]? = some t → taskE s (i + k) t = 0
  | [], i, _, k, t, h => by simp at h
  | u :: l, i, h, k, t, hk => by
    simp only [firstE] at h
    split at h
    · rename_i h0
      cases k with
      | zero => simp at hk; subst hk; exact h0
      | succ k =>
        have := first_all l (i + 1) h k t (by simpa using hk)
        rw [show i + (k + 1) = i + 1 + k by omega]; exact this
    · rename_i h0; exact absurd h h0
theorem task_cl {s : SetL} {i : Nat} {t : TaskL} (h : taskE s i t = 0) : formOk t ∧ (0 ≤ t.cluster ∧ t.cluster < (s.cores.length : Int)) ∧ partsOk s.homes.length t.parts ∧ ¬ ∃ o ∈ s.tasks.take i, o.name = t.name ∨ o.prio = t.prio := by
  unfold taskE at h
  split at h
  · exact absurd h (by simp)
  · rename_i h1
    split at h
    · exact absurd h (by simp)
    · rename_i h2
      split at h
      · exact absurd h (by simp)
      · rename_i h3
        split at h
        · exact absurd h (by simp)
        · rename_i h4
          exact ⟨by simpa using h1, by simpa using h2, by simpa using h4, h3⟩
theorem okSet_b {s0 s : SetL} (h : okSet s0) (sm : SameS s s0) : SetB s := by
  obtain ⟨h1, h2, h3, h4, h5⟩ := places_of h
  obtain ⟨⟨p1, p2, p3⟩, p4, p5⟩ := h1
  refine ⟨by rw [sm.cores]; exact p2, by rw [sm.homes]; exact p3, by rw [sm.len]; exact h2, fun k hk => by rw [sm.cores] at hk; exact p4 k hk, fun k hk => by rw [sm.homes] at hk; rw [sm.cores]; exact p5 k hk, fun t ht => ?_⟩
  have : coreT t ∈ s0.tasks.map coreT := by rw [← sm.tasks]; exact List.mem_map_of_mem ht
  obtain ⟨u, hu, e⟩ := List.mem_map.1 this
  obtain ⟨k, hk⟩ := List.mem_iff_getElem?.1 hu
  have := (task_cl (first_all _ 0 h5 k u hk)).2.1
  have e2 : t.cluster = u.cluster := (congrArg TCore.cluster e).symm
  rw [sm.cores, e2]; exact this

theorem lkChkR : ChkR mpLk 76 77 65 64 47 20 := ⟨rfl, rfl, rfl, rfl, rfl, rfl⟩
/-- New, of a set that is right. -/
theorem new_ok {H : MH} {s0 : SetL} (hs : SetAt H s0) (hsrc : SetSrc H s0) (fw : fewS s0) (ok : okSet s0) :
    ∃ (l : Nat) (s : SetL) (L : Lay) (x : LS) (H' : MH) (F' : List Nat), R mpLk 10 [.agg s0.cells.toArray] H = some (.pointer (some ⟨l, 0, none⟩), H') ∧ LkS l s L x H' F' ∧ Ext H H' ∧ (∀ id ∈ F', H.length ≤ id) ∧ x.ts.map (·.id) = L.chs ∧ SameS s s0 ∧ SetB s ∧ LkInv s x ∧ x.cnt = 0 ∧ x.ak = [] := by
  obtain ⟨h1, h2, h3, h4, h5⟩ := places_of ok
  obtain ⟨⟨p1, p2, p3⟩, p4, p5⟩ := h1
  obtain ⟨f1, f2, f3, f4⟩ := fw
  obtain ⟨l, s, L, x, H', F', e, q, x1, g, hc, ha, hid, hh⟩ := R_new lkP lkChk hs hsrc ⟨by omega, by omega, by omega, fun t ht => by have := f4 t ht; omega⟩ (fun _ => ⟨fun h => by rw [h] at p1; simp at p1, h3, p4⟩)
  rcases hh with ⟨_, q1, q2, q3, q4, q5⟩ | ⟨hn, _⟩
  case inr => exact absurd ok hn
  have sm : SameS s s0 := ⟨q1, q2, q3, q4⟩
  have b := okSet_b ok sm
  refine ⟨l, s, L, x, H', F', e, q, x1, g, hid, sm, b, ?_, hc, ha⟩
  refine ⟨by rw [ha]; simp [uniqA], by rw [ha]; simp, by rw [ha]; simp, by omega, by rw [ha]; simp, by rw [ha]; simp, by rw [ha]; simp, by rw [ha]; simp, fun hp c k hk => ?_⟩
  have hg : (x.ts.map fun c => ((c.cap : Int), c.cnt))[c]? = some (k, 0) := by rw [q5, ← q2, List.getElem?_map, hk]; rfl
  rw [List.getElem?_map] at hg
  obtain ⟨ch, e1, e2⟩ := Option.map_eq_some_iff.1 hg
  refine ⟨ch, e1, congrArg Prod.fst e2, ?_⟩
  have : ch.cnt = 0 := congrArg Prod.snd e2
  rw [this, ha]; rfl
end Go.Mod

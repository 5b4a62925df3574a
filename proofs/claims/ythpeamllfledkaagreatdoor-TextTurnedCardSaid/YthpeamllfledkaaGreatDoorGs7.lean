/- The document's Print: numbers, parts. -/
import Derived.Test.YthpeamllfledkaaGreatDoorGs6
import Derived.Test.YthpeamllfledkaaGreatDoorGs4
import Derived.Test.YthpeamllfledkaaGreatDoorGs5
set_option linter.unusedVariables false
set_option linter.unusedSimpArgs false
namespace Go.Mod
open Go.Lib

section
variable {mp : FuncId → Option MDef} {H H0 : MH}
theorem numsR_loop (h33 : mp 33 = some (.code m33)) {ns : List Int} (hl : ns.length ≤ 1000) {a : Option Addr} {n c : Nat} (hn : n = ns.length) (hr : RowG 1 H0 a ns intC) : ∀ (k i : Nat) (H : MH) (acc : Bs), i + k = ns.length → acc.length + 8 * k ≤ 50000 → Ext H0 H →
    ∃ H', Rc mp (.loop m32_0) [(0, .string (B acc)), (1, .slice a n c), (5, .int .i64 (i : Int))] H =
      some (.exit 0, [(0, .string (B (acc ++ numsT (ns.drop i)))), (1, .slice a n c), (5, .int .i64 (n : Int)), (9, .bool false)], H') ∧ Ext H H' := by
  intro k
  induction k with
  | zero =>
    intro i H acc hi hb e
    have : i = ns.length := by omega
    subst this
    refine ⟨H, ?_, Ext.refl _⟩
    rw [List.drop_length]
    have : acc ++ numsT [] = acc := by simp [numsT]
    rw [Rc_loop, this]
    simp [m32_0, hn]
  | succ k ih =>
    intro i H acc hi hb e
    have hil : i < ns.length := by omega
    have hil' : i < n := by omega
    have hget := List.getElem?_eq_getElem hil
    have h1 := hr.ia c .i64 (i : Int)
    rw [if_pos ⟨by omega, by omega⟩, Int.toNat_natCast, ← hn, Nat.mul_one] at h1
    have l1 := hr.rd1 hget H e
    simp only [intC] at l1
    have hdrop : ns.drop i = ns[i] :: ns.drop (i + 1) := List.drop_eq_getElem_cons hil
    have w : IntKind.i64.wrap ((i : Int) + 1) = (i : Int) + 1 := wrap_i64 (by omega) (by omega)
    obtain ⟨H1, hq, e1⟩ := R_textR (mp := mp) (H := H) h33 ns[i]
    have hb2 := textL_le ns[i]
    have hcons : numsT (ns.drop i) = 32 :: (textL ns[i] ++ numsT (ns.drop (i + 1))) := by rw [hdrop]; unfold numsT; rw [List.flatMap_cons]; rfl
    rw [hcons]
    generalize textL ns[i] = tx at hq hb2 ⊢
    generalize ns[i] = x at l1 hq
    obtain ⟨t1, ht1, f1⟩ : ∃ t1 : Bs, t1 = acc ++ [32] ∧ mbin .add (.string (B acc)) (.string ⟨#[32]⟩) = some (.string (B t1)) := ⟨_, rfl, s_addM (m := [32]) (by omega) (by simp)⟩
    have l2 : t1.length = acc.length + 1 := by rw [ht1]; simp
    obtain ⟨t2, ht2, f2⟩ : ∃ t2 : Bs, t2 = t1 ++ tx ∧ mbin .add (.string (B t1)) (.string (B tx)) = some (.string (B t2)) := ⟨_, rfl, s_addM (by omega) (by omega)⟩
    have l3 : t2.length = t1.length + tx.length := by rw [ht2]; simp
    obtain ⟨H', h, e2⟩ := ih (i + 1) H1 t2 (by omega) (by omega) (e.trans e1)
    refine ⟨H', ?_, e1.trans e2⟩
    have et : acc ++ 32 :: (tx ++ numsT (ns.drop (i + 1))) = t2 ++ numsT (ns.drop (i + 1)) := by rw [ht2, ht1]; simp
    rw [et]
    clear ht1 ht2 et
    rw [Rc_loop]
    simp [-ev_s_add, m32_0, hil', h1, l1, hq, f1, f2, w]
    exact h
theorem R_numbersR (hf : mp 32 = some (.code m32)) (h33 : mp 33 = some (.code m33)) {ns : List Int} (hl : ns.length ≤ 1000) {a : Option Addr} {n c : Nat} (hn : n = ns.length) (hr : RowG 1 H0 a ns intC) {hd : Bs} (hh : hd.length ≤ 1000) (e : Ext H0 H) :
    ∃ H', R mp 32 [.string (B hd), .slice a n c] H = some (.string (B (hd ++ (numsT ns ++ [10]))), H') ∧ Ext H H' := by
  obtain ⟨H', h, e2⟩ := numsR_loop (mp := mp) h33 hl (c := c) hn hr ns.length 0 H hd (by omega) (by omega) e
  rw [List.drop_zero] at h
  have hl2 := numsT_len ns
  obtain ⟨t1, ht1, f1⟩ : ∃ t1 : Bs, t1 = (hd ++ numsT ns) ++ [10] ∧ mbin .add (.string (B (hd ++ numsT ns))) (.string ⟨#[10]⟩) = some (.string (B t1)) := ⟨_, rfl, s_addM (m := [10]) (by rw [List.length_append]; omega) (by simp)⟩
  refine ⟨H', ?_, e2⟩
  have et : hd ++ (numsT ns ++ [10]) = t1 := by rw [ht1]; simp
  rw [et]
  clear ht1 et
  generalize hd ++ numsT ns = t0 at h f1
  simp at h
  rw [R_code hf]
  simp [-ev_s_add, m32, h, f1]
theorem partsR_loop (h33 : mp 33 = some (.code m33)) {t : TaskL} (hg : RowG 3 H0 t.pa t.parts partC) (hl : t.parts.length ≤ 1000) {b5 : Nat} (hb5 : H0[b5]? = some (.cells ⟨0, true, false⟩ (taskC t))) {v1 v4 : Value} : ∀ (k i : Nat) (H : MH) (acc : Bs), i + k = t.parts.length → acc.length + 30 * k ≤ 90000 → Ext H0 H →
    ∃ H', Rc mp (.loop m10_0) [(1, v1), (3, .string (B acc)), (4, v4), (5, .pointer (some ⟨b5, 0, none⟩)), (6, .int .i64 (i : Int))] H =
      some (.exit 2, [(1, v1), (3, .string (B (acc ++ partsT (t.parts.drop i)))), (4, v4), (5, .pointer (some ⟨b5, 0, none⟩)), (6, .int .i64 (t.parts.length : Int)), (70, .bool false)], H') ∧ Ext H H' := by
  unfold taskC at hb5
  intro k
  induction k with
  | zero =>
    intro i H acc hi hb e
    have : i = t.parts.length := by omega
    subst this
    refine ⟨H, ?_, Ext.refl _⟩
    have hb := e.get hb5
    rw [List.drop_length]
    have : acc ++ partsT [] = acc := by simp [partsT]
    rw [Rc_loop, this]
    simp [m10_0, ldx, hb]
  | succ k ih =>
    intro i H acc hi hb e
    have hil : i < t.parts.length := by omega
    have hget := List.getElem?_eq_getElem hil
    have hia := hg.ia t.pc .i64 (i : Int)
    rw [if_pos ⟨by omega, by omega⟩, Int.toNat_natCast] at hia
    have hrd := hg.rdn hget H e
    have hdrop : t.parts.drop i = t.parts[i] :: t.parts.drop (i + 1) := List.drop_eq_getElem_cons hil
    have w : IntKind.i64.wrap ((i : Int) + 1) = (i : Int) + 1 := wrap_i64 (by omega) (by omega)
    have hbx := e.get hb5
    have hcons : partsT (t.parts.drop i) = 32 :: (partT t.parts[i] ++ partsT (t.parts.drop (i + 1))) := by rw [hdrop]; unfold partsT; rw [List.flatMap_cons]; rfl
    rw [hcons]
    generalize t.parts[i] = p at hrd ⊢
    obtain ⟨pk, pl, pr⟩ := p
    simp only [partC] at hrd
    have eK : Ext H (H ++ [.cells ⟨0, true, false⟩ [.int .i64 pk, .int .i64 pl, .int .i64 pr]]) := ⟨_, rfl⟩
    have hk7 : (H ++ [MObj.cells ⟨0, true, false⟩ [.int .i64 pk, .int .i64 pl, .int .i64 pr]])[H.length]? = some (.cells ⟨0, true, false⟩ [.int .i64 pk, .int .i64 pl, .int .i64 pr]) := by simp
    have hlp := textL_le pl
    have hlr := textL_le pr
    unfold partT
    simp only []
    by_cases h1 : pk = 1
    · rw [if_pos h1]
      subst h1
      obtain ⟨H1, hq, e1⟩ := R_textR (mp := mp) (H := H ++ [.cells ⟨0, true, false⟩ [.int .i64 1, .int .i64 pl, .int .i64 pr]]) h33 pl
      generalize textL pl = tl at hq hlp ⊢
      obtain ⟨t1, ht1, f1⟩ : ∃ t1 : Bs, t1 = acc ++ [32, 114, 117, 110, 58] ∧ mbin .add (.string (B acc)) (.string ⟨#[32, 114, 117, 110, 58]⟩) = some (.string (B t1)) := ⟨_, rfl, s_addM (m := [32, 114, 117, 110, 58]) (by omega) (by simp)⟩
      have l1 : t1.length = acc.length + 5 := by rw [ht1]; simp
      obtain ⟨t2, ht2, f2⟩ : ∃ t2 : Bs, t2 = t1 ++ tl ∧ mbin .add (.string (B t1)) (.string (B tl)) = some (.string (B t2)) := ⟨_, rfl, s_addM (by omega) (by omega)⟩
      have l2 : t2.length = t1.length + tl.length := by rw [ht2]; simp
      obtain ⟨H', h, e2⟩ := ih (i + 1) H1 t2 (by omega) (by omega) (e.trans (eK.trans e1))
      refine ⟨H', ?_, eK.trans (e1.trans e2)⟩
      have et : acc ++ 32 :: (kRun ++ 58 :: tl ++ partsT (t.parts.drop (i + 1))) = t2 ++ partsT (t.parts.drop (i + 1)) := by rw [ht2, ht1]; simp [kRun]
      rw [et]
      clear ht1 ht2 et
      rw [Rc_loop]
      simp [-ev_s_add, m10_0, ldnx, ldx, stx, hbx, hil, hia, hrd, hq, f1, f2, w]
      exact h
    rw [if_neg h1]
    by_cases h2 : pk = 2
    · rw [if_pos h2]
      subst h2
      obtain ⟨H1, hq, e1⟩ := R_textR (mp := mp) (H := H ++ [.cells ⟨0, true, false⟩ [.int .i64 2, .int .i64 pl, .int .i64 pr]]) h33 pl
      generalize textL pl = tl at hq hlp ⊢
      obtain ⟨t1, ht1, f1⟩ : ∃ t1 : Bs, t1 = acc ++ [32, 115, 108, 101, 101, 112, 58] ∧ mbin .add (.string (B acc)) (.string ⟨#[32, 115, 108, 101, 101, 112, 58]⟩) = some (.string (B t1)) := ⟨_, rfl, s_addM (m := [32, 115, 108, 101, 101, 112, 58]) (by omega) (by simp)⟩
      have l1 : t1.length = acc.length + 7 := by rw [ht1]; simp
      obtain ⟨t2, ht2, f2⟩ : ∃ t2 : Bs, t2 = t1 ++ tl ∧ mbin .add (.string (B t1)) (.string (B tl)) = some (.string (B t2)) := ⟨_, rfl, s_addM (by omega) (by omega)⟩
      have l2 : t2.length = t1.length + tl.length := by rw [ht2]; simp
      obtain ⟨H', h, e2⟩ := ih (i + 1) H1 t2 (by omega) (by omega) (e.trans (eK.trans e1))
      refine ⟨H', ?_, eK.trans (e1.trans e2)⟩
      have et : acc ++ 32 :: (kSleep ++ 58 :: tl ++ partsT (t.parts.drop (i + 1))) = t2 ++ partsT (t.parts.drop (i + 1)) := by rw [ht2, ht1]; simp [kSleep]
      rw [et]
      clear ht1 ht2 et
      rw [Rc_loop]
      simp [-ev_s_add, m10_0, ldnx, ldx, stx, hbx, hil, hia, hrd, hq, f1, f2, w]
      exact h
    rw [if_neg h2]
    obtain ⟨H1, hq, e1⟩ := R_textR (mp := mp) (H := H ++ [.cells ⟨0, true, false⟩ [.int .i64 pk, .int .i64 pl, .int .i64 pr]]) h33 pr
    obtain ⟨H2, hq2, e2⟩ := R_textR (mp := mp) (H := H1) h33 pl
    have hk71 := e1.get hk7
    generalize textL pl = tl at hq2 hlp ⊢
    generalize textL pr = tr at hq hlr ⊢
    obtain ⟨t1, ht1, f1⟩ : ∃ t1 : Bs, t1 = acc ++ [32, 108, 111, 99, 107, 58] ∧ mbin .add (.string (B acc)) (.string ⟨#[32, 108, 111, 99, 107, 58]⟩) = some (.string (B t1)) := ⟨_, rfl, s_addM (m := [32, 108, 111, 99, 107, 58]) (by omega) (by simp)⟩
    have l1 : t1.length = acc.length + 6 := by rw [ht1]; simp
    obtain ⟨t2, ht2, f2⟩ : ∃ t2 : Bs, t2 = t1 ++ tr ∧ mbin .add (.string (B t1)) (.string (B tr)) = some (.string (B t2)) := ⟨_, rfl, s_addM (by omega) (by omega)⟩
    have l2 : t2.length = t1.length + tr.length := by rw [ht2]; simp
    obtain ⟨t3, ht3, f3⟩ : ∃ t3 : Bs, t3 = t2 ++ [58] ∧ mbin .add (.string (B t2)) (.string ⟨#[58]⟩) = some (.string (B t3)) := ⟨_, rfl, s_addM (m := [58]) (by omega) (by simp)⟩
    have l3 : t3.length = t2.length + 1 := by rw [ht3]; simp
    obtain ⟨t4, ht4, f4⟩ : ∃ t4 : Bs, t4 = t3 ++ tl ∧ mbin .add (.string (B t3)) (.string (B tl)) = some (.string (B t4)) := ⟨_, rfl, s_addM (by omega) (by omega)⟩
    have l4 : t4.length = t3.length + tl.length := by rw [ht4]; simp
    obtain ⟨H', h, e3⟩ := ih (i + 1) H2 t4 (by omega) (by omega) (e.trans (eK.trans (e1.trans e2)))
    refine ⟨H', ?_, eK.trans (e1.trans (e2.trans e3))⟩
    have et : acc ++ 32 :: (kLockC ++ (tr ++ 58 :: tl) ++ partsT (t.parts.drop (i + 1))) = t4 ++ partsT (t.parts.drop (i + 1)) := by rw [ht4, ht3, ht2, ht1]; simp [kLockC]
    rw [et]
    clear ht1 ht2 ht3 ht4 et
    rw [Rc_loop]
    simp [-ev_s_add, m10_0, ldnx, ldx, stx, hbx, hil, hia, hrd, h1, h2, hq, hq2, hk71, f1, f2, f3, f4, mdraw_full, w]
    exact h
end
end Go.Mod
/- The document's Print. -/
set_option linter.unusedVariables false
set_option linter.unusedSimpArgs false
namespace Go.Mod
open Go.Lib

section
variable {mp : FuncId → Option MDef} {H H0 : MH}
theorem tasksR_loop (h33 : mp 33 = some (.code m33)) {b1 : Nat} {s : SetL} (hs : SetAt H0 s) (hb1 : H0[b1]? = some (.cells ⟨0, true, false⟩ s.cells)) (hl : s.tasks.length ≤ 6) (hp : ∀ t ∈ s.tasks, t.parts.length ≤ 6 ∧ (taskN t).length ≤ 8) : ∀ (k j : Nat) (H : MH) (acc : Bs), j + k = s.tasks.length → acc.length + 400 * k ≤ 30000 → Ext H0 H →
    ∃ H', Rc mp (.loop m10_1) [(1, .pointer (some ⟨b1, 0, none⟩)), (3, .string (B acc)), (4, .int .i64 (j : Int))] H =
      some (.exit 0, [(1, .pointer (some ⟨b1, 0, none⟩)), (3, .string (B (acc ++ tasksT (s.tasks.drop j)))), (4, .int .i64 (s.tasks.length : Int)), (33, .bool false)], H') ∧ Ext H H' := by
  have hg := hs.tasks
  unfold SetL.cells at hb1
  intro k
  induction k with
  | zero =>
    intro j H acc hj hb e
    have : j = s.tasks.length := by omega
    subst this
    refine ⟨H, ?_, Ext.refl _⟩
    have hbx := e.get hb1
    rw [List.drop_length]
    have : acc ++ tasksT [] = acc := by simp [tasksT]
    rw [Rc_loop, this]
    simp [m10_1, ldx, hbx]
  | succ k ih =>
    intro j H acc hj hb e
    have hjl : j < s.tasks.length := by omega
    have hget := List.getElem?_eq_getElem hjl
    have hdrop : s.tasks.drop j = s.tasks[j] :: s.tasks.drop (j + 1) := List.drop_eq_getElem_cons hjl
    have hia := hg.ia s.tc .i64 (j : Int)
    rw [if_pos ⟨by omega, by omega⟩, Int.toNat_natCast] at hia
    have hrd := hg.rdn hget H e
    have hmem := List.getElem_mem hjl
    have hpt := hp _ hmem
    have hpg := hs.parts _ hmem
    have w : IntKind.i64.wrap ((j : Int) + 1) = (j : Int) + 1 := wrap_i64 (by omega) (by omega)
    have hbx := e.get hb1
    have hcons : tasksT (s.tasks.drop j) = taskT s.tasks[j] ++ tasksT (s.tasks.drop (j + 1)) := by rw [hdrop]; rfl
    rw [hcons]
    generalize s.tasks[j] = t at hrd hpt hpg ⊢
    have hnm := name_B t
    have hK : Ext H (H ++ [.cells ⟨0, true, false⟩ (taskC t)]) := ⟨_, rfl⟩
    have hk5 : (H ++ [MObj.cells ⟨0, true, false⟩ (taskC t)])[H.length]? = some (.cells ⟨0, true, false⟩ (taskC t)) := by simp
    obtain ⟨H1, q1, e1⟩ := R_textR (mp := mp) (H := H ++ [.cells ⟨0, true, false⟩ (taskC t)]) h33 t.period
    obtain ⟨H2, q2, e2⟩ := R_textR (mp := mp) (H := H1) h33 t.deadline
    obtain ⟨H3, q3, e3⟩ := R_textR (mp := mp) (H := H2) h33 t.prio
    obtain ⟨H4, q4, e4⟩ := R_textR (mp := mp) (H := H3) h33 t.cluster
    have k1 := e1.get hk5
    have k2 := e2.get k1
    have k3 := e3.get k2
    have k4 := e4.get k3
    have eH4 : Ext H H4 := hK.trans (e1.trans (e2.trans (e3.trans e4)))
    have b1' := textL_le t.period
    have b2' := textL_le t.deadline
    have b3' := textL_le t.prio
    have b4' := textL_le t.cluster
    have hpl2 := partsT_len t.parts
    have hTt : taskT t = [116, 97, 115, 107, 32] ++ (taskN t ++ (32 :: textL t.period ++ (32 :: textL t.deadline ++ (32 :: textL t.prio ++ (32 :: textL t.cluster ++ (partsT t.parts ++ [10])))))) := by
      unfold taskT taskH numsT; simp
    rw [hTt]
    obtain ⟨hpl6, hn8⟩ := hpt
    -- the parts
    have hps := fun acc hacc => partsR_loop (mp := mp) (H0 := H4) h33 ((hpg.ext e).ext eH4) (by omega) k4 (v1 := .pointer (some ⟨b1, 0, none⟩)) (v4 := .int .i64 (j : Int)) t.parts.length 0 H4 acc (by omega) hacc (Ext.refl _)
    simp only [taskC, hnm] at hrd q1 k1 k2 k3 k4 hk5
    generalize taskN t = nm at hrd q1 k1 k2 k3 k4 hk5 hn8 ⊢
    generalize textL t.period = x1 at q1 b1' ⊢
    generalize textL t.deadline = x2 at q2 b2' ⊢
    generalize textL t.prio = x3 at q3 b3' ⊢
    generalize textL t.cluster = x4 at q4 b4' ⊢
    obtain ⟨t1, ht1, f1⟩ : ∃ t1 : Bs, t1 = acc ++ [116, 97, 115, 107, 32] ∧ mbin .add (.string (B acc)) (.string ⟨#[116, 97, 115, 107, 32]⟩) = some (.string (B t1)) := ⟨_, rfl, s_addM (m := [116, 97, 115, 107, 32]) (by omega) (by simp)⟩
    have l1 : t1.length = acc.length + 5 := by rw [ht1]; simp
    obtain ⟨t2, ht2, f2⟩ : ∃ t2 : Bs, t2 = t1 ++ nm ∧ mbin .add (.string (B t1)) (.string (B nm)) = some (.string (B t2)) := ⟨_, rfl, s_addM (by omega) (by omega)⟩
    have l2 : t2.length = t1.length + nm.length := by rw [ht2]; simp
    obtain ⟨t3, ht3, f3⟩ : ∃ t3 : Bs, t3 = t2 ++ [32] ∧ mbin .add (.string (B t2)) (.string ⟨#[32]⟩) = some (.string (B t3)) := ⟨_, rfl, s_addM (m := [32]) (by omega) (by simp)⟩
    have l3 : t3.length = t2.length + 1 := by rw [ht3]; simp
    obtain ⟨t4, ht4, f4⟩ : ∃ t4 : Bs, t4 = t3 ++ x1 ∧ mbin .add (.string (B t3)) (.string (B x1)) = some (.string (B t4)) := ⟨_, rfl, s_addM (by omega) (by omega)⟩
    have l4 : t4.length = t3.length + x1.length := by rw [ht4]; simp
    obtain ⟨t5, ht5, f5⟩ : ∃ t5 : Bs, t5 = t4 ++ [32] ∧ mbin .add (.string (B t4)) (.string ⟨#[32]⟩) = some (.string (B t5)) := ⟨_, rfl, s_addM (m := [32]) (by omega) (by simp)⟩
    have l5 : t5.length = t4.length + 1 := by rw [ht5]; simp
    obtain ⟨t6, ht6, f6⟩ : ∃ t6 : Bs, t6 = t5 ++ x2 ∧ mbin .add (.string (B t5)) (.string (B x2)) = some (.string (B t6)) := ⟨_, rfl, s_addM (by omega) (by omega)⟩
    have l6 : t6.length = t5.length + x2.length := by rw [ht6]; simp
    obtain ⟨t7, ht7, f7⟩ : ∃ t7 : Bs, t7 = t6 ++ [32] ∧ mbin .add (.string (B t6)) (.string ⟨#[32]⟩) = some (.string (B t7)) := ⟨_, rfl, s_addM (m := [32]) (by omega) (by simp)⟩
    have l7 : t7.length = t6.length + 1 := by rw [ht7]; simp
    obtain ⟨t8, ht8, f8⟩ : ∃ t8 : Bs, t8 = t7 ++ x3 ∧ mbin .add (.string (B t7)) (.string (B x3)) = some (.string (B t8)) := ⟨_, rfl, s_addM (by omega) (by omega)⟩
    have l8 : t8.length = t7.length + x3.length := by rw [ht8]; simp
    obtain ⟨t9, ht9, f9⟩ : ∃ t9 : Bs, t9 = t8 ++ [32] ∧ mbin .add (.string (B t8)) (.string ⟨#[32]⟩) = some (.string (B t9)) := ⟨_, rfl, s_addM (m := [32]) (by omega) (by simp)⟩
    have l9 : t9.length = t8.length + 1 := by rw [ht9]; simp
    obtain ⟨ta, hta, fa⟩ : ∃ ta : Bs, ta = t9 ++ x4 ∧ mbin .add (.string (B t9)) (.string (B x4)) = some (.string (B ta)) := ⟨_, rfl, s_addM (by omega) (by omega)⟩
    have la : ta.length = t9.length + x4.length := by rw [hta]; simp
    obtain ⟨H5, hp5, e5⟩ := hps ta (by omega)
    rw [List.drop_zero] at hp5
    generalize partsT t.parts = pt at hp5 hpl2 ⊢
    obtain ⟨tc, htc, fc⟩ : ∃ tc : Bs, tc = (ta ++ pt) ++ [10] ∧ mbin .add (.string (B (ta ++ pt))) (.string ⟨#[10]⟩) = some (.string (B tc)) := ⟨_, rfl, s_addM (m := [10]) (by rw [List.length_append]; omega) (by simp)⟩
    have lc : tc.length = ta.length + pt.length + 1 := by rw [htc]; simp; omega
    obtain ⟨H', h, e6⟩ := ih (j + 1) H5 tc (by omega) (by omega) (e.trans (eH4.trans e5))
    refine ⟨H', ?_, eH4.trans (e5.trans e6)⟩
    have et : acc ++ ([116, 97, 115, 107, 32] ++ (nm ++ (32 :: x1 ++ (32 :: x2 ++ (32 :: x3 ++ (32 :: x4 ++ (pt ++ [10])))))) ++ tasksT (s.tasks.drop (j + 1))) = tc ++ tasksT (s.tasks.drop (j + 1)) := by
      rw [htc, hta, ht9, ht8, ht7, ht6, ht5, ht4, ht3, ht2, ht1]; simp
    rw [et]
    generalize ta ++ pt = tb at hp5 fc
    clear htc hta ht9 ht8 ht7 ht6 ht5 ht4 ht3 ht2 ht1 et hTt
    have hj' : (j : Int) < (s.tasks.length : Int) := by omega
    rw [Rc_loop]
    simp at hp5 q1
    simp [-ev_s_add, m10_1, hbx, hjl, hj', hia, hrd, stx, ldx, ldnx, mdraw_full, ba_refl, q1, q2, q3, q4, k1, k2, k3, k4, f1, f2, f3, f4, f5, f6, f7, f8, f9, fa, hp5, fc, w]
    exact h
theorem R_printR {rn rp ro rq rc : FuncId} (h10 : mp 10 = some (.code m10)) (h31 : mp 31 = some (.code m31)) (h32 : mp 32 = some (.code m32)) (h33 : mp 33 = some (.code m33)) (hc : ChkR mp rn rp ro rq rc 12) {s : SetL} (hs : SetAt H s) (hok : (checkE s).2 = 0) :
    ∃ H', R mp 10 [.agg s.cells.toArray] H = some (.string (B (printL s)), H') ∧ Ext H H' := by
  classical
  have e1 : Ext H (H ++ [.cells ⟨0, true, false⟩ s.cells]) := ⟨_, rfl⟩
  obtain ⟨H1, q1, x1⟩ := G_okR hc hs e1
  rw [decide_eq_true (show okSet s from hok)] at q1
  have E1 := e1.trans x1
  have hb1 : H1[H.length]? = some (.cells ⟨0, true, false⟩ s.cells) := x1.get (by simp)
  obtain ⟨hpr, hpl, htl, htn, _⟩ := ok_facts hok
  have hsm := ok_small hok
  obtain ⟨⟨hc1, hc3, hh4⟩, _⟩ := hpl
  obtain ⟨p, hp, hp1⟩ : ∃ p : Nat, s.proto = (p : Int) ∧ 1 ≤ p ∧ p ≤ 3 := ⟨s.proto.toNat, by omega, by omega, by omega⟩
  have qp := R_wordR (mp := mp) (H := H1) h31 hp1
  obtain ⟨H2, qc, x2⟩ := R_numbersR (mp := mp) (H0 := H) (H := H1) h32 h33 (ns := s.cores) (by omega) (n := s.cores.length) (c := s.cc) rfl hs.cores (hd := kCores) (by simp [kCores]) E1
  have E2 := E1.trans x2
  have hb2 := x2.get hb1
  obtain ⟨H3, qh, x3⟩ := R_numbersR (mp := mp) (H0 := H) (H := H2) h32 h33 (ns := s.homes) (by omega) (n := s.homes.length) (c := s.hc) rfl hs.homes (hd := kHomes) (by simp [kHomes]) E2
  have hb3 := x3.get hb2
  have hheadS : headS s = kProtB ++ (wordN p ++ ([10] ++ (kCores ++ (numsT s.cores ++ [10])))) := by unfold headS; rw [hp]; simp
  have hhomesS : homesS s = if s.homes = [] then [] else kHomes ++ (numsT s.homes ++ [10]) := rfl
  have lc := numsT_len s.cores
  have lh := numsT_len s.homes
  have lw := wordN_len p
  have lcc : (kCores ++ (numsT s.cores ++ [10])).length ≤ 40 := by simp [kCores]; omega
  have lhh : (kHomes ++ (numsT s.homes ++ [10])).length ≤ 50 := by simp [kHomes]; omega
  generalize kCores ++ (numsT s.cores ++ [10]) = nc at qc hheadS lcc
  generalize kHomes ++ (numsT s.homes ++ [10]) = nh at qh hhomesS lhh
  generalize wordN p = wp at qp hheadS lw
  obtain ⟨t1, ht1, f1⟩ : ∃ t1 : Bs, t1 = kProtB ++ wp ∧ mbin .add (.string ⟨#[112, 114, 111, 116, 111, 99, 111, 108, 32]⟩) (.string (B wp)) = some (.string (B t1)) := ⟨_, rfl, s_addM (l := kProtB) (by simp [kProtB]) (by omega)⟩
  have l1 : t1.length = 9 + wp.length := by rw [ht1]; simp [kProtB]; omega
  obtain ⟨t2, ht2, f2⟩ : ∃ t2 : Bs, t2 = t1 ++ [10] ∧ mbin .add (.string (B t1)) (.string ⟨#[10]⟩) = some (.string (B t2)) := ⟨_, rfl, s_addM (m := [10]) (by omega) (by simp)⟩
  have l2 : t2.length = t1.length + 1 := by rw [ht2]; simp
  obtain ⟨t3, ht3, f3⟩ : ∃ t3 : Bs, t3 = t2 ++ nc ∧ mbin .add (.string (B t2)) (.string (B nc)) = some (.string (B t3)) := ⟨_, rfl, s_addM (by omega) (by omega)⟩
  have l3 : t3.length = t2.length + nc.length := by rw [ht3]; simp
  have eh : headS s = t3 := by rw [hheadS, ht3, ht2, ht1]; simp only [List.append_assoc]
  clear ht1 ht2 ht3 hheadS
  unfold printL
  rw [eh, hhomesS]
  have qc' : R mp 32 [.string ⟨#[99, 111, 114, 101, 115]⟩, .slice s.ca s.cores.length s.cc] H1 = some (.string (B nc), H2) := qc
  have qh' : R mp 32 [.string ⟨#[104, 111, 109, 101, 115]⟩, .slice s.ha s.homes.length s.hc] H2 = some (.string (B nh), H3) := qh
  have fin : ∀ (H4 : MH) (acc : Bs), Ext H H4 → H4[H.length]? = some (.cells ⟨0, true, false⟩ s.cells) → acc.length ≤ 1000 →
      ∃ H5, Rc mp (.loop m10_1) [(1, .pointer (some ⟨H.length, 0, none⟩)), (3, .string (B acc)), (4, .int .i64 0)] H4 =
        some (.exit 0, [(1, .pointer (some ⟨H.length, 0, none⟩)), (3, .string (B (acc ++ tasksT s.tasks))), (4, .int .i64 (s.tasks.length : Int)), (33, .bool false)], H5) ∧ Ext H4 H5 := fun H4 acc x4 hb4 hl => by
    obtain ⟨H5, g1, g2⟩ := tasksR_loop (mp := mp) h33 (hs.ext x4) hb4 htl hsm s.tasks.length 0 H4 acc (by omega) (by omega) (Ext.refl _)
    rw [List.drop_zero] at g1
    exact ⟨H5, g1, g2⟩
  simp only [SetL.cells, hp] at q1 hb1
  have hb2' := hb2
  have hb3' := hb3
  simp only [SetL.cells, hp] at hb2' hb3'
  by_cases hh : s.homes = []
  · rw [if_pos hh, List.nil_append]
    have hh0 : ¬ 0 < s.homes.length := by rw [hh]; simp
    have hh0' : ¬ (0 : Int) < (s.homes.length : Int) := by omega
    obtain ⟨H5, g1, g2⟩ := fin H2 t3 E2 hb2 (by omega)
    refine ⟨H5, ?_, E2.trans g2⟩
    generalize t3 ++ tasksT s.tasks = tt at g1 ⊢
    rw [R_code h10]
    simp [-ev_s_add, m10, SetL.cells, hp, q1, ldx, ldnx, mdraw_full, hb1, qp, f1, f2, f3, qc', hb2', hh0, hh0', g1]
  · rw [if_neg hh]
    have hh0 : 0 < s.homes.length := List.length_pos_iff.2 hh
    have hh0' : (0 : Int) < (s.homes.length : Int) := by omega
    obtain ⟨t4, ht4, f4⟩ : ∃ t4 : Bs, t4 = t3 ++ nh ∧ mbin .add (.string (B t3)) (.string (B nh)) = some (.string (B t4)) := ⟨_, rfl, s_addM (by omega) (by omega)⟩
    have l4 : t4.length = t3.length + nh.length := by rw [ht4]; simp
    obtain ⟨H5, g1, g2⟩ := fin H3 t4 (E2.trans x3) hb3 (by omega)
    refine ⟨H5, ?_, (E2.trans x3).trans g2⟩
    rw [← List.append_assoc, ← ht4]
    clear ht4
    generalize t4 ++ tasksT s.tasks = tt at g1 ⊢
    rw [R_code h10]
    simp [-ev_s_add, m10, SetL.cells, hp, q1, ldx, ldnx, mdraw_full, hb1, qp, f1, f2, f3, qc', hb2', hh0, hh0', qh', f4, g1]
end
end Go.Mod
/- TextTurned: lines of a text with a byte turned (plain). -/
set_option linter.unusedVariables false
set_option linter.unusedSimpArgs false
namespace Go.Mod
open Go.Lib

theorem lines_cons (l : Bs) (ls : List Bs) : linesB (l :: ls) = l ++ 10 :: linesB ls := by simp [linesB]
theorem set_lines (x : UInt8) : ∀ (ls : List Bs) (k : Nat), k < (linesB ls).length → ∃ ls1 l ls2, ls = ls1 ++ l :: ls2 ∧
    ((∃ a c d, l = a ++ c :: d ∧ (linesB ls).set k x = linesB ls1 ++ ((a ++ x :: d) ++ 10 :: linesB ls2)) ∨ (linesB ls).set k x = linesB ls1 ++ (l ++ x :: linesB ls2))
  | [], k, h => by simp [linesB] at h
  | l :: ls, k, h => by
    rw [lines_cons] at h ⊢
    rw [List.set_append]
    by_cases h1 : k < l.length
    · rw [if_pos h1]
      refine ⟨[], l, ls, rfl, .inl ⟨l.take k, l[k], l.drop (k + 1), ?_, ?_⟩⟩
      · rw [← List.drop_eq_getElem_cons h1, List.take_append_drop]
      · rw [List.set_eq_take_append_cons_drop, if_pos h1]
        rfl
    · rw [if_neg h1]
      obtain ⟨j, hj⟩ : ∃ j, k = l.length + j := ⟨k - l.length, by omega⟩
      subst hj
      rw [Nat.add_sub_cancel_left]
      cases j with
      | zero =>
        exact ⟨[], l, ls, rfl, .inr rfl⟩
      | succ j =>
        obtain ⟨ls1, l', ls2, e, h2⟩ := set_lines x ls j (by simp at h; omega)
        refine ⟨l :: ls1, l', ls2, by rw [e]; rfl, ?_⟩
        rw [List.set_cons_succ, lines_cons]
        rcases h2 with ⟨a, c, d, e1, e2⟩ | e2
        · exact .inl ⟨a, c, d, e1, by rw [e2]; simp⟩
        · exact .inr (by rw [e2]; simp)
theorem cut_pre (z : Bs) : ∀ (ls : List Bs), (∀ l ∈ ls, (10 : UInt8) ∉ l) → cutAt 10 (linesB ls ++ z) = ls ++ cutAt 10 z
  | [], _ => rfl
  | l :: ls, h => by
    rw [lines_cons, List.append_assoc, List.cons_append, cutAt_app (h l (by simp)), cut_pre z ls fun x hx => h x (by simp [hx])]; rfl
/-- What holds of each line holds of the turned text's lines. -/
theorem turned_lines {Q : Bs → Prop} {ls : List Bs} {k : Nat} {x : UInt8} (h10 : ∀ l ∈ ls, (10 : UInt8) ∉ l) (hk : k < (linesB ls).length) (hnil : Q []) (hq : ∀ l ∈ ls, Q l)
    (hA : ∀ l ∈ ls, ∀ a c d, l = a ++ c :: d → Q (a ++ x :: d)) (hP : ∀ l ∈ ls, ∀ a c d, l = a ++ c :: d → Q a ∧ Q d) (hB : ∀ l ∈ ls, ∀ l', Q (l ++ x :: l')) :
    ∀ y ∈ cutAt 10 ((linesB ls).set k x), Q y := by
  obtain ⟨ls1, l, ls2, e, h⟩ := set_lines x ls k hk
  have m1 : ∀ y ∈ ls1, y ∈ ls := fun y hy => by rw [e]; simp [hy]
  have m2 : ∀ y ∈ ls2, y ∈ ls := fun y hy => by rw [e]; simp [hy]
  have ml : l ∈ ls := by rw [e]; simp
  have hl10 := h10 l ml
  have g1 : ∀ y ∈ ls1, (10 : UInt8) ∉ y := fun y hy => h10 y (m1 y hy)
  have g2 : ∀ y ∈ ls2, (10 : UInt8) ∉ y := fun y hy => h10 y (m2 y hy)
  have c2 : cutAt 10 (linesB ls2) = ls2 ++ [[]] := cut_lines ls2 g2
  have tail : ∀ y ∈ ls2 ++ [[]], Q y := fun y hy => by
    rcases List.mem_append.1 hy with hy | hy
    · exact hq y (m2 y hy)
    · simp only [List.mem_cons, List.not_mem_nil, or_false] at hy
      subst hy; exact hnil
  intro y hy
  rcases h with ⟨a, c, d, e1, e2⟩ | e2
  · rw [e2, cut_pre _ ls1 g1] at hy
    have ha : (10 : UInt8) ∉ a := fun hm => hl10 (by rw [e1]; simp [hm])
    have hd : (10 : UInt8) ∉ d := fun hm => hl10 (by rw [e1]; simp [hm])
    rcases List.mem_append.1 hy with hy | hy
    · exact hq y (m1 y hy)
    · by_cases hx : x = 10
      · subst hx
        rw [List.append_assoc, List.cons_append, cutAt_app ha, cutAt_app hd, c2] at hy
        rcases List.mem_cons.1 hy with rfl | hy
        · exact (hP l ml _ c d e1).1
        rcases List.mem_cons.1 hy with rfl | hy
        · exact (hP l ml a c _ e1).2
        · exact tail y hy
      · have hax : (10 : UInt8) ∉ a ++ x :: d := by
          simp only [List.mem_append, List.mem_cons, not_or]
          exact ⟨ha, fun h => hx h.symm, hd⟩
        rw [cutAt_app hax, c2] at hy
        rcases List.mem_cons.1 hy with rfl | hy
        · exact hA l ml a c d e1
        · exact tail y hy
  · rw [e2, cut_pre _ ls1 g1] at hy
    rcases List.mem_append.1 hy with hy | hy
    · exact hq y (m1 y hy)
    · by_cases hx : x = 10
      · subst hx
        rw [cutAt_app hl10, c2] at hy
        rcases List.mem_cons.1 hy with rfl | hy
        · exact hq _ ml
        · exact tail y hy
      · cases ls2 with
        | nil =>
          have hax : (10 : UInt8) ∉ l ++ x :: linesB [] := by
            simp only [List.mem_append, List.mem_cons, not_or]
            exact ⟨hl10, fun h => hx h.symm, by simp [linesB]⟩
          rw [cutAt_no hax] at hy
          simp only [List.mem_cons, List.not_mem_nil, or_false] at hy
          subst hy
          exact hB l ml _
        | cons l2 ls3 =>
          have hax : (10 : UInt8) ∉ l ++ x :: l2 := by
            simp only [List.mem_append, List.mem_cons, not_or]
            exact ⟨hl10, fun h => hx h.symm, g2 l2 (by simp)⟩
          have e3 : l ++ x :: linesB (l2 :: ls3) = (l ++ x :: l2) ++ 10 :: linesB ls3 := by rw [lines_cons]; simp
          rw [e3, cutAt_app hax, cut_lines ls3 fun z hz => g2 z (by simp [hz])] at hy
          rcases List.mem_cons.1 hy with rfl | hy
          · exact hB l ml l2
          · rcases List.mem_append.1 hy with hy | hy
            · exact hq y (m2 y (by simp [hy]))
            · simp only [List.mem_cons, List.not_mem_nil, or_false] at hy
              subst hy; exact hnil
/-! ### the end of a line -/
theorem suffix_join : ∀ (ws : List Bs) (w0 d : Bs), d <:+ joinB (w0 :: ws) → ∃ us w vs e, w0 :: ws = us ++ w :: vs ∧ e <:+ w ∧ d = joinB (e :: vs)
  | [], w0, d, h => ⟨[], w0, [], d, rfl, by simpa [joinB] using h, by simp [joinB]⟩
  | w1 :: ws, w0, d, h => by
    have e0 : joinB (w0 :: w1 :: ws) = w0 ++ 32 :: joinB (w1 :: ws) := by simp [joinB]
    have e1 : ∀ e : Bs, joinB (e :: w1 :: ws) = e ++ 32 :: joinB (w1 :: ws) := fun e => by simp [joinB]
    rw [e0] at h
    obtain ⟨t, ht⟩ := h
    rcases List.append_eq_append_iff.1 ht with ⟨a', h1, h2⟩ | ⟨c', h1, h2⟩
    · exact ⟨[], w0, w1 :: ws, a', rfl, ⟨t, h1.symm⟩, by rw [e1, h2]⟩
    · cases c' with
      | nil => exact ⟨[], w0, w1 :: ws, [], rfl, List.nil_suffix, by rw [e1]; simpa using h2.symm⟩
      | cons b c' =>
        rw [List.cons_append] at h2
        injection h2 with h3 h4
        obtain ⟨us, w, vs, e, g1, g2, g3⟩ := suffix_join ws w1 d ⟨c', h4.symm⟩
        exact ⟨w0 :: us, w, vs, e, by rw [g1]; rfl, g2, g3⟩
theorem words_join2 {e : Bs} {vs : List Bs} (he : (32 : UInt8) ∉ e ∧ (35 : UInt8) ∉ e) (hv : ∀ w ∈ vs, GoodW w) : wordsOf (joinB (e :: vs)) = if e = [] then vs else e :: vs := by
  have h32 : ∀ x ∈ e :: vs, (32 : UInt8) ∉ x := fun x hx => by
    rcases List.mem_cons.1 hx with rfl | hx
    · exact he.1
    · exact (hv x hx).2.1
  have h35 : (35 : UInt8) ∉ joinB (e :: vs) := fun hc => by
    rcases mem_join hc with h1 | ⟨w, hw, h1⟩
    · cases h1
    · rcases List.mem_cons.1 hw with rfl | hw
      · exact he.2 h1
      · exact (hv w hw).2.2.1 h1
  unfold wordsOf
  have e0 := tw_app (r := []) h35
  rw [List.append_nil] at e0
  have e0' : (joinB (e :: vs)).takeWhile (· ≠ 35) = joinB (e :: vs) := by rw [e0]; simp
  rw [e0', cut_join vs e h32, noE_cons2]
  have : noE vs = vs := by
    unfold noE
    exact List.filter_eq_self.2 fun x hx => by simpa using (hv x hx).1
  rw [this]
end Go.Mod
/- TextTurned: the document reads a text with a byte turned, a line left out as the program reads it (plain). -/
set_option linter.unusedVariables false
set_option linter.unusedSimpArgs false
namespace Go.Mod
open Go.Lib

theorem nest_no {w : Bs} (h : w.count 58 ≤ 1) : nestL w = false := by
  cases hn : nestL w with
  | false => rfl
  | true => have := nest_count hn; omega
theorem nameOk_nil : NameOk [] := by unfold NameOk; intro _; rfl
/-- A line of no task, of no colon. -/
structure LineN (l : Bs) : Prop where
  no : l.count 58 = 0
  first : ∃ w z, l = w ++ 32 :: z ∧ GoodW w ∧ w ≠ kTask
/-- A line of a task. -/
structure LineT (l : Bs) : Prop where
  s : ∃ m q mid, l = m ++ 32 :: (mid ++ 32 :: q) ∧ (m ++ 32 :: mid).count 58 = 0 ∧ 5 ≤ (m.filter (· ≠ 32)).length ∧ 6 ≤ ((m ++ 32 :: mid).filter (· ≠ 32)).length
  suf : ∀ d, d <:+ l → NameOk d
theorem good_no {w z : Bs} (h : GoodW w) : ∀ x : Bs, (wordsOf (w ++ 32 :: z ++ x)).getD 0 [] = w := fun x => by
  have e1 : (32 :: (z ++ x)).takeWhile (· ≠ (35 : UInt8)) = 32 :: (z ++ x).takeWhile (· ≠ 35) := by simp
  have e2 : w ++ 32 :: z ++ x = w ++ 32 :: (z ++ x) := by simp
  unfold wordsOf
  rw [e2, tw_app h.2.2.1, e1, cutAt_app h.2.1, noE_cons2, if_neg h.1]; rfl
section
variable {l : Bs}
theorem LineN.q (h : LineN l) : NameOk l := by
  have := nameOk_of (m := l) (rest := []) (by rw [h.no]; omega) (.inl rfl)
  rwa [List.append_nil] at this
theorem LineN.a (h : LineN l) {a d : Bs} {c x : UInt8} (e : l = a ++ c :: d) : NameOk (a ++ x :: d) := by
  have h0 := h.no
  rw [e, List.count_append, List.count_cons] at h0
  have := nameOk_of (m := a ++ x :: d) (rest := []) (by rw [List.count_append, List.count_cons]; split <;> omega) (.inl rfl)
  rwa [List.append_nil] at this
theorem LineN.p (h : LineN l) {a d : Bs} {c : UInt8} (e : l = a ++ c :: d) : NameOk a ∧ NameOk d := by
  have h0 := h.no
  rw [e, List.count_append, List.count_cons] at h0
  have h1 := nameOk_of (m := a) (rest := []) (by omega) (.inl rfl)
  have h2 := nameOk_of (m := d) (rest := []) (by omega) (.inl rfl)
  rw [List.append_nil] at h1 h2
  exact ⟨h1, h2⟩
theorem LineN.b (h : LineN l) (y : Bs) : NameOk (l ++ y) := by
  obtain ⟨w, z, rfl, hg, hk⟩ := h.first
  intro h0
  rw [good_no hg] at h0
  exact absurd h0 hk
theorem LineT.b (h : LineT l) (y : Bs) : NameOk (l ++ y) := by
  obtain ⟨m, q, mid, rfl, h0, h5, h6⟩ := h.s
  have e : m ++ 32 :: (mid ++ 32 :: q) ++ y = (m ++ 32 :: mid) ++ 32 :: (q ++ y) := by simp
  rw [e]
  exact nameOk_of (by omega) (.inr ⟨_, rfl, by omega⟩)
theorem LineT.q (h : LineT l) : NameOk l := by
  have := h.b []
  rwa [List.append_nil] at this
theorem LineT.a (h : LineT l) {a d : Bs} {c x : UInt8} (e : l = a ++ c :: d) : NameOk (a ++ x :: d) := by
  obtain ⟨m, q, mid, rfl, h0, h5, h6⟩ := h.s
  have hm0 : m.count 58 = 0 := by rw [List.count_append] at h0; omega
  -- behind the first two words and their blank?
  by_cases hl : a.length ≤ m.length
  · -- the byte stands in the six words
    have e2 : (m ++ 32 :: mid) ++ 32 :: q = a ++ c :: d := by rw [← e]; simp
    have hlt : a.length < (m ++ 32 :: mid).length := by simp; omega
    rcases List.append_eq_append_iff.1 e2 with ⟨a', h1, h2⟩ | ⟨c', h1, h2⟩
    · have := congrArg List.length h1
      rw [List.length_append] at this
      omega
    · cases c' with
      | nil =>
        have := congrArg List.length h1
        rw [List.append_nil] at this
        omega
      | cons b c' =>
        rw [List.cons_append] at h2
        injection h2 with h3 h4
        rw [h4]
        have e3 : a ++ x :: (c' ++ 32 :: q) = (a ++ x :: c') ++ 32 :: q := by simp
        rw [e3]
        rw [h1] at h0 h6
        refine nameOk_of ?_ (.inr ⟨q, rfl, ?_⟩)
        · rw [List.count_append, List.count_cons] at h0 ⊢
          split <;> omega
        · rw [List.filter_append, List.length_append] at h6 ⊢
          have f1 : ∀ b : UInt8, ((b :: c').filter (· ≠ 32)).length = (if b ≠ 32 then 1 else 0) + (c'.filter (· ≠ 32)).length := fun b => by
            rw [List.filter_cons]
            by_cases hb : b = 32 <;> simp [hb]; omega
          rw [f1] at h6 ⊢
          split at h6 <;> split <;> omega
  · rcases List.append_eq_append_iff.1 e with ⟨a', h1, h2⟩ | ⟨c', h1, h2⟩
    · cases a' with
      | nil =>
        rw [List.append_nil] at h1
        rw [h1] at hl; omega
      | cons b a' =>
        rw [List.cons_append] at h2
        injection h2 with h3 h4
        subst h3
        rw [h1]
        have e3 : m ++ 32 :: a' ++ x :: d = m ++ 32 :: (a' ++ x :: d) := by simp
        rw [e3]
        exact nameOk_of (by omega) (.inr ⟨_, rfl, h5⟩)
    · have := congrArg List.length h1
      rw [List.length_append] at this
      omega
theorem LineT.p (h : LineT l) {a d : Bs} {c : UInt8} (e : l = a ++ c :: d) : NameOk a ∧ NameOk d := by
  refine ⟨?_, h.suf d ⟨a ++ [c], by rw [e]; simp⟩⟩
  obtain ⟨m, q, mid, rfl, h0, h5, h6⟩ := h.s
  have e2 : (m ++ 32 :: mid) ++ 32 :: q = a ++ c :: d := by rw [← e]; simp
  rcases List.append_eq_append_iff.1 e2 with ⟨a', h1, h2⟩ | ⟨c', h1, h2⟩
  · cases a' with
    | nil =>
      rw [List.append_nil] at h1
      rw [h1]
      have := nameOk_of (m := m ++ 32 :: mid) (rest := []) (by omega) (.inl rfl)
      rwa [List.append_nil] at this
    | cons b a' =>
      rw [List.cons_append] at h2
      injection h2 with h3 h4
      subst h3
      rw [h1]
      exact nameOk_of (by omega) (.inr ⟨_, rfl, by omega⟩)
  · rw [h1, List.count_append] at h0
    have := nameOk_of (m := a) (rest := []) (by omega) (.inl rfl)
    rwa [List.append_nil] at this
end
/-- Lines of both kinds alone. -/
theorem lines_ok {ls : List Bs} {k : Nat} {x : UInt8} (h : ∀ l ∈ ls, (10 : UInt8) ∉ l ∧ (LineN l ∨ LineT l)) (hk : k < (linesB ls).length) : ∀ y ∈ cutAt 10 ((linesB ls).set k x), NameOk y := by
  refine turned_lines (fun l hl => (h l hl).1) hk nameOk_nil (fun l hl => ?_) (fun l hl a c d e => ?_) (fun l hl a c d e => ?_) (fun l hl l' => ?_)
  all_goals rcases (h l hl).2 with g | g
  · exact g.q
  · exact g.q
  · exact g.a e
  · exact g.a e
  · exact g.p e
  · exact g.p e
  · exact g.b _
  · exact g.b _
end Go.Mod
/- TextTurned: a printed set's text with a byte turned, a line left out is read alike (plain). -/
set_option linter.unusedVariables false
set_option linter.unusedSimpArgs false
namespace Go.Mod
open Go.Lib

/-- A word that ends in a digit. -/
def DigE (w : Bs) : Prop := ∃ c, w.getLast? = some c ∧ c.toNat ≤ 57
theorem dig_text {n : Int} (h : 0 ≤ n ∧ n ≤ 9999999) : DigE (textL n) := by
  have hne := (textL_num h).2
  refine ⟨(textL n).getLast hne, List.getLast?_eq_some_getLast hne, ?_⟩
  exact (textL_D (List.getLast_mem hne)).2
theorem dig_app {a w : Bs} (h : DigE w) : DigE (a ++ w) := by
  obtain ⟨c, hc, h2⟩ := h
  refine ⟨c, ?_, h2⟩
  rw [List.getLast?_append, hc]; rfl
theorem dig_suf {e w : Bs} (h : DigE w) (hs : e <:+ w) (hne : e ≠ []) : DigE e := by
  obtain ⟨t, rfl⟩ := hs
  obtain ⟨c, hc, h2⟩ := h
  refine ⟨c, ?_, h2⟩
  rw [List.getLast?_append] at hc
  cases he : e.getLast? with
  | none => exact absurd (List.getLast?_eq_none_iff.1 he) hne
  | some b => rw [he] at hc; simpa using hc
theorem dig_no {w : Bs} (h : DigE w) : w ≠ kTask := fun e => by
  subst e
  obtain ⟨c, hc, h2⟩ := h
  have : c = 107 := by
    have : kTask.getLast? = some 107 := rfl
    rw [this] at hc; exact (Option.some.inj hc).symm
  subst this
  exact absurd h2 (by decide)
theorem dig_part {nh : Nat} {p : PartL} (h : partOk nh p) (hnh : nh ≤ 1000) : DigE (partT p) := by
  obtain ⟨⟨h1, h2, h3, h4⟩, h5⟩ := h
  have hl := dig_text (n := p.len) ⟨by omega, by omega⟩
  unfold partT
  split
  · rw [show kRun ++ 58 :: textL p.len = (kRun ++ [58]) ++ textL p.len by simp]; exact dig_app hl
  · split
    · rw [show kSleep ++ 58 :: textL p.len = (kSleep ++ [58]) ++ textL p.len by simp]; exact dig_app hl
    · rw [show kLockC ++ (textL p.res ++ 58 :: textL p.len) = (kLockC ++ (textL p.res ++ [58])) ++ textL p.len by simp]; exact dig_app hl
theorem no58 {w : Bs} (h : (58 : UInt8) ∉ w) : w.count 58 = 0 := List.count_eq_zero.2 h
theorem name58 {t : TaskL} (h : nameB t.name) : (58 : UInt8) ∉ taskN t := fun hc => by
  obtain ⟨i, hi⟩ := List.mem_iff_getElem?.1 hc
  have h1 : t.name[i]? = some 58 := by rw [name_B t, B_get]; exact hi
  have := h.1 i 58 h1
  unfold goodB at this
  have e : (58 : UInt8).toNat = 58 := rfl
  rw [e] at this
  omega
theorem join58 {ws : List Bs} (h : ∀ w ∈ ws, (58 : UInt8) ∉ w) : (joinB ws).count 58 = 0 := no58 fun hc => by
  rcases mem_join hc with h1 | ⟨w, hw, h1⟩
  · cases h1
  · exact h w hw h1
theorem text58 (n : Int) : (58 : UInt8) ∉ textL n := textL_no (.inr (by decide))
theorem text_ne {n : Int} : textL n ≠ kTask := fun e => by
  have : (116 : UInt8) ∈ textL n := by rw [e]; decide
  have := textL_D this
  exact absurd this.2 (by decide)
theorem good_filter {w : Bs} (h : (32 : UInt8) ∉ w) : (w.filter (· ≠ 32)).length = w.length := by
  rw [List.filter_eq_self.2 fun x hx => by
    simp only [decide_eq_true_eq]
    rintro rfl; exact h hx]

section
variable {s : SetL}
theorem row_task (hok : (checkE s).2 = 0) {t : TaskL} (ht : t ∈ s.tasks) : LineT (joinB (taskR t)) := by
  obtain ⟨hp, ⟨⟨hc1, hc3, hh4⟩, hcs, hhs⟩, ht6, htn, _⟩ := ok_facts hok
  obtain ⟨h1, h2, h4⟩ := ok_all hok t ht
  have hnum := task_nums (s := s) h1 h2 hc3
  have gN := good_name h1.1
  have nN := name58 h1.1
  have gP := good_text (hnum t.period (by simp))
  have gall : ∀ w ∈ taskR t, GoodW w := by
    have hmem : taskR t ∈ rowsP s := by
      unfold rowsP
      simp only [List.mem_cons, List.mem_append, List.mem_map]
      exact .inr (.inr (.inr ⟨t, ht, rfl⟩))
    exact (rows_good hok _ hmem).2
  have dall : ∀ w ∈ [t.period, t.deadline, t.prio, t.cluster].map textL ++ t.parts.map partT, DigE w := fun w hw => by
    rcases List.mem_append.1 hw with hw | hw
    · obtain ⟨n, hn, rfl⟩ := List.mem_map.1 hw
      exact dig_text (hnum n hn)
    · obtain ⟨p, hp, rfl⟩ := List.mem_map.1 hw
      exact dig_part (h4.1 p hp) (by omega)
  refine ⟨?_, ?_⟩
  · obtain ⟨p1, ps, hps⟩ : ∃ p1 ps, t.parts = p1 :: ps := by
      cases hpp : t.parts with
      | nil => have := h4.2.1; rw [hpp] at this; simp at this
      | cons a b => exact ⟨a, b, rfl⟩
    refine ⟨joinB [kTask, taskN t], joinB (partT p1 :: ps.map partT), joinB [textL t.period, textL t.deadline, textL t.prio, textL t.cluster], ?_, ?_, ?_, ?_⟩
    · unfold taskR
      rw [hps]
      simp [joinB]
    · have e : joinB [kTask, taskN t] ++ 32 :: joinB [textL t.period, textL t.deadline, textL t.prio, textL t.cluster] = joinB [kTask, taskN t, textL t.period, textL t.deadline, textL t.prio, textL t.cluster] := by simp [joinB]
      rw [e]
      refine join58 fun w hw => ?_
      simp only [List.mem_cons, List.not_mem_nil, or_false] at hw
      rcases hw with rfl | rfl | rfl | rfl | rfl | rfl
      · decide
      · exact nN
      all_goals exact text58 _
    · have hl : 1 ≤ (taskN t).length := List.length_pos_iff.2 gN.1
      have e : joinB [kTask, taskN t] = kTask ++ ([32] ++ taskN t) := by simp [joinB]
      rw [e, List.filter_append, List.filter_append, List.length_append, List.length_append, good_filter gN.2.1]
      have : (kTask.filter (· ≠ 32)).length = 4 := rfl
      omega
    · have hl : 1 ≤ (taskN t).length := List.length_pos_iff.2 gN.1
      have hl2 : 1 ≤ (textL t.period).length := List.length_pos_iff.2 gP.1
      have e : joinB [kTask, taskN t] ++ 32 :: joinB [textL t.period, textL t.deadline, textL t.prio, textL t.cluster] = kTask ++ ([32] ++ (taskN t ++ ([32] ++ (textL t.period ++ ([textL t.deadline, textL t.prio, textL t.cluster].flatMap fun x => 32 :: x))))) := by simp [joinB]
      rw [e]
      simp only [List.filter_append, List.length_append]
      rw [good_filter gN.2.1, good_filter gP.2.1]
      have : (kTask.filter (· ≠ 32)).length = 4 := rfl
      omega
  · intro d hd
    obtain ⟨us, w, vs, e, h5, h6, rfl⟩ := suffix_join _ kTask d hd
    have hmem : ∀ x ∈ w :: vs, x ∈ taskR t := fun x hx => by
      have : x ∈ us ++ w :: vs := List.mem_append_right _ hx
      rw [← h5] at this; exact this
    have gw := gall w (hmem w (by simp))
    have gv : ∀ x ∈ vs, GoodW x := fun x hx => gall x (hmem x (by simp [hx]))
    have ge : (32 : UInt8) ∉ e ∧ (35 : UInt8) ∉ e := ⟨fun h => gw.2.1 (h6.subset h), fun h => gw.2.2.1 (h6.subset h)⟩
    have hw := words_join2 ge gv
    intro h0
    rw [hw] at h0 ⊢
    match us, h5 with
    | [], h5 =>
      injection h5 with h7 h8
      subst h7
      subst h8
      by_cases he : e = []
      · rw [if_pos he]
        exact nest_no (by
          show (textL t.period).count 58 ≤ 1
          rw [no58 (text58 _)]; omega)
      · rw [if_neg he]
        exact nest_no (by
          show (taskN t).count 58 ≤ 1
          rw [no58 nN]; omega)
    | [u0], h5 =>
      injection h5 with h7 h8
      injection h8 with h9 h10
      subst h10
      by_cases he : e = []
      · rw [if_pos he] at h0
        exact absurd h0 text_ne
      · rw [if_neg he]
        exact nest_no (by
          show (textL t.period).count 58 ≤ 1
          rw [no58 (text58 _)]; omega)
    | u0 :: u1 :: us, h5 =>
      injection h5 with h7 h8
      injection h8 with h9 h10
      have hdw : DigE w := dall w (by rw [h10]; simp)
      have hdv : ∀ x ∈ vs, DigE x := fun x hx => dall x (by rw [h10]; simp [hx])
      by_cases he : e = []
      · rw [if_pos he] at h0
        cases vs with
        | nil => cases h0
        | cons v vs => exact absurd h0 (dig_no (hdv v (by simp)))
      · rw [if_neg he] at h0
        exact absurd h0 (dig_no (dig_suf hdw h6 he))
theorem row_nums {w : Bs} {ns : List Int} (hw : GoodW w) (hk : w ≠ kTask) (h58 : (58 : UInt8) ∉ w) (hne : ns ≠ []) : LineN (joinB (w :: ns.map textL)) := by
  refine ⟨join58 fun x hx => ?_, ?_⟩
  · rcases List.mem_cons.1 hx with rfl | hx
    · exact h58
    · obtain ⟨n, hn, rfl⟩ := List.mem_map.1 hx
      exact text58 n
  · obtain ⟨n, ns, rfl⟩ := List.exists_cons_of_ne_nil hne
    exact ⟨w, joinB (textL n :: ns.map textL), by simp [joinB], hw, hk⟩
theorem rows_lines2 (hok : (checkE s).2 = 0) : ∀ l ∈ (rowsP s).map joinB, (10 : UInt8) ∉ l ∧ (LineN l ∨ LineT l) := by
  have hgood := rows_good hok
  obtain ⟨hp, ⟨⟨hc1, hc3, hh4⟩, hcs, hhs⟩, ht6, htn, _⟩ := ok_facts hok
  intro l hl
  obtain ⟨r, hr, rfl⟩ := List.mem_map.1 hl
  refine ⟨(words_join (hgood r hr).1 (hgood r hr).2).2, ?_⟩
  have hg := (hgood r hr).2
  unfold rowsP homesR at hr
  rcases List.mem_cons.1 hr with rfl | hr
  · refine .inl ⟨join58 fun x hx => ?_, ⟨kProtocol, wordN s.proto.toNat, by simp [joinB], hg _ (by simp), by decide⟩⟩
    simp only [List.mem_cons, List.not_mem_nil, or_false] at hx
    rcases hx with rfl | rfl
    · decide
    · obtain h | h | h : s.proto.toNat = 1 ∨ s.proto.toNat = 2 ∨ s.proto.toNat = 3 := by omega
      all_goals rw [h]; decide
  rcases List.mem_cons.1 hr with rfl | hr
  · exact .inl (row_nums (hg _ (by simp)) (by decide) (by decide) (fun e => by rw [e] at hc1; simp at hc1))
  rcases List.mem_append.1 hr with hr | hr
  · split at hr
    · cases hr
    · rename_i hne
      simp only [List.mem_cons, List.not_mem_nil, or_false] at hr
      subst hr
      exact .inl (row_nums (hg _ (by simp)) (by decide) (by decide) hne)
  · obtain ⟨t, ht, rfl⟩ := List.mem_map.1 hr
    exact .inr (row_task hok ht)
theorem read_of {l : Bs} (h : ∀ y ∈ cutAt 10 l, NameOk y) : parseD l = parseL l := read_eq fun r hr h0 => by
  obtain ⟨_, y, hy, e⟩ := rowsL_mem _ _ r hr
  rw [e] at h0 ⊢
  exact h y (trimE_mem hy) h0
/-- A byte turned. -/
theorem read_turned (hok : (checkE s).2 = 0) {k : Nat} {x : UInt8} (hk : k < (printL s).length) : parseD ((printL s).set k x) = parseL ((printL s).set k x) := by
  rw [print_lines] at hk ⊢
  exact read_of (lines_ok (rows_lines2 hok) hk)
/-- A line left out. -/
theorem read_dropped (hok : (checkE s).2 = 0) (j : Nat) : parseD (linesB (((rowsP s).map joinB).eraseIdx j)) = parseL (linesB (((rowsP s).map joinB).eraseIdx j)) := by
  have h := rows_lines2 hok
  have hm : ∀ l ∈ ((rowsP s).map joinB).eraseIdx j, l ∈ (rowsP s).map joinB := fun l hl => List.mem_of_mem_eraseIdx hl
  refine read_of fun y hy => ?_
  rw [cut_lines _ fun l hl => (h l (hm l hl)).1] at hy
  rcases List.mem_append.1 hy with hy | hy
  · rcases (h y (hm y hy)).2 with g | g
    · exact g.q
    · exact g.q
  · simp only [List.mem_cons, List.not_mem_nil, or_false] at hy
    subst hy; exact nameOk_nil
/-- The lines of what is printed. -/
theorem print_cut (hok : (checkE s).2 = 0) : trimE (cutAt 10 (printL s)) = (rowsP s).map joinB := by
  rw [print_lines, cut_lines _ fun l hl => (rows_lines2 hok l hl).1, trim_lines]
end
end Go.Mod

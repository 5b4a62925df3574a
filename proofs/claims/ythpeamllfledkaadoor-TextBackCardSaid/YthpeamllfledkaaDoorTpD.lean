/- Package text: tasks printed. -/
import Derived.Test.YthpeamllfledkaaDoorTpC
set_option linter.unusedVariables false
set_option linter.unusedSimpArgs false
namespace Go.Mod
open Go.Lib

def taskN (t : TaskL) : Bs := t.name.data.toList
def taskH (t : TaskL) : Bs := [116, 97, 115, 107, 32] ++ (taskN t ++ numsT [t.period, t.deadline, t.prio, t.cluster])
def taskT (t : TaskL) : Bs := taskH t ++ (partsT t.parts ++ [10])
def tasksT (l : List TaskL) : Bs := l.flatMap taskT
theorem name_B (t : TaskL) : t.name = B (taskN t) := by unfold taskN; cases h : t.name; simp [B]
theorem taskH_len (t : TaskL) : (taskH t).length ≤ 37 + (taskN t).length := by
  have h2 := numsT_len [t.period, t.deadline, t.prio, t.cluster]
  unfold taskH
  simp only [List.length_append, List.length_cons, List.length_nil] at h2 ⊢
  omega
theorem taskT_len (t : TaskL) : (taskT t).length ≤ 38 + (taskN t).length + 21 * t.parts.length := by
  have h1 := taskH_len t
  have h2 := partsT_len t.parts
  unfold taskT
  simp only [List.length_append, List.length_cons, List.length_nil]
  omega
section
variable {mp : FuncId → Option MDef} {H H0 : MH}
theorem tasksT_loop (P : PrP mp) {b : Nat} {a : Option Addr} {c : Nat} {ts : List TaskL} (hg : RowG 6 H0 a ts taskC) (hl : ts.length ≤ 1000) (hp : ∀ t ∈ ts, RowG 3 H0 t.pa t.parts partC ∧ t.parts.length ≤ 6 ∧ (taskN t).length ≤ 8) : ∀ (k j : Nat) (H : MH) (F : List Nat) (acc : Bs), j + k = ts.length → acc.length + 400 * k ≤ 800000 → Ext H0 H → (∀ id ∈ F, H0.length ≤ id) → BldA b acc H F →
    ∃ H' F', Rc mp (.loop m27_1) [(5, .pointer (some ⟨b, 0, none⟩)), (40, .slice a ts.length c), (41, .int .i64 (ts.length : Int)), (42, .int .i64 (j : Int))] H =
      some (.exit 0, [(5, .pointer (some ⟨b, 0, none⟩)), (40, .slice a ts.length c), (41, .int .i64 (ts.length : Int)), (42, .int .i64 (ts.length : Int)), (43, .bool false)], H') ∧ BldA b (acc ++ tasksT (ts.drop j)) H' F' ∧ Upd H F H' F' := by
  intro k
  induction k with
  | zero =>
    intro j H F acc hj hb e hF hB
    have : j = ts.length := by omega
    subst this
    refine ⟨H, F, ?_, by rw [List.drop_length]; simpa [tasksT] using hB, Upd.refl _ _⟩
    rw [Rc_loop]
    simp [m27_1]
  | succ k ih =>
    intro j H F acc hj hb e hF hB
    have hjl : j < ts.length := by omega
    have hget := List.getElem?_eq_getElem hjl
    have hdrop : ts.drop j = ts[j] :: ts.drop (j + 1) := List.drop_eq_getElem_cons hjl
    have hia := hg.ia c .i64 (j : Int)
    rw [if_pos ⟨by omega, by omega⟩, Int.toNat_natCast] at hia
    have hrd := hg.rdn hget H e
    have hpt := hp _ (List.getElem_mem hjl)
    have w : IntKind.i64.wrap ((j : Int) + 1) = (j : Int) + 1 := wrap_i64 (by omega) (by omega)
    rw [hdrop]
    generalize ts[j] = t at hrd hpt
    have hnm := name_B t
    have hcons : tasksT (t :: ts.drop (j + 1)) = taskT t ++ tasksT (ts.drop (j + 1)) := rfl
    rw [hcons]
    unfold taskT
    simp only [taskC, hnm] at hrd
    have hth : taskH t = [116, 97, 115, 107, 32] ++ (taskN t ++ numsT [t.period, t.deadline, t.prio, t.cluster]) := rfl
    have hthl := taskH_len t
    have hnl := numsT_len [t.period, t.deadline, t.prio, t.cluster]
    simp only [List.length_cons, List.length_nil] at hnl
    have hrow : ∀ K : MH, Row 1 (K ++ [.cells ⟨1, true, true⟩ [.int .i64 t.period, .int .i64 t.deadline, .int .i64 t.prio, .int .i64 t.cluster]]) (.slice (some ⟨K.length, 0, none⟩) 4 4) (i64s [t.period, t.deadline, t.prio, t.cluster]) := fun K => row_new (by simp [i64s])
    have q1 := R_numsT (mp := mp) P.e P.a P.b (by simp) (hrow (H ++ [.cells ⟨0, true, false⟩ [.string (B (taskN t)), .int .i64 t.period, .int .i64 t.deadline, .int .i64 t.prio, .int .i64 t.cluster, .slice t.pa t.parts.length t.pc]]))
    obtain ⟨hpg, hpl, hnl8⟩ := hpt
    generalize hnums : numsT [t.period, t.deadline, t.prio, t.cluster] = nt at q1 hth hnl
    generalize taskN t = nm at hrd hth q1 hthl hnl8
    obtain ⟨t1, ht1, f1⟩ : ∃ t1 : Bs, t1 = [116, 97, 115, 107, 32] ++ nm ∧ mbin .add (.string ⟨#[116, 97, 115, 107, 32]⟩) (.string (B nm)) = some (.string (B t1)) := ⟨_, rfl, s_addM (l := [116, 97, 115, 107, 32]) (by simp) (by omega)⟩
    have l1 : t1.length = 5 + nm.length := by rw [ht1]; simp; omega
    obtain ⟨t2, ht2, f2⟩ : ∃ t2 : Bs, t2 = t1 ++ nt ∧ mbin .add (.string (B t1)) (.string (B nt)) = some (.string (B t2)) := ⟨_, rfl, s_addM (by omega) (by omega)⟩
    have et : taskH t = t2 := by rw [hth, ht2, ht1]; simp
    have hne : t2 ≠ [] := by rw [ht2, ht1]; simp
    rw [et] at hthl ⊢
    clear ht1 ht2 hth et
    have e2 : Ext H (H ++ [.cells ⟨0, true, false⟩ [.string (B nm), .int .i64 t.period, .int .i64 t.deadline, .int .i64 t.prio, .int .i64 t.cluster, .slice t.pa t.parts.length t.pc]] ++ [.cells ⟨1, true, true⟩ [.int .i64 t.period, .int .i64 t.deadline, .int .i64 t.prio, .int .i64 t.cluster]]) := ⟨[_, _], by rw [List.append_assoc]; rfl⟩
    obtain ⟨H2, F2, q2, hB2, u2⟩ := R_write (mp := mp) P.c P.h (BldA.good.ext hB e2) hne (by omega)
    have hb7 : H2[H.length]? = some (.cells ⟨0, true, false⟩ [.string (B nm), .int .i64 t.period, .int .i64 t.deadline, .int .i64 t.prio, .int .i64 t.cluster, .slice t.pa t.parts.length t.pc]) := by
      refine u2.get (by simp) fun h => ?_
      have := BldA.good.lt hB _ h
      omega
    have u := (Upd.ext (F := F) e2).trans u2
    obtain ⟨e3, hF3⟩ := ext_upd e u hF
    obtain ⟨H3, F3, q3, hB3, u3⟩ := parts_loop P (v40 := .slice a ts.length c) (v41 := .int .i64 (ts.length : Int)) (v42 := .int .i64 (j : Int)) (c := t.pc) hpg (by omega) t.parts.length 0 H2 F2 (acc ++ t2) (by omega) (by simp; omega) e3 hF3 hB2
    obtain ⟨e4, hF4⟩ := ext_upd e3 u3 hF3
    rw [List.drop_zero] at hB3
    have hpl2 := partsT_len t.parts
    generalize partsT t.parts = pt at hB3 hpl2
    obtain ⟨H4, F4, q4, hB4, u4⟩ := R_write (mp := mp) P.c P.h hB3 (m := [10]) (by simp) (by simp; omega)
    obtain ⟨e5, hF5⟩ := ext_upd e4 u4 hF4
    obtain ⟨H', F', h1, h2, h3⟩ := ih (j + 1) H4 F4 (acc ++ t2 ++ pt ++ [10]) (by omega) (by simp; omega) e5 hF5 hB4
    refine ⟨H', F', ?_, ?_, u.trans (u3.trans (u4.trans h3))⟩
    rotate_left
    · have : acc ++ (t2 ++ (pt ++ [10]) ++ tasksT (ts.drop (j + 1))) = acc ++ t2 ++ pt ++ [10] ++ tasksT (ts.drop (j + 1)) := by simp only [List.append_assoc]
      rw [this]; exact h2
    · have hj' : (j : Int) < (ts.length : Int) := by omega
      have q4' : R mp 37 [.pointer (some ⟨b, 0, none⟩), .string ⟨#[10]⟩] H3 = some (.tuple #[.int .i64 1, .nilIface], H4) := q4
      rw [Rc_loop]
      simp at q1 q2 q3
      simp [-ev_s_add, m27_1, hjl, hj', hia, hrd, stx, ldx, ldnx, mdraw_full, ba_refl, q1, f1, f2, q2, hb7, q3, q4', w]
      exact h1
end
end Go.Mod

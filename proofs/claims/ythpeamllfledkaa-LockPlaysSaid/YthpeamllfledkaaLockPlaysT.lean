/- LockPlays: of every set, every row of asks, grants, leaves: each answer, who holds what, who waits, by what they are boosted -/
import Derived.Test.YthpeamllfledkaaRows
import Derived.Test.YthpeamllfledkaaGrC
import Derived.Test.YthpeamllfledkaaRfJ
set_option linter.unusedVariables false
namespace Go.Proofs.Ythpeamllfledkaa.lockPlays
open Go.Mod Go.ChangeShapes Go.WideShapes Go.ChangeAt Go.RowKit

theorem own : ownKnob Try.prog.godebug = none := by kernel_rfl

set_option maxRecDepth 100000 in
theorem lifted (os : Os) (started : os.Started) (H : Type) (enc : TypeId × Value → H) :
    ReturnsInHanded {} Try.checked os 3 .any (Rows.lockPlaysSpec.pre6 enc Try.prog Try.f3 Rows.lockPlaysRow.domain false) (Rows.lockPlaysSpec.post enc Try.prog Try.f3 false true false false) := by
  refine returnsInHanded_of_change (C := Try.checked) own started (by kernel_rfl) Try.func3
    (ChangeSpec.witness6 (enc := enc) (C := Try.checked) false ⟨#[], #[.agg #[.int .i64 0,.slice none 0 0,.slice none 0 0,.slice none 0 0], .slice none 0 0], []⟩ 8 (by kernel_rfl) (by kernel_rfl) (by kernel_rfl) (by kernel_rfl)) ?_
  intro W base args ds gs before hval0 hW hcnd _
  have hval : ∀ (j : Nat) t v, Try.f3.params[j]? = some t → args[j]? = some v → Value.okWide Try.prog W .any base t v := hval0
  have hW' := hW
  obtain ⟨p, q, hA0, hV, rfl, hfz, hnd⟩ := hW
  have hA : DataW.TrodAll enc Try.prog W 0 (fun _ => true) true Try.f3.params.toList args.toList ds p := hA0
  rw [Try.params3] at hA hval
  obtain ⟨v0, vs0, d0, ds0, p0, q0, hargs, rfl, rfl, h0, t0⟩ := trodAll_cons hA
  obtain ⟨v1, vs1, d1, ds1, p1, q1, rfl, rfl, rfl, h1, t1⟩ := trodAll_cons t0
  obtain ⟨rfl, rfl, rfl⟩ := trodAll_nil t1
  obtain rfl : args = #[v0, v1] := by cases args; simp_all
  have hgs := (trodVars_none hV).1
  subst hgs
  obtain ⟨φ0, H0, m0, x0, I0, le0, ex0, V0, R0⟩ := arg_struct (Init.empty W) (t := 25) (k := 12) (fs := [.int .i64,.row [.int .i64],.row [.int .i64],.row [.str,.int .i64,.int .i64,.int .i64,.int .i64,.row [.int .i64,.int .i64,.int .i64]]]) (by kernel_rfl) (by kernel_rfl) (hval 0 25 v0 rfl rfl) h0
  obtain ⟨φ1, H1, m1, x1, I1, le1, ex1, V1, R1⟩ := arg_cell I0 (t := 26) (k := 12) (s := .row [.int .i64,.int .i64,.int .i64]) (by kernel_rfl) (by kernel_rfl) (hval 1 26 v1 rfl rfl) h1
  have r0 := RepL.ext (ex1) R0
  have V0' := V0.mono (le1)
  have r1 := Rep.ext (Ext.refl _) R1
  have V1' := V1.mono (Ren.le.refl _)
  obtain ⟨H', hR⟩ := lockPlays r0 r1
  refine (calls_true mpLk_ok c3 I1 hR (.cons V0' (.cons V1' .nil))).mono fun e W' ⟨he, hg⟩ => ?_
  exact ⟨_, he, post_true hW' (by kernel_rfl) (fun t ht => by
    rw [Try.params3] at ht
    simp at ht
    rcases ht with rfl | rfl <;> exact ⟨by kernel_rfl, of_decide_eq_true (by kernel_rfl)⟩) (tb := 4) (by kernel_rfl) (by kernel_rfl) rfl rfl rfl rfl hg⟩

theorem over : Rows.lockPlaysRow.holds Try.pinned (OpenSpec.ofChange Rows.lockPlaysSpec) :=
  OpenClaim.holds_of_wide 3 Try.f3 rfl rfl rfl rfl rfl rfl rfl ⟨rfl, rfl, rfl, rfl, rfl⟩ rfl rfl rfl rfl rfl (by kernel_rfl) Try.func3 (by kernel_rfl)
    (of_decide_eq_true (by kernel_rfl)) (by unfold Func.isWrapper; first | (rw [if_pos (by decide +kernel)]; kernel_rfl) | (rw [if_neg (by decide +kernel)]; exact ⟨rfl, rfl⟩))
    (fun os started H enc _ => lifted os started H enc)

theorem proved : Rows.LockPlaysSaid := over
#print axioms proved
end Go.Proofs.Ythpeamllfledkaa.lockPlays

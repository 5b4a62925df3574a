/- DelayShapes: waits for another resource, of the same task, that were over ahead, that came later were not waited for -/
import Derived.Test.YtpdkmcnoidbjoaaRows
import Derived.Test.YtpdkmcnoidbjoaaGrC
import Derived.Test.YtpdkmcnoidbjoaaLegE
set_option linter.unusedVariables false
namespace Go.Proofs.Ytpdkmcnoidbjoaa.delayShapes
open Go.Mod Go.ChangeShapes Go.WideShapes Go.ChangeAt Go.RowKit

theorem own : ownKnob Try.prog.godebug = none := by kernel_rfl

set_option maxRecDepth 100000 in
theorem lifted (os : Os) (started : os.Started) (H : Type) (enc : TypeId × Value → H) :
    ReturnsInHanded {} Try.checked os 4 .any (Rows.delayShapesSpec.pre6 enc Try.prog Try.f4 Rows.delayShapesRow.domain false) (Rows.delayShapesSpec.post enc Try.prog Try.f4 false true false false) := by
  refine returnsInHanded_of_change (C := Try.checked) own started (by kernel_rfl) Try.func4
    (ChangeSpec.witness6 (enc := enc) (C := Try.checked) false ⟨#[], #[.int .u8 0, .int .u8 0, .int .u8 0, .int .u8 0, .bool false, .bool false], []⟩ 8 (by kernel_rfl) (by kernel_rfl) (by kernel_rfl) (by kernel_rfl)) ?_
  intro W base args ds gs before hval0 hW hcnd _
  have hval : ∀ (j : Nat) t v, Try.f4.params[j]? = some t → args[j]? = some v → Value.okWide Try.prog W .any base t v := hval0
  have hW' := hW
  obtain ⟨p, q, hA0, hV, rfl, hfz, hnd⟩ := hW
  have hA : DataW.TrodAll enc Try.prog W 0 (fun _ => true) true Try.f4.params.toList args.toList ds p := hA0
  rw [Try.params4] at hA hval
  obtain ⟨v0, vs0, d0, ds0, p0, q0, hargs, rfl, rfl, h0, t0⟩ := trodAll_cons hA
  obtain ⟨v1, vs1, d1, ds1, p1, q1, rfl, rfl, rfl, h1, t1⟩ := trodAll_cons t0
  obtain ⟨v2, vs2, d2, ds2, p2, q2, rfl, rfl, rfl, h2, t2⟩ := trodAll_cons t1
  obtain ⟨v3, vs3, d3, ds3, p3, q3, rfl, rfl, rfl, h3, t3⟩ := trodAll_cons t2
  obtain ⟨v4, vs4, d4, ds4, p4, q4, rfl, rfl, rfl, h4, t4⟩ := trodAll_cons t3
  obtain ⟨v5, vs5, d5, ds5, p5, q5, rfl, rfl, rfl, h5, t5⟩ := trodAll_cons t4
  obtain ⟨rfl, rfl, rfl⟩ := trodAll_nil t5
  obtain rfl : args = #[v0, v1, v2, v3, v4, v5] := by cases args; simp_all
  have hgs := (trodVars_none hV).1
  subst hgs
  obtain ⟨x0, rfl, w0⟩ := arg_int (k := .u8) (by kernel_rfl) (hval 0 5 v0 rfl rfl) h0
  obtain ⟨x1, rfl, w1⟩ := arg_int (k := .u8) (by kernel_rfl) (hval 1 5 v1 rfl rfl) h1
  obtain ⟨x2, rfl, w2⟩ := arg_int (k := .u8) (by kernel_rfl) (hval 2 5 v2 rfl rfl) h2
  obtain ⟨x3, rfl, w3⟩ := arg_int (k := .u8) (by kernel_rfl) (hval 3 5 v3 rfl rfl) h3
  obtain ⟨x4, rfl⟩ := arg_bool (by kernel_rfl) (hval 4 4 v4 rfl rfl) h4
  obtain ⟨x5, rfl⟩ := arg_bool (by kernel_rfl) (hval 5 4 v5 rfl rfl) h5
  obtain ⟨H', hR⟩ := delayShapes (res := x4) (same := x5) (wf_u8 w0) (wf_u8 w1) (wf_u8 w2) (wf_u8 w3)
  refine (calls_true mpGk_ok c4 (Init.empty W) hR (.cons (.int _ _) (.cons (.int _ _) (.cons (.int _ _) (.cons (.int _ _) (.cons (.bool _) (.cons (.bool _) .nil))))))).mono fun e W' ⟨he, hg⟩ => ?_
  exact ⟨_, he, post_true hW' (by kernel_rfl) (fun t ht => by
    rw [Try.params4] at ht
    simp at ht
    rcases ht with rfl | rfl | rfl | rfl | rfl | rfl <;> exact ⟨by kernel_rfl, of_decide_eq_true (by kernel_rfl)⟩) (tb := 4) (by kernel_rfl) (by kernel_rfl) rfl rfl rfl rfl hg⟩

theorem over : Rows.delayShapesRow.holds Try.pinned (OpenSpec.ofChange Rows.delayShapesSpec) :=
  OpenClaim.holds_of_wide 4 Try.f4 rfl rfl rfl rfl rfl rfl rfl ⟨rfl, rfl, rfl, rfl, rfl⟩ rfl rfl rfl rfl rfl (by kernel_rfl) Try.func4 (by kernel_rfl)
    (of_decide_eq_true (by kernel_rfl)) (by unfold Func.isWrapper; first | (rw [if_pos (by decide +kernel)]; kernel_rfl) | (rw [if_neg (by decide +kernel)]; exact ⟨rfl, rfl⟩))
    (fun os started H enc _ => lifted os started H enc)

theorem proved : Rows.DelayShapesSaid := over
#print axioms proved
end Go.Proofs.Ytpdkmcnoidbjoaa.delayShapes

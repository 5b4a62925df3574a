/- LegalShapes: slots out of order, too many at a cluster, jobs too near one another, waits that overlap are not right -/
import Derived.Test.YtpdkmcnoidbjoaaRows
import Derived.Test.YtpdkmcnoidbjoaaGrC
import Derived.Test.YtpdkmcnoidbjoaaLegZ
set_option linter.unusedVariables false
namespace Go.Proofs.Ytpdkmcnoidbjoaa.legalShapes
open Go.Mod Go.ChangeShapes Go.WideShapes Go.ChangeAt Go.RowKit

theorem own : ownKnob Try.prog.godebug = none := by kernel_rfl

set_option maxRecDepth 100000 in
theorem lifted (os : Os) (started : os.Started) (H : Type) (enc : TypeId × Value → H) :
    ReturnsInHanded {} Try.checked os 14 .any (Rows.legalShapesSpec.pre6 enc Try.prog Try.f14 Rows.legalShapesRow.domain false) (Rows.legalShapesSpec.post enc Try.prog Try.f14 false true false false) := by
  refine returnsInHanded_of_change (C := Try.checked) own started (by kernel_rfl) Try.func14
    (ChangeSpec.witness6 (enc := enc) (C := Try.checked) false ⟨#[], #[.int .u8 0, .int .u8 0], []⟩ 8 (by kernel_rfl) (by kernel_rfl) (by kernel_rfl) (by kernel_rfl)) ?_
  intro W base args ds gs before hval0 hW hcnd _
  have hval : ∀ (j : Nat) t v, Try.f14.params[j]? = some t → args[j]? = some v → Value.okWide Try.prog W .any base t v := hval0
  have hW' := hW
  obtain ⟨p, q, hA0, hV, rfl, hfz, hnd⟩ := hW
  have hA : DataW.TrodAll enc Try.prog W 0 (fun _ => true) true Try.f14.params.toList args.toList ds p := hA0
  rw [Try.params14] at hA hval
  obtain ⟨v0, vs0, d0, ds0, p0, q0, hargs, rfl, rfl, h0, t0⟩ := trodAll_cons hA
  obtain ⟨v1, vs1, d1, ds1, p1, q1, rfl, rfl, rfl, h1, t1⟩ := trodAll_cons t0
  obtain ⟨rfl, rfl, rfl⟩ := trodAll_nil t1
  obtain rfl : args = #[v0, v1] := by cases args; simp_all
  have hgs := (trodVars_none hV).1
  subst hgs
  obtain ⟨x0, rfl, w0⟩ := arg_int (k := .u8) (by kernel_rfl) (hval 0 5 v0 rfl rfl) h0
  obtain ⟨x1, rfl, w1⟩ := arg_int (k := .u8) (by kernel_rfl) (hval 1 5 v1 rfl rfl) h1
  obtain ⟨H', hR⟩ := legalShapes (wf_u8 w0) (wf_u8 w1)
  refine (calls_true mpGk_ok c14 (Init.empty W) hR (.cons (.int _ _) (.cons (.int _ _) .nil))).mono fun e W' ⟨he, hg⟩ => ?_
  exact ⟨_, he, post_true hW' (by kernel_rfl) (fun t ht => by
    rw [Try.params14] at ht
    simp at ht
    subst ht; exact ⟨by kernel_rfl, of_decide_eq_true (by kernel_rfl)⟩) (tb := 4) (by kernel_rfl) (by kernel_rfl) rfl rfl rfl rfl hg⟩

theorem over : Rows.legalShapesRow.holds Try.pinned (OpenSpec.ofChange Rows.legalShapesSpec) :=
  OpenClaim.holds_of_wide 14 Try.f14 rfl rfl rfl rfl rfl rfl rfl ⟨rfl, rfl, rfl, rfl, rfl⟩ rfl rfl rfl rfl rfl (by kernel_rfl) Try.func14 (by kernel_rfl)
    (of_decide_eq_true (by kernel_rfl)) (by unfold Func.isWrapper; first | (rw [if_pos (by decide +kernel)]; kernel_rfl) | (rw [if_neg (by decide +kernel)]; exact ⟨rfl, rfl⟩))
    (fun os started H enc _ => lifted os started H enc)

theorem proved : Rows.LegalShapesSaid := over
#print axioms proved
end Go.Proofs.Ytpdkmcnoidbjoaa.legalShapes

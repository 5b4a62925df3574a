/- LegalTells: of every set and trace whether it is right, who ran when, who held what -/
import Derived.Test.YtpdkmcnoidbjoaaRows
import Derived.Test.YtpdkmcnoidbjoaaGrC
import Derived.Test.YtpdkmcnoidbjoaaLegX
set_option linter.unusedVariables false
namespace Go.Proofs.Ytpdkmcnoidbjoaa.legalTells
open Go.Mod Go.ChangeShapes Go.WideShapes Go.ChangeAt Go.RowKit

theorem own : ownKnob Try.prog.godebug = none := by kernel_rfl

set_option maxRecDepth 100000 in
theorem lifted (os : Os) (started : os.Started) (H : Type) (enc : TypeId × Value → H) :
    ReturnsInHanded {} Try.checked os 13 .any (Rows.legalTellsSpec.pre6 enc Try.prog Try.f13 Rows.legalTellsRow.domain false) (Rows.legalTellsSpec.post enc Try.prog Try.f13 false true false false) := by
  refine returnsInHanded_of_change (C := Try.checked) own started (by kernel_rfl) Try.func13
    (ChangeSpec.witness6 (enc := enc) (C := Try.checked) false ⟨#[], #[.agg #[.int .i64 0,.slice none 0 0,.slice none 0 0,.slice none 0 0], .agg #[.int .i64 0,.slice none 0 0,.slice none 0 0,.slice none 0 0], .int .i64 0, .int .i64 0, .int .i64 0], []⟩ 8 (by kernel_rfl) (by kernel_rfl) (by kernel_rfl) (by kernel_rfl)) ?_
  intro W base args ds gs before hval0 hW hcnd _
  have hval : ∀ (j : Nat) t v, Try.f13.params[j]? = some t → args[j]? = some v → Value.okWide Try.prog W .any base t v := hval0
  have hW' := hW
  obtain ⟨p, q, hA0, hV, rfl, hfz, hnd⟩ := hW
  have hA : DataW.TrodAll enc Try.prog W 0 (fun _ => true) true Try.f13.params.toList args.toList ds p := hA0
  rw [Try.params13] at hA hval
  obtain ⟨v0, vs0, d0, ds0, p0, q0, hargs, rfl, rfl, h0, t0⟩ := trodAll_cons hA
  obtain ⟨v1, vs1, d1, ds1, p1, q1, rfl, rfl, rfl, h1, t1⟩ := trodAll_cons t0
  obtain ⟨v2, vs2, d2, ds2, p2, q2, rfl, rfl, rfl, h2, t2⟩ := trodAll_cons t1
  obtain ⟨v3, vs3, d3, ds3, p3, q3, rfl, rfl, rfl, h3, t3⟩ := trodAll_cons t2
  obtain ⟨v4, vs4, d4, ds4, p4, q4, rfl, rfl, rfl, h4, t4⟩ := trodAll_cons t3
  obtain ⟨rfl, rfl, rfl⟩ := trodAll_nil t4
  obtain rfl : args = #[v0, v1, v2, v3, v4] := by cases args; simp_all
  have hgs := (trodVars_none hV).1
  subst hgs
  obtain ⟨φ0, H0, m0, x0, I0, le0, ex0, V0, R0⟩ := arg_struct (Init.empty W) (t := 25) (k := 12) (fs := [.int .i64,.row [.int .i64],.row [.int .i64],.row [.str,.int .i64,.int .i64,.int .i64,.int .i64,.row [.int .i64,.int .i64,.int .i64]]]) (by kernel_rfl) (by kernel_rfl) (hval 0 25 v0 rfl rfl) h0
  obtain ⟨φ1, H1, m1, x1, I1, le1, ex1, V1, R1⟩ := arg_struct I0 (t := 30) (k := 12) (fs := [.int .i64,.row [.int .i64,.int .i64,.int .i64,.bool],.row [.int .i64,.int .i64,.int .i64],.row [.int .i64,.int .i64,.int .i64,.int .i64,.int .i64]]) (by kernel_rfl) (by kernel_rfl) (hval 1 30 v1 rfl rfl) h1
  obtain ⟨x2, rfl, w2⟩ := arg_int (k := .i64) (by kernel_rfl) (hval 2 3 v2 rfl rfl) h2
  obtain ⟨x3, rfl, w3⟩ := arg_int (k := .i64) (by kernel_rfl) (hval 3 3 v3 rfl rfl) h3
  obtain ⟨x4, rfl, w4⟩ := arg_int (k := .i64) (by kernel_rfl) (hval 4 3 v4 rfl rfl) h4
  have r0 := RepL.ext (ex1) R0
  have V0' := V0.mono (le1)
  have r1 := RepL.ext (Ext.refl _) R1
  have V1' := V1.mono (Ren.le.refl _)
  obtain ⟨H', hR⟩ := legalTells r0 r1 x2 x3 x4
  refine (calls_true mpGk_ok c13 I1 hR (.cons V0' (.cons V1' (.cons (.int _ _) (.cons (.int _ _) (.cons (.int _ _) .nil)))))).mono fun e W' ⟨he, hg⟩ => ?_
  exact ⟨_, he, post_true hW' (by kernel_rfl) (fun t ht => by
    rw [Try.params13] at ht
    simp at ht
    rcases ht with rfl | rfl | rfl | rfl | rfl <;> exact ⟨by kernel_rfl, of_decide_eq_true (by kernel_rfl)⟩) (tb := 4) (by kernel_rfl) (by kernel_rfl) rfl rfl rfl rfl hg⟩

theorem over : Rows.legalTellsRow.holds Try.pinned (OpenSpec.ofChange Rows.legalTellsSpec) :=
  OpenClaim.holds_of_wide 13 Try.f13 rfl rfl rfl rfl rfl rfl rfl ⟨rfl, rfl, rfl, rfl, rfl⟩ rfl rfl rfl rfl rfl (by kernel_rfl) Try.func13 (by kernel_rfl)
    (of_decide_eq_true (by kernel_rfl)) (by unfold Func.isWrapper; first | (rw [if_pos (by decide +kernel)]; kernel_rfl) | (rw [if_neg (by decide +kernel)]; exact ⟨rfl, rfl⟩))
    (fun os started H enc _ => lifted os started H enc)

theorem proved : Rows.LegalTellsSaid := over
#print axioms proved
end Go.Proofs.Ytpdkmcnoidbjoaa.legalTells

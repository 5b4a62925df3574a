/- RankPlays: every row of puts, takes, drops: each answer, all that stand in it, in order, behind each -/
import Derived.Test.YtpdkmcnoidbjoaaRows
import Derived.Test.YtpdkmcnoidbjoaaFwZ
import Derived.Test.YtpdkmcnoidbjoaaRankV
set_option linter.unusedVariables false
namespace Go.Proofs.Ytpdkmcnoidbjoaa.rankPlays
open Go.Mod Go.ChangeShapes Go.WideShapes Go.ChangeAt Go.RowKit

theorem own : ownKnob Try.prog.godebug = none := by kernel_rfl

set_option maxRecDepth 100000 in
theorem lifted (os : Os) (started : os.Started) (H : Type) (enc : TypeId × Value → H) :
    ReturnsInHanded {} Try.checked os 5 .any (Rows.rankPlaysSpec.pre6 enc Try.prog Try.f5 Rows.rankPlaysRow.domain false) (Rows.rankPlaysSpec.post enc Try.prog Try.f5 false true false false) := by
  refine returnsInHanded_of_change (C := Try.checked) own started (by kernel_rfl) Try.func5
    (ChangeSpec.witness6 (enc := enc) (C := Try.checked) false ⟨#[], #[.int .i64 0, .slice none 0 0], []⟩ 8 (by kernel_rfl) (by kernel_rfl) (by kernel_rfl) (by kernel_rfl)) ?_
  intro W base args ds gs before hval0 hW hcnd _
  have hval : ∀ (j : Nat) t v, Try.f5.params[j]? = some t → args[j]? = some v → Value.okWide Try.prog W .any base t v := hval0
  have hW' := hW
  obtain ⟨p, q, hA0, hV, rfl, hfz, hnd⟩ := hW
  have hA : DataW.TrodAll enc Try.prog W 0 (fun _ => true) true Try.f5.params.toList args.toList ds p := hA0
  rw [Try.params5] at hA hval
  obtain ⟨v0, vs0, d0, ds0, p0, q0, hargs, rfl, rfl, h0, t0⟩ := trodAll_cons hA
  obtain ⟨v1, vs1, d1, ds1, p1, q1, rfl, rfl, rfl, h1, t1⟩ := trodAll_cons t0
  obtain ⟨rfl, rfl, rfl⟩ := trodAll_nil t1
  obtain rfl : args = #[v0, v1] := by cases args; simp_all
  have hgs := (trodVars_none hV).1
  subst hgs
  obtain ⟨x0, rfl, w0⟩ := arg_int (k := .i64) (by kernel_rfl) (hval 0 3 v0 rfl rfl) h0
  obtain ⟨φ1, H1, m1, x1, I1, le1, ex1, V1, R1⟩ := arg_cell (Init.empty W) (t := 50) (k := 12) (s := .row (List.replicate 3 (.int .i64))) (by kernel_rfl) (by kernel_rfl) (hval 1 50 v1 rfl rfl) h1
  have r1 := Rep.ext (Ext.refl _) R1
  have V1' := V1.mono (Ren.le.refl _)
  obtain ⟨H', hR⟩ := rankPlays (rep_irow r1).choose_spec (room := x0)
  refine (calls_true mpRk_ok c5 I1 hR (.cons (.int _ _) (.cons V1' .nil))).mono fun e W' ⟨he, hg⟩ => ?_
  exact ⟨_, he, post_true hW' (by kernel_rfl) (fun t ht => by
    rw [Try.params5] at ht
    simp at ht
    rcases ht with rfl | rfl <;> exact ⟨by kernel_rfl, of_decide_eq_true (by kernel_rfl)⟩) (tb := 4) (by kernel_rfl) (by kernel_rfl) rfl rfl rfl rfl hg⟩

theorem over : Rows.rankPlaysRow.holds Try.pinned (OpenSpec.ofChange Rows.rankPlaysSpec) :=
  OpenClaim.holds_of_wide 5 Try.f5 rfl rfl rfl rfl rfl rfl rfl ⟨rfl, rfl, rfl, rfl, rfl⟩ rfl rfl rfl rfl rfl (by kernel_rfl) Try.func5 (by kernel_rfl)
    (of_decide_eq_true (by kernel_rfl)) (by unfold Func.isWrapper; first | (rw [if_pos (by decide +kernel)]; kernel_rfl) | (rw [if_neg (by decide +kernel)]; exact ⟨rfl, rfl⟩))
    (fun os started H enc _ => lifted os started H enc)

theorem proved : Rows.RankPlaysSaid := over
#print axioms proved
end Go.Proofs.Ytpdkmcnoidbjoaa.rankPlays

/- ClockPlays: every row of what is to be due, dropped, of ticks: each answer, all that is due, the time, behind each -/
import Derived.Test.YtpdkmcnoidbjoaaRows
import Derived.Test.YtpdkmcnoidbjoaaFwZ
import Derived.Test.YtpdkmcnoidbjoaaClockW
set_option linter.unusedVariables false
namespace Go.Proofs.Ytpdkmcnoidbjoaa.clockPlays
open Go.Mod Go.ChangeShapes Go.WideShapes Go.ChangeAt Go.RowKit

theorem own : ownKnob Try.prog.godebug = none := by kernel_rfl

set_option maxRecDepth 100000 in
theorem lifted (os : Os) (started : os.Started) (H : Type) (enc : TypeId × Value → H) :
    ReturnsInHanded {} Try.checked os 9 .any (Rows.clockPlaysSpec.pre6 enc Try.prog Try.f9 Rows.clockPlaysRow.domain false) (Rows.clockPlaysSpec.post enc Try.prog Try.f9 false true false false) := by
  refine returnsInHanded_of_change (C := Try.checked) own started (by kernel_rfl) Try.func9
    (ChangeSpec.witness6 (enc := enc) (C := Try.checked) false ⟨#[], #[.slice none 0 0], []⟩ 8 (by kernel_rfl) (by kernel_rfl) (by kernel_rfl) (by kernel_rfl)) ?_
  intro W base args ds gs before hval0 hW hcnd _
  have hval : ∀ (j : Nat) t v, Try.f9.params[j]? = some t → args[j]? = some v → Value.okWide Try.prog W .any base t v := hval0
  have hW' := hW
  obtain ⟨p, q, hA0, hV, rfl, hfz, hnd⟩ := hW
  have hA : DataW.TrodAll enc Try.prog W 0 (fun _ => true) true Try.f9.params.toList args.toList ds p := hA0
  rw [Try.params9] at hA hval
  obtain ⟨v0, vs0, d0, ds0, p0, q0, hargs, rfl, rfl, h0, t0⟩ := trodAll_cons hA
  obtain ⟨rfl, rfl, rfl⟩ := trodAll_nil t0
  obtain rfl : args = #[v0] := by cases args; simp_all
  have hgs := (trodVars_none hV).1
  subst hgs
  obtain ⟨φ0, H0, m0, x0, I0, le0, ex0, V0, R0⟩ := arg_cell (Init.empty W) (t := 77) (k := 12) (s := .row [.int .i64, .bool, .int .i64, .int .i64]) (by kernel_rfl) (by kernel_rfl) (hval 0 77 v0 rfl rfl) h0
  have r0 := Rep.ext (Ext.refl _) R0
  have V0' := V0.mono (Ren.le.refl _)
  obtain ⟨H', hR⟩ := clockPlays (rep_row r0 fun ms ds h => rep_stepC h).choose_spec.1
  refine (calls_true mpCk_ok c9 I0 hR (.cons V0' .nil)).mono fun e W' ⟨he, hg⟩ => ?_
  exact ⟨_, he, post_true hW' (by kernel_rfl) (fun t ht => by
    rw [Try.params9] at ht
    simp at ht
    subst ht; exact ⟨by kernel_rfl, of_decide_eq_true (by kernel_rfl)⟩) (tb := 4) (by kernel_rfl) (by kernel_rfl) rfl rfl rfl rfl hg⟩

theorem over : Rows.clockPlaysRow.holds Try.pinned (OpenSpec.ofChange Rows.clockPlaysSpec) :=
  OpenClaim.holds_of_wide 9 Try.f9 rfl rfl rfl rfl rfl rfl rfl ⟨rfl, rfl, rfl, rfl, rfl⟩ rfl rfl rfl rfl rfl (by kernel_rfl) Try.func9 (by kernel_rfl)
    (of_decide_eq_true (by kernel_rfl)) (by unfold Func.isWrapper; first | (rw [if_pos (by decide +kernel)]; kernel_rfl) | (rw [if_neg (by decide +kernel)]; exact ⟨rfl, rfl⟩))
    (fun os started H enc _ => lifted os started H enc)

theorem proved : Rows.ClockPlaysSaid := over
#print axioms proved
end Go.Proofs.Ytpdkmcnoidbjoaa.clockPlays

/- LockAgents: agents serve who has the least priority number of all that wait, once who is served is done -/
import Derived.Test.YthpeamllfledkaaRows
import Derived.Test.YthpeamllfledkaaGrC
import Derived.Test.YthpeamllfledkaaLgC
set_option linter.unusedVariables false
namespace Go.Proofs.Ythpeamllfledkaa.lockAgents
open Go.Mod Go.ChangeShapes Go.WideShapes Go.ChangeAt Go.RowKit

theorem own : ownKnob Try.prog.godebug = none := by kernel_rfl

set_option maxRecDepth 100000 in
theorem lifted (os : Os) (started : os.Started) (H : Type) (enc : TypeId × Value → H) :
    ReturnsInHanded {} Try.checked os 6 .any (Rows.lockAgentsSpec.pre6 enc Try.prog Try.f6 Rows.lockAgentsRow.domain false) (Rows.lockAgentsSpec.post enc Try.prog Try.f6 false true false false) := by
  refine returnsInHanded_of_change (C := Try.checked) own started (by kernel_rfl) Try.func6
    (ChangeSpec.witness6 (enc := enc) (C := Try.checked) false ⟨#[], #[.slice none 0 0], []⟩ 8 (by kernel_rfl) (by kernel_rfl) (by kernel_rfl) (by kernel_rfl)) ?_
  intro W base args ds gs before hval0 hW hcnd _
  have hval : ∀ (j : Nat) t v, Try.f6.params[j]? = some t → args[j]? = some v → Value.okWide Try.prog W .any base t v := hval0
  have hW' := hW
  obtain ⟨p, q, hA0, hV, rfl, hfz, hnd⟩ := hW
  have hA : DataW.TrodAll enc Try.prog W 0 (fun _ => true) true Try.f6.params.toList args.toList ds p := hA0
  rw [Try.params6] at hA hval
  obtain ⟨v0, vs0, d0, ds0, p0, q0, hargs, rfl, rfl, h0, t0⟩ := trodAll_cons hA
  obtain ⟨rfl, rfl, rfl⟩ := trodAll_nil t0
  obtain rfl : args = #[v0] := by cases args; simp_all
  have hgs := (trodVars_none hV).1
  subst hgs
  obtain ⟨φ0, H0, m0, x0, I0, le0, ex0, V0, R0, w0⟩ := arg_ints (Init.empty W) (t := 47) (e := 5) (k := .u8) (by kernel_rfl) (by kernel_rfl) (by kernel_rfl) (hval 0 47 v0 rfl rfl) h0
  have r0 := Ext.row (Ext.refl _) R0
  have V0' := V0.mono (Ren.le.refl _)
  obtain ⟨H', hR⟩ := lockAgents r0 (fun x hx => wf_u8 (w0 x hx))
  refine (calls_true mpLk_ok c6 I0 hR (.cons V0' .nil)).mono fun e W' ⟨he, hg⟩ => ?_
  exact ⟨_, he, post_true hW' (by kernel_rfl) (fun t ht => by
    rw [Try.params6] at ht
    simp at ht
    subst ht; exact ⟨by kernel_rfl, of_decide_eq_true (by kernel_rfl)⟩) (tb := 4) (by kernel_rfl) (by kernel_rfl) rfl rfl rfl rfl hg⟩

theorem over : Rows.lockAgentsRow.holds Try.pinned (OpenSpec.ofChange Rows.lockAgentsSpec) :=
  OpenClaim.holds_of_wide 6 Try.f6 rfl rfl rfl rfl rfl rfl rfl ⟨rfl, rfl, rfl, rfl, rfl⟩ rfl rfl rfl rfl rfl (by kernel_rfl) Try.func6 (by kernel_rfl)
    (of_decide_eq_true (by kernel_rfl)) (by unfold Func.isWrapper; first | (rw [if_pos (by decide +kernel)]; kernel_rfl) | (rw [if_neg (by decide +kernel)]; exact ⟨rfl, rfl⟩))
    (fun os started H enc _ => lifted os started H enc)

theorem proved : Rows.LockAgentsSaid := over
#print axioms proved
end Go.Proofs.Ythpeamllfledkaa.lockAgents

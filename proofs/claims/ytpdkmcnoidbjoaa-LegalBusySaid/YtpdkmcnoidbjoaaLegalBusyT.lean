/- LegalBusy: who ran at a cluster in a tick is told in order, and no one else -/
import Derived.Test.YtpdkmcnoidbjoaaRows
import Derived.Test.YtpdkmcnoidbjoaaFwZ
import Derived.Test.YtpdkmcnoidbjoaaLegB
set_option linter.unusedVariables false
namespace Go.Proofs.Ytpdkmcnoidbjoaa.legalBusy
open Go.Mod Go.ChangeShapes Go.WideShapes Go.ChangeAt Go.RowKit

theorem own : ownKnob Try.prog.godebug = none := by kernel_rfl

set_option maxRecDepth 100000 in
theorem lifted (os : Os) (started : os.Started) (H : Type) (enc : TypeId × Value → H) :
    ReturnsInHanded {} Try.checked os 16 .any (Rows.legalBusySpec.pre6 enc Try.prog Try.f16 Rows.legalBusyRow.domain false) (Rows.legalBusySpec.post enc Try.prog Try.f16 false true false false) := by
  refine returnsInHanded_of_change (C := Try.checked) own started (by kernel_rfl) Try.func16
    (ChangeSpec.witness6 (enc := enc) (C := Try.checked) false ⟨#[], #[.slice none 0 0, .slice none 0 0, .int .u8 0, .int .u8 0], []⟩ 8 (by kernel_rfl) (by kernel_rfl) (by kernel_rfl) (by kernel_rfl)) ?_
  intro W base args ds gs before hval0 hW hcnd _
  have hval : ∀ (j : Nat) t v, Try.f16.params[j]? = some t → args[j]? = some v → Value.okWide Try.prog W .any base t v := hval0
  have hW' := hW
  obtain ⟨p, q, hA0, hV, rfl, hfz, hnd⟩ := hW
  have hA : DataW.TrodAll enc Try.prog W 0 (fun _ => true) true Try.f16.params.toList args.toList ds p := hA0
  rw [Try.params16] at hA hval
  obtain ⟨v0, vs0, d0, ds0, p0, q0, hargs, rfl, rfl, h0, t0⟩ := trodAll_cons hA
  obtain ⟨v1, vs1, d1, ds1, p1, q1, rfl, rfl, rfl, h1, t1⟩ := trodAll_cons t0
  obtain ⟨v2, vs2, d2, ds2, p2, q2, rfl, rfl, rfl, h2, t2⟩ := trodAll_cons t1
  obtain ⟨v3, vs3, d3, ds3, p3, q3, rfl, rfl, rfl, h3, t3⟩ := trodAll_cons t2
  obtain ⟨rfl, rfl, rfl⟩ := trodAll_nil t3
  obtain rfl : args = #[v0, v1, v2, v3] := by cases args; simp_all
  have hgs := (trodVars_none hV).1
  subst hgs
  obtain ⟨φ0, H0, m0, x0, I0, le0, ex0, V0, R0, w0⟩ := arg_ints (Init.empty W) (t := 71) (e := 5) (k := .u8) (by kernel_rfl) (by kernel_rfl) (by kernel_rfl) (hval 0 71 v0 rfl rfl) h0
  obtain ⟨φ1, H1, m1, x1, I1, le1, ex1, V1, R1, w1⟩ := arg_ints I0 (t := 71) (e := 5) (k := .u8) (by kernel_rfl) (by kernel_rfl) (by kernel_rfl) (hval 1 71 v1 rfl rfl) h1
  obtain ⟨x2, rfl, w2⟩ := arg_int (k := .u8) (by kernel_rfl) (hval 2 5 v2 rfl rfl) h2
  obtain ⟨x3, rfl, w3⟩ := arg_int (k := .u8) (by kernel_rfl) (hval 3 5 v3 rfl rfl) h3
  have r0 := Ext.row (ex1) R0
  have V0' := V0.mono (le1)
  have r1 := Ext.row (Ext.refl _) R1
  have V1' := V1.mono (Ren.le.refl _)
  obtain ⟨H', hR⟩ := legalBusy r0 r1 (fun x hx => wf_u8 (w0 x hx)) (fun x hx => wf_u8 (w1 x hx)) (wf_u8 w2) (wf_u8 w3)
  refine (calls_true mpLk_ok c16 I1 hR (.cons V0' (.cons V1' (.cons (.int _ _) (.cons (.int _ _) .nil))))).mono fun e W' ⟨he, hg⟩ => ?_
  exact ⟨_, he, post_true hW' (by kernel_rfl) (fun t ht => by
    rw [Try.params16] at ht
    simp at ht
    rcases ht with rfl | rfl | rfl | rfl <;> exact ⟨by kernel_rfl, of_decide_eq_true (by kernel_rfl)⟩) (tb := 4) (by kernel_rfl) (by kernel_rfl) rfl rfl rfl rfl hg⟩

theorem over : Rows.legalBusyRow.holds Try.pinned (OpenSpec.ofChange Rows.legalBusySpec) :=
  OpenClaim.holds_of_wide 16 Try.f16 rfl rfl rfl rfl rfl rfl rfl ⟨rfl, rfl, rfl, rfl, rfl⟩ rfl rfl rfl rfl rfl (by kernel_rfl) Try.func16 (by kernel_rfl)
    (of_decide_eq_true (by kernel_rfl)) (by unfold Func.isWrapper; first | (rw [if_pos (by decide +kernel)]; kernel_rfl) | (rw [if_neg (by decide +kernel)]; exact ⟨rfl, rfl⟩))
    (fun os started H enc _ => lifted os started H enc)

theorem proved : Rows.LegalBusySaid := over
#print axioms proved
end Go.Proofs.Ytpdkmcnoidbjoaa.legalBusy

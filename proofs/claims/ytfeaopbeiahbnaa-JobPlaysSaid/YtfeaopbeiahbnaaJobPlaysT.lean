/- JobPlays: the program's job does at each tick, up to its end and beyond, what the reference's job does; the tape is used alike; a copy goes its own way: the given statement, for every input. -/
import Derived.Test.YtfeaopbeiahbnaaRows
import Derived.Test.YtfeaopbeiahbnaaFwZ
import Derived.Test.YtfeaopbeiahbnaaJobV
set_option linter.unusedVariables false
namespace Go.Proofs.Ytfeaopbeiahbnaa.jobPlays
open Go.Mod Go.ChangeShapes Go.WideShapes Go.ChangeAt Go.RowKit

theorem own : ownKnob Try.prog.godebug = none := by kernel_rfl

set_option maxRecDepth 100000 in
theorem lifted (os : Os) (started : os.Started) (H : Type) (enc : TypeId × Value → H) :
    ReturnsInHanded {} Try.checked os 12 .any (Rows.jobPlaysSpec.pre6 enc Try.prog Try.f12 Rows.jobPlaysRow.domain false) (Rows.jobPlaysSpec.post enc Try.prog Try.f12 false true false false) := by
  refine returnsInHanded_of_change (C := Try.checked) own started (by kernel_rfl) Try.func12
    (ChangeSpec.witness6 (enc := enc) (C := Try.checked) false ⟨#[], #[.agg #[.string ⟨#[]⟩, .int .i64 0, .int .i64 0, .int .i64 0, .int .i64 0, .slice none 0 0], .int .i64 0, .slice none 0 0, .int .u8 0], []⟩ 8 (by kernel_rfl) (by kernel_rfl) (by kernel_rfl) (by kernel_rfl)) ?_
  intro W base args ds gs before hval0 hW hcnd _
  have hval : ∀ (j : Nat) t v, Try.f12.params[j]? = some t → args[j]? = some v → Value.okWide Try.prog W .any base t v := hval0
  have hW' := hW
  obtain ⟨p, q, hA0, hV, rfl, hfz, hnd⟩ := hW
  have hA : DataW.TrodAll enc Try.prog W 0 (fun _ => true) true Try.f12.params.toList args.toList ds p := hA0
  rw [Try.params12] at hA hval
  obtain ⟨v0, vs0, d0, ds0, p0, q0, hargs, rfl, rfl, h0, t0⟩ := trodAll_cons hA
  obtain ⟨v1, vs1, d1, ds1, p1, q1, rfl, rfl, rfl, h1, t1⟩ := trodAll_cons t0
  obtain ⟨v2, vs2, d2, ds2, p2, q2, rfl, rfl, rfl, h2, t2⟩ := trodAll_cons t1
  obtain ⟨v3, vs3, d3, ds3, p3, q3, rfl, rfl, rfl, h3, t3⟩ := trodAll_cons t2
  obtain ⟨rfl, rfl, rfl⟩ := trodAll_nil t3
  obtain rfl : args = #[v0, v1, v2, v3] := by cases args; simp_all
  have hgs := (trodVars_none hV).1
  subst hgs
  obtain ⟨φ0, H0, m0, x0, I0, le0, ex0, V0, R0⟩ := arg_struct (Init.empty W) (t := 64) (k := 12) (fs := [.str, .int .i64, .int .i64, .int .i64, .int .i64, .row [.int .i64, .int .i64, .int .i64]]) (by kernel_rfl) (by kernel_rfl) (hval 0 64 v0 rfl rfl) h0
  obtain ⟨x1, rfl, w1⟩ := arg_int (k := .i64) (by kernel_rfl) (hval 1 3 v1 rfl rfl) h1
  obtain ⟨φ2, H2, m2, x2, I2, le2, ex2, V2, R2, w2⟩ := arg_ints I0 (t := 22) (e := 5) (k := .u8) (by kernel_rfl) (by kernel_rfl) (by kernel_rfl) (hval 2 22 v2 rfl rfl) h2
  obtain ⟨x3, rfl, w3⟩ := arg_int (k := .u8) (by kernel_rfl) (hval 3 5 v3 rfl rfl) h3
  have r0 := RepL.ext (ex2) R0
  have V0' := V0.mono (le2)
  have r2 := Ext.row (Ext.refl _) R2
  have V2' := V2.mono (Ren.le.refl _)
  obtain ⟨H', hR⟩ := jobPlaysT r0 r2 (fun x hx => wf_u8 (w2 x hx)) (wf_u8 w3) (rel := x1)
  refine (calls_true mpJk_ok c12 I2 hR (.cons V0' (.cons (.int _ _) (.cons V2' (.cons (.int _ _) .nil))))).mono fun e W' ⟨he, hg⟩ => ?_
  exact ⟨_, he, post_true hW' (by kernel_rfl) (fun t ht => by
    rw [Try.params12] at ht
    simp at ht
    rcases ht with rfl | rfl | rfl | rfl <;> exact ⟨by kernel_rfl, of_decide_eq_true (by kernel_rfl)⟩) (tb := 4) (by kernel_rfl) (by kernel_rfl) rfl rfl rfl rfl hg⟩

theorem over : Rows.jobPlaysRow.holds Try.pinned (OpenSpec.ofChange Rows.jobPlaysSpec) :=
  OpenClaim.holds_of_wide 12 Try.f12 rfl rfl rfl rfl rfl rfl rfl ⟨rfl, rfl, rfl, rfl, rfl⟩ rfl rfl rfl rfl rfl (by kernel_rfl) Try.func12 (by kernel_rfl)
    (of_decide_eq_true (by kernel_rfl)) (by unfold Func.isWrapper; first | (rw [if_pos (by decide +kernel)]; kernel_rfl) | (rw [if_neg (by decide +kernel)]; exact ⟨rfl, rfl⟩))
    (fun os started H enc _ => lifted os started H enc)

theorem proved : Rows.JobPlaysSaid := over
#print axioms proved
end Go.Proofs.Ytfeaopbeiahbnaa.jobPlays

/- TextNumbers: a task's numbers are read as they stand, each in its place -/
import Derived.Test.YthpeamllfledkaaDoorTie
import Derived.Test.YthpeamllfledkaaDoorCards
import Derived.Test.YthpeamllfledkaaDoorGrH
import Derived.Test.YthpeamllfledkaaDoorWdL
import Derived.Test.YthpeamllfledkaaDoorGrC
import Derived.Test.YthpeamllfledkaaDoorTvC
set_option linter.unusedVariables false
namespace Go.Proofs.YthpeamllfledkaaDoor.textNumbers
open Go.Mod Go.ChangeShapes Go.WideShapes Go.ChangeAt Go.RowKit

theorem own : ownKnob Tryd.prog.godebug = none := by kernel_rfl

set_option maxRecDepth 100000 in
theorem lifted (os : Os) (started : os.Started) (H : Type) (enc : TypeId × Value → H) :
    ReturnsInHanded {} Tryd.checked os 10 .any (fun w args => (Rows.textNumbersSpec.pre enc Tryd.prog Tryd.f10 Rows.textNumbersRow.domain false w args ∧ laidMetH Tryd.prog Rows.textNumbersRow.laid w) ∧ sizedMet enc Tryd.prog Tryd.f10 (OpenSpec.ofChange Rows.textNumbersSpec) false w args)
      (Rows.textNumbersSpec.post enc Tryd.prog Tryd.f10 false true false false) := by
  refine returnsInHanded_of_change_and_shaped (C := Tryd.checked) (X := fun w _ => laidMetH Tryd.prog Rows.textNumbersRow.laid w) (fun _ _ _ hh h => h.of_heap hh) own started (by kernel_rfl) Tryd.func10
    (ChangeSpec.witness_shaped (enc := enc) (C := Tryd.checked) (os := os) (X := fun w _ => laidMetH Tryd.prog Rows.textNumbersRow.laid w) false (World.laidAll Tryd.prog os Rows.textNumbersRow.laid) #[.int .u16 0, .int .u16 0, .int .u16 0, .int .u8 0, .int .u8 0, .int .u8 0] 8 (World.laidAll_os _ _ _)
      (World.shaped_of_ZipB (by kernel_rfl) (by kernel_rfl)) (by kernel_rfl) (by kernel_rfl) (by kernel_rfl)
      (by rw [MakeChecks.laidMetH_plain _ _ _ (by kernel_rfl)]; exact laidMet_laidAll _ (by kernel_rfl) (by kernel_rfl))) ?_
  intro W base args ds gs before hval0 hW hcnd hsh hL
  have hVars : Vars W := vars_of rfl hL hsh
  letI : Glob := globs W
  have hVar : ∀ w, GlobAt w → Vars w := fun w hg => hVars.at hg
  have I0 : Init (fun _ => none) [] W := Init.start fun b o hG => by
    have hG' : (if b < 4 then W.heap[b]? else none) = some o := hG
    split at hG'
    · exact hG'
    · cases hG'
  have hval : ∀ (j : Nat) t v, Tryd.f10.params[j]? = some t → args[j]? = some v → Value.okWide Tryd.prog W .any base t v := hval0
  have hW' := hW
  obtain ⟨p, q, hA0, hV, rfl, hfz, hnd⟩ := hW
  have hA : DataW.TrodAll enc Tryd.prog W 0 (fun _ => true) true Tryd.f10.params.toList args.toList ds p := hA0
  rw [Tryd.params10] at hA hval
  obtain ⟨v0, vs0, d0, ds0, p0, q0, hargs, rfl, rfl, h0, t0⟩ := trodAll_cons hA
  obtain ⟨v1, vs1, d1, ds1, p1, q1, rfl, rfl, rfl, h1, t1⟩ := trodAll_cons t0
  obtain ⟨v2, vs2, d2, ds2, p2, q2, rfl, rfl, rfl, h2, t2⟩ := trodAll_cons t1
  obtain ⟨v3, vs3, d3, ds3, p3, q3, rfl, rfl, rfl, h3, t3⟩ := trodAll_cons t2
  obtain ⟨v4, vs4, d4, ds4, p4, q4, rfl, rfl, rfl, h4, t4⟩ := trodAll_cons t3
  obtain ⟨v5, vs5, d5, ds5, p5, q5, rfl, rfl, rfl, h5, t5⟩ := trodAll_cons t4
  obtain ⟨rfl, rfl, rfl⟩ := trodAll_nil t5
  obtain rfl : args = #[v0, v1, v2, v3, v4, v5] := by cases args; simp_all
  have hgs := (trodVars_none hV).1
  subst hgs
  obtain ⟨x0, rfl, w0⟩ := arg_int (k := .u16) (by kernel_rfl) (hval 0 31 v0 rfl rfl) h0
  obtain ⟨x1, rfl, w1⟩ := arg_int (k := .u16) (by kernel_rfl) (hval 1 31 v1 rfl rfl) h1
  obtain ⟨x2, rfl, w2⟩ := arg_int (k := .u16) (by kernel_rfl) (hval 2 31 v2 rfl rfl) h2
  obtain ⟨x3, rfl, w3⟩ := arg_int (k := .u8) (by kernel_rfl) (hval 3 5 v3 rfl rfl) h3
  obtain ⟨x4, rfl, w4⟩ := arg_int (k := .u8) (by kernel_rfl) (hval 4 5 v4 rfl rfl) h4
  obtain ⟨x5, rfl, w5⟩ := arg_int (k := .u8) (by kernel_rfl) (hval 5 5 v5 rfl rfl) h5
  obtain ⟨H', hR⟩ := textNumbers (wf_u16 w0) (wf_u16 w1) (wf_u16 w2) (wf_u8 w3) (wf_u8 w4) (wf_u8 w5)
  refine (calls_true (mpX_ok hVar) c10 I0 hR (.cons (.int _ _) (.cons (.int _ _) (.cons (.int _ _) (.cons (.int _ _) (.cons (.int _ _) (.cons (.int _ _) .nil))))))).mono fun e W' ⟨he, hg⟩ => ?_
  exact ⟨_, he, post_true hW' (by kernel_rfl) (fun t ht => by
    rw [Tryd.params10] at ht
    simp at ht
    rcases ht with rfl | rfl | rfl | rfl | rfl | rfl <;> exact ⟨by kernel_rfl, of_decide_eq_true (by kernel_rfl)⟩) (tb := 4) (by kernel_rfl) (by kernel_rfl) rfl rfl rfl rfl hg⟩

theorem over : Rows.textNumbersRow.holds Tryd.pinned (OpenSpec.ofChange Rows.textNumbersSpec) :=
  OpenClaim.holds_of_wide 10 Tryd.f10 rfl rfl rfl rfl rfl rfl rfl ⟨rfl, rfl, rfl, rfl, rfl⟩ rfl rfl rfl rfl rfl (by kernel_rfl) Tryd.func10 (by kernel_rfl)
    (of_decide_eq_true (by kernel_rfl)) (by unfold Func.isWrapper; first | (rw [if_pos (by decide +kernel)]; kernel_rfl) | (rw [if_neg (by decide +kernel)]; exact ⟨rfl, rfl⟩))
    (fun os started H enc _ => lifted os started H enc)

set_option maxRecDepth 100000 in
theorem proved : Rows.TextNumbersCardSaid :=
  Claim7.holds_tied_plain_at .later [] [.data, .data, .data, .data, .sentinel, .sentinel, .pinned] true (true, "b447263b9656760d2ad8f8ce18389490886c4594abaf2e7bfec25e5d76d316e2") true over (fun _ h => by cases h) (by kernel_rfl) (fun _ h => by cases h) textNumbers_row_tie rfl ⟨rfl, rfl⟩ (by kernel_rfl) rfl
    (fun f fn hf hfn => by
      obtain rfl : f = 10 := Option.some.inj ((show Tryd.prog.funcNamed "swingbridge/swingbridgelaw9.TextNumbers" = some 10 by kernel_rfl).symm.trans hf) |>.symm
      obtain rfl : fn = Tryd.f10 := (Option.some.inj (Tryd.func10.symm.trans hfn)).symm
      exact ⟨by kernel_rfl, fun j t ht => by
        rw [Tryd.params10] at ht
        have hm : t ∈ [31, 31, 31, 5, 5, 5] := by simpa using Array.mem_of_getElem? ht
        have hall : ([31, 31, 31, 5, 5, 5].all fun u => !Tryd.prog.wantsStandIn u) = true := by kernel_rfl
        exact (show Tryd.prog.wantsStandIn t = false by simpa using List.all_eq_true.1 hall t hm)⟩)
    (by kernel_rfl)
#print axioms proved
end Go.Proofs.YthpeamllfledkaaDoor.textNumbers

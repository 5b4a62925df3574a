/- TextTurned: a set's text with a byte turned, a line left out: the set, or which line is wrong -/
import Derived.Test.YthpeamllfledkaaGreatDoorTie
import Derived.Test.YthpeamllfledkaaGreatDoorCards
import Derived.Test.YthpeamllfledkaaGreatDoorGrH
import Derived.Test.YthpeamllfledkaaGreatDoorGs0
import Derived.Test.YthpeamllfledkaaGreatDoorGrC
import Derived.Test.YthpeamllfledkaaGreatDoorGs8
set_option linter.unusedVariables false
namespace Go.Proofs.YthpeamllfledkaaGreatDoor.textTurned
open Go.Mod Go.ChangeShapes Go.WideShapes Go.ChangeAt Go.RowKit

theorem own : ownKnob Tryz.prog.godebug = none := by kernel_rfl

set_option maxRecDepth 100000 in
theorem lifted (os : Os) (started : os.Started) (H : Type) (enc : TypeId × Value → H) :
    ReturnsInHanded {} Tryz.checked os 4 .any (fun w args => (Rows.textTurnedSpec.pre enc Tryz.prog Tryz.f4 Rows.textTurnedRow.domain false w args ∧ laidMetH Tryz.prog Rows.textTurnedRow.laid w) ∧ sizedMet enc Tryz.prog Tryz.f4 (OpenSpec.ofChange Rows.textTurnedSpec) false w args)
      (Rows.textTurnedSpec.post enc Tryz.prog Tryz.f4 false true false false) := by
  refine returnsInHanded_of_change_and_shaped (C := Tryz.checked) (X := fun w _ => laidMetH Tryz.prog Rows.textTurnedRow.laid w) (fun _ _ _ hh h => h.of_heap hh) own started (by kernel_rfl) Tryz.func4
    (ChangeSpec.witness_shaped (enc := enc) (C := Tryz.checked) (os := os) (X := fun w _ => laidMetH Tryz.prog Rows.textTurnedRow.laid w) false (World.laidAll Tryz.prog os Rows.textTurnedRow.laid) #[.agg #[.int .i64 0,.slice none 0 0,.slice none 0 0,.slice none 0 0], .int .u16 0, .int .u8 0, .int .u8 0] 8 (World.laidAll_os _ _ _)
      (World.shaped_of_ZipB (by kernel_rfl) (by kernel_rfl)) (by kernel_rfl) (by kernel_rfl) (by kernel_rfl)
      (by rw [MakeChecks.laidMetH_plain _ _ _ (by kernel_rfl)]; exact laidMet_laidAll _ (by kernel_rfl) (by kernel_rfl))) ?_
  intro W base args ds gs before hval0 hW hcnd hsh hL
  have hVars : Vars W := vars_of rfl hL hsh
  letI : Glob := globs W
  have hVar : ∀ w, GlobAt w → Vars w := fun w hg => hVars.at hg
  have I0 : Init (fun _ => none) [] W := Init.start fun b o hG => by
    have hG' : (if b < 6 then W.heap[b]? else none) = some o := hG
    split at hG'
    · exact hG'
    · cases hG'
  have hval : ∀ (j : Nat) t v, Tryz.f4.params[j]? = some t → args[j]? = some v → Value.okWide Tryz.prog W .any base t v := hval0
  have hW' := hW
  obtain ⟨p, q, hA0, hV, rfl, hfz, hnd⟩ := hW
  have hA : DataW.TrodAll enc Tryz.prog W 0 (fun _ => true) true Tryz.f4.params.toList args.toList ds p := hA0
  rw [Tryz.params4] at hA hval
  obtain ⟨v0, vs0, d0, ds0, p0, q0, hargs, rfl, rfl, h0, t0⟩ := trodAll_cons hA
  obtain ⟨v1, vs1, d1, ds1, p1, q1, rfl, rfl, rfl, h1, t1⟩ := trodAll_cons t0
  obtain ⟨v2, vs2, d2, ds2, p2, q2, rfl, rfl, rfl, h2, t2⟩ := trodAll_cons t1
  obtain ⟨v3, vs3, d3, ds3, p3, q3, rfl, rfl, rfl, h3, t3⟩ := trodAll_cons t2
  obtain ⟨rfl, rfl, rfl⟩ := trodAll_nil t3
  obtain rfl : args = #[v0, v1, v2, v3] := by cases args; simp_all
  have hgs := (trodVars_none hV).1
  subst hgs
  obtain ⟨φ0, H0, m0, x0, I0, le0, ex0, V0, R0⟩ := arg_struct I0 (t := 25) (k := 12) (fs := [.int .i64,.row [.int .i64],.row [.int .i64],.row [.str,.int .i64,.int .i64,.int .i64,.int .i64,.row [.int .i64,.int .i64,.int .i64]]]) (by kernel_rfl) (by kernel_rfl) (hval 0 25 v0 rfl rfl) h0
  obtain ⟨x1, rfl, w1⟩ := arg_int (k := .u16) (by kernel_rfl) (hval 1 36 v1 rfl rfl) h1
  obtain ⟨x2, rfl, w2⟩ := arg_int (k := .u8) (by kernel_rfl) (hval 2 5 v2 rfl rfl) h2
  obtain ⟨x3, rfl, w3⟩ := arg_int (k := .u8) (by kernel_rfl) (hval 3 5 v3 rfl rfl) h3
  have r0 := RepL.ext (Ext.refl _) R0
  have V0' := V0.mono (Ren.le.refl _)
  obtain ⟨H', hR⟩ := textTurned (wf_u16 w1) (wf_u8 w2) (wf_u8 w3) r0
  refine (calls_true (mpZ_ok hVar) c4 I0 hR (.cons V0' (.cons (.int _ _) (.cons (.int _ _) (.cons (.int _ _) .nil))))).mono fun e W' ⟨he, hg⟩ => ?_
  exact ⟨_, he, post_true hW' (by kernel_rfl) (fun t ht => by
    rw [Tryz.params4] at ht
    simp at ht
    rcases ht with rfl | rfl | rfl | rfl <;> exact ⟨by kernel_rfl, of_decide_eq_true (by kernel_rfl)⟩) (tb := 4) (by kernel_rfl) (by kernel_rfl) rfl rfl rfl rfl hg⟩

theorem over : Rows.textTurnedRow.holds Tryz.pinned (OpenSpec.ofChange Rows.textTurnedSpec) :=
  OpenClaim.holds_of_wide 4 Tryz.f4 rfl rfl rfl rfl rfl rfl rfl ⟨rfl, rfl, rfl, rfl, rfl⟩ rfl rfl rfl rfl rfl (by kernel_rfl) Tryz.func4 (by kernel_rfl)
    (of_decide_eq_true (by kernel_rfl)) (by unfold Func.isWrapper; first | (rw [if_pos (by decide +kernel)]; kernel_rfl) | (rw [if_neg (by decide +kernel)]; exact ⟨rfl, rfl⟩))
    (fun os started H enc _ => lifted os started H enc)

set_option maxRecDepth 100000 in
theorem proved : Rows.TextTurnedCardSaid :=
  Claim7.holds_tied_plain_at .later [] [.data, .data, .data, .data, .sentinel, .sentinel, .pinned] true (true, "7e3294c64afcb9e34e4f7c8530f7f5912c90ab2d486ee4a318f4807f4abcc240") true over (fun _ h => by cases h) (by kernel_rfl) (fun _ h => by cases h) textTurned_row_tie rfl ⟨rfl, rfl⟩ (by kernel_rfl) rfl
    (fun f fn hf hfn => by
      obtain rfl : f = 4 := Option.some.inj ((show Tryz.prog.funcNamed "swingbridge/swingbridgelaw9.TextTurned" = some 4 by kernel_rfl).symm.trans hf) |>.symm
      obtain rfl : fn = Tryz.f4 := (Option.some.inj (Tryz.func4.symm.trans hfn)).symm
      exact ⟨by kernel_rfl, fun j t ht => by
        rw [Tryz.params4] at ht
        have hm : t ∈ [25, 36, 5, 5] := by simpa using Array.mem_of_getElem? ht
        have hall : ([25, 36, 5, 5].all fun u => !Tryz.prog.wantsStandIn u) = true := by kernel_rfl
        exact (show Tryz.prog.wantsStandIn t = false by simpa using List.all_eq_true.1 hall t hm)⟩)
    (by kernel_rfl)
#print axioms proved
end Go.Proofs.YthpeamllfledkaaGreatDoor.textTurned

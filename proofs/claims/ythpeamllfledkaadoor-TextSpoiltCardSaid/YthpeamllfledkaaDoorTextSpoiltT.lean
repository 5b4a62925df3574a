/- TextSpoilt: texts that are no sets, at which line, and how -/
import Derived.Test.YthpeamllfledkaaDoorTie
import Derived.Test.YthpeamllfledkaaDoorCards
import Derived.Test.YthpeamllfledkaaDoorGrH
import Derived.Test.YthpeamllfledkaaDoorWdL
import Derived.Test.YthpeamllfledkaaDoorGrC
import Derived.Test.YthpeamllfledkaaDoorTsA
set_option linter.unusedVariables false
namespace Go.Proofs.YthpeamllfledkaaDoor.textSpoilt
open Go.Mod Go.ChangeShapes Go.WideShapes Go.ChangeAt Go.RowKit

theorem own : ownKnob Tryd.prog.godebug = none := by kernel_rfl

set_option maxRecDepth 100000 in
theorem lifted (os : Os) (started : os.Started) (H : Type) (enc : TypeId × Value → H) :
    ReturnsInHanded {} Tryd.checked os 9 .any (fun w args => (Rows.textSpoiltSpec.pre enc Tryd.prog Tryd.f9 Rows.textSpoiltRow.domain false w args ∧ laidMetH Tryd.prog Rows.textSpoiltRow.laid w) ∧ sizedMet enc Tryd.prog Tryd.f9 (OpenSpec.ofChange Rows.textSpoiltSpec) false w args)
      (Rows.textSpoiltSpec.post enc Tryd.prog Tryd.f9 false true false false) := by
  refine returnsInHanded_of_change_and_shaped (C := Tryd.checked) (X := fun w _ => laidMetH Tryd.prog Rows.textSpoiltRow.laid w) (fun _ _ _ hh h => h.of_heap hh) own started (by kernel_rfl) Tryd.func9
    (ChangeSpec.witness_shaped (enc := enc) (C := Tryd.checked) (os := os) (X := fun w _ => laidMetH Tryd.prog Rows.textSpoiltRow.laid w) false (World.laidAll Tryd.prog os Rows.textSpoiltRow.laid) #[.int .u8 0] 8 (World.laidAll_os _ _ _)
      (World.shaped_of_ZipB (by kernel_rfl) (by kernel_rfl)) (by kernel_rfl) (by kernel_rfl) (by kernel_rfl)
      (by rw [MakeChecks.laidMetH_plain _ _ _ (by kernel_rfl)]; exact laidMet_laidAll _ (by kernel_rfl) (by kernel_rfl))) ?_
  intro W base args ds gs before hval0 hW hcnd hsh hL
  have hVars : Vars W := vars_of rfl hL hsh
  letI : Glob := globs W
  have hVar : ∀ w, GlobAt w → Vars w := fun w hg => hVars.at hg
  have I0 : Init (fun _ => none) [] W := Init.start fun b o hG => by
    have hG' : (if b < 4 then W.heap[b]? else none) = some o := hG
    split at hG'
    · exact hG'
    · cases hG'
  have hval : ∀ (j : Nat) t v, Tryd.f9.params[j]? = some t → args[j]? = some v → Value.okWide Tryd.prog W .any base t v := hval0
  have hW' := hW
  obtain ⟨p, q, hA0, hV, rfl, hfz, hnd⟩ := hW
  have hA : DataW.TrodAll enc Tryd.prog W 0 (fun _ => true) true Tryd.f9.params.toList args.toList ds p := hA0
  rw [Tryd.params9] at hA hval
  obtain ⟨v0, vs0, d0, ds0, p0, q0, hargs, rfl, rfl, h0, t0⟩ := trodAll_cons hA
  obtain ⟨rfl, rfl, rfl⟩ := trodAll_nil t0
  obtain rfl : args = #[v0] := by cases args; simp_all
  have hgs := (trodVars_none hV).1
  subst hgs
  obtain ⟨x0, rfl, w0⟩ := arg_int (k := .u8) (by kernel_rfl) (hval 0 5 v0 rfl rfl) h0
  obtain ⟨H', hR⟩ := textSpoilt (wf_u8 w0)
  refine (calls_true (mpS_ok hVar) c9 I0 hR (.cons (.int _ _) .nil)).mono fun e W' ⟨he, hg⟩ => ?_
  exact ⟨_, he, post_true hW' (by kernel_rfl) (fun t ht => by
    rw [Tryd.params9] at ht
    simp at ht
    subst ht; exact ⟨by kernel_rfl, of_decide_eq_true (by kernel_rfl)⟩) (tb := 4) (by kernel_rfl) (by kernel_rfl) rfl rfl rfl rfl hg⟩

theorem over : Rows.textSpoiltRow.holds Tryd.pinned (OpenSpec.ofChange Rows.textSpoiltSpec) :=
  OpenClaim.holds_of_wide 9 Tryd.f9 rfl rfl rfl rfl rfl rfl rfl ⟨rfl, rfl, rfl, rfl, rfl⟩ rfl rfl rfl rfl rfl (by kernel_rfl) Tryd.func9 (by kernel_rfl)
    (of_decide_eq_true (by kernel_rfl)) (by unfold Func.isWrapper; first | (rw [if_pos (by decide +kernel)]; kernel_rfl) | (rw [if_neg (by decide +kernel)]; exact ⟨rfl, rfl⟩))
    (fun os started H enc _ => lifted os started H enc)

set_option maxRecDepth 100000 in
theorem proved : Rows.TextSpoiltCardSaid :=
  Claim7.holds_tied_plain_at .later [] [.data, .data, .data, .data, .sentinel, .sentinel, .pinned] true (true, "b447263b9656760d2ad8f8ce18389490886c4594abaf2e7bfec25e5d76d316e2") true over (fun _ h => by cases h) (by kernel_rfl) (fun _ h => by cases h) textSpoilt_row_tie rfl ⟨rfl, rfl⟩ (by kernel_rfl) rfl
    (fun f fn hf hfn => by
      obtain rfl : f = 9 := Option.some.inj ((show Tryd.prog.funcNamed "swingbridge/swingbridgelaw9.TextSpoilt" = some 9 by kernel_rfl).symm.trans hf) |>.symm
      obtain rfl : fn = Tryd.f9 := (Option.some.inj (Tryd.func9.symm.trans hfn)).symm
      exact ⟨by kernel_rfl, fun j t ht => by
        rw [Tryd.params9] at ht
        have hm : t ∈ [5] := by simpa using Array.mem_of_getElem? ht
        have hall : ([5].all fun u => !Tryd.prog.wantsStandIn u) = true := by kernel_rfl
        exact (show Tryd.prog.wantsStandIn t = false by simpa using List.all_eq_true.1 hall t hm)⟩)
    (by kernel_rfl)
#print axioms proved
end Go.Proofs.YthpeamllfledkaaDoor.textSpoilt

/- WordsBack: words with blanks between come back, whatever is behind a mark; lines with line ends between too -/
import Derived.Test.YthpeamllfledkaaDoorTie
import Derived.Test.YthpeamllfledkaaDoorCards
import Derived.Test.YthpeamllfledkaaDoorGrH
import Derived.Test.YthpeamllfledkaaDoorWdL
import Derived.Test.YthpeamllfledkaaDoorGrC
import Derived.Test.YthpeamllfledkaaDoorWbA
set_option linter.unusedVariables false
namespace Go.Proofs.YthpeamllfledkaaDoor.wordsBack
open Go.Mod Go.ChangeShapes Go.WideShapes Go.ChangeAt Go.RowKit

theorem own : ownKnob Tryd.prog.godebug = none := by kernel_rfl

set_option maxRecDepth 100000 in
theorem lifted (os : Os) (started : os.Started) (H : Type) (enc : TypeId × Value → H) :
    ReturnsInHanded {} Tryd.checked os 4 .any (fun w args => (Rows.wordsBackSpec.pre enc Tryd.prog Tryd.f4 Rows.wordsBackRow.domain false w args ∧ laidMetH Tryd.prog Rows.wordsBackRow.laid w) ∧ sizedMet enc Tryd.prog Tryd.f4 (OpenSpec.ofChange Rows.wordsBackSpec) false w args)
      (Rows.wordsBackSpec.post enc Tryd.prog Tryd.f4 false true false false) := by
  refine returnsInHanded_of_change_and_shaped (C := Tryd.checked) (X := fun w _ => laidMetH Tryd.prog Rows.wordsBackRow.laid w) (fun _ _ _ hh h => h.of_heap hh) own started (by kernel_rfl) Tryd.func4
    (ChangeSpec.witness_shaped (enc := enc) (C := Tryd.checked) (os := os) (X := fun w _ => laidMetH Tryd.prog Rows.wordsBackRow.laid w) false (World.laidAll Tryd.prog os Rows.wordsBackRow.laid) #[.slice none 0 0, .int .u16 0, .string ⟨#[]⟩] 8 (World.laidAll_os _ _ _)
      (World.shaped_of_ZipB (by kernel_rfl) (by kernel_rfl)) (by kernel_rfl) (by kernel_rfl) (by kernel_rfl)
      (by rw [MakeChecks.laidMetH_plain _ _ _ (by kernel_rfl)]; exact laidMet_laidAll _ (by kernel_rfl) (by kernel_rfl))) ?_
  intro W base args ds gs before hval0 hW hcnd hsh hL
  have hVars : Vars W := vars_of rfl hL hsh
  letI : Glob := globs W
  have hVar : ∀ w, GlobAt w → Vars w := fun w hg => hVars.at hg
  have I0 : Init (fun _ => none) [] W := Init.start fun b o hG => by
    have hG' : (if b < 4 then W.heap[b]? else none) = some o := hG
    split at hG'
    · exact hG'
    · cases hG'
  have hval : ∀ (j : Nat) t v, Tryd.f4.params[j]? = some t → args[j]? = some v → Value.okWide Tryd.prog W .any base t v := hval0
  have hW' := hW
  obtain ⟨p, q, hA0, hV, rfl, hfz, hnd⟩ := hW
  have hA : DataW.TrodAll enc Tryd.prog W 0 (fun _ => true) true Tryd.f4.params.toList args.toList ds p := hA0
  rw [Tryd.params4] at hA hval
  obtain ⟨v0, vs0, d0, ds0, p0, q0, hargs, rfl, rfl, h0, t0⟩ := trodAll_cons hA
  obtain ⟨v1, vs1, d1, ds1, p1, q1, rfl, rfl, rfl, h1, t1⟩ := trodAll_cons t0
  obtain ⟨v2, vs2, d2, ds2, p2, q2, rfl, rfl, rfl, h2, t2⟩ := trodAll_cons t1
  obtain ⟨rfl, rfl, rfl⟩ := trodAll_nil t2
  obtain rfl : args = #[v0, v1, v2] := by cases args; simp_all
  have hgs := (trodVars_none hV).1
  subst hgs
  obtain ⟨φ0, H0, m0, x0, I0, le0, ex0, V0, R0⟩ := arg_cell I0 (t := 26) (k := 12) (s := .row [.str]) (by kernel_rfl) (by kernel_rfl) (hval 0 26 v0 rfl rfl) h0
  obtain ⟨x1, rfl, w1⟩ := arg_int (k := .u16) (by kernel_rfl) (hval 1 31 v1 rfl rfl) h1
  obtain ⟨φ2, H2, m2, x2, I2, le2, ex2, V2, R2⟩ := arg_cell I0 (t := 9) (k := 12) (s := .str) (by kernel_rfl) (by kernel_rfl) (hval 2 9 v2 rfl rfl) h2
  have r0 := Rep.ext (ex2) R0
  have V0' := V0.mono (le2)
  have r2 := Rep.ext (Ext.refl _) R2
  have V2' := V2.mono (Ren.le.refl _)
  obtain ⟨H', hR⟩ := wordsBack2 r0 r2
  refine (calls_true (mpW_ok hVar) c4 I2 hR (.cons V0' (.cons (.int _ _) (.cons V2' .nil)))).mono fun e W' ⟨he, hg⟩ => ?_
  exact ⟨_, he, post_true hW' (by kernel_rfl) (fun t ht => by
    rw [Tryd.params4] at ht
    simp at ht
    rcases ht with rfl | rfl | rfl <;> exact ⟨by kernel_rfl, of_decide_eq_true (by kernel_rfl)⟩) (tb := 4) (by kernel_rfl) (by kernel_rfl) rfl rfl rfl rfl hg⟩

theorem over : Rows.wordsBackRow.holds Tryd.pinned (OpenSpec.ofChange Rows.wordsBackSpec) :=
  OpenClaim.holds_of_wide 4 Tryd.f4 rfl rfl rfl rfl rfl rfl rfl ⟨rfl, rfl, rfl, rfl, rfl⟩ rfl rfl rfl rfl rfl (by kernel_rfl) Tryd.func4 (by kernel_rfl)
    (of_decide_eq_true (by kernel_rfl)) (by unfold Func.isWrapper; first | (rw [if_pos (by decide +kernel)]; kernel_rfl) | (rw [if_neg (by decide +kernel)]; exact ⟨rfl, rfl⟩))
    (fun os started H enc _ => lifted os started H enc)

set_option maxRecDepth 100000 in
theorem proved : Rows.WordsBackCardSaid :=
  Claim7.holds_tied_plain_at .later [] [.data, .data, .data, .data, .sentinel, .sentinel, .pinned] true (true, "b447263b9656760d2ad8f8ce18389490886c4594abaf2e7bfec25e5d76d316e2") true over (fun _ h => by cases h) (by kernel_rfl) (fun _ h => by cases h) wordsBack_row_tie rfl ⟨rfl, rfl⟩ (by kernel_rfl) rfl
    (fun f fn hf hfn => by
      obtain rfl : f = 4 := Option.some.inj ((show Tryd.prog.funcNamed "swingbridge/swingbridgelaw7.WordsBack" = some 4 by kernel_rfl).symm.trans hf) |>.symm
      obtain rfl : fn = Tryd.f4 := (Option.some.inj (Tryd.func4.symm.trans hfn)).symm
      exact ⟨by kernel_rfl, fun j t ht => by
        rw [Tryd.params4] at ht
        have hm : t ∈ [26, 31, 9] := by simpa using Array.mem_of_getElem? ht
        have hall : ([26, 31, 9].all fun u => !Tryd.prog.wantsStandIn u) = true := by kernel_rfl
        exact (show Tryd.prog.wantsStandIn t = false by simpa using List.all_eq_true.1 hall t hm)⟩)
    (by kernel_rfl)
#print axioms proved
end Go.Proofs.YthpeamllfledkaaDoor.wordsBack

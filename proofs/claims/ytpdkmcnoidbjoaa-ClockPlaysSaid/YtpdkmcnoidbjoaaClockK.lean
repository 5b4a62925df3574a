/- The clock's functions in the model: slices.Insert as one operation; the closed run. -/
import Derived.Test.YtpdkmcnoidbjoaaClockM
import Derived.Test.YtpdkmcnoidbjoaaLib8
set_option linter.unusedVariables false
set_option linter.unusedSimpArgs false
namespace Go.Mod
open Go.Proofs

noncomputable def fn94 : Func := (Try.prog.funcs[94]?).getD default
noncomputable def t94 : TypeId := fn94.params.getD 0 0
noncomputable def r94 : TypeId := fn94.resultTypes.getD 0 0
noncomputable def e94 : TypeId := match Try.prog.underlying t94 with
  | some (.slice e) => e
  | _ => 0
theorem over94 : OverFn Try.prog 94 := ⟨fn94, t94, r94, e94, 2, by kernel_rfl, by kernel_rfl, by kernel_rfl, by kernel_rfl, by kernel_rfl, by kernel_rfl, by kernel_rfl⟩
def mpC0 (f : FuncId) : Option MDef := if f = 94 then some (.intr overS) else mpC f
theorem mpC0_ok : MapOk Try.prog mpC0 := by
  refine ⟨mpC_ok.mixed, fun f fn hf => ?_, fun f s hf => ?_⟩
  · unfold mpC0 at hf
    split at hf
    · cases hf
    · exact mpC_code f fn hf
  · unfold mpC0 at hf
    split at hf
    · rename_i e; subst e
      cases hf
      exact over_ok over94
    · exact mpC_ok.intr f s hf
def mpC1 (f : FuncId) : Option MDef := if f = 75 then some (.intr (insertS 2)) else mpC f
theorem mpC1_ok : MapOk Try.prog mpC1 := by
  refine ⟨mpC_ok.mixed, fun f fn hf => ?_, fun f s hf => ?_⟩
  · unfold mpC1 at hf
    split at hf
    · cases hf
    · exact mpC_code f fn hf
  · unfold mpC1 at hf
    split at hf
    · rename_i e; subst e
      cases hf
      exact insertS_ok mpC0_ok (f := 75) (fo := 94) (fr := 95) (es := 2) (bytes := 16) (z := [.int .i64 0, .int .i64 0]) rfl rfl (by omega) (by omega) rfl rfl
    · exact mpC_ok.intr f s hf
theorem knownC_ok : ∃ H0, R mpC1 41 [] [] = some (.bool true, H0) := known_of (k := 40) (by kernel_rfl)
def mpCk (f : FuncId) : Option MDef := if f = 41 then some (.intr (constS (.bool true))) else mpC1 f
theorem mpCk_ok : MapOk Try.prog mpCk := by
  obtain ⟨H0, h⟩ := knownC_ok
  refine ⟨mpC_ok.mixed, fun f fn hf => ?_, fun f s hf => ?_⟩
  · unfold mpCk at hf
    split at hf
    · cases hf
    · exact mpC1_ok.code f fn hf
  · unfold mpCk at hf
    split at hf
    · rename_i e; subst e
      cases hf
      exact closed_intr mpC1_ok h rfl
    · exact mpC1_ok.intr f s hf
theorem knownC_R {H : MH} : R mpCk 41 [] H = some (.bool true, H) := by rw [R_intr (s := constS (.bool true)) rfl]; simp
end Go.Mod

/- The closed run of layer 25's statements. -/
import Derived.Test.YtpdkmcnoidbjoaaLegM
import Derived.Test.YtpdkmcnoidbjoaaLib9
set_option linter.unusedVariables false
set_option linter.unusedSimpArgs false
namespace Go.Mod
open Go.Proofs

theorem knownL_ok : ∃ H0, R mpL 53 [] [] = some (.bool true, H0) := known_of (k := 40) (by kernel_rfl)
def mpLk (f : FuncId) : Option MDef := if f = 53 then some (.intr (constS (.bool true))) else mpL f
theorem mpLk_ok : MapOk Try.prog mpLk := by
  obtain ⟨H0, h⟩ := knownL_ok
  refine ⟨mpL_ok.mixed, fun f fn hf => ?_, fun f s hf => ?_⟩
  · unfold mpLk at hf
    split at hf
    · cases hf
    · exact mpL_ok.code f fn hf
  · unfold mpLk at hf
    split at hf
    · rename_i e; subst e
      cases hf
      exact closed_intr mpL_ok h rfl
    · exact mpL_ok.intr f s hf
theorem knownL_R {H : MH} : R mpLk 53 [] H = some (.bool true, H) := by rw [R_intr (s := constS (.bool true)) rfl]; simp
end Go.Mod

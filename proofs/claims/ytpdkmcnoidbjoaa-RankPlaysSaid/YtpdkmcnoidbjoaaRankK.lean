/- The rank's functions in the model: slices.Insert as one operation; the closed run. -/
import Derived.Test.YtpdkmcnoidbjoaaRankM
import Derived.Test.YtpdkmcnoidbjoaaLib7
set_option linter.unusedVariables false
set_option linter.unusedSimpArgs false
namespace Go.Mod
open Go.Proofs

noncomputable def fn92 : Func := (Try.prog.funcs[92]?).getD default
noncomputable def t92 : TypeId := fn92.params.getD 0 0
noncomputable def r92 : TypeId := fn92.resultTypes.getD 0 0
noncomputable def e92 : TypeId := match Try.prog.underlying t92 with
  | some (.slice e) => e
  | _ => 0
theorem over92 : OverFn Try.prog 92 := ⟨fn92, t92, r92, e92, 2, by kernel_rfl, by kernel_rfl, by kernel_rfl, by kernel_rfl, by kernel_rfl, by kernel_rfl, by kernel_rfl⟩
def mpR0 (f : FuncId) : Option MDef := if f = 92 then some (.intr overS) else mpR f
theorem mpR0_ok : MapOk Try.prog mpR0 := by
  refine ⟨mpR_ok.mixed, fun f fn hf => ?_, fun f s hf => ?_⟩
  · unfold mpR0 at hf
    split at hf
    · cases hf
    · exact mpR_code f fn hf
  · unfold mpR0 at hf
    split at hf
    · rename_i e; subst e
      cases hf
      exact over_ok over92
    · exact mpR_ok.intr f s hf
def mpR1 (f : FuncId) : Option MDef := if f = 69 then some (.intr (insertS 2)) else mpR f
theorem mpR1_ok : MapOk Try.prog mpR1 := by
  refine ⟨mpR_ok.mixed, fun f fn hf => ?_, fun f s hf => ?_⟩
  · unfold mpR1 at hf
    split at hf
    · cases hf
    · exact mpR_code f fn hf
  · unfold mpR1 at hf
    split at hf
    · rename_i e; subst e
      cases hf
      exact insertS_ok mpR0_ok (f := 69) (fo := 92) (fr := 93) (es := 2) (bytes := 16) (z := [.int .i64 0, .int .i64 0]) rfl rfl (by omega) (by omega) rfl rfl
    · exact mpR_ok.intr f s hf
theorem knownR_ok : ∃ H0, R mpR1 27 [] [] = some (.bool true, H0) := known_of (k := 40) (by kernel_rfl)
def mpRk (f : FuncId) : Option MDef := if f = 27 then some (.intr (constS (.bool true))) else mpR1 f
theorem mpRk_ok : MapOk Try.prog mpRk := by
  obtain ⟨H0, h⟩ := knownR_ok
  refine ⟨mpR_ok.mixed, fun f fn hf => ?_, fun f s hf => ?_⟩
  · unfold mpRk at hf
    split at hf
    · cases hf
    · exact mpR1_ok.code f fn hf
  · unfold mpRk at hf
    split at hf
    · rename_i e; subst e
      cases hf
      exact closed_intr mpR1_ok h rfl
    · exact mpR1_ok.intr f s hf
theorem knownR_R {H : MH} : R mpRk 27 [] H = some (.bool true, H) := by rw [R_intr (s := constS (.bool true)) rfl]; simp
end Go.Mod

/- The model of package text: its map, and that it knows what it should (package swingbridgelaw9's 'known'). -/
import Derived.Test.YthpeamllfledkaaDoorTdM
import Derived.Test.YthpeamllfledkaaDoorShF
namespace Go.Mod
open Go.Proofs

def mpX0 (f : FuncId) : Option MDef := match f with
  | 30 => some (.intr (atoiS 105))
  | 31 => some (.intr (scalS itoaG))
  | 32 => some (.intr splitS)
  | 34 => some (.intr (scalS cutG))
  | 41 => some (.intr (strS 5))
  | 58 => some (.intr (ckS 75))
  | 80 => some (.intr (scalS preG))
  | 81 => some (.intr (scalS conG))
  | f => mpXc f
theorem mpX0_ok [Glob] (hV : ∀ w, GlobAt w → Vars w) : MapOk Tryd.prog mpX0 := ⟨by kernel_rfl, fun f fn h => by
  unfold mpX0 at h
  split at h <;> first | (cases h; done) | exact mpXc_code _ _ h, fun f s h => by
  unfold mpX0 at h
  split at h
  · cases h; exact i30 hV
  · cases h; exact i31 hV
  · cases h; exact i32 hV
  · cases h; exact i34 hV
  · cases h; exact i41
  · cases h; exact i58
  · cases h; exact i80
  · cases h; exact i81 hV
  · unfold mpXc at h
    split at h <;> cases h⟩
set_option maxRecDepth 100000 in
theorem known9 : ∃ H0, R mpX0 24 [] [] = some (.bool true, H0) := known_of (k := 40) (by kernel_rfl)
def mpX (f : FuncId) : Option MDef := if f = 24 then some (.intr (constS (.bool true))) else mpX0 f
theorem mpX_ok [Glob] (hV : ∀ w, GlobAt w → Vars w) : MapOk Tryd.prog mpX := by
  obtain ⟨H0, h0⟩ := known9
  refine ⟨(mpX0_ok hV).mixed, fun f fn h => ?_, fun f s h => ?_⟩
  · unfold mpX at h
    split at h
    · cases h
    · exact (mpX0_ok hV).code f fn h
  · unfold mpX at h
    split at h
    · rename_i e
      subst e; cases h
      exact closed_intr (mpX0_ok hV) h0 rfl
    · exact (mpX0_ok hV).intr f s h
end Go.Mod

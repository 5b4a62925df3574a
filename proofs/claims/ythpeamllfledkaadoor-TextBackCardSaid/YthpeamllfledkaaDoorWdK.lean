/- The model of package words: its map, and that it knows what it should (package swingbridgelaw7's 'known'). -/
import Derived.Test.YthpeamllfledkaaDoorWdM
import Derived.Test.YthpeamllfledkaaDoorWdV
namespace Go.Mod
open Go.Proofs

def mpW0 (f : FuncId) : Option MDef := match f with
  | 30 => some (.intr (atoiS 105))
  | 31 => some (.intr (scalS itoaG))
  | 32 => some (.intr splitS)
  | 34 => some (.intr (scalS cutG))
  | f => mpWc f
theorem mpW0_ok [Glob] (hV : ∀ w, GlobAt w → Vars w) : MapOk Tryd.prog mpW0 := ⟨by kernel_rfl, fun f fn h => by
  unfold mpW0 at h
  split at h <;> first | (cases h; done) | exact mpWc_code _ _ h, fun f s h => by
  unfold mpW0 at h
  split at h
  · cases h; exact i30 hV
  · cases h; exact i31 hV
  · cases h; exact i32 hV
  · cases h; exact i34 hV
  · unfold mpWc at h
    split at h <;> cases h⟩
set_option maxRecDepth 100000 in
theorem known7 : ∃ H0, R mpW0 12 [] [] = some (.bool true, H0) := known_of (k := 40) (by kernel_rfl)
def mpW (f : FuncId) : Option MDef := if f = 12 then some (.intr (constS (.bool true))) else mpW0 f
theorem mpW_ok [Glob] (hV : ∀ w, GlobAt w → Vars w) : MapOk Tryd.prog mpW := by
  obtain ⟨H0, h0⟩ := known7
  refine ⟨(mpW0_ok hV).mixed, fun f fn h => ?_, fun f s h => ?_⟩
  · unfold mpW at h
    split at h
    · cases h
    · exact (mpW0_ok hV).code f fn h
  · unfold mpW at h
    split at h
    · rename_i e
      subst e; cases h
      exact closed_intr (mpW0_ok hV) h0 rfl
    · exact (mpW0_ok hV).intr f s h
end Go.Mod

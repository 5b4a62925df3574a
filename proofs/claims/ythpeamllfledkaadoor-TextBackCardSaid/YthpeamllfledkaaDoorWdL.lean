/- What a row's listed variables, and the world's shape, give the library's functions. -/
import Derived.Test.YthpeamllfledkaaDoorRows
import Derived.Test.YthpeamllfledkaaDoorWdV
import Derived.Test.YthpeamllfledkaaDoorGrH
set_option linter.unusedVariables false
namespace Go.Mod
open Go.Proofs Go.Proofs.YthpeamllfledkaaDoor

theorem vars_of {W : World} {laid : List (String × DataW Unit)} (hl : laid = Rows.wordsTellRow.laid) (h : laidMetH Tryd.prog laid W) (hs : W.ShapedOpen Tryd.prog) : Vars W := by
  subst hl
  rw [MakeChecks.laidMetH_plain _ _ _ (by kernel_rfl)] at h
  refine ⟨?_, ?_, ?_, ?_⟩
  · exact iface_of_mem (name := "strconv.ErrSyntax") (d := Rows.laid_strconv_ErrSyntax) (g := 0) (t := 62) (by kernel_rfl) (by kernel_rfl) ⟨_, Tryd.underlying62⟩ h (by simp [Rows.wordsTellRow])
  · exact iface_of_mem (name := "strconv.ErrRange") (d := Rows.laid_strconv_ErrRange) (g := 1) (t := 62) (by kernel_rfl) (by kernel_rfl) ⟨_, Tryd.underlying62⟩ h (by simp [Rows.wordsTellRow])
  · exact cell_of_shapedOpen_int (t := 3) (zero := #[.int .i64 0]) hs (by decide +kernel) (by kernel_rfl) rfl (by kernel_rfl) (by kernel_rfl) Tryd.underlying3
  · exact tabIs_of_mem (g := 3) (t := 144) (e := 120) (n := 20) (by kernel_rfl) (by kernel_rfl) Tryd.underlying144 Tryd.underlying120 (by kernel_rfl) (by kernel_rfl) h (by
      have : (Lib.tabData .u64 Lib.pow10Tab : DataW Unit) = Rows.laid_internal_strconv_uint64pow10 := rfl
      rw [this]
      simp [Rows.wordsTellRow])
end Go.Mod

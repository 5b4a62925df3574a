/- strings.Builder's copyCheck and String, strings.HasPrefix, strings.Contains at this program: intrinsics. -/
import Derived.Test.YthpeamllfledkaaDoorShE
import Derived.Test.YthpeamllfledkaaDoorGrH
import Derived.Test.YthpeamllfledkaaDoorWdV
set_option linter.unusedVariables false
namespace Go.Mod
open Go.Proofs Go.RowKit Go.Sort

set_option maxHeartbeats 1000000 in
set_option maxRecDepth 100000 in
theorem ck_used (b : Nat) (w : World) (h0 : w.cell? ⟨b, 0, none⟩ = some (.pointer (some ⟨b, 0, none⟩))) :
    Calls Tryd.prog 58 #[.pointer (some ⟨b, 0, none⟩)] w fun e w' => e = .returned (.tuple #[]) ∧ w' = w := by
  obtain ⟨j, hj, _⟩ := Option.map_eq_some_iff.1 (show (Tryd.prog.info? 75).map (·.size) = some 2 by kernel_rfl)
  have mixed : Tryd.prog.follows .mixedOrders = true := by kernel_rfl
  have t72 := Tryd.underlying75; have a72 := Tryd.isAgg75; have z72 := Tryd.sizeOf75; have v72 := Tryd.zeroValue75; have u72 := run_underlying Tryd.underlying75
  have t70 := Tryd.underlying73; have a70 := Tryd.isAgg73; have z70 := Tryd.sizeOf73; have v70 := Tryd.zeroValue73; have u70 := run_underlying Tryd.underlying73
  have t9 := Tryd.underlying9; have a9 := Tryd.isAgg9; have z9 := Tryd.sizeOf9; have v9 := Tryd.zeroValue9; have u9 := run_underlying Tryd.underlying9
  have t4 := Tryd.underlying4; have a4 := Tryd.isAgg4; have z4 := Tryd.sizeOf4; have v4 := Tryd.zeroValue4; have u4 := run_underlying Tryd.underlying4
  have t164 := Tryd.underlying117; have a164 := Tryd.isAgg117; have z164 := Tryd.sizeOf117; have v164 := Tryd.zeroValue117; have u164 := run_underlying Tryd.underlying117
  go_enter Tryd.func58, (show Tryd.f58.ntmps = 20 from rfl)
  go_wp2
  rw [Lib.run_neq_ptr_same w _ Tryd.underlying73 hj]
  go_wp2
  go_end0
  exact ⟨rfl, rfl⟩
set_option maxHeartbeats 1000000 in
set_option maxRecDepth 100000 in
theorem ck_fresh (b : Nat) (w : World) (h0 : w.cell? ⟨b, 0, none⟩ = some (.pointer none)) (hsh : w.shape? b = some (75, 2)) (hfz : w.frozen? ⟨b, 0, none⟩ = false) :
    Calls Tryd.prog 58 #[.pointer (some ⟨b, 0, none⟩)] w fun e w' => e = .returned (.tuple #[]) ∧ w' = w.setCell ⟨b, 0, none⟩ (.pointer (some ⟨b, 0, none⟩)) := by
  obtain ⟨j, hj, hjs⟩ := Option.map_eq_some_iff.1 (show (Tryd.prog.info? 75).map (·.size) = some 2 by kernel_rfl)
  have mixed : Tryd.prog.follows .mixedOrders = true := by kernel_rfl
  have t72 := Tryd.underlying75; have a72 := Tryd.isAgg75; have z72 := Tryd.sizeOf75; have v72 := Tryd.zeroValue75; have u72 := run_underlying Tryd.underlying75
  have t70 := Tryd.underlying73; have a70 := Tryd.isAgg73; have z70 := Tryd.sizeOf73; have v70 := Tryd.zeroValue73; have u70 := run_underlying Tryd.underlying73
  have t9 := Tryd.underlying9; have a9 := Tryd.isAgg9; have z9 := Tryd.sizeOf9; have v9 := Tryd.zeroValue9; have u9 := run_underlying Tryd.underlying9
  have t4 := Tryd.underlying4; have a4 := Tryd.isAgg4; have z4 := Tryd.sizeOf4; have v4 := Tryd.zeroValue4; have u4 := run_underlying Tryd.underlying4
  have t164 := Tryd.underlying117; have a164 := Tryd.isAgg117; have z164 := Tryd.sizeOf117; have v164 := Tryd.zeroValue117; have u164 := run_underlying Tryd.underlying117
  go_enter Tryd.func58, (show Tryd.f58.ntmps = 20 from rfl)
  go_wp2
  rw [Lib.run_to_unsafe w ⟨b, 0, none⟩ Tryd.underlying73 Tryd.underlying117 hj (by rw [hjs]; decide) hsh (Nat.zero_lt_succ 1)]
  simp only [Result.andThen]
  rw [Oper.upon_value]
  go_wp2
  rw [run_callFunc_extern Tryd.func79 (by kernel_rfl) (by kernel_rfl) (by kernel_rfl) (e := Extern.AbiNoEscape.same) (by kernel_rfl)]
  rw [Lib.run_noEscape]
  simp only [Result.andThen]
  rw [Oper.upon_value]
  go_wp2
  rw [Lib.run_from_unsafe w ⟨b, 0, none⟩ Tryd.underlying117 Tryd.underlying73 hj hsh (by kernel_rfl)]
  simp only [Result.andThen]
  rw [Oper.upon_value]
  go_wp2
  go_end0
  exact ⟨rfl, rfl⟩

section
variable [Glob]
theorem i58 : IntrOk Tryd.prog 58 (ckS 75) := ck_ok ⟨_, Tryd.func58, by kernel_rfl, by kernel_rfl⟩ ck_used ck_fresh
theorem i41 : IntrOk Tryd.prog 41 (strS 5) := str_ok ⟨_, Tryd.func41, by kernel_rfl, by kernel_rfl⟩ fun b bo g off cap size l w => builder_String_at Tryd.lays169 Tryd.Builder_Extra_169 b bo g off cap size l w
theorem i80 : IntrOk Tryd.prog 80 (scalS preG) := pre_ok ⟨_, Tryd.func80, by kernel_rfl, by kernel_rfl⟩ Tryd.strings_HasPrefix
theorem i81 (hV : ∀ w, GlobAt w → Vars w) : IntrOk Tryd.prog 81 (scalS conG) := con_ok ⟨_, Tryd.func81, by kernel_rfl, by kernel_rfl⟩ fun s p w hs hg => let ⟨m, hm⟩ := (hV w hg).max; Tryd.strings_Contains s p m w hs hm
end
end Go.Mod

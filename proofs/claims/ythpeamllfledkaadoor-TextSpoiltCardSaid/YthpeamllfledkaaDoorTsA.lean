/- What package text tells of texts that are no sets, run by the kernel. -/
import Derived.Test.YthpeamllfledkaaDoorTdK
import Derived.Test.YthpeamllfledkaaDoorGrH
set_option linter.unusedVariables false
namespace Go.Mod
open Go.Proofs

def errV (n e : Int) : Value := .tuple #[.agg #[.int .i64 0, .slice none 0 0, .slice none 0 0, .slice none 0 0], .int .i64 n, .int .i64 e]
def isErr (n e : Int) : Option (Value × MH) → Bool
  | some (.tuple t, _) => match t.toList with
    | [.agg c, .int .i64 a, .int .i64 b] => (match c.toList with
      | [.int .i64 z, .slice none 0 0, .slice none 0 0, .slice none 0 0] => z == 0
      | _ => false) && a == n && b == e
    | _ => false
  | _ => false
theorem isErr_eq {n e : Int} {x : Option (Value × MH)} (h : isErr n e x = true) : ∃ H0, x = some (errV n e, H0) := by
  unfold isErr at h
  split at h <;> first | contradiction | skip
  rename_i t H0
  split at h <;> first | contradiction | skip
  rename_i c a b ht
  simp only [Bool.and_eq_true, beq_iff_eq] at h
  obtain ⟨⟨h1, rfl⟩, rfl⟩ := h
  split at h1 <;> first | contradiction | skip
  rename_i z hc
  have hz : z = 0 := by simpa using h1
  subst hz
  refine ⟨H0, ?_⟩
  have e1 : t = #[.agg c, .int .i64 a, .int .i64 b] := by rw [← ht]
  have e2 : c = #[.int .i64 0, .slice none 0 0, .slice none 0 0, .slice none 0 0] := by rw [← hc]
  rw [e1, e2]; rfl
def badG (tab : List (List UInt8 × Int × Int)) : List Value → Option Value
  | [.string s] => (tab.find? fun p => p.1 == s.data.toList).map fun p => errV p.2.1 p.2.2
  | _ => none
theorem badG_ok [Glob] {P : Program} {mp : FuncId → Option MDef} (hm : MapOk P mp) {f : FuncId} {k : Nat} {tab : List (List UInt8 × Int × Int)} (h : tab.all (fun p => isErr p.2.1 p.2.2 (mcall mp k f [.string (B p.1)] [])) = true) : IntrOk P f (tabS (badG tab)) := by
  refine closed_tab hm fun vs v hv => ?_
  unfold badG at hv
  split at hv <;> first | contradiction | skip
  rename_i s
  obtain ⟨p, hp, rfl⟩ := Option.map_eq_some_iff.1 hv
  have hmem := List.mem_of_find?_eq_some hp
  have heq := List.find?_some hp
  simp only [beq_iff_eq] at heq
  obtain ⟨H0, h0⟩ := isErr_eq (List.all_eq_true.1 h p hmem)
  refine ⟨rfl, rfl, H0, ?_⟩
  have hs : s = B p.1 := by cases s; simp [B, heq]
  rw [hs]
  exact R_of_mcall h0
theorem R_bad {mp : FuncId → Option MDef} {f : FuncId} {tab : List (List UInt8 × Int × Int)} (h : mp f = some (.intr (tabS (badG tab)))) {H : MH} {l : List UInt8} {n e : Int} (hl : tab.find? (fun p => p.1 == l) = some (l, n, e)) :
    R mp f [.string (B l)] H = some (errV n e, H) := by
  rw [R_intr h]
  simp only [tabS, badG, B_data, hl]; rfl

def badTab : List (List UInt8 × Int × Int) := [
  ([], 0, 10),
  ([112, 114, 111, 116, 111, 99, 111, 108, 10], 0, 10),
  ([112, 114, 111, 116, 111, 99, 111, 108, 32, 102, 105, 102, 111, 10], 0, 10),
  ([112, 114, 111, 116, 111, 99, 111, 108, 32, 97, 103, 101, 110, 116, 10], 1, 10),
  ([112, 114, 111, 116, 111, 99, 111, 108, 32, 97, 103, 101, 110, 116, 10, 99, 111, 114, 101, 115, 10], 1, 10),
  ([112, 114, 111, 116, 111, 99, 111, 108, 32, 97, 103, 101, 110, 116, 10, 99, 111, 114, 101, 115, 32, 49, 32, 50, 10], 2, 14),
  ([112, 114, 111, 116, 111, 99, 111, 108, 32, 97, 103, 101, 110, 116, 10, 99, 111, 114, 101, 115, 32, 49, 32, 50, 10, 104, 111, 109, 101, 115, 10], 2, 10),
  ([112, 114, 111, 116, 111, 99, 111, 108, 32, 97, 103, 101, 110, 116, 10, 99, 111, 114, 101, 115, 32, 49, 32, 50, 10, 104, 111, 109, 101, 115, 32, 50, 10, 116, 97, 115, 107, 32, 97, 32, 49, 48, 32, 49, 48, 32, 49, 32, 48, 32, 114, 117, 110, 58, 51, 10], 1, 16),
  ([112, 114, 111, 116, 111, 99, 111, 108, 32, 97, 103, 101, 110, 116, 10, 99, 111, 114, 101, 115, 32, 49, 32, 50, 10, 116, 97, 115, 107, 32, 97, 32, 49, 48, 32, 49, 48, 32, 49, 32, 50, 32, 114, 117, 110, 58, 51, 10], 2, 16),
  ([112, 114, 111, 116, 111, 99, 111, 108, 32, 97, 103, 101, 110, 116, 10, 99, 111, 114, 101, 115, 32, 49, 32, 50, 10, 116, 97, 115, 107, 32, 97, 32, 49, 48, 32, 49, 48, 32, 49, 32, 48, 10], 2, 15),
  ([112, 114, 111, 116, 111, 99, 111, 108, 32, 97, 103, 101, 110, 116, 10, 99, 111, 114, 101, 115, 32, 49, 32, 50, 10, 116, 97, 115, 107, 32, 97, 32, 49, 48, 32, 49, 48, 32, 49, 32, 48, 32, 114, 117, 110, 58, 48, 51, 10], 2, 10),
  ([112, 114, 111, 116, 111, 99, 111, 108, 32, 97, 103, 101, 110, 116, 10, 99, 111, 114, 101, 115, 32, 49, 32, 50, 10, 116, 97, 115, 107, 32, 97, 32, 49, 48, 32, 49, 48, 32, 49, 32, 48, 32, 119, 97, 108, 107, 58, 51, 10], 2, 10),
  ([112, 114, 111, 116, 111, 99, 111, 108, 32, 97, 103, 101, 110, 116, 10, 99, 111, 114, 101, 115, 32, 49, 32, 50, 10, 116, 97, 115, 107, 32, 97, 32, 49, 48, 32, 49, 48, 32, 49, 32, 48, 32, 114, 117, 110, 58, 51, 10, 104, 111, 109, 101, 115, 32, 48, 10], 3, 10),
  ([112, 114, 111, 116, 111, 99, 111, 108, 32, 97, 103, 101, 110, 116, 10, 99, 111, 114, 101, 115, 32, 49, 32, 50, 10, 116, 97, 115, 107, 32, 97, 32, 49, 48, 32, 49, 49, 32, 49, 32, 48, 32, 114, 117, 110, 58, 51, 10], 2, 10)]
set_option maxRecDepth 100000 in
theorem badTab_ok : badTab.all (fun p => isErr p.2.1 p.2.2 (mcall mpX0 40 28 [.string (B p.1)] [])) = true := by kernel_rfl
def mpS := mpWith mpX 28 (tabS (badG badTab))
theorem mpS_ok [Glob] (hV : ∀ w, GlobAt w → Vars w) : MapOk Tryd.prog mpS := mpWith_ok (mpX_ok hV) (badG_ok (mpX0_ok hV) badTab_ok)
set_option maxRecDepth 100000 in
theorem spoilt_all : (List.range 256).all (fun w => isTrue (mcall mpS 40 9 [.int .u8 (w : Int)] [])) = true := by kernel_rfl
theorem textSpoilt {w : Int} (hw : 0 ≤ w ∧ w < 256) : ∃ H', R mpS 9 [.int .u8 w] [] = some (.bool true, H') := by
  have h := List.all_eq_true.1 spoilt_all w.toNat (List.mem_range.2 (by omega))
  rw [Int.toNat_of_nonneg hw.1] at h
  unfold isTrue at h
  split at h
  · rename_i b H0 hm
    subst h
    exact ⟨H0, R_of_mcall hm⟩
  · cases h
end Go.Mod

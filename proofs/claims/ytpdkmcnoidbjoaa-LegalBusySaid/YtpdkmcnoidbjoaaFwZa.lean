/- slices.overlaps, which the machine gives a meaning of its own. -/
import Derived.Test.YtpdkmcnoidbjoaaFwZ
import Derived.Lib.Overlaps
set_option linter.unusedVariables false
set_option linter.unusedSimpArgs false
namespace Go.Mod

/-- The function is the machine's slices.overlaps. -/
def OverFn (P : Program) (f : FuncId) : Prop := ∃ fn tS tR e size, P.funcs[f]? = some fn ∧ (fn.name == "runtime.NumGoroutine") = false ∧ fn.body.isNone = true ∧ Extern.findNext fn = none ∧
  Extern.find fn = some (Extern.SlicesOverlaps.overlaps #[tS, tS] #[tR]) ∧ P.underlying tS = some (.slice e) ∧ szOf P e = some size

/-- Slices of different objects that may be written do not overlap. -/
def overS : List Value → MH → Option (Value × MH)
  | [.slice (some ⟨a, _, none⟩) la ca, .slice (some ⟨b, _, none⟩) lb cb], H =>
    match H[a]?, H[b]? with
    | some (.cells i _), some (.cells j _) => if a ≠ b ∧ i.rw = true ∧ j.rw = true ∧ 0 < la ∧ 0 < lb ∧ lb ≤ cb ∧ 0 < j.es then some (.bool false, H) else none
    | _, _ => none
  | _, _ => none

theorem over_ok {P : Program} {f : FuncId} (h : OverFn P f) : IntrOk P f overS := by
  obtain ⟨fn, tS, tR, e, size, hf, hn, hb, hnx, hfd, ht, hs⟩ := h
  refine ⟨fun vs H r H' hm φ w args hh hr => ?_, fun vs H r H' hm => ?_⟩
  · unfold overS at hm
    split at hm <;> first | contradiction | skip
    rename_i a oa la ca b ob lb cb
    split at hm <;> first | contradiction | skip
    rename_i i cs j ds hA hB
    split at hm <;> first | contradiction | skip
    rename_i hc
    obtain ⟨hab, hi, hj, hla, hlb, hlc, hes⟩ := hc
    cases hm
    obtain ⟨x, y, rfl, hx, hy⟩ := rels2' hr
    cases hx with
    | slicee => omega
    | slice hφ hn1 hc1 hex1 hroom1 ha1 =>
    rename_i ca' ba' pa
    cases hy with
    | slicee => omega
    | slice hψ hn2 hc2 hex2 hroom2 ha2 =>
    rename_i cb' bb' pb
    obtain ⟨q1, q2, rc, elem, lo, hi', q3, q4, q5, q6, q7⟩ := hh.cells hφ hA
    obtain ⟨p1, p2, rd, eled, lo2, hi2, p3, p4, p5, p6, p7⟩ := hh.cells hψ hB
    have hne : pa.block ≠ pb.block := fun he => hab (hh.sep a b pa pb _ _ hφ hψ hA hB (by simpa [MObj.mut] using hi) rfl he)
    have h7 := q7 hi
    refine .inr ⟨.bool false, w, ?_, φ, .bool false, Step.refl hh⟩
    rw [run_callFunc_extern hf hn hb hnx hfd]
    have hfz : ∀ k, w.frozen? ⟨pa.block, k, none⟩ = false := fun k => by
      simp [World.frozen?, q3]; omega
    rw [Lib.run_overlaps_apart w tS tR e ht size (fun w => szOf_sim (w := w) hs) ⟨pa.block, ba', none⟩ ⟨pb.block, bb', none⟩ la ca' lb cb' hne elem eled rc.size rd.size (by simp [World.shape?, q3]) (by simp [World.shape?, p3]) (by
      have h1 : 1 * pb.es ≤ cb' * pb.es := Nat.mul_le_mul_right _ (by omega)
      have : pb.es = j.es := p1.symm
      omega) (hfz _) (hfz _)]
    rfl
  · unfold overS at hm
    split at hm <;> first | contradiction | skip
    split at hm <;> first | contradiction | skip
    split at hm <;> first | contradiction | skip
    cases hm; exact Keeps.refl _
end Go.Mod

/- A task among the arguments. -/
import Derived.Test.YtfeaopbeiahbnaaJobT
set_option linter.unusedVariables false
set_option linter.unusedSimpArgs false
namespace Go.Mod
open Go.Proofs

theorem task_open {H : MH} {ms : List Value} {ds : List D} (h : RepL H [.str, .int .i64, .int .i64, .int .i64, .int .i64, .row [.int .i64, .int .i64, .int .i64]] ms ds) :
    ∃ nm q1 q2 q3 q4 v ps, ms = [.string nm, .int .i64 q1, .int .i64 q2, .int .i64 q3, .int .i64 q4, v] ∧ Row 3 H v (recs ps) ∧ (∀ p ∈ ps, p.length = 3) ∧ ps.length ≤ maxLen := by
  have h1 := h.ml
  have h2 := h.dl
  match ms, ds, h1, h2 with
  | [m0, m1, m2, m3, m4, m5], [d0, d1, d2, d3, d4, d5], _, _ =>
    have r0 := h.at_ 0 _ _ _ rfl rfl rfl
    have r1 := h.at_ 1 _ _ _ rfl rfl rfl
    have r2 := h.at_ 2 _ _ _ rfl rfl rfl
    have r3 := h.at_ 3 _ _ _ rfl rfl rfl
    have r4 := h.at_ 4 _ _ _ rfl rfl rfl
    have r5 := h.at_ 5 _ _ _ rfl rfl rfl
    cases r0; cases r1; cases r2; cases r3; cases r4
    obtain ⟨ps, hp, hm⟩ := rep_irowm (w := 3) r5
    exact ⟨_, _, _, _, _, m5, ps, rfl, hp.row.1, hp.row.2, hm⟩
theorem jobLengthsT {H : MH} {ms : List Value} {ds : List D} {vb : Value} {xs : List Int} (h : RepL H [.str, .int .i64, .int .i64, .int .i64, .int .i64, .row [.int .i64, .int .i64, .int .i64]] ms ds) (hro : ∀ (id : Nat) o, H[id]? = some o → o.mut = false) (hrb : Row 1 H vb (xs.map fun n => .int .u8 n)) (hb : ∀ x ∈ xs, 0 ≤ x ∧ x < 256) :
    ∃ H', R mpJk 10 [.agg ms.toArray, vb] H = some (.bool true, H') := by
  obtain ⟨nm, q1, q2, q3, q4, v, ps, rfl, hr, hw, hm⟩ := task_open h
  exact jobLengths (nm := nm) (q1 := q1) (q2 := q2) (q3 := q3) (q4 := q4) hr hw hm hro hrb hb
end Go.Mod

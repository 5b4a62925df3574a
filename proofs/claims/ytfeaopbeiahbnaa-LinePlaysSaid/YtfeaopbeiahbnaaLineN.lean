/- LinePlays: the model's side. -/
import Derived.Test.YtfeaopbeiahbnaaLineR
set_option linter.unusedVariables false
set_option linter.unusedSimpArgs false
namespace Go.Mod
open Go.Proofs

/-- Both lines, alike; F: the objects of both. -/
structure Two (H : MH) (t u : Nat) (ids : List Int) (room : Int) (F : List Nat) : Prop where
  ex : ∃ v fp w fq, LineAt H t ids room v fp ∧ RLine H u ids room w fq ∧ (∀ id, (id = t ∨ id ∈ fp) → ¬ (id = u ∨ id ∈ fq)) ∧ ∀ id, id ∈ F ↔ (id = t ∨ id ∈ fp) ∨ (id = u ∨ id ∈ fq)
section
variable {H H' : MH} {t u : Nat} {ids : List Int} {room : Int} {F : List Nat}
theorem Two.ext (T : Two H t u ids room F) (e : Ext H H') : Two H' t u ids room F := by
  obtain ⟨v, fp, w, fq, h1, h2, h3, h4⟩ := T.ex
  exact ⟨v, fp, w, fq, h1.ext e, h2.ext e, h3, h4⟩
theorem Two.lt (T : Two H t u ids room F) : ∀ id ∈ F, id < H.length := by
  obtain ⟨v, fp, w, fq, h1, h2, h3, h4⟩ := T.ex
  intro id hid
  rcases (h4 id).1 hid with (rfl | h) | (rfl | h)
  · exact h1.lt
  · exact h1.own.lt id h
  · exact h2.ult
  · exact h2.lt id h
end

/-- A pair of calls, and what is behind them. -/
structure Pair (f g : FuncId) (xs ys : List Value) (H : MH) (t u : Nat) (ids' : List Int) (room : Int) (F : List Nat) (r : Value) : Prop where
  ex : ∃ H1 H2 F', R mpk f xs H = some (r, H1) ∧ R mpk g ys H1 = some (r, H2) ∧ Two H2 t u ids' room F' ∧ Fp (fun id => id ∈ F) H H1 ∧ Fp (fun id => id ∈ F) H H2 ∧ ∀ id ∈ F', id ∈ F ∨ H.length ≤ id

section
variable {H : MH} {t u : Nat} {ids : List Int} {room : Int} {F : List Nat}
theorem pair_of {f g : FuncId} {xs ys : List Value} {ids' : List Int} {r : Value} (T : Two H t u ids room F)
    (hx : ∀ v fp, LineAt H t ids room v fp → ∃ v' H1 fp', R mpk f xs H = some (r, H1) ∧ LineAt H1 t ids' room v' fp' ∧ Fp (fun id => id = t ∨ id ∈ fp) H H1 ∧ ∀ id ∈ fp', id ∈ fp ∨ H.length ≤ id)
    (hy : ∀ H1 w fq, RLine H1 u ids room w fq → ∃ w' H2 fq', R mpk g ys H1 = some (r, H2) ∧ RLine H2 u ids' room w' fq' ∧ Fp (fun id => id = u) H1 H2 ∧ ∀ id ∈ fq', id ∈ fq ∨ H1.length ≤ id) :
    Pair f g xs ys H t u ids' room F r := by
  obtain ⟨v, fp, w, fq, h1, h2, h3, h4⟩ := T.ex
  obtain ⟨v', H1, fp', a1, l1, f1, n1⟩ := hx v fp h1
  have h2' : RLine H1 u ids room w fq := h2.frame f1.len fun id hid => by
    have hl : id < H.length := by
      rcases hid with rfl | h
      · exact h2.ult
      · exact h2.lt id h
    exact f1.same id hl fun h => h3 id h hid
  obtain ⟨w', H2, fq', a2, l2, f2, n2⟩ := hy H1 w fq h2'
  have hlen := f1.len
  have hut : u ≠ t := fun e => h3 t (.inl rfl) (.inl e.symm)
  have huf : ∀ id, (id = t ∨ id ∈ fp') → id ≠ u := by
    rintro id (rfl | h) rfl
    · exact hut rfl
    · rcases n1 _ h with h | h
      · exact h3 _ (.inr h) (.inl rfl)
      · have := h2.ult; omega
  have l1' : LineAt H2 t ids' room v' fp' := l1.frame fun id hid => by
    have hl : id < H1.length := by
      rcases hid with rfl | h
      · exact l1.lt
      · exact l1.own.lt id h
    exact f2.same id hl (huf id hid)
  have g1 : Fp (fun id => id ∈ F) H H1 := f1.mono fun id _ h => (h4 id).2 (.inl h)
  have g2 : Fp (fun id => id ∈ F) H1 H2 := f2.mono fun id _ h => (h4 id).2 (.inr (.inl h))
  refine ⟨H1, H2, (t :: fp') ++ (u :: fq'), a1, a2, ⟨v', fp', w', fq', l1', l2, fun id hid h => ?_, fun id => by simp [or_assoc]⟩, g1, g1.trans g2 fun _ _ h => h, fun id hid => ?_⟩
  · rcases h with h | h
    · exact huf id hid h
    · rcases n2 id h with h | h
      · rcases hid with rfl | hid
        · exact h3 _ (.inl rfl) (.inr h)
        · rcases n1 id hid with h' | h'
          · exact h3 id (.inr h') (.inr h)
          · have := h2.lt id h; omega
      · rcases hid with rfl | hid
        · have := l1.lt; omega
        · have := l1.own.lt id hid; omega
  · simp at hid
    rcases hid with rfl | h | rfl | h
    · exact .inl ((h4 _).2 (.inl (.inl rfl)))
    · rcases n1 id h with h | h
      · exact .inl ((h4 _).2 (.inl (.inr h)))
      · exact .inr h
    · exact .inl ((h4 _).2 (.inr (.inl rfl)))
    · rcases n2 id h with h | h
      · exact .inl ((h4 _).2 (.inr (.inr h)))
      · exact .inr (by omega)

theorem pair_put (T : Two H t u ids room F) (hr : room ≤ 64) (x : Int) :
    ∃ ids' e, Pair 25 26 [.pointer (some ⟨t, 0, none⟩), .int .i64 x] [.pointer (some ⟨u, 0, none⟩), .int .i64 x] H t u ids' room F (.int .i64 e) := by
  by_cases h : room ≤ ids.length
  · refine ⟨ids, 12, pair_of T (fun v fp hl => ?_) fun H1 w fq hl => ?_⟩
    · exact ⟨v, H, fp, R_lput_full rfl hl h x, hl, Fp.refl _ _, fun id hid => .inl hid⟩
    · exact ⟨w, H1, fq, R_rput_full rfl hl h x, hl, Fp.refl _ _, fun id hid => .inl hid⟩
  · refine ⟨ids ++ [x], 0, pair_of T (fun v fp hl => ?_) fun H1 w fq hl => ?_⟩
    · obtain ⟨v', H', fp', h1, h2, h3, h4⟩ := R_lput (mp := mpk) rfl hl (by omega) (by omega) x
      exact ⟨v', H', fp', h1, h2, h3, h4⟩
    · obtain ⟨v', H', fp', h1, h2, h3, h4⟩ := R_rput (mp := mpk) rfl hl (by omega) (by omega) x
      exact ⟨v', H', fp', h1, h2, h3, fun id hid => .inr (h4 id hid)⟩
theorem pair_take (T : Two H t u ids room F) :
    ∃ ids' a e, Pair 27 28 [.pointer (some ⟨t, 0, none⟩)] [.pointer (some ⟨u, 0, none⟩)] H t u ids' room F (.tuple #[.int .i64 a, .int .i64 e]) := by
  cases ids with
  | nil =>
    refine ⟨[], 0, 13, pair_of T (fun v fp hl => ?_) fun H1 w fq hl => ?_⟩
    · exact ⟨v, H, fp, R_ltake0 rfl rfl hl, hl, Fp.refl _ _, fun id hid => .inl hid⟩
    · exact ⟨w, H1, fq, R_rtake0 rfl hl, hl, Fp.refl _ _, fun id hid => .inl hid⟩
  | cons x ids =>
    refine ⟨ids, x, 0, pair_of T (fun v fp hl => ?_) fun H1 w fq hl => ?_⟩
    · obtain ⟨v', H', h1, h2, h3⟩ := R_ltake (mp := mpk) rfl rfl rfl hl
      exact ⟨v', H', fp, h1, h2, h3, fun id hid => .inl hid⟩
    · obtain ⟨v', H', h1, h2, h3⟩ := R_rtake (mp := mpk) rfl hl
      exact ⟨v', H', fq, h1, h2, h3, fun id hid => .inl hid⟩
theorem pair_drop (T : Two H t u ids room F) (x : Int) :
    Pair 29 30 [.pointer (some ⟨t, 0, none⟩), .int .i64 x] [.pointer (some ⟨u, 0, none⟩), .int .i64 x] H t u (ids.erase x) room F (.bool (decide (x ∈ ids))) := by
  refine pair_of T (fun v fp hl => ?_) fun H1 w fq hl => ?_
  · obtain ⟨v', H', h1, h2, h3⟩ := R_ldrop (mp := mpk) rfl rfl hl x
    exact ⟨v', H', fp, h1, h2, h3, fun id hid => .inl hid⟩
  · exact R_rdrop (mp := mpk) rfl rfl rfl hl x
end
end Go.Mod

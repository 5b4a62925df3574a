/- LockAgents: the model's side. -/
import Derived.Test.YthpeamllfledkaaLgA
set_option linter.unusedVariables false
set_option linter.unusedSimpArgs false
namespace Go.Mod
open Classical

def hV (h : Option Nat) : Int := match h with
  | none => -1
  | some k => k
def tpI (line : List Nat) : Nat → Int
  | 0 => -1
  | k + 1 => if k ∈ line then (k : Int) else tpI line k
theorem tpI_spec (line : List Nat) : ∀ k, (∃ m ∈ line, m < k ∧ (∀ t ∈ line, t < k → t ≤ m) ∧ tpI line k = (m : Int)) ∨ ((∀ t ∈ line, ¬ t < k) ∧ tpI line k = -1)
  | 0 => .inr ⟨fun t _ => by omega, rfl⟩
  | k + 1 => by
    unfold tpI
    by_cases hk : k ∈ line
    · exact .inl ⟨k, hk, by omega, fun t _ h => by omega, by rw [if_pos hk]⟩
    · rw [if_neg hk]
      rcases tpI_spec line k with ⟨m, h1, h2, h3, h4⟩ | ⟨h1, h2⟩
      · refine .inl ⟨m, h1, by omega, fun t ht h => ?_, h4⟩
        have : t ≠ k := fun e => hk (e ▸ ht)
        exact h3 t ht (by omega)
      · refine .inr ⟨fun t ht h => ?_, h2⟩
        have : t ≠ k := fun e => hk (e ▸ ht)
        exact h1 t ht (by omega)
theorem tpI_top {line : List Nat} (h6 : ∀ t ∈ line, t < 6) : tpI line 6 = hV (topN line) := by
  rcases tpI_spec line 6 with ⟨m, h1, h2, h3, h4⟩ | ⟨h1, h2⟩
  · have : topN line = some m := (List.max?_eq_some_iff).2 ⟨h1, fun t ht => h3 t ht (h6 t ht)⟩
    rw [h4, this]; rfl
  · have : line = [] := by
      cases line with
      | nil => rfl
      | cons a b => exact absurd (h6 a (by simp)) (h1 a (by simp))
    subst this
    rw [h2]; rfl
/-- The law's things side by side. -/
def GL2 (l : Nat) (s : SetL) (L : Lay) (x : LS) (b4 : Nat) (la : List Nat) : List (MH → List Nat → Prop) := [LkS l s L x, Pt b4 ⟨1, true, false⟩ (barr la)]
theorem GL2.good {l : Nat} {s : SetL} {L : Lay} {x : LS} {b4 : Nat} {la : List Nat} : ∀ P ∈ GL2 l s L x b4 la, Good P := by
  intro P hP
  simp only [GL2, List.mem_cons, List.not_mem_nil, or_false] at hP
  rcases hP with rfl | rfl
  · exact LkS.good
  · exact Pt.good
section
variable {H : MH} {F : List Nat} {l : Nat} {s : SetL} {L : Lay} {x : LS} {b4 : Nat} {line la : List Nat} {h : Option Nat} {c : Int}
theorem gl_arr {t : Nat} {b : Bool} {la' : List Nat} (hS : Sep (GL2 l s L x b4 la) H F) (ht : t < 6) (h : ∀ u, (u ∈ la') ↔ if u = t then b = true else u ∈ la) : ∃ H' F', meff (.st 1) [.pointer (some ⟨b4, t, none⟩), .bool b] H = some (.tuple #[], H') ∧ Sep (GL2 l s L x b4 la') H' F' ∧ Upd H F H' F' := by
  obtain ⟨_, H', F', p, u, c⟩ := Sep.upd (ι := Unit) (k := 1) (P' := fun _ => Pt b4 ⟨1, true, false⟩ (barr la')) (C := fun _ H' => meff (.st 1) [.pointer (some ⟨b4, t, none⟩), .bool b] H = some (.tuple #[], H')) (fun _ => Pt.good) GL2.good hS rfl (fun A hA _ => by
    obtain ⟨rfl, hA⟩ := hA
    have hlt := (List.getElem?_eq_some_iff.1 hA).1
    refine ⟨(), _, [b4], ⟨rfl, List.getElem?_set_self hlt⟩, ⟨by simp, fun id _ hn => List.getElem?_set_ne (fun e => hn (by simp [e])), fun _ h => .inl h⟩, ?_⟩
    rw [st_at hA rfl t _ rfl (by simp [barr]; exact ht), barr_put h])
  exact ⟨H', F', c, p, u⟩
theorem gl_ld (hS : Sep (GL2 l s L x b4 la) H F) {t : Nat} (ht : t < 6) : mread (.ld none) [.pointer (some ⟨b4, t, none⟩)] H = some (.bool (decide (t ∈ la))) := by
  obtain ⟨_, ⟨_, hA⟩, _⟩ := Sep.at_ (k := 1) hS rfl
  rw [ld_at hA, barr_at ht]; rfl
theorem top_loop {o : Value} {i : Int} (hS : Sep (GL2 l s L x b4 line) H F) : ∀ (d k : Nat), k + d = 6 →
    Rc mpLk (.loop m6_1) [(0, o), (3, .pointer (some ⟨l, 0, none⟩)), (4, .pointer (some ⟨b4, 0, none⟩)), (5, .int .i64 (tpI line k)), (6, .int .i64 i), (8, .int .i64 (k : Int))] H =
      some (.exit 2, [(0, o), (3, .pointer (some ⟨l, 0, none⟩)), (4, .pointer (some ⟨b4, 0, none⟩)), (5, .int .i64 (tpI line 6)), (6, .int .i64 i), (8, .int .i64 6), (67, .bool false)], H) := by
  intro d
  induction d with
  | zero =>
    intro k hk
    have : k = 6 := by omega
    subst this
    rw [Rc_loop]
    simp [m6_1]
  | succ d ih =>
    intro k hk
    have hk6 : (k : Int) < 6 := by omega
    have hld := gl_ld hS (show k < 6 by omega)
    have w : IntKind.i64.wrap ((k : Int) + 1) = (k : Int) + 1 := wrap_i64 (by omega) (by omega)
    have ih := ih (k + 1) (by omega)
    rw [Rc_loop]
    by_cases hm : k ∈ line
    · have e : tpI line (k + 1) = (k : Int) := if_pos hm
      rw [e] at ih
      simp only [hm, decide_true] at hld
      simp at ih
      simp [m6_1, hk6, hld, w]
      exact ih
    · have e : tpI line (k + 1) = tpI line k := if_neg hm
      rw [e] at ih
      simp only [hm, decide_false] at hld
      simp at ih
      simp [m6_1, hk6, hld, w]
      exact ih
theorem chk_loop {o : Value} {i : Int} (cs : CrowdS s 2 c) (f : AgS x line h) (hS : Sep (GL2 l s L x b4 la) H F) : ∀ (d k : Nat), k + d = 6 →
    Rc mpLk (.loop m6_0) [(0, o), (3, .pointer (some ⟨l, 0, none⟩)), (4, .pointer (some ⟨b4, 0, none⟩)), (5, .int .i64 (hV h)), (6, .int .i64 i), (9, .int .i64 (k : Int))] H =
      some (.exit 4, [(0, o), (3, .pointer (some ⟨l, 0, none⟩)), (4, .pointer (some ⟨b4, 0, none⟩)), (5, .int .i64 (hV h)), (6, .int .i64 i), (9, .int .i64 6), (75, .bool false)], H) := by
  intro d
  obtain ⟨A0, hA0, _⟩ := Sep.at_ (k := 0) hS rfl
  have V := LkV.of hA0
  induction d with
  | zero =>
    intro k hk
    have : k = 6 := by omega
    subst this
    rw [Rc_loop]
    simp [m6_0]
  | succ d ih =>
    intro k hk
    have hk6 : (k : Int) < 6 := by omega
    have w : IntKind.i64.wrap ((k : Int) + 1) = (k : Int) + 1 := wrap_i64 (by omega) (by omega)
    have e1 := R_holds (mp := mpLk) rfl V (k : Int)
    have e2 := R_boost (mp := mpLk) rfl rfl V (k : Int)
    rw [f.holds] at e1
    rw [cs.proto, f.boost] at e2
    have ih := ih (k + 1) (by omega)
    simp at ih
    rw [Rc_loop]
    by_cases hh : h = some k
    · have hv : hV h = (k : Int) := by rw [hh]; rfl
      simp only [hh, decide_true, if_true] at e1 e2
      rw [hv] at ih ⊢
      simp [m6_0, hk6, e1, e2, w]
      exact ih
    · have hv : ¬ (k : Int) = hV h := fun e => hh (by
        cases h with
        | none => have e : (k : Int) = -1 := e; omega
        | some m => have e : (k : Int) = (m : Int) := e; exact congrArg some (by omega))
      simp only [hh, decide_false, if_false] at e1 e2
      simp [m6_0, hk6, e1, e2, w, hv]
      exact ih
theorem ag_grant (cs : CrowdS s 2 c) (hid : x.ts.map (·.id) = L.chs) (f : AgS x line h) (h0 : 0 ≤ x.cnt) (h1 : x.cnt < 1000000) (hS : Sep (GL2 l s L x b4 la) H F) :
    ∃ (gv : Value) (H1 : MH) (F1 : List Nat) (y : LS), R mpLk 15 [.pointer (some ⟨l, 0, none⟩)] H = some (gv, H1) ∧ Sep (GL2 l s L y b4 la) H1 F1 ∧ AgS y line (if h = none then topN line else h) ∧ Upd H F H1 F1 ∧ y.cnt = x.cnt ∧ y.ts = x.ts := by
  obtain ⟨gv, H1, F1, p1, u1, e1⟩ := Sep.upd (ι := Value) (k := 0) (P' := fun _ => LkS l s L (grantF s x)) (C := fun v H' => R mpLk 15 [.pointer (some ⟨l, 0, none⟩)] H = some (v, H')) (fun _ => LkS.good) GL2.good hS rfl (fun A hA _ => by
    obtain ⟨v, H', F', e, p, u, _⟩ := lk_grant lkP hA (f.ok cs hid h0 h1)
    exact ⟨v, H', F', p, u, e⟩)
  obtain ⟨g1, g2, g3⟩ := f.grant cs
  exact ⟨gv, H1, F1, grantF s x, e1, p1, g1, u1, g2, g3⟩
end
end Go.Mod

/- LockGates: the loop, the law. -/
import Derived.Test.YthpeamllfledkaaLhD
set_option linter.unusedVariables false
set_option linter.unusedSimpArgs false
namespace Go.Mod
open Classical

/-- The law's things side by side. -/
def HL (l : Nat) (s : SetL) (L : Lay) (x : LS) (av : Value) (asked : List Nat) : List (MH → List Nat → Prop) := [LkS l s L x, OwnA 1 av (i64s (linI asked))]
theorem HL.good {l : Nat} {s : SetL} {L : Lay} {x : LS} {av : Value} {asked : List Nat} : ∀ P ∈ HL l s L x av asked, Good P := by
  intro P hP
  simp only [HL, List.mem_cons, List.not_mem_nil, or_false] at hP
  rcases hP with rfl | rfl
  · exact LkS.good
  · exact OwnA.good
section
variable {H : MH} {F : List Nat} {l : Nat} {s : SetL} {L : Lay} {x : LS} {asked : List Nat} {c m : Nat} {aa : Option Addr} {ac : Nat}
theorem gt_tail (cs : CrowdS s 3 (c : Int)) (hc1 : 1 ≤ c) (hid : x.ts.map (·.id) = L.chs) (f : GtS x asked c m) (hm : m = min c asked.length ∨ (m + 1 = min c asked.length)) (h0 : 0 ≤ x.cnt) {B : Int} (hB : x.cnt + 1 ≤ B) (hB2 : B ≤ 1000) {last : Int} (hl0 : 0 ≤ last) (hl1 : last ≤ B) {o : Value} {i : Int} (hS : Sep (HL l s L x (.slice aa asked.length ac) asked) H F) :
    ∃ (gv : Value) (H1 : MH) (F1 : List Nat) (y : LS) (last' : Int) (n : Nat), R mpLk 15 [.pointer (some ⟨l, 0, none⟩)] H = some (gv, H1) ∧ Sep (HL l s L y (.slice aa asked.length ac) asked) H1 F1 ∧ Upd H F H1 F1 ∧ GtS y asked c (min c asked.length) ∧ 0 ≤ y.cnt ∧ y.cnt ≤ x.cnt + 1 ∧ y.ts.map (·.id) = L.chs ∧ 0 ≤ last' ∧ last' ≤ B ∧ n ≤ c ∧ n ≤ 2 ∧
      Rc mpLk (.loop m7_0) [(0, o), (5, .int .i64 (c : Int)), (6, .pointer (some ⟨l, 0, none⟩)), (7, .slice aa asked.length ac), (8, .int .i64 last), (9, .int .i64 i), (13, .int .i64 0), (14, .int .i64 0)] H1 =
        some (.exit 2, [(0, o), (5, .int .i64 (c : Int)), (6, .pointer (some ⟨l, 0, none⟩)), (7, .slice aa asked.length ac), (8, .int .i64 last'), (9, .int .i64 i), (13, .int .i64 (n : Int)), (14, .int .i64 (asked.length : Int)), (98, .bool false)], H1) ∧
      (∀ t r, asked = t :: r → 1 ≤ n ∧ R mpLk 21 [.pointer (some ⟨l, 0, none⟩), .int .i64 (t : Int)] H1 = some (.bool true, H1) ∧ ∃ b o, aa = some ⟨b, o, none⟩ ∧ mread (.ld none) [.pointer (some ⟨b, o, none⟩)] H1 = some (.int .i64 (t : Int))) := by
  obtain ⟨gv, H1, F1, p1, u1, e1⟩ := Sep.upd (ι := Value) (k := 0) (P' := fun _ => LkS l s L (grantF s x)) (C := fun v H' => R mpLk 15 [.pointer (some ⟨l, 0, none⟩)] H = some (v, H')) (fun _ => LkS.good) HL.good hS rfl (fun A hA _ => by
    obtain ⟨v, H', F', e, p, u, _⟩ := lk_grant lkP hA (f.ok cs hid h0 (by omega))
    exact ⟨v, H', F', p, u, e⟩)
  obtain ⟨g1, g2, g3, g4⟩ := f.grant cs hm h0
  have p1 : Sep (HL l s L (grantF s x) (.slice aa asked.length ac) asked) H1 F1 := p1
  obtain ⟨A, hA, _⟩ := Sep.at_ (k := 0) p1 rfl
  obtain ⟨A2, hO, _⟩ := Sep.at_ (k := 1) p1 rfl
  have V := LkV.of hA
  have hcn : 0 ≤ (grantF s x).cnt ∧ (grantF s x).cnt ≤ x.cnt + 1 := by rw [g3]; omega
  obtain ⟨last', l0, l1, l2⟩ := seen_loop (o := o) (i := i) rfl cs g1 (by omega) V (Own.row hO) rfl (B := B) (by omega) hB2 asked.length 0 0 last (by omega) (by have := g1.len6; omega) hl0 hl1
  rw [List.drop_zero, Nat.zero_add] at l2
  have hcl := g1.cnt_le
  refine ⟨gv, H1, F1, grantF s x, last', cntH (grantF s x).ak, e1, p1, u1, g1, hcn.1, hcn.2, by rw [g4]; exact hid, l0, l1, by omega, hcl.2, by simpa using l2, fun t r e => ?_⟩
  subst e
  obtain ⟨a0, rest, hx⟩ : ∃ a0 rest, (grantF s x).ak = a0 :: rest := by
    cases hx : (grantF s x).ak with
    | nil => have := g1.n; rw [hx] at this; cases this
    | cons a r => exact ⟨a, r, rfl⟩
  have h00 : (grantF s x).ak[0]? = some a0 := by rw [hx]; rfl
  have hh0 : a0.holds = true := g2 0 a0 h00 (by simp; omega) fun j b hj => by omega
  obtain ⟨_, k1, _⟩ := g1.holds h00 (show (t :: r)[0]? = some t from rfl)
  have e21 := R_holds (mp := mpLk) rfl V (t : Int)
  rw [k1, hh0] at e21
  refine ⟨by rw [hx, cntH_cons, hh0]; simp, e21, ?_⟩
  rcases hO with ⟨h1, h2, _⟩ | ⟨b, n', c', cs', h1, h2, h3, h4, h5, _⟩
  · simp [i64s, linI] at h2
  · injection h1 with e1' e2' e3'
    refine ⟨b, 0, e1', ?_⟩
    have : cs'[0]? = some (.int .i64 (t : Int)) := by
      have := congrArg (fun l => l[0]?) h5
      simp only [i64s, linI, List.map_cons, List.getElem?_cons_zero] at this
      rw [List.getElem?_take] at this
      split at this
      · exact this
      · cases this
    rw [ld_at h3, this]; rfl
end
end Go.Mod

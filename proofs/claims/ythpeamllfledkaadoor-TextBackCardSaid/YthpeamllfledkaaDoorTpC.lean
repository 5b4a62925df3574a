/- Package text: a task's parts printed. -/
import Derived.Test.YthpeamllfledkaaDoorTpB
set_option linter.unusedVariables false
set_option linter.unusedSimpArgs false
namespace Go.Mod
open Go.Lib

def partsT (ps : List PartL) : Bs := ps.flatMap fun p => 32 :: partT p
theorem partT_len (p : PartL) : (partT p).length ≤ 20 := by
  have h1 := textL_le p.len
  have h2 := textL_le p.res
  unfold partT
  split
  · simp [kRun]; omega
  · split
    · simp [kSleep]; omega
    · simp [kLockC]; omega
theorem partsT_len (ps : List PartL) : (partsT ps).length ≤ 21 * ps.length := by
  induction ps with
  | nil => simp [partsT]
  | cons n l ih =>
    have := partT_len n
    unfold partsT at ih ⊢
    rw [List.flatMap_cons, List.length_append, List.length_cons, List.length_cons]; omega
section
variable {mp : FuncId → Option MDef} {H H0 H' : MH} {F F' : List Nat}
theorem ext_upd (e : Ext H0 H) (u : Upd H F H' F') (hF : ∀ id ∈ F, H0.length ≤ id) : Ext H0 H' ∧ ∀ id ∈ F', H0.length ≤ id := by
  have hl := e.len
  have u' : Upd H0 [] H' F' := ⟨Nat.le_trans hl u.len, fun id h1 _ => by
    rw [u.same id (by omega) (fun h => by have := hF id h; omega)]
    obtain ⟨X, rfl⟩ := e
    exact List.getElem?_append_left h1, fun id hid => by
    rcases u.new id hid with h | h
    · exact .inr (hF id h)
    · exact .inr (by omega)⟩
  exact u'.toExt
/-- What Print leans on. -/
structure PrP (mp : FuncId → Option MDef) : Prop where
  a : mp 22 = some (.code m22)
  b : mp 31 = some (.intr (scalS itoaG))
  c : mp 37 = some (.code m37)
  d : mp 38 = some (.code m38)
  e : mp 39 = some (.code m39)
  f : mp 40 = some (.code m40)
  g : mp 41 = some (.intr (strS 5))
  h : mp 58 = some (.intr (ckS 75))
  i : mp 27 = some (.code m27)
  k : ChkP mp 55 73 74 75 96 56 20 76 77 97 78 57 36
theorem parts_loop (P : PrP mp) {b : Nat} {v40 v41 v42 : Value} {a : Option Addr} {c : Nat} {ps : List PartL} (hg : RowG 3 H0 a ps partC) (hl : ps.length ≤ 1000) : ∀ (k j : Nat) (H : MH) (F : List Nat) (acc : Bs), j + k = ps.length → acc.length + 21 * k ≤ 900000 → Ext H0 H → (∀ id ∈ F, H0.length ≤ id) → BldA b acc H F →
    ∃ H' F', Rc mp (.loop m27_0) [(5, .pointer (some ⟨b, 0, none⟩)), (40, v40), (41, v41), (42, v42), (62, .slice a ps.length c), (63, .int .i64 (ps.length : Int)), (64, .int .i64 (j : Int))] H =
      some (.exit 2, [(5, .pointer (some ⟨b, 0, none⟩)), (40, v40), (41, v41), (42, v42), (62, .slice a ps.length c), (63, .int .i64 (ps.length : Int)), (64, .int .i64 (ps.length : Int)), (65, .bool false)], H') ∧ BldA b (acc ++ partsT (ps.drop j)) H' F' ∧ Upd H F H' F' := by
  intro k
  induction k with
  | zero =>
    intro j H F acc hj hb e hF hB
    have : j = ps.length := by omega
    subst this
    refine ⟨H, F, ?_, by rw [List.drop_length]; simpa [partsT] using hB, Upd.refl _ _⟩
    rw [Rc_loop]
    simp [m27_0]
  | succ k ih =>
    intro j H F acc hj hb e hF hB
    have hjl : j < ps.length := by omega
    have hget := List.getElem?_eq_getElem hjl
    have hdrop : ps.drop j = ps[j] :: ps.drop (j + 1) := List.drop_eq_getElem_cons hjl
    have hia := hg.ia c .i64 (j : Int)
    rw [if_pos ⟨by omega, by omega⟩, Int.toNat_natCast] at hia
    have hrd := hg.rdn hget H e
    have w : IntKind.i64.wrap ((j : Int) + 1) = (j : Int) + 1 := wrap_i64 (by omega) (by omega)
    rw [hdrop]
    generalize ps[j] = p at hrd
    obtain ⟨X, q1⟩ := R_partT (mp := mp) (H := H ++ [.cells ⟨0, true, false⟩ (partC p)]) P.f P.a P.b p
    have hpt := partT_len p
    have hpp : partsT (p :: ps.drop (j + 1)) = 32 :: partT p ++ partsT (ps.drop (j + 1)) := rfl
    rw [hpp]
    generalize partT p = tx at q1 hpt
    obtain ⟨t1, ht1, f1⟩ : ∃ t1 : Bs, t1 = 32 :: tx ∧ mbin .add (.string ⟨#[32]⟩) (.string (B tx)) = some (.string (B t1)) := ⟨_, rfl, s_addM (l := [32]) (by simp) (by omega)⟩
    have l1 : t1.length = tx.length + 1 := by rw [ht1]; rfl
    have hne : t1 ≠ [] := by rw [ht1]; simp
    rw [← ht1]
    clear ht1
    have e2 : Ext H (H ++ [.cells ⟨0, true, false⟩ (partC p)] ++ [X]) := ⟨[_, _], by rw [List.append_assoc]; rfl⟩
    obtain ⟨H2, F2, q2, hB2, u2⟩ := R_write (mp := mp) P.c P.h (BldA.good.ext hB e2) hne (by omega)
    have u := (Upd.ext (F := F) e2).trans u2
    obtain ⟨e3, hF3⟩ := ext_upd e u hF
    obtain ⟨H', F', h1, h2, h3⟩ := ih (j + 1) H2 F2 (acc ++ t1) (by omega) (by simp; omega) e3 hF3 hB2
    refine ⟨H', F', ?_, by rw [List.append_assoc] at h2; exact h2, u.trans h3⟩
    have hj' : (j : Int) < (ps.length : Int) := by omega
    rw [Rc_loop]
    simp only [partC] at hrd q1 q2
    simp at q1 q2
    simp [-ev_s_add, m27_0, hjl, hj', hia, hrd, stx, ldnx, q1, f1, q2, w]
    exact h1
end
end Go.Mod

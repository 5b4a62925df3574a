/- strings.Builder in the model: what it holds, WriteString, String. -/
import Derived.Test.YthpeamllfledkaaDoorTpA
set_option linter.unusedVariables false
set_option linter.unusedSimpArgs false
namespace Go.Mod
open Go.Lib

def bytesV (l : Bs) : List Value := l.map fun b => .int .u8 (b.toNat : Int)
@[simp] theorem bytesV_len (l : Bs) : (bytesV l).length = l.length := by simp [bytesV]
theorem bytesV_one (l : Bs) : (bytesV l).all one = true := by simp [bytesV]
theorem bytesV_app (l m : Bs) : bytesV (l ++ m) = bytesV l ++ bytesV m := by simp [bytesV]
theorem asB_bytes : ∀ l : Bs, asB (bytesV l) = some l
  | [] => rfl
  | b :: l => by
    show asB (.int .u8 (b.toNat : Int) :: bytesV l) = _
    unfold asB
    have e : UInt8.ofNat (b.toNat : Int).toNat = b := by simp
    rw [e, if_pos rfl, asB_bytes l]; rfl
def iB : Info := ⟨1, true, ⟨false, some 5⟩⟩
/-- A row of bytes of one's own. -/
def OwnB (v : Value) (l : Bs) : HP := fun H F =>
  (v = .slice none 0 0 ∧ l = [] ∧ F = []) ∨ ∃ g n c cs, v = .slice (some ⟨g, 0, none⟩) n c ∧ n ≤ c ∧ n = l.length ∧ H[g]? = some (.cells iB cs) ∧ cs.length = c ∧ cs.take n = bytesV l ∧ F = [g]
theorem OwnB.good {v : Value} {l : Bs} : Good (OwnB v l) := by
  refine ⟨fun {H F H'} h hf => ?_, fun {H F} h id hid => ?_⟩
  · rcases h with h | ⟨g, n, c, cs, h1, h2, h3, h4, h5, h6, rfl⟩
    · exact .inl h
    · exact .inr ⟨g, n, c, cs, h1, h2, h3, by rw [hf g (by simp)]; exact h4, h5, h6, rfl⟩
  · rcases h with ⟨_, _, rfl⟩ | ⟨g, n, c, cs, h1, h2, h3, h4, h5, h6, rfl⟩
    · cases hid
    · simp at hid; subst hid; exact (List.getElem?_eq_some_iff.1 h4).1
def iBl : Info := ⟨0, true, ⟨false, some 75⟩⟩
/-- A builder that holds bytes. -/
def BldA (b : Nat) (l : Bs) : HP := fun H F => ∃ p v, (p = .pointer none ∨ p = .pointer (some ⟨b, 0, none⟩)) ∧ (Pt b iBl [p, v] * OwnB v l) H F
theorem BldA.good {b : Nat} {l : Bs} : Good (BldA b l) := by
  refine ⟨fun {H F H'} h hf => ?_, fun {H F} h => ?_⟩
  · obtain ⟨p, v, hp, h⟩ := h
    exact ⟨p, v, hp, (Pt.good.star OwnB.good).frame h hf⟩
  · obtain ⟨p, v, hp, h⟩ := h
    exact (Pt.good.star OwnB.good).lt h
section
variable {mp : FuncId → Option MDef} {H : MH}
theorem src_B {m : Bs} : srcCells 1 H (.string (B m)) = some (m.length, bytesV m) := by
  simp [srcCells, bytesV]
/-- Bytes behind a row of bytes. -/
theorem own_appB {F : List Nat} {v : Value} {l m : Bs} (h : OwnB v l H F) (hm : m ≠ []) (hb : l.length + m.length ≤ 1000000) :
    ∃ v' H' F', meff (.appb 5 1) [v, .string (B m)] H = some (v', H') ∧ OwnB v' (l ++ m) H' F' ∧ Upd H F H' F' ∧ one v' = true := by
  have hml : ¬ m.length = 0 := by simpa using hm
  rcases h with ⟨rfl, rfl, rfl⟩ | ⟨g, n, c, cs, rfl, h2, rfl, h4, h5, h6, rfl⟩
  · refine ⟨.slice (some ⟨H.length, 0, none⟩) m.length m.length, H ++ [.cells iB (bytesV m)], [H.length], ?_, .inr ⟨H.length, m.length, m.length, bytesV m, rfl, Nat.le_refl _, by simp, by simp, by simp, by rw [List.take_of_length_le (by simp)]; simp, rfl⟩, ⟨by simp, fun id h1 _ => List.getElem?_append_left h1, fun id hid => .inr (by simp at hid; omega)⟩, rfl⟩
    simp only [meff, mapp, src_B, if_neg hml]
    rw [if_pos ⟨by simp at hb; omega, by omega⟩]; rfl
  · by_cases hroom : l.length + m.length ≤ c
    · refine ⟨.slice (some ⟨g, 0, none⟩) (l.length + m.length) c, H.set g (.cells iB (fillAt cs l.length (bytesV m))), [g], ?_, .inr ⟨g, l.length + m.length, c, _, rfl, hroom, by simp, List.getElem?_set_self (List.getElem?_eq_some_iff.1 h4).1, ?_, ?_, rfl⟩, ⟨by simp, fun id h1 hid => ?_, fun id hid => .inl hid⟩, rfl⟩
      · simp only [meff, mapp, src_B, h4, if_neg hml]
        rw [if_pos ⟨rfl, h2⟩, if_pos hroom, if_pos ⟨rfl, by omega, by rw [okc_one]; exact bytesV_one m⟩]
        simp
      · simp only [fillAt, List.length_append, List.length_take, List.length_drop, bytesV_len]; omega
      · unfold fillAt
        rw [List.take_append_of_le_length (by simp; omega), List.take_of_length_le (by simp; omega), h6, bytesV_app]
      · rw [List.getElem?_set_ne (by simp at hid; exact fun e => hid e.symm)]
    · refine ⟨.slice (some ⟨H.length, 0, none⟩) (l.length + m.length) (l.length + m.length), H.set g .dead ++ [.cells iB (cs.take l.length ++ bytesV m)], [H.length], ?_, .inr ⟨H.length, l.length + m.length, l.length + m.length, cs.take l.length ++ bytesV m, rfl, Nat.le_refl _, by simp, by simp, by simp; omega, ?_, rfl⟩, ⟨by simp, fun id h1 hid => ?_, fun id hid => .inr (by simp at hid; omega)⟩, rfl⟩
      · simp only [meff, mapp, src_B, h4, if_neg hml]
        rw [if_pos ⟨rfl, h2⟩, if_neg hroom, if_pos ⟨by omega, by omega, by omega, by rw [okc_one]; exact bytesV_one m⟩, if_neg (by decide), if_pos ⟨rfl, by omega, .inr rfl⟩]
        simp [iB]
      · rw [List.take_of_length_le (by simp; omega), h6, bytesV_app]
      · rw [List.getElem?_append_left (by simpa using h1), List.getElem?_set_ne (by simp at hid; exact fun e => hid e.symm)]
theorem R_write (hf : mp 37 = some (.code m37)) (h58 : mp 58 = some (.intr (ckS 75))) {F : List Nat} {b : Nat} {l m : Bs} (h : BldA b l H F) (hm : m ≠ []) (hb : l.length + m.length ≤ 1000000) :
    ∃ H' F', R mp 37 [.pointer (some ⟨b, 0, none⟩), .string (B m)] H = some (.tuple #[.int .i64 (m.length : Int), .nilIface], H') ∧ BldA b (l ++ m) H' F' ∧ Upd H F H' F' := by
  obtain ⟨p, v, hp, h⟩ := h
  have hat := star_at h
  have hv1 : isUnk v = false := by
    obtain ⟨A, C, h1, h2, _⟩ := h
    rcases h2 with ⟨rfl, _⟩ | ⟨bb, nn, cc, cs', rfl, _⟩ <;> rfl
  -- copyCheck
  obtain ⟨H1, q1, h1, u1⟩ : ∃ H1, R mp 58 [.pointer (some ⟨b, 0, none⟩)] H = some (.tuple #[], H1) ∧ (Pt b iBl [.pointer (some ⟨b, 0, none⟩), v] * OwnB v l) H1 F ∧ Upd H F H1 F := by
    rcases hp with rfl | rfl
    · obtain ⟨p1, p2⟩ := star_put (cs' := [.pointer (some ⟨b, 0, none⟩), v]) OwnB.good h
      refine ⟨_, ?_, p1, p2⟩
      rw [R_intr h58]
      simp only [ckS, hat]
      rw [if_pos ⟨rfl, rfl, rfl⟩]
    · refine ⟨H, ?_, h, Upd.refl _ _⟩
      rw [R_intr h58]
      simp only [ckS, hat]
      rw [if_pos ⟨rfl, rfl, rfl⟩, if_pos trivial]
  have hat1 := star_at h1
  obtain ⟨v', H2, F2, k, u2, c2⟩ := star_upd (P' := fun v' => OwnB v' (l ++ m)) (Q := Pt b iBl [.pointer (some ⟨b, 0, none⟩), v]) (C := fun v' H' => meff (.appb 5 1) [v, .string (B m)] H1 = some (v', H') ∧ one v' = true) Pt.good (fun _ => OwnB.good) (star_comm h1) (fun A hA _ => by
    obtain ⟨v', H', F', a1, a2, a3, a4⟩ := own_appB hA hm hb
    exact ⟨v', H', F', a2, a3, a1, a4⟩)
  obtain ⟨a1, a4⟩ := c2
  have k' := star_comm k
  obtain ⟨p1, p2⟩ := star_put (cs' := [.pointer (some ⟨b, 0, none⟩), v']) OwnB.good k'
  have hat2 := star_at k'
  have hld := ld_at hat1 1
  have hst := st_at hat2 rfl 1 v' a4 (by simp)
  refine ⟨_, F2, ?_, ⟨.pointer (some ⟨b, 0, none⟩), v', .inr rfl, p1⟩, u1.trans (u2.trans p2)⟩
  rw [R_code hf]
  simp [m37, q1, hld, hv1, a1, hst]
theorem R_bstr (h41 : mp 41 = some (.intr (strS 5))) {F : List Nat} {b : Nat} {l : Bs} (h : BldA b l H F) (hl : l ≠ []) (hb : l.length ≤ 1000000) :
    ∃ H', R mp 41 [.pointer (some ⟨b, 0, none⟩)] H = some (.string (B l), H') ∧ Upd H F H' F := by
  obtain ⟨p, v, hp, h⟩ := h
  have hat := star_at h
  obtain ⟨A, C, h1, h2, _, hF⟩ := h
  rcases h2 with ⟨_, rfl, _⟩ | ⟨g, n, c, cs, rfl, g2, rfl, g4, g5, g6, rfl⟩
  · exact absurd rfl hl
  · have hl0 : ¬ l.length = 0 := by simpa using hl
    refine ⟨H.set g (.cells ⟨1, false, ⟨false, some 5⟩⟩ cs), ?_, ⟨by simp, fun id h1 hid => ?_, fun id hid => .inl hid⟩⟩
    · rw [R_intr h41]
      have e : (cs.drop 0).take l.length = bytesV l := by rw [List.drop_zero]; exact g6
      simp only [strS, hat]
      simp only [List.getElem?_cons_succ, List.getElem?_cons_zero, g4, e, asB_bytes]
      rw [if_pos ⟨trivial, hl0, rfl, rfl, by omega, g2, rfl⟩]
      rfl
    · rw [List.getElem?_set_ne]
      intro e
      exact hid ((hF id).2 (.inr (by rw [← e]; simp)))
end
end Go.Mod

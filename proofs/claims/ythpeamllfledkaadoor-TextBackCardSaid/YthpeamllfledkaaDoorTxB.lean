/- Package text: a part's word, words of locks within locks. -/
import Derived.Test.YthpeamllfledkaaDoorTxA
set_option linter.unusedVariables false
set_option linter.unusedSimpArgs false
namespace Go.Mod
open Go.Lib

section
variable {mp : FuncId → Option MDef} {H : MH}
/-- What package text leans on, by its numbers. -/
structure TxP (mp : FuncId → Option MDef) (t : TypeId) : Prop where
  a : mp 13 = some (.code m13)
  b : mp 30 = some (.intr (atoiS t))
  c : mp 31 = some (.intr (scalS itoaG))
  d : mp 32 = some (.intr splitS)
  e : mp 80 = some (.intr (scalS preG))
  f : mp 81 = some (.intr (scalS conG))
  g : mp 59 = some (.code m59)
  h : mp 61 = some (.code m61)
  i : mp 60 = some (.code m60)
theorem row_get {ls : List Value} {a : Option Addr} {n c k : Nat} {x : Value} (h : Row 1 H (.slice a n c) ls) (hx : ls[k]? = some x) : ∃ b o, a = some ⟨b, o, none⟩ ∧ mread (.ld none) [.pointer (some ⟨b, o + k, none⟩)] H = knownO (some x) ∧ k < n := by
  have hk := (List.getElem?_eq_some_iff.1 hx).1
  obtain ⟨a', n', c', e, hl⟩ := h.slice
  cases e
  obtain ⟨b, o, j, cs, rfl, hB, _, hat⟩ := h.at (k := k) (by omega)
  refine ⟨b, o, rfl, ?_, by omega⟩
  rw [ld_at hB, hat, hx]
theorem row_ext' {es : Nat} {H H1 : MH} {v : Value} {l : List Value} (h : Row es H v l) (e : Ext H H1) : Row es H1 v l := by
  obtain ⟨X, rfl⟩ := e; exact h.app
theorem row_len {ls : List Value} {a : Option Addr} {n c : Nat} (h : Row 1 H (.slice a n c) ls) : n = ls.length := by
  obtain ⟨a', n', c', e, hl⟩ := h.slice
  cases e; omega
theorem ext_lt {H1 : MH} (e : Ext H H1) {b : Nat} (h : b < H.length) : b < H1.length := Nat.lt_of_lt_of_le h e.len
theorem R_reads {t : TypeId} (P : TxP mp t) {w : Bs} (hw : w.length ≤ 100000) : ∃ H', R mp 61 [.string (B w)] H = some (.tuple #[.agg (partC (readsL w).1).toArray, .int .i64 (readsL w).2], H') ∧ Ext H H' := by
  obtain ⟨X, hs, hXb, hXr, hXe⟩ : ∃ X, R mp 32 [.string (B w), .string ⟨#[58]⟩] (H ++ [.cells ⟨0, true, false⟩ [.int .i64 0, .int .i64 0, .int .i64 0]]) = some (.slice (some ⟨H.length + 1, 0, none⟩) (cutAt 58 w).length (cutAt 58 w).length, X) ∧
      X[H.length]? = some (.cells ⟨0, true, false⟩ [.int .i64 0, .int .i64 0, .int .i64 0]) ∧ Row 1 X (.slice (some ⟨H.length + 1, 0, none⟩) (cutAt 58 w).length (cutAt 58 w).length) (sv (cutAt 58 w)) ∧ Ext H X := by
    have hs := R_splitB (mp := mp) (H := H ++ [.cells ⟨0, true, false⟩ [.int .i64 0, .int .i64 0, .int .i64 0]]) P.d (c := 58) (l := w) hw
    have hr : Row 1 (H ++ [MObj.cells ⟨0, true, false⟩ [.int .i64 0, .int .i64 0, .int .i64 0]] ++ [.cells ⟨1, true, true⟩ (sv (cutAt 58 w))]) (.slice (some ⟨(H ++ [MObj.cells ⟨0, true, false⟩ [.int .i64 0, .int .i64 0, .int .i64 0]]).length, 0, none⟩) (cutAt 58 w).length (cutAt 58 w).length) (sv (cutAt 58 w)) := row_new (by simp)
    have el : (H ++ [MObj.cells ⟨0, true, false⟩ [.int .i64 0, .int .i64 0, .int .i64 0]]).length = H.length + 1 := by simp
    rw [el] at hs hr
    exact ⟨_, hs, by simp, hr, ⟨[_, _], by rw [List.append_assoc]; rfl⟩⟩
  have hpre := R_preB (mp := mp) (H := X) P.e (l := w) (p := kLockC)
  have hcon := R_conB (mp := mp) (H := X) P.f (l := w.drop 5) (p := kLockC) (by simp; omega)
  have hdr : (w.drop 5).take (w.length - 5) = w.drop 5 := List.take_of_length_le (by simp)
  change R mp 80 [.string (B w), .string ⟨#[108, 111, 99, 107, 58]⟩] X = _ at hpre
  change R mp 81 [.string (B (w.drop 5)), .string ⟨#[108, 111, 99, 107, 58]⟩] X = _ at hcon
  have hlen := cutAt_len 58 w
  have hml := cutAt_mem_len 58 w
  have hne := cutAt_ne 58 w
  have hXlt : H.length < X.length := (List.getElem?_eq_some_iff.1 hXb).1
  have fin : ∀ (Y : MH), Ext H Y → H.length < Y.length → ∀ o, Ext H (Y.set H.length o) := fun Y e _ o => ext_set e (Nat.le_refl _)
  by_cases hnest : nestL w = true
  · unfold readsL
    rw [if_pos hnest]
    have h2 := hnest
    unfold nestL at h2
    simp only [Bool.and_eq_true] at h2
    have h5 : 5 ≤ w.length := by
      have h3 := h2.1
      unfold hasPrefix at h3
      exact (List.isPrefixOf_iff_prefix.1 h3).length_le
    have h5' : (5 : Int) ≤ (w.length : Int) := by omega
    rw [h2.1] at hpre
    rw [h2.2] at hcon
    refine ⟨_, ?_, fin X hXe hXlt (.cells ⟨0, true, false⟩ [.int .i64 0, .int .i64 0, .int .i64 0])⟩
    rw [R_code P.h]
    have hset : ∀ o, (X.set H.length o)[H.length]? = some o := fun o => List.getElem?_set_self hXlt
    simp [m61, hs, hpre, h5', hdr, hcon, stx, ldnx, hXb, hset, partC]
  · have hnest' : nestL w = false := by simpa using hnest
    unfold readsL
    rw [if_neg hnest]
    have hcond : ∀ (K : MCode) (T : Reg), True := fun _ _ => trivial
    unfold partL
    cases hcut : cutAt 58 w with
    | nil => exact absurd hcut hne
    | cons h0 tl =>
      rw [hcut] at hs hXr hlen hml
      simp only [List.length_cons] at hs hXr hlen
      obtain ⟨a1, n1, c1, q1, r1⟩ := row_drop hXr (k := 1) (by omega)
      have r1' : Row 1 X (.slice a1 n1 c1) (sv tl) := by simpa [sv] using r1
      obtain ⟨a2, n2, c2, Y, q2, hYe, r2⟩ := R_nums P.g P.a P.b P.c (ws := tl) (fun x hx => Nat.le_trans (hml x (by simp [hx])) hw) (by omega) r1'
      have hYb := hYe.get hXb
      have hYlt : H.length < Y.length := (List.getElem?_eq_some_iff.1 hYb).1
      have hXYe := hXe.trans hYe
      obtain ⟨b0, o0, e0, l0, _⟩ := row_get (row_ext' hXr hYe) (k := 0) (x := .string (B h0)) rfl
      cases e0
      simp at l0
      have q1' : mread (.sl 1 true false false) [.slice (some ⟨H.length + 1, 0, none⟩) (tl.length + 1) (tl.length + 1), .int .i64 1] X = some (.slice a1 n1 c1) := q1
      have hn2 := row_len r2
      have hset : ∀ o, (Y.set H.length o)[H.length]? = some o := fun o => List.getElem?_set_self hYlt
      have hcond : ∃ b : Bool, R mp 80 [.string (B w), .string ⟨#[108, 111, 99, 107, 58]⟩] X = some (.bool b, X) ∧ (b = true → (5 : Int) ≤ (w.length : Int) ∧ R mp 81 [.string (B (w.drop 5)), .string ⟨#[108, 111, 99, 107, 58]⟩] X = some (.bool false, X)) := by
        refine ⟨_, hpre, fun hb => ?_⟩
        have h5 : 5 ≤ w.length := by
          have h3 := hb
          unfold hasPrefix at h3
          exact (List.isPrefixOf_iff_prefix.1 h3).length_le
        refine ⟨by omega, ?_⟩
        have h2 := hnest'
        unfold nestL at h2
        rw [hb, Bool.true_and] at h2
        rw [h2] at hcon
        exact hcon
      obtain ⟨bp, hp1, hp2⟩ := hcond
      have e10 : Ext H (Y.set H.length (.cells ⟨0, true, false⟩ [.int .i64 0, .int .i64 0, .int .i64 0])) := fin Y hXYe hYlt _
      cases hq : numsL tl with
      | none =>
        rw [hq] at q2 r2
        refine ⟨_, ?_, e10⟩
        rw [R_code P.h]
        cases bp with
        | false => simp [m61, hs, hp1, q1', q2, stx, ldnx, hYb, hset, partC, hq, l0]
        | true => simp [m61, hs, hp1, (hp2 rfl).1, (hp2 rfl).2, hdr, q1', q2, stx, ldnx, hYb, hset, partC, hq, l0]
      | some ns =>
        rw [hq] at q2 r2
        simp only [Option.getD_some, i64s_len] at hn2 r2
        have hn1 : ∀ k : Nat, ns.length ≠ k → ¬ (n2 : Int) = (k : Int) := fun k h => by
          rw [hq] at hn2
          simp [i64s_len] at hn2
          omega
        have hnn : n2 = ns.length := by rw [hq] at hn2; simpa [i64s_len] using hn2
        clear hn2
        have hn2 := hnn
        by_cases hr1 : h0 = kRun
        · subst hr1
          by_cases hl : ns.length = 1
          · obtain ⟨x, rfl⟩ := List.length_eq_one_iff.1 hl
            obtain ⟨b1, o1, rfl, l1, _⟩ := row_get r2 (k := 0) (x := .int .i64 x) rfl
            simp at l1 hn2
            subst hn2
            refine ⟨_, ?_, fin Y hXYe hYlt (.cells ⟨0, true, false⟩ [.int .i64 1, .int .i64 x, .int .i64 0])⟩
            rw [R_code P.h]
            cases bp with
            | false => simp [m61, hs, hp1, q1', q2, stx, ldnx, hYb, hset, partC, hq, l0, kRun, l1]
            | true => simp [m61, hs, hp1, (hp2 rfl).1, (hp2 rfl).2, hdr, q1', q2, stx, ldnx, hYb, hset, partC, hq, l0, kRun, l1]
          · have n1' := hn1 1 hl
            simp at n1'
            refine ⟨_, ?_, e10⟩
            rw [R_code P.h]
            cases bp with
            | false => simp [m61, hs, hp1, q1', q2, stx, ldnx, hYb, hset, partC, hq, l0, kRun, kSleep, kLock, hl, n1']
            | true => simp [m61, hs, hp1, (hp2 rfl).1, (hp2 rfl).2, hdr, q1', q2, stx, ldnx, hYb, hset, partC, hq, l0, kRun, kSleep, kLock, hl, n1']
        · by_cases hr2 : h0 = kSleep
          · subst hr2
            by_cases hl : ns.length = 1
            · obtain ⟨x, rfl⟩ := List.length_eq_one_iff.1 hl
              obtain ⟨b1, o1, rfl, l1, _⟩ := row_get r2 (k := 0) (x := .int .i64 x) rfl
              simp at l1 hn2
              subst hn2
              refine ⟨_, ?_, fin Y hXYe hYlt (.cells ⟨0, true, false⟩ [.int .i64 2, .int .i64 x, .int .i64 0])⟩
              rw [R_code P.h]
              cases bp with
              | false => simp [m61, hs, hp1, q1', q2, stx, ldnx, hYb, hset, partC, hq, l0, kRun, kSleep, l1]
              | true => simp [m61, hs, hp1, (hp2 rfl).1, (hp2 rfl).2, hdr, q1', q2, stx, ldnx, hYb, hset, partC, hq, l0, kRun, kSleep, l1]
            · have n1' := hn1 1 hl
              simp at n1'
              refine ⟨_, ?_, e10⟩
              rw [R_code P.h]
              cases bp with
              | false => simp [m61, hs, hp1, q1', q2, stx, ldnx, hYb, hset, partC, hq, l0, kRun, kSleep, kLock, hl, n1']
              | true => simp [m61, hs, hp1, (hp2 rfl).1, (hp2 rfl).2, hdr, q1', q2, stx, ldnx, hYb, hset, partC, hq, l0, kRun, kSleep, kLock, hl, n1']
          · have hr1' : ¬ h0 = [114, 117, 110] := hr1
            have hr2' : ¬ h0 = [115, 108, 101, 101, 112] := hr2
            by_cases hr3 : h0 = kLock
            · subst hr3
              by_cases hl : ns.length = 2
              · obtain ⟨x, y, rfl⟩ : ∃ x y, ns = [x, y] := by
                  match ns, hl with
                  | [x, y], _ => exact ⟨x, y, rfl⟩
                obtain ⟨b1, o1, rfl, l1, _⟩ := row_get r2 (k := 0) (x := .int .i64 x) rfl
                obtain ⟨b2, o2, e2, l2, _⟩ := row_get r2 (k := 1) (x := .int .i64 y) rfl
                cases e2
                simp at l1 l2 hn2
                subst hn2
                refine ⟨_, ?_, fin Y hXYe hYlt (.cells ⟨0, true, false⟩ [.int .i64 3, .int .i64 y, .int .i64 x])⟩
                rw [R_code P.h]
                cases bp with
                | false => simp [m61, hs, hp1, q1', q2, stx, ldnx, hYb, hset, partC, hq, l0, kRun, kSleep, kLock, l1, l2, mdraw_plain]
                | true => simp [m61, hs, hp1, (hp2 rfl).1, (hp2 rfl).2, hdr, q1', q2, stx, ldnx, hYb, hset, partC, hq, l0, kRun, kSleep, kLock, l1, l2, mdraw_plain]
              · have n1' := hn1 2 hl
                simp at n1'
                refine ⟨_, ?_, e10⟩
                rw [R_code P.h]
                cases bp with
                | false => simp [m61, hs, hp1, q1', q2, stx, ldnx, hYb, hset, partC, hq, l0, kRun, kSleep, kLock, hl, n1']
                | true => simp [m61, hs, hp1, (hp2 rfl).1, (hp2 rfl).2, hdr, q1', q2, stx, ldnx, hYb, hset, partC, hq, l0, kRun, kSleep, kLock, hl, n1']
            · have hr3' : ¬ h0 = [108, 111, 99, 107] := hr3
              refine ⟨_, ?_, e10⟩
              rw [R_code P.h]
              cases bp with
              | false => simp [m61, hs, hp1, q1', q2, stx, ldnx, hYb, hset, partC, hq, l0, kRun, kSleep, kLock, hr1', hr2', hr3']
              | true => simp [m61, hs, hp1, (hp2 rfl).1, (hp2 rfl).2, hdr, q1', q2, stx, ldnx, hYb, hset, partC, hq, l0, kRun, kSleep, kLock, hr1', hr2', hr3']
end
end Go.Mod

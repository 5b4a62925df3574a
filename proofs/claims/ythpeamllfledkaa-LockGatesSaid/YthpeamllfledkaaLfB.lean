/- LockFair: the model's side. -/
import Derived.Test.YthpeamllfledkaaLfA
set_option linter.unusedVariables false
set_option linter.unusedSimpArgs false
namespace Go.Mod
open Classical

section
variable {H : MH} {F : List Nat} {l : List Value}
theorem OwnO.shape {v x : Value} (h : OwnO v (x :: l) H F) : ∃ b o c, v = .slice (some ⟨b, o, none⟩) (l.length + 1) c := by
  rcases h with ⟨_, h, _⟩ | ⟨b, o, n, c, cs, rfl, hnc, hB, hcs, htk, rfl⟩
  · cases h
  · have hl := congrArg List.length htk
    simp at hl
    have hn : n = l.length + 1 := by omega
    subst hn
    exact ⟨b, o, c, rfl⟩
theorem OwnO.head {x : Value} {b o n c : Nat} (h : OwnO (.slice (some ⟨b, o, none⟩) n c) (x :: l) H F) (hx : one x = true) : mread (.ld none) [.pointer (some ⟨b, o, none⟩)] H = some x := by
  rcases h with ⟨h, _⟩ | ⟨b', o', n', c', cs, h, hnc, hB, hcs, htk, _⟩
  · cases h
  · cases h
    have : cs[o]? = some x := by
      have := congrArg (fun l => l[0]?) htk
      simp only [List.getElem?_cons_zero] at this
      rw [List.getElem?_take] at this
      split at this
      · simpa using this
      · cases this
    rw [ld_at hB, this]
    simp [knownO, one_unk hx]
theorem OwnO.sl1 {x : Value} {b o n c : Nat} (h : OwnO (.slice (some ⟨b, o, none⟩) (n + 1) c) (x :: l) H F) : mread (.sl 1 true false false) [.slice (some ⟨b, o, none⟩) (n + 1) c, .int .i64 1] H = some (.slice (some ⟨b, o + 1, none⟩) n (c - 1)) ∧ OwnO (.slice (some ⟨b, o + 1, none⟩) n (c - 1)) l H F := by
  rcases h with ⟨h, _⟩ | ⟨b', o', n', c', cs, h, hnc, hB, hcs, htk, hF⟩
  · cases h
  · cases h
    refine ⟨?_, .inr ⟨b, o + 1, n, c - 1, cs, rfl, by omega, hB, by omega, ?_, hF⟩⟩
    · rw [sl_at hB rfl]
      simp [slBound]
      omega
    · rw [← List.drop_drop]
      have := congrArg (List.drop 1) htk
      rw [List.drop_take] at this
      simpa using this
end
def barr (line : List Nat) : List Value := (List.range 6).map fun t => .bool (decide (t ∈ line))
def linI (line : List Nat) : List Int := line.map fun t : Nat => (t : Int)
theorem linI_one (line : List Nat) : (i64s (linI line)).all one = true := i64s_one _
theorem linI_len (line : List Nat) : (i64s (linI line)).length = line.length := by rw [i64s_len]; simp [linI]
theorem barr_at {line : List Nat} {t : Nat} (ht : t < 6) : (barr line)[t]? = some (.bool (decide (t ∈ line))) := by
  unfold barr; rw [List.getElem?_map, List.getElem?_range ht]; rfl
theorem barr_put {line line' : List Nat} {t : Nat} {b : Bool} (h : ∀ u, (u ∈ line') ↔ if u = t then b = true else u ∈ line) : (barr line).set t (.bool b) = barr line' := by
  apply List.ext_getElem?
  intro i
  by_cases hi : i < 6
  · rw [List.getElem?_set, barr_at hi]
    split
    · rename_i e; subst e
      rw [if_pos (by simp [barr]; exact hi)]
      have := h t
      rw [if_pos rfl] at this
      rw [barr_at hi]
      cases b
      · have hn : t ∉ line' := fun hm => by have := this.1 hm; cases this
        simp [hn]
      · have hm : t ∈ line' := this.2 rfl
        simp [hm]
    · rename_i hne
      rw [barr_at hi]
      have := h i
      rw [if_neg (fun e => hne e.symm)] at this
      simp [this]
  · rw [List.getElem?_eq_none (by simp [barr]; omega), List.getElem?_eq_none (by simp [barr]; omega)]
/-- The law's things side by side. -/
def FL (l : Nat) (s : SetL) (L : Lay) (x : LS) (lv : Value) (b5 : Nat) (lo la : List Nat) : List (MH → List Nat → Prop) := [LkS l s L x, OwnO lv (i64s (linI lo)), Pt b5 ⟨1, true, false⟩ (barr la)]
theorem FL.good {l : Nat} {s : SetL} {L : Lay} {x : LS} {lv : Value} {b5 : Nat} {lo la : List Nat} : ∀ P ∈ FL l s L x lv b5 lo la, Good P := by
  intro P hP
  simp only [FL, List.mem_cons, List.not_mem_nil, or_false] at hP
  rcases hP with rfl | rfl | rfl
  · exact LkS.good
  · exact OwnO.good
  · exact Pt.good
section
variable {H : MH} {F : List Nat} {l : Nat} {s : SetL} {L : Lay} {x : LS} {lv : Value} {b5 : Nat} {line lo la : List Nat} {h : Bool} {c : Int}
/-- Grant, Holder, Waiting. -/
theorem fair_tail (cs : CrowdS s 1 c) (hid : x.ts.map (·.id) = L.chs) (f : FairS x line h) (h0 : 0 ≤ x.cnt) (h1 : x.cnt < 1000000) (hS : Sep (FL l s L x lv b5 lo la) H F) :
    ∃ (gv : Value) (H1 H2 : MH) (F2 : List Nat) (y : LS) (wa : Option Addr) (wn wc : Nat), R mpLk 15 [.pointer (some ⟨l, 0, none⟩)] H = some (gv, H1) ∧ R mpLk 24 [.pointer (some ⟨l, 0, none⟩), .int .i64 0] H1 = some (.tuple #[.int .i64 ((line.headD 0 : Nat) : Int), .bool (!line.isEmpty)], H1) ∧
      R mpLk 25 [.pointer (some ⟨l, 0, none⟩)] H1 = some (.slice wa wn wc, H2) ∧ wn = line.length - 1 ∧ Sep (FL l s L y lv b5 lo la) H2 F2 ∧ FairS y line true ∧ Upd H F H2 F2 ∧ y.cnt = x.cnt ∧ y.ts = x.ts ∧ Sep (FL l s L y lv b5 lo la) H1 F2 := by
  obtain ⟨gv, H1, F1, p1, u1, e1⟩ := Sep.upd (ι := Value) (k := 0) (P' := fun _ => LkS l s L (grantF s x)) (C := fun v H' => R mpLk 15 [.pointer (some ⟨l, 0, none⟩)] H = some (v, H')) (fun _ => LkS.good) FL.good hS rfl (fun A hA _ => by
    obtain ⟨v, H', F', e, p, u, _⟩ := lk_grant lkP hA (f.ok cs hid h0 h1)
    exact ⟨v, H', F', p, u, e⟩)
  obtain ⟨g1, g2, g3⟩ := f.grant cs
  have p1 : Sep (FL l s L (grantF s x) lv b5 lo la) H1 F1 := p1
  obtain ⟨A, hA, _⟩ := Sep.at_ (k := 0) p1 rfl
  have V := LkV.of hA
  have hN : s.tasks.length ≤ 1000 := by rw [cs.len]; omega
  have e2 := R_holder (mp := mpLk) rfl rfl V hN 0
  obtain ⟨D, v', H2, d1, d2, e3, x3, r3⟩ := R_waiting (mp := mpLk) rfl rfl rfl rfl rfl rfl rfl rfl rfl rfl V (by
    have := waitL_len (grantF s x).ak
    rw [g1.len] at this
    have := f.len6; omega)
  obtain ⟨wa, wn, wc, rfl, hwl⟩ := r3.slice
  refine ⟨gv, H1, H2, F1, grantF s x, wa, wn, wc, e1, ?_, e3, ?_, Sep.ext FL.good p1 x3, g1, u1.trans (Upd.ext x3), g2, g3, p1⟩
  · rw [e2, cs.len]
    unfold holderV
    cases line with
    | nil => rw [g1.holder0]; rfl
    | cons t r =>
      obtain ⟨t', r', e, hh⟩ := g1.holder (by simp)
      cases e
      rw [hh]; rfl
  · rw [i64s_len, d2.length_eq, g1.wait] at hwl
    omega
theorem fl_arr {t : Nat} {b : Bool} {la' : List Nat} (hS : Sep (FL l s L x lv b5 lo la) H F) (ht : t < 6) (h : ∀ u, (u ∈ la') ↔ if u = t then b = true else u ∈ la) : ∃ H' F', meff (.st 1) [.pointer (some ⟨b5, t, none⟩), .bool b] H = some (.tuple #[], H') ∧ Sep (FL l s L x lv b5 lo la') H' F' ∧ Upd H F H' F' := by
  obtain ⟨_, H', F', p, u, c⟩ := Sep.upd (ι := Unit) (k := 2) (P' := fun _ => Pt b5 ⟨1, true, false⟩ (barr la')) (C := fun _ H' => meff (.st 1) [.pointer (some ⟨b5, t, none⟩), .bool b] H = some (.tuple #[], H')) (fun _ => Pt.good) FL.good hS rfl (fun A hA _ => by
    obtain ⟨rfl, hA⟩ := hA
    have hlt := (List.getElem?_eq_some_iff.1 hA).1
    refine ⟨(), _, [b5], ⟨rfl, List.getElem?_set_self hlt⟩, ⟨by simp, fun id _ hn => List.getElem?_set_ne (fun e => hn (by simp [e])), fun _ h => .inl h⟩, ?_⟩
    rw [st_at hA rfl t _ rfl (by simp [barr]; exact ht), barr_put h])
  exact ⟨H', F', c, p, u⟩
theorem fl_ld (hS : Sep (FL l s L x lv b5 lo la) H F) {t : Nat} (ht : t < 6) : mread (.ld none) [.pointer (some ⟨b5, t, none⟩)] H = some (.bool (decide (t ∈ la))) := by
  obtain ⟨_, ⟨_, hA⟩, _⟩ := Sep.at_ (k := 2) hS rfl
  rw [ld_at hA, barr_at ht]; rfl
theorem fl_head {b o n c : Nat} {t : Nat} {r : List Nat} (hS : Sep (FL l s L x (.slice (some ⟨b, o, none⟩) n c) b5 (t :: r) la) H F) : mread (.ld none) [.pointer (some ⟨b, o, none⟩)] H = some (.int .i64 (t : Int)) := by
  obtain ⟨_, hA, _⟩ := Sep.at_ (k := 1) hS rfl
  exact OwnO.head hA rfl
theorem fl_own (hS : Sep (FL l s L x lv b5 lo la) H F) : ∃ A, OwnO lv (i64s (linI lo)) H A := by
  obtain ⟨A, hA, _⟩ := Sep.at_ (k := 1) hS rfl
  exact ⟨A, hA⟩
theorem fl_sl {b o n c : Nat} {t : Nat} {r : List Nat} (hS : Sep (FL l s L x (.slice (some ⟨b, o, none⟩) (n + 1) c) b5 (t :: r) la) H F) : mread (.sl 1 true false false) [.slice (some ⟨b, o, none⟩) (n + 1) c, .int .i64 1] H = some (.slice (some ⟨b, o + 1, none⟩) n (c - 1)) ∧ Sep (FL l s L x (.slice (some ⟨b, o + 1, none⟩) n (c - 1)) b5 r la) H F := by
  obtain ⟨_, hA, _⟩ := Sep.at_ (k := 1) hS rfl
  exact ⟨(OwnO.sl1 hA).1, Sep.imp hS (k := 1) rfl fun A hA => (OwnO.sl1 hA).2⟩
theorem fl_push (hS : Sep (FL l s L x lv b5 lo la) H F) (t : Nat) (hl : lo.length ≤ 1000) : ∃ (a : Option Addr) (n c : Nat) (H' : MH) (F' : List Nat), meff (.app 1 8) [lv, .slice (some ⟨H.length, 0, none⟩) 1 1] (H ++ [.cells ⟨1, true, true⟩ [.int .i64 (t : Int)]]) = some (.slice a n c, H') ∧ Sep (FL l s L x (.slice a n c) b5 (lo ++ [t]) la) H' F' ∧ Upd H F H' F' := by
  obtain ⟨q, H', F', p, u, e⟩ := Sep.upd (ι := Option Addr × Nat × Nat) (k := 1) (P' := fun q => OwnO (.slice q.1 q.2.1 q.2.2) (i64s (linI (lo ++ [t])))) (C := fun q H' => meff (.app 1 8) [lv, .slice (some ⟨H.length, 0, none⟩) 1 1] (H ++ [.cells ⟨1, true, true⟩ [.int .i64 (t : Int)]]) = some (.slice q.1 q.2.1 q.2.2, H')) (fun _ => OwnO.good) FL.good hS rfl (fun A hA _ => by
    obtain ⟨a, n, c, H', F', e, p, u⟩ := hA.push (linI_one lo) (x := .int .i64 (t : Int)) rfl (by rw [linI_len]; omega)
    refine ⟨(a, n, c), H', F', ?_, u, e⟩
    have : i64s (linI lo) ++ [.int .i64 (t : Int)] = i64s (linI (lo ++ [t])) := by simp [i64s, linI]
    rw [← this]; exact p)
  exact ⟨q.1, q.2.1, q.2.2, H', F', e, p, u⟩
theorem fl_lk {y : LS} {Q : MH → Prop} (hS : Sep (FL l s L x lv b5 lo la) H F) (h : ∀ A, LkS l s L x H A → ∃ H' A', LkS l s L y H' A' ∧ Upd H A H' A' ∧ Q H') : ∃ H' F', Sep (FL l s L y lv b5 lo la) H' F' ∧ Upd H F H' F' ∧ Q H' := by
  obtain ⟨_, H', F', p, u, c⟩ := Sep.upd (ι := Unit) (k := 0) (P' := fun _ => LkS l s L y) (C := fun _ H' => Q H') (fun _ => LkS.good) FL.good hS rfl (fun A hA _ => by
    obtain ⟨H', A', p, u, q⟩ := h A hA
    exact ⟨(), H', A', p, u, q⟩)
  exact ⟨H', F', p, u, c⟩
end
end Go.Mod

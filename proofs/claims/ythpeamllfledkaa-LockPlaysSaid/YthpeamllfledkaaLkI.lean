/- One line: the plain law; slices that begin further on. -/
import Derived.Test.YthpeamllfledkaaLkH
set_option linter.unusedVariables false
set_option linter.unusedSimpArgs false
namespace Go.Mod
open Classical

/-! ### slices of one's own that begin further on -/
def OwnO (v : Value) (l : List Value) : HP := fun H F => (v = .slice none 0 0 ∧ l = [] ∧ F = []) ∨ ∃ b o n c cs, v = .slice (some ⟨b, o, none⟩) n c ∧ n ≤ c ∧ H[b]? = some (.cells ⟨1, true, false⟩ cs) ∧ cs.length = o + c ∧ (cs.drop o).take n = l ∧ F = [b]
theorem OwnO.good {v : Value} {l : List Value} : Good (OwnO v l) := by
  refine ⟨?_, ?_⟩
  · rintro H H' F (h | ⟨b, o, n, c, cs, h1, h2, h3, h4, h5, rfl⟩) hf
    · exact .inl h
    · exact .inr ⟨b, o, n, c, cs, h1, h2, by rw [hf b (by simp)]; exact h3, h4, h5, rfl⟩
  · rintro H F (⟨_, _, rfl⟩ | ⟨b, o, n, c, cs, h1, h2, h3, h4, h5, rfl⟩) id hid
    · cases hid
    · simp at hid; subst hid; exact (List.getElem?_eq_some_iff.1 h3).1
section
variable {H : MH} {F : List Nat} {v : Value} {l : List Value}
theorem OwnO.row (h : OwnO v l H F) : Row 1 H v l := by
  rcases h with ⟨h1, h2, _⟩ | ⟨b, o, n, c, cs, h1, h2, h3, h4, h5, _⟩
  · exact .inl ⟨h1, h2⟩
  · exact .inr ⟨b, o, n, c, _, cs, h1, h2, h3, rfl, by omega, by simpa using h5⟩
theorem OwnO.push (h : OwnO v l H F) (hl : l.all one = true) {x : Value} (hx : one x = true) (hb : l.length ≤ 1000000) : ∃ a n c H' F', meff (.app 1 8) [v, .slice (some ⟨H.length, 0, none⟩) 1 1] (H ++ [.cells ⟨1, true, true⟩ [x]]) = some (.slice a n c, H') ∧ OwnO (.slice a n c) (l ++ [x]) H' F' ∧ Upd H F H' F' := by
  have e1 : Ext H (H ++ [.cells ⟨1, true, true⟩ [x]]) := ⟨_, rfl⟩
  have hsrc : srcCells 1 (H ++ [.cells ⟨1, true, true⟩ [x]]) (.slice (some ⟨H.length, 0, none⟩) 1 1) = some (1, [x]) := by simp [srcCells]
  have hys : [x].all one = true := by simpa using hx
  rcases h with ⟨rfl, rfl, rfl⟩ | ⟨b, o, n, c, cs, rfl, hnc, hB, hcs, htk, rfl⟩
  · exact ⟨_, _, _, _, [(H ++ [MObj.cells ⟨1, true, true⟩ [x]]).length], app_nil hsrc (by omega) (by omega) (by omega), .inr ⟨_, 0, 1, 1, [x], rfl, Nat.le_refl _, by simp, by simp, by simp, rfl⟩, by
      rw [List.append_assoc]
      exact Upd.push fun id hid => .inr (by simp at hid; omega)⟩
  · have hlt := (List.getElem?_eq_some_iff.1 hB).1
    have hB1 := e1.get hB
    have hlen : l.length = n := by rw [← htk, List.length_take, List.length_drop]; omega
    by_cases hroom : n + 1 ≤ c
    · have hap := app_in (bytes := 8) (o := o) (len := n) (cap := c) hB1 hsrc (by omega) rfl hroom rfl (by omega) hys
      refine ⟨_, _, _, _, [b], hap, .inr ⟨b, o, n + 1, c, _, rfl, hroom, List.getElem?_set_self (by simp; omega), ?_, ?_, rfl⟩, ⟨by simp, fun id h1 h2 => ?_, fun id hid => .inl hid⟩⟩
      · rw [fillAt_len (by simp; omega)]; exact hcs
      · have hf : (o + n * 1) + [x].length ≤ cs.length := by simp; omega
        apply List.ext_getElem?
        intro q
        by_cases hq : q < n + 1
        · rw [List.getElem?_take_of_lt hq, List.getElem?_drop, fillAt_get hf]
          by_cases hqn : q < n
          · rw [if_pos (by omega), List.getElem?_append_left (by omega), ← htk, List.getElem?_take_of_lt hqn, List.getElem?_drop]
          · have : q = n := by omega
            subst this
            rw [if_neg (by omega), if_pos (by simp), List.getElem?_append_right (by omega), hlen]
            congr 1; omega
        · rw [List.getElem?_eq_none (by simp; omega), List.getElem?_eq_none (by simp; omega)]
      · simp at h2
        rw [List.getElem?_set_ne (Ne.symm h2), List.getElem?_append_left h1]
    · have hc : c = n := by omega
      have hap := app_mv (bytes := 8) (o := o) (len := n) (cap := c) hB1 hsrc (by omega) rfl hnc hroom (by omega) (by omega) rfl rfl (by omega) hys
      rw [Nat.mul_one, htk] at hap
      refine ⟨_, _, _, _, [(H ++ [MObj.cells ⟨1, true, true⟩ [x]]).length], hap, .inr ⟨_, 0, n + 1, n + 1, l ++ [x], rfl, Nat.le_refl _, ?_, by simp; omega, by rw [List.drop_zero, List.take_of_length_le (by simp; omega)], rfl⟩, ⟨by simp; omega, fun id h1 h2 => ?_, fun id hid => .inr (by simp at hid; omega)⟩⟩
      · rw [List.getElem?_append_right (by simp)]; simp
      · simp at h2
        rw [List.getElem?_append_left (by simp; omega), List.getElem?_set_ne (Ne.symm h2), List.getElem?_append_left h1]
theorem OwnO.tail {x : Value} (h : OwnO v (x :: l) H F) : ∃ a n c, v = .slice a (n + 1) c ∧ n = l.length ∧ (∀ k : IntKind, ∃ b o i cs, mpure (.ia 1) [v, .int k 0] = some (.pointer (some ⟨b, o, none⟩)) ∧ H[b]? = some (.cells i cs) ∧ cs[o]? = some x) ∧
    ∃ a' c', mread (.sl 1 true false false) [v, .int .i64 1] H = some (.slice a' n c') ∧ OwnO (.slice a' n c') l H F := by
  rcases h with ⟨_, h, _⟩ | ⟨b, o, n, c, cs, rfl, hnc, hB, hcs, htk, rfl⟩
  · cases h
  · have hl := congrArg List.length htk
    simp at hl
    have hn : n = l.length + 1 := by omega
    subst hn
    refine ⟨some ⟨b, o, none⟩, l.length, c, rfl, rfl, fun k => ⟨b, o, _, cs, ?_, hB, ?_⟩, some ⟨b, o + 1, none⟩, c - 1, ?_, .inr ⟨b, o + 1, l.length, c - 1, cs, rfl, by omega, hB, by omega, ?_, rfl⟩⟩
    · rw [ev_ia, if_pos (by omega)]; simp
    · have := congrArg (fun l => l[0]?) htk
      simpa using this
    · rw [sl_at hB rfl]
      simp [slBound]
      omega
    · rw [← List.drop_drop]
      have := congrArg (List.drop 1) htk
      rw [List.drop_take] at this
      simpa using this
end
theorem nodup_lt : ∀ (N : Nat) (l : List Nat), l.Nodup → (∀ x ∈ l, x < N) → l.length ≤ N
  | 0, l, _, h => by
    cases l with
    | nil => simp
    | cons x l => have := h x (by simp); omega
  | N + 1, l, hn, h => by
    by_cases hm : N ∈ l
    · have h1 := nodup_lt N (l.erase N) (hn.erase N) (fun x hx => by
        have := (hn.mem_erase_iff).1 hx
        have := h x this.2
        omega)
      rw [List.length_erase_of_mem hm] at h1
      omega
    · have := nodup_lt N l hn (fun x hx => by
        have := h x hx
        have : x ≠ N := fun e => hm (e ▸ hx)
        omega)
      omega

/-! ### what Grant does, apart from what was told -/
def unA (a : Ask) : Ask := { a with told := false }
theorem tellF_un : ∀ (k i : Nat) (ak : List Ask) (out : List Int), (tellF ak out i k).1.map unA = ak.map unA
  | 0, i, ak, out => rfl
  | k + 1, i, ak, out => by
    simp only [tellF]
    split
    · split
      · rw [tellF_un k (i + 1)]
        unfold updA
        rw [List.map_map]
        apply List.map_congr_left
        intro a _
        simp only [Function.comp]
        split <;> rfl
      · exact tellF_un k (i + 1) ak out
    · exact tellF_un k (i + 1) ak out
theorem selF_in {s : SetL} {ts : List Chn} {xs : List Int} : ∀ (wa : List Ask), (∀ a ∈ wa, a.isIn = true) → selF s ts xs wa = (ts, xs)
  | [], _ => rfl
  | a :: wa, h => by
    simp only [selF]
    rw [if_pos (h a (by simp))]
    exact selF_in wa fun b hb => h b (by simp [hb])
theorem letsF_in {s : SetL} {x : LS} (h : ∀ a ∈ waitA x.ak, a.isIn = true) : letsF s x = x := by
  unfold letsF
  rw [selF_in _ h]
  have : sortI [] = [] := by simp [sortI]
  simp only [this, putF]
theorem rankG_sorted {key : Ask → Int} : ∀ (wa : List Ask) (ps : List (Int × Int)), (∀ a ∈ wa, a.isIn = true) → wa.Pairwise (fun a b => key a ≤ key b) → (∀ p ∈ ps, ∀ a ∈ wa, p.1 ≤ key a) → rankG key ps wa = ps ++ wa.map fun a => (key a, (a.n : Int))
  | [], ps, _, _, _ => by simp [rankG]
  | a :: wa, ps, h1, h2, h3 => by
    obtain ⟨h4, h5⟩ := List.pairwise_cons.1 h2
    have hq : posR (key a) ps = ps.length := posR_of (Nat.le_refl _) (fun j p _ hp => h3 p (List.mem_of_getElem? hp) a (by simp)) (fun p hp => by rw [List.getElem?_eq_none (Nat.le_refl _)] at hp; cases hp)
    simp only [rankG]
    rw [if_pos (h1 a (by simp)), hq, putAt_end, rankG_sorted wa _ (fun b hb => h1 b (by simp [hb])) h5 (fun p hp b hb => by
      rcases List.mem_append.1 hp with hp | hp
      · exact h3 p hp b (by simp [hb])
      · simp at hp; subst hp; exact h4 b hb)]
    simp
def resN (ak : List Ask) (n : Int) : Int := match findA ak n with
  | some a => a.res
  | none => 0
/-- What is given, by groups. -/
theorem gives_spec {s : SetL} {key : Ask → Int} {x : LS} (hu : uniqA x.ak) (hN : ∀ a ∈ x.ak, a.n < s.tasks.length) (hr : ∀ a ∈ x.ak, 0 ≤ a.res ∧ a.res < (s.homes.length : Int)) :
    (givesF s key x).ak = x.ak.map fun a => if noneG (fun n => grpR s (resN x.ak n)) x.ak (grpR s a.res) ∧ (idsR (rankG key [] (waitA x.ak))).find? (fun m => decide (grpR s (resN x.ak m) = grpR s a.res)) = some (a.n : Int) then holdA a else a := by
  have hres : ∀ a ∈ x.ak, resN x.ak (a.n : Int) = a.res := fun a ha => by unfold resN; rw [uniq_find hu ha]
  have h := giveF_spec (free := freeF s) (κ := fun n => grpR s (resN x.ak n)) (idsR (rankG key [] (waitA x.ak))) x.ak hu (fun n hn => by
    rcases rankG_mem _ _ n hn with h | ⟨a, ha, e⟩
    · simp [idsR] at h
    · exact ⟨a, (List.mem_filter.1 ha).1, e⟩) (fun bk hbk a ha => by
      have hmap : ∀ {β : Type} (f : Nat × Int → β), bk.map (fun a => f (a.n, a.res)) = x.ak.map fun a => f (a.n, a.res) := fun f => by
        have := congrArg (List.map f) hbk
        rw [List.map_map, List.map_map] at this
        exact this
      have hub : uniqA bk := by unfold uniqA; rw [hmap Prod.fst]; exact hu
      have hmem : ∀ b ∈ bk, ∃ c ∈ x.ak, c.n = b.n ∧ c.res = b.res := fun b hb => by
        have : nrA b ∈ x.ak.map nrA := by rw [← hbk]; exact List.mem_map_of_mem hb
        obtain ⟨c, hc, e⟩ := List.mem_map.1 this
        exact ⟨c, hc, congrArg Prod.fst e, congrArg Prod.snd e⟩
      have hrb : ∀ b ∈ bk, resN x.ak (b.n : Int) = b.res := fun b hb => by
        obtain ⟨c, hc, e1, e2⟩ := hmem b hb
        rw [← e1, ← e2]; exact hres c hc
      rw [Bool.eq_iff_iff, freeF_iff hub (fun b hb => by obtain ⟨c, hc, e1, _⟩ := hmem b hb; rw [← e1]; exact hN c hc) (fun b hb => by obtain ⟨c, hc, _, e2⟩ := hmem b hb; rw [← e2]; exact hr c hc), decide_eq_true_iff]
      constructor
      · intro g b hb hh
        simp only [hrb b hb, hrb a ha]
        exact g b hb hh
      · intro g b hb hh
        have := g b hb hh
        simp only [hrb b hb, hrb a ha] at this
        exact this)
  show giveF (freeF s) x.ak _ = _
  rw [h]
  apply List.map_congr_left
  intro a ha
  simp only [hres a ha]
end Go.Mod

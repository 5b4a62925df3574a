/- LockGates: no more than there are cores are let in: the plain law. -/
import Derived.Test.YthpeamllfledkaaLgC
set_option linter.unusedVariables false
set_option linter.unusedSimpArgs false
namespace Go.Mod
open Classical

theorem rankG_filter {key : Ask → Int} : ∀ (wa : List Ask) (ps : List (Int × Int)), rankG key ps wa = rankG key ps (wa.filter fun a => a.isIn)
  | [], ps => rfl
  | a :: wa, ps => by
    by_cases h : a.isIn = true
    · rw [List.filter_cons_of_pos (by simpa using h)]
      simp only [rankG]
      exact rankG_filter wa _
    · rw [List.filter_cons_of_neg (by simpa using h)]
      simp only [rankG]
      rw [if_neg h]
      exact rankG_filter wa _
/-- The first place of a row where something is so. -/
theorem find_first {α : Type} {p : α → Bool} {l : List α} {a : α} {i : Nat} (hi : l[i]? = some a) (hp : p a = true) (hb : ∀ j b, j < i → l[j]? = some b → p b = false) : l.find? p = some a := by
  induction l generalizing i with
  | nil => simp at hi
  | cons x l ih =>
    cases i with
    | zero => simp at hi; subst hi; rw [List.find?_cons_of_pos hp]
    | succ i =>
      have := hb 0 x (by omega) rfl
      rw [List.find?_cons_of_neg (by simp [this])]
      exact ih (by simpa using hi) fun j b hj hl => hb (j + 1) b (by omega) (by simpa using hl)
theorem first_find {α : Type} {p : α → Bool} {l : List α} {a : α} (h : l.find? p = some a) : ∃ i : Nat, l[i]? = some a ∧ p a = true ∧ ∀ j b, j < i → l[j]? = some b → p b = false := by
  induction l with
  | nil => simp at h
  | cons x l ih =>
    by_cases hx : p x = true
    · rw [List.find?_cons_of_pos hx] at h
      cases h
      exact ⟨0, rfl, hx, fun j b hj => by omega⟩
    · rw [List.find?_cons_of_neg hx] at h
      obtain ⟨i, h1, h2, h3⟩ := ih h
      refine ⟨i + 1, by simpa using h1, h2, fun j b hj hb => ?_⟩
      cases j with
      | zero => simp at hb; subst hb; simpa using hx
      | succ j => exact h3 j b (by omega) (by simpa using hb)

/-- In order of asking the first m are in. -/
structure GtS (x : LS) (asked : List Nat) (c m : Nat) : Prop where
  n : x.ak.map (·.n) = asked
  nd : asked.Nodup
  lt : ∀ t ∈ asked, t < 6
  res : ∀ a ∈ x.ak, a.res = 0 ∨ a.res = 1
  inn : ∀ (i : Nat) a, x.ak[i]? = some a → a.isIn = decide (i < m)
  pl : ∀ (i j : Nat) a b, i < j → j < m → x.ak[i]? = some a → x.ak[j]? = some b → a.place < b.place
  le : ∀ (i : Nat) a, i < m → x.ak[i]? = some a → 1 ≤ a.place ∧ a.place ≤ x.cnt
  ml : m ≤ asked.length
  ts : ∃ c0 c1, x.ts = [c0, c1] ∧ c0.cnt = m ∧ c0.cap = c
  hh : ∀ (i : Nat) a, x.ak[i]? = some a → a.holds = true → i < m ∧ ∀ (j : Nat) b, j < i → x.ak[j]? = some b → b.res ≠ a.res
/-- Behind a grant. -/
def GtG (x : LS) (m : Nat) : Prop := ∀ (i : Nat) a, x.ak[i]? = some a → i < m → (∀ (j : Nat) b, j < i → x.ak[j]? = some b → b.res ≠ a.res) → a.holds = true
section
variable {s : SetL} {x : LS} {asked : List Nat} {c m : Nat}
theorem GtS.uniq (f : GtS x asked c m) : uniqA x.ak := by unfold uniqA; rw [f.n]; exact f.nd
theorem GtS.len (f : GtS x asked c m) : x.ak.length = asked.length := by have := congrArg List.length f.n; simpa using this
theorem GtS.len6 (f : GtS x asked c m) : asked.length ≤ 6 := nodup_lt 6 asked f.nd f.lt
theorem GtS.ltA (f : GtS x asked c m) : ∀ a ∈ x.ak, a.n < 6 := fun a ha => f.lt _ (by rw [← f.n]; exact List.mem_map_of_mem ha)
theorem GtS.ok (f : GtS x asked c m) {ci : Int} (cs : CrowdS s 3 ci) {L : Lay} (hid : x.ts.map (·.id) = L.chs) (h0 : 0 ≤ x.cnt) (h1 : x.cnt < 1000000) : LkOk s L x := by
  have h6 := f.len6
  obtain ⟨c0, c1, ht, _⟩ := f.ts
  refine ⟨f.uniq, by rw [f.len]; omega, fun a ha => by rw [cs.len]; exact f.ltA a ha, fun a ha => by rw [cs.homes]; rcases f.res a ha with h | h <;> rw [h] <;> simp, h0, h1, hid, by rw [cs.len]; omega, by rw [cs.homes]; simp, fun a ha _ => ?_⟩
  obtain ⟨t, h1, h2, _⟩ := cs.at (f.ltA a ha)
  exact ⟨t, c0, h1, by omega, by rw [ht, h2]; rfl⟩
/-- Who is let in. -/
theorem GtS.lets (f : GtS x asked c m) {ci : Int} (cs : CrowdS s 3 ci) (hm : m = min c asked.length ∨ (m + 1 = min c asked.length)) (hc0 : 0 ≤ x.cnt) : GtS (letsF s x) asked c (min c asked.length) ∧ (letsF s x).cnt = x.cnt + (min c asked.length - m : Nat) ∧ (letsF s x).ts.map (·.id) = x.ts.map (·.id) := by
  obtain ⟨c0, c1, ht, hk, hc⟩ := f.ts
  have hsplit : waitA x.ak = waitA (x.ak.take m) ++ x.ak.drop m := by
    have hB : waitA (x.ak.drop m) = x.ak.drop m := by
      unfold waitA
      rw [List.filter_eq_self]
      intro a ha
      obtain ⟨i, hi⟩ := List.mem_iff_getElem?.1 ha
      rw [List.getElem?_drop] at hi
      cases hh : a.holds with
      | false => rfl
      | true => have := (f.hh _ a hi hh).1; omega
    conv => lhs; rw [← List.take_append_drop m x.ak]
    unfold waitA at hB ⊢
    rw [List.filter_append, hB]
  have hA : ∀ (ts : List Chn) (xs : List Int) (B : List Ask), selF s ts xs (waitA (x.ak.take m) ++ B) = selF s ts xs B := by
    intro ts xs B
    have hin : ∀ a ∈ waitA (x.ak.take m), a.isIn = true := fun a ha => by
      obtain ⟨i, hi⟩ := List.mem_iff_getElem?.1 (List.mem_filter.1 ha).1
      have hil := (List.getElem?_eq_some_iff.1 hi).1
      rw [List.length_take] at hil
      rw [List.getElem?_take_of_lt (by omega)] at hi
      rw [f.inn i a hi]; simp; omega
    generalize waitA (x.ak.take m) = W at hin
    induction W with
    | nil => rfl
    | cons a W ih =>
      simp only [List.cons_append, selF]
      rw [if_pos (hin a (by simp))]
      exact ih fun b hb => hin b (by simp [hb])
  have hBin : ∀ a ∈ x.ak.drop m, a.isIn = false ∧ ∃ t, s.tasks[a.n]? = some t ∧ t.cluster = 0 := fun a ha => by
    obtain ⟨i, hi⟩ := List.mem_iff_getElem?.1 ha
    rw [List.getElem?_drop] at hi
    obtain ⟨t, h1, h2, _⟩ := cs.at (f.ltA a (List.mem_of_getElem? hi))
    exact ⟨by rw [f.inn _ a hi]; simp, t, h1, h2⟩
  have full : ∀ (B : List Ask) (d0 : Chn) (xs : List Int), (∀ a ∈ B, a.isIn = false ∧ ∃ t, s.tasks[a.n]? = some t ∧ t.cluster = 0) → ¬ d0.cnt < d0.cap → selF s [d0, c1] xs B = ([d0, c1], xs) := by
    intro B
    induction B with
    | nil => intro d0 xs _ _; rfl
    | cons a B ih =>
      intro d0 xs hB hd
      obtain ⟨h1, t, h2, h3⟩ := hB a (by simp)
      simp only [selF, h1, Bool.false_eq_true, if_false, h2, h3]
      simp [hd]
      exact ih d0 xs (fun b hb => hB b (by simp [hb])) hd
  have hlen := f.len
  by_cases hmm : m = min c asked.length
  · -- nobody
    have hsel : selF s x.ts [] (waitA x.ak) = (x.ts, []) := by
      rw [hsplit, hA, ht]
      by_cases hml : m = asked.length
      · rw [List.drop_of_length_le (by omega)]; rfl
      · exact full _ c0 [] hBin (by omega)
    have hL : letsF s x = x := by
      unfold letsF
      rw [hsel]
      have : sortI [] = [] := by simp [sortI]
      simp only [this, putF]
    rw [hL, ← hmm]
    exact ⟨f, by simp, rfl⟩
  · -- one
    have h1m : m + 1 = min c asked.length := hm.resolve_left hmm
    have hml : m < x.ak.length := by omega
    obtain ⟨a, ha⟩ : ∃ a, x.ak[m]? = some a := ⟨_, List.getElem?_eq_getElem hml⟩
    have hdr : x.ak.drop m = a :: x.ak.drop (m + 1) := by rw [List.drop_eq_getElem_cons hml]; congr 1; exact (List.getElem?_eq_some_iff.1 ha).2
    obtain ⟨g1, t, g2, g3⟩ := hBin a (by rw [hdr]; simp)
    have hsel : selF s x.ts [] (waitA x.ak) = ([{ c0 with cnt := m + 1 }, c1], [(a.n : Int)]) := by
      rw [hsplit, hA, ht, hdr]
      simp only [selF, g1, Bool.false_eq_true, if_false, g2, g3]
      have hroom : c0.cnt < c0.cap := by omega
      simp [hroom]
      rw [hk]
      by_cases hrest : x.ak.drop (m + 1) = []
      · rw [hrest]; rfl
      · refine full _ { c0 with cnt := m + 1 } _ (fun b hb => hBin b (by rw [hdr]; simp [hb])) ?_
        show ¬ m + 1 < c0.cap
        have : m + 1 < x.ak.length := by
          rcases Nat.lt_or_ge (m + 1) x.ak.length with h | h
          · exact h
          · exact absurd (List.drop_of_length_le h) hrest
        omega
    have hs1 : sortI [(a.n : Int)] = [(a.n : Int)] := by simp [sortI]
    have hL : letsF s x = ⟨x.cnt + 1, updA x.ak (a.n : Int) (inA (x.cnt + 1)), [{ c0 with cnt := m + 1 }, c1]⟩ := by
      unfold letsF
      rw [hsel]
      simp only [hs1, putF]
    have hup : updA x.ak (a.n : Int) (inA (x.cnt + 1)) = x.ak.set m (inA (x.cnt + 1) a) := updA_set f.uniq ha rfl
    rw [hL, hup, ← h1m]
    have hget : ∀ (i : Nat) b, (x.ak.set m (inA (x.cnt + 1) a))[i]? = some b → (i = m ∧ b = inA (x.cnt + 1) a) ∨ (i ≠ m ∧ x.ak[i]? = some b) := fun i b hb => by
      by_cases e : m = i
      · subst e
        rw [List.getElem?_set_self hml] at hb
        exact .inl ⟨rfl, (Option.some.inj hb).symm⟩
      · rw [List.getElem?_set_ne e] at hb
        exact .inr ⟨fun h => e h.symm, hb⟩
    refine ⟨⟨?_, f.nd, f.lt, fun b hb => ?_, fun i b hb => ?_, fun i j b d hij hj hb hd => ?_, fun i b hi hb => ?_, by omega, ⟨_, c1, rfl, rfl, hc⟩, fun i b hb hh => ?_⟩, by show x.cnt + 1 = x.cnt + ((m + 1 - m : Nat) : Int); omega, by rw [ht]; rfl⟩
    · show (x.ak.set m (inA (x.cnt + 1) a)).map (·.n) = asked
      exact (map_set_same (f := fun a : Ask => a.n) (x' := inA (x.cnt + 1) a) ha rfl).trans f.n
    · obtain ⟨i, hi⟩ := List.mem_iff_getElem?.1 hb
      rcases hget i b hi with ⟨_, rfl⟩ | ⟨_, h⟩
      · exact f.res a (List.mem_of_getElem? ha)
      · exact f.res b (List.mem_of_getElem? h)
    · rcases hget i b hb with ⟨rfl, rfl⟩ | ⟨hne, h⟩
      · simp [inA]
      · rw [f.inn i b h]
        have : (i < m) ↔ (i < m + 1) := by omega
        simp only [this]
    · rcases hget j d hd with ⟨rfl, rfl⟩ | ⟨hne, h⟩
      · rcases hget i b hb with ⟨h', _⟩ | ⟨_, h'⟩
        · omega
        · have := (f.le i b (by omega) h').2
          show b.place < x.cnt + 1
          omega
      · rcases hget i b hb with ⟨h', _⟩ | ⟨_, h'⟩
        · omega
        · exact f.pl i j b d hij (by omega) h' h
    · rcases hget i b hb with ⟨rfl, rfl⟩ | ⟨hne, h⟩
      · exact ⟨by show 1 ≤ x.cnt + 1; omega, Int.le_refl _⟩
      · have := f.le i b (by omega) h
        exact ⟨this.1, by show b.place ≤ x.cnt + 1; omega⟩
    · rcases hget i b hb with ⟨rfl, rfl⟩ | ⟨hne, h⟩
      · have := (f.hh i a ha hh).1; omega
      · obtain ⟨q1, q2⟩ := f.hh i b h hh
        refine ⟨by omega, fun j d hj hd => ?_⟩
        rcases hget j d hd with ⟨rfl, rfl⟩ | ⟨_, h'⟩
        · omega
        · exact q2 j d hj h'
theorem GtS.give (f : GtS x asked c m) {ci : Int} (cs : CrowdS s 3 ci) : GtS (givesF s (·.place) x) asked c m ∧ GtG (givesF s (·.place) x) m := by
  have hgr : ∀ r : Int, grpR s r = r := fun r => by unfold grpR; rw [if_neg (by rw [cs.proto]; omega)]
  have hN : ∀ a ∈ x.ak, a.n < s.tasks.length := fun a ha => by rw [cs.len]; exact f.ltA a ha
  have hsp := gives_spec (s := s) (key := (·.place)) (x := x) f.uniq hN (fun a ha => by rw [cs.homes]; rcases f.res a ha with h | h <;> rw [h] <;> simp)
  simp only [hgr] at hsp
  have hres : ∀ a ∈ x.ak, resN x.ak (a.n : Int) = a.res := fun a ha => by unfold resN; rw [uniq_find f.uniq ha]
  -- the order
  let q : Ask → Bool := fun a => !a.holds && a.isIn
  have hids : idsR (rankG (·.place) [] (waitA x.ak)) = (x.ak.filter q).map fun a => (a.n : Int) := by
    rw [rankG_filter]
    have e : (waitA x.ak).filter (fun a => a.isIn) = x.ak.filter q := by
      unfold waitA
      rw [List.filter_filter]
      apply List.filter_congr
      intro a _
      simp [q, Bool.and_comm]
    rw [e, rankG_sorted (key := fun a => a.place) (x.ak.filter q) [] (fun a ha => by have := (List.mem_filter.1 ha).2; simp [q] at this; exact this.2) ?_ (by simp)]
    · simp [idsR]
    · have h1 : (x.ak.filter fun a => a.isIn).Pairwise fun a b => a.place ≤ b.place := by
        have e2 : (x.ak.filter fun a => a.isIn) = x.ak.take m := by
          conv => lhs; rw [← List.take_append_drop m x.ak]
          rw [List.filter_append]
          have h2 : (x.ak.take m).filter (fun a => a.isIn) = x.ak.take m := by
            rw [List.filter_eq_self]
            intro a ha
            obtain ⟨i, hi⟩ := List.mem_iff_getElem?.1 ha
            have hil := (List.getElem?_eq_some_iff.1 hi).1
            rw [List.length_take] at hil
            rw [List.getElem?_take_of_lt (by omega)] at hi
            rw [f.inn i a hi]; simp; omega
          have h3 : (x.ak.drop m).filter (fun a => a.isIn) = [] := by
            rw [List.filter_eq_nil_iff]
            intro a ha
            obtain ⟨i, hi⟩ := List.mem_iff_getElem?.1 ha
            rw [List.getElem?_drop] at hi
            rw [f.inn _ a hi]; simp
          rw [h2, h3, List.append_nil]
        rw [e2, List.pairwise_iff_getElem]
        intro i j hi hj hij
        rw [List.length_take] at hi hj
        have hi' : x.ak[i]? = some ((x.ak.take m)[i]'(by rw [List.length_take]; exact hi)) := by rw [← List.getElem?_take_of_lt (show i < m by omega)]; exact List.getElem?_eq_getElem _
        have hj' : x.ak[j]? = some ((x.ak.take m)[j]'(by rw [List.length_take]; exact hj)) := by rw [← List.getElem?_take_of_lt (show j < m by omega)]; exact List.getElem?_eq_getElem _
        exact Int.le_of_lt (f.pl i j _ _ hij (by omega) hi' hj')
      have h4 : x.ak.filter q = (x.ak.filter fun a => a.isIn).filter fun a => !a.holds := by
        rw [List.filter_filter]
      rw [h4]
      exact h1.sublist List.filter_sublist
  rw [hids] at hsp
  have hfind : ∀ r : Int, ((x.ak.filter q).map fun a => (a.n : Int)).find? (fun n => decide (resN x.ak n = r)) = ((x.ak.find? fun a => q a && decide (a.res = r)).map fun a => (a.n : Int)) := fun r => by
    rw [List.find?_map, List.find?_filter]
    congr 1
    have key : ∀ l : List Ask, (∀ a ∈ l, a ∈ x.ak) → l.find? (fun a => q a && ((fun n => decide (resN x.ak n = r)) ∘ fun a : Ask => (a.n : Int)) a) = l.find? (fun a => q a && decide (a.res = r)) := by
      intro l
      induction l with
      | nil => intro _; rfl
      | cons a l ih =>
        intro h
        have ha : ((fun n => decide (resN x.ak n = r)) ∘ fun a : Ask => (a.n : Int)) a = decide (a.res = r) := by
          simp only [Function.comp]; rw [hres a (h a (by simp))]
        rw [List.find?_cons, List.find?_cons, ha, ih fun b hb => h b (by simp [hb])]
    have e : (fun a => decide (q a = true ∧ ((fun n => decide (resN x.ak n = r)) ∘ fun a : Ask => (a.n : Int)) a = true)) = fun a => q a && ((fun n => decide (resN x.ak n = r)) ∘ fun a : Ask => (a.n : Int)) a := by
      funext a; simp
    rw [e]
    exact key x.ak fun a h => h
  -- who holds behind it
  have hnew : ∀ (i : Nat) a, x.ak[i]? = some a → ((a.holds = true ∨ (noneG (fun n => resN x.ak n) x.ak a.res ∧ ((x.ak.find? fun b => q b && decide (b.res = a.res)).map fun a => (a.n : Int)) = some (a.n : Int))) ↔ (i < m ∧ ∀ (j : Nat) b, j < i → x.ak[j]? = some b → b.res ≠ a.res)) := fun i a hi => by
    have ham := List.mem_of_getElem? hi
    constructor
    · rintro (h | ⟨h1, h2⟩)
      · exact f.hh i a hi h
      · obtain ⟨b, hb, e⟩ := Option.map_eq_some_iff.1 h2
        obtain ⟨k, hk, hqb, hfirst⟩ := first_find hb
        have hki : k = i := map_inj_at f.uniq hk hi (by show b.n = a.n; omega)
        subst hki
        rw [hi] at hk; cases hk
        simp [q] at hqb
        have hin := f.inn k a hi
        rw [hqb.2] at hin
        refine ⟨of_decide_eq_true hin.symm, fun j d hj hd hr => ?_⟩
        have h3 := hfirst j d hj hd
        have hdn : d.holds = false := by
          cases hdh : d.holds with
          | false => rfl
          | true => exact absurd ((hres d (List.mem_of_getElem? hd)).trans hr) (h1 d (List.mem_of_getElem? hd) hdh)
        have hdi : d.isIn = true := by rw [f.inn j d hd]; have := of_decide_eq_true hin.symm; simp; omega
        simp [q, hdn, hdi] at h3
        exact h3 hr
    · rintro ⟨h1, h2⟩
      cases hah : a.holds with
      | true => exact .inl rfl
      | false =>
        refine .inr ⟨fun b hb hbh e => ?_, ?_⟩
        · have e : b.res = a.res := (hres b hb).symm.trans e
          obtain ⟨j, hj⟩ := List.mem_iff_getElem?.1 hb
          rcases Nat.lt_trichotomy j i with h | h | h
          · exact h2 j b h hj e
          · subst h; rw [hi] at hj; cases hj; rw [hah] at hbh; cases hbh
          · exact (f.hh j b hj hbh).2 i a h hi e.symm
        · rw [find_first (i := i) hi (by simp [q, hah, f.inn i a hi, h1]) fun j b hj hb => by
            have := h2 j b hj hb
            simp [this]]
          rfl
  have hcnt : (givesF s (·.place) x).cnt = x.cnt ∧ (givesF s (·.place) x).ts = x.ts := ⟨rfl, rfl⟩
  have hget : ∀ (i : Nat) b, (givesF s (·.place) x).ak[i]? = some b → ∃ a, x.ak[i]? = some a ∧ b.n = a.n ∧ b.res = a.res ∧ b.place = a.place ∧ b.isIn = a.isIn ∧ (b.holds = true ↔ (i < m ∧ ∀ (j : Nat) d, j < i → x.ak[j]? = some d → d.res ≠ a.res)) := fun i b hb => by
    rw [hsp, List.getElem?_map] at hb
    cases ha : x.ak[i]? with
    | none => rw [ha] at hb; cases hb
    | some a =>
      rw [ha] at hb
      have hb := Option.some.inj hb
      dsimp only at hb
      have hN := hnew i a ha
      rw [← hfind a.res] at hN
      refine ⟨a, rfl, ?_, ?_, ?_, ?_, ?_⟩
      · rw [← hb]; split <;> rfl
      · rw [← hb]; split <;> rfl
      · rw [← hb]; split <;> rfl
      · rw [← hb]; split <;> rfl
      · rw [← hN, ← hb]
        split
        · rename_i hc
          exact ⟨fun _ => .inr hc, fun _ => rfl⟩
        · rename_i hc
          exact ⟨fun h => .inl h, fun h => h.resolve_right hc⟩
  have hgn : ∀ (i : Nat), ((givesF s (·.place) x).ak[i]?).isSome = (x.ak[i]?).isSome := fun i => by rw [hsp, List.getElem?_map]; cases x.ak[i]? <;> rfl
  have hback : ∀ (j : Nat) d, x.ak[j]? = some d → ∃ e, (givesF s (·.place) x).ak[j]? = some e ∧ e.res = d.res := fun j d hd => by
    have := hgn j
    rw [hd] at this
    obtain ⟨e, he⟩ := Option.isSome_iff_exists.1 this
    obtain ⟨a, h1, _, h3, _⟩ := hget j e he
    rw [hd] at h1; cases h1
    exact ⟨e, he, h3⟩
  refine ⟨⟨?_, f.nd, f.lt, fun b hb => ?_, fun i b hb => ?_, fun i j b d hij hj hb hd => ?_, fun i b hi hb => ?_, f.ml, f.ts, fun i b hb hh => ?_⟩, fun i b hb h1 h2 => ?_⟩
  · rw [hsp, List.map_map, ← f.n]
    apply List.map_congr_left
    intro a _
    simp only [Function.comp]
    split <;> rfl
  · obtain ⟨i, hi⟩ := List.mem_iff_getElem?.1 hb
    obtain ⟨a, h1, _, h3, _⟩ := hget i b hi
    rw [h3]; exact f.res a (List.mem_of_getElem? h1)
  · obtain ⟨a, h1, _, _, _, h5, _⟩ := hget i b hb
    rw [h5]; exact f.inn i a h1
  · obtain ⟨a, h1, _, _, h4, _⟩ := hget i b hb
    obtain ⟨a', h1', _, _, h4', _⟩ := hget j d hd
    rw [h4, h4']; exact f.pl i j a a' hij hj h1 h1'
  · obtain ⟨a, h1, _, _, h4, _⟩ := hget i b hb
    rw [h4]; exact f.le i a hi h1
  · obtain ⟨a, h1, _, h3, _, _, h6⟩ := hget i b hb
    obtain ⟨q1, q2⟩ := h6.1 hh
    refine ⟨q1, fun j d hj hd => ?_⟩
    obtain ⟨a', h1', _, h3', _⟩ := hget j d hd
    rw [h3', h3]; exact q2 j a' hj h1'
  · obtain ⟨a, g1, _, g3, _, _, g6⟩ := hget i b hb
    refine g6.2 ⟨h1, fun j d hj hd => ?_⟩
    obtain ⟨e, he, her⟩ := hback j d hd
    rw [← her, ← g3]; exact h2 j e hj he
end
end Go.Mod

/- Who is given what: the plain law. -/
import Derived.Test.YthpeamllfledkaaLkK
set_option linter.unusedVariables false
set_option linter.unusedSimpArgs false
namespace Go.Mod
open Classical

def holdA (a : Ask) : Ask := { a with holds := true }
def nrA (a : Ask) : Nat × Int := (a.n, a.res)
theorem upd_one {ak : List Ask} {a : Ask} {n : Int} (hu : uniqA ak) (ha : a ∈ ak) (hn : (a.n : Int) = n) (f : Ask → Ask) : updA ak n f = ak.map fun b => if b.n = a.n then f b else b := by
  unfold updA
  apply List.map_congr_left
  intro b _
  by_cases h : b.n = a.n
  · rw [if_pos h, if_pos (by omega)]
  · rw [if_neg h, if_neg (by omega)]
/-- No one of the group holds. -/
def noneG (κ : Int → Int) (ak : List Ask) (k : Int) : Prop := ∀ b ∈ ak, b.holds = true → κ (b.n : Int) ≠ k
theorem giveF_spec {free : List Ask → Int → Bool} {κ : Int → Int} : ∀ (ids : List Int) (ak : List Ask), uniqA ak → (∀ n ∈ ids, ∃ a ∈ ak, (a.n : Int) = n) →
    (∀ bk : List Ask, bk.map nrA = ak.map nrA → ∀ a ∈ bk, free bk a.res = decide (noneG κ bk (κ (a.n : Int)))) →
    giveF free ak ids = ak.map fun a => if noneG κ ak (κ (a.n : Int)) ∧ ids.find? (fun m => decide (κ m = κ (a.n : Int))) = some (a.n : Int) then holdA a else a
  | [], ak, hu, hid, hf => by
    simp only [giveF, List.find?_nil]
    simp
  | n :: t, ak, hu, hid, hf => by
    obtain ⟨a0, ha0, hn0⟩ := hid n (by simp)
    have hfa : findA ak n = some a0 := by rw [← hn0]; exact uniq_find hu ha0
    have hfr := hf ak rfl a0 ha0
    simp only [giveF]
    by_cases hg : noneG κ ak (κ (a0.n : Int))
    · -- given
      have h1 : giveOne free ak n = ak.map fun b => if b.n = a0.n then holdA b else b := by
        unfold giveOne
        rw [hfa]
        simp only [hfr, hg, decide_true, if_true]
        exact upd_one hu ha0 hn0 _
      have hnr : (giveOne free ak n).map nrA = ak.map nrA := by
        rw [h1, List.map_map]
        apply List.map_congr_left
        intro b _
        simp only [Function.comp]
        split <;> rfl
      have hmem : ∀ b, b ∈ giveOne free ak n ↔ ∃ c ∈ ak, b = if c.n = a0.n then holdA c else c := fun b => by
        rw [h1, List.mem_map]
        exact ⟨fun ⟨c, h, e⟩ => ⟨c, h, e.symm⟩, fun ⟨c, h, e⟩ => ⟨c, h, e.symm⟩⟩
      have hnn : ∀ c : Ask, (if c.n = a0.n then holdA c else c).n = c.n := fun c => by split <;> rfl
      have hng : ∀ k, noneG κ (giveOne free ak n) k ↔ noneG κ ak k ∧ k ≠ κ (a0.n : Int) := fun k => by
        constructor
        · intro h
          refine ⟨fun b hb hh => ?_, fun e => ?_⟩
          · have := h _ ((hmem _).2 ⟨b, hb, rfl⟩) (by split <;> first | rfl | exact hh)
            rwa [hnn] at this
          · have := h _ ((hmem _).2 ⟨a0, ha0, rfl⟩) (by rw [if_pos rfl]; rfl)
            rw [hnn] at this
            exact this e.symm
        · rintro ⟨h2, h3⟩ b hb hh
          obtain ⟨c, hc, rfl⟩ := (hmem b).1 hb
          rw [hnn]
          by_cases hc0 : c.n = a0.n
          · rw [hc0]; exact fun e => h3 e.symm
          · rw [if_neg hc0] at hh
            exact h2 c hc hh
      have hu1 : uniqA (giveOne free ak n) := by unfold uniqA; rw [giveOne_n]; exact hu
      rw [giveF_spec t (giveOne free ak n) hu1 (fun m hm => by
        obtain ⟨c, hc, e⟩ := hid m (by simp [hm])
        exact ⟨_, (hmem _).2 ⟨c, hc, rfl⟩, by rw [hnn]; exact e⟩) (fun bk hbk => hf bk (hbk.trans hnr)), h1, List.map_map]
      apply List.map_congr_left
      intro c hc
      simp only [Function.comp]
      have e1 : ((if c.n = a0.n then holdA c else c).n : Int) = (c.n : Int) := by rw [hnn]
      rw [e1, ← h1]
      by_cases hk : κ (c.n : Int) = κ (a0.n : Int)
      · have hn1 : ¬ noneG κ (giveOne free ak n) (κ (c.n : Int)) := fun h => ((hng _).1 h).2 hk
        rw [if_neg (fun h => hn1 h.1)]
        rw [List.find?_cons_of_pos (by simp [← hn0, hk])]
        by_cases hc0 : c.n = a0.n
        · rw [if_pos hc0, if_pos ⟨by rw [hk]; exact hg, by rw [hc0, hn0]⟩]
        · rw [if_neg hc0, if_neg (fun h => hc0 (by have := Option.some.inj h.2; omega))]
      · have hc0 : ¬ c.n = a0.n := fun e => hk (by rw [e])
        rw [if_neg hc0, List.find?_cons_of_neg (by rw [← hn0]; simpa using fun e => hk e.symm)]
        have : noneG κ (giveOne free ak n) (κ (c.n : Int)) ↔ noneG κ ak (κ (c.n : Int)) := by rw [hng]; exact ⟨fun h => h.1, fun h => ⟨h, hk⟩⟩
        simp only [this]
    · -- not free
      have h1 : giveOne free ak n = ak := by
        unfold giveOne
        rw [hfa]
        simp [hfr, hg]
      rw [h1, giveF_spec t ak hu (fun m hm => hid m (by simp [hm])) hf]
      apply List.map_congr_left
      intro c hc
      by_cases hk : κ (c.n : Int) = κ (a0.n : Int)
      · have hn1 : ¬ noneG κ ak (κ (c.n : Int)) := by rw [hk]; exact hg
        rw [if_neg (fun h => hn1 h.1), if_neg (fun h => hn1 h.1)]
      · rw [List.find?_cons_of_neg (by rw [← hn0]; simpa using fun e => hk e.symm)]

/-! ### who holds, of all -/
theorem firstN_some {p : Nat → Bool} : ∀ (k i n : Nat), firstN p i k = some n → i ≤ n ∧ n < i + k ∧ p n = true ∧ ∀ j, i ≤ j → j < n → p j = false
  | 0, i, n, h => by simp [firstN] at h
  | k + 1, i, n, h => by
    simp only [firstN] at h
    split at h
    · rename_i hp
      cases h
      exact ⟨Nat.le_refl _, by omega, hp, fun j a b => by omega⟩
    · rename_i hp
      obtain ⟨h1, h2, h3, h4⟩ := firstN_some k (i + 1) n h
      refine ⟨by omega, by omega, h3, fun j a b => ?_⟩
      rcases Nat.lt_or_ge j (i + 1) with h | h
      · have : j = i := by omega
        subst this; simpa using hp
      · exact h4 j h b
theorem firstN_none {p : Nat → Bool} : ∀ (k i : Nat), firstN p i k = none ↔ ∀ j, i ≤ j → j < i + k → p j = false
  | 0, i => by simp [firstN]; omega
  | k + 1, i => by
    simp only [firstN]
    split
    · rename_i hp
      simp
      exact ⟨i, Nat.le_refl _, by omega, hp⟩
    · rename_i hp
      rw [firstN_none k (i + 1)]
      constructor
      · intro h j a b
        rcases Nat.lt_or_ge j (i + 1) with h' | h'
        · have : j = i := by omega
          subst this; simpa using hp
        · exact h j h' (by omega)
      · intro h j a b
        exact h j (by omega) (by omega)
theorem holdsR_iff {ak : List Ask} (hu : uniqA ak) {res : Int} {n : Nat} : holdsR ak res n = true ↔ ∃ a ∈ ak, a.n = n ∧ a.holds = true ∧ a.res = res := by
  unfold holdsR
  constructor
  · intro h
    cases hfa : findA ak (n : Int) with
    | none => rw [hfa] at h; simp at h
    | some a =>
      rw [hfa] at h
      obtain ⟨h1, h2⟩ := findA_mem hfa
      simp at h
      exact ⟨a, h1, by omega, h⟩
  · rintro ⟨a, ha, rfl, h1, h2⟩
    rw [uniq_find hu ha]
    simp [h1, h2]
theorem holderF_none {ak : List Ask} {N : Nat} {res : Int} (hu : uniqA ak) (hN : ∀ a ∈ ak, a.n < N) : holderF ak N res = none ↔ ∀ a ∈ ak, a.holds = true → a.res ≠ res := by
  unfold holderF
  rw [firstN_none]
  constructor
  · intro h a ha hh e
    have := h a.n (Nat.zero_le _) (by have := hN a ha; omega)
    rw [(holdsR_iff hu).2 ⟨a, ha, rfl, hh, e⟩] at this
    cases this
  · intro h j _ hj
    cases hb : holdsR ak res j with
    | false => rfl
    | true =>
      obtain ⟨a, ha, _, h1, h2⟩ := (holdsR_iff hu).1 hb
      exact absurd h2 (h a ha h1)
theorem holderF_isSome {ak : List Ask} {N : Nat} {res : Int} (hu : uniqA ak) (hN : ∀ a ∈ ak, a.n < N) : (holderF ak N res).isSome = true ↔ ∃ a ∈ ak, a.holds = true ∧ a.res = res := by
  rw [Option.isSome_iff_ne_none, Ne, holderF_none hu hN]
  constructor
  · intro h
    exact Classical.byContradiction fun h' => h fun a ha hh e => h' ⟨a, ha, hh, e⟩
  · rintro ⟨a, ha, hh, e⟩ h
    exact h a ha hh e
theorem servesF_iff {ak : List Ask} {N : Nat} {cl : Int} : ∀ (hs : List Int) (i : Nat), servesF ak N cl i hs = true ↔ ∃ j, ∃ h, hs[j]? = some h ∧ h = cl ∧ (holderF ak N ((i + j : Nat) : Int)).isSome = true
  | [], i => by simp [servesF]
  | h :: t, i => by
    simp only [servesF, Bool.or_eq_true, Bool.and_eq_true, decide_eq_true_eq]
    rw [servesF_iff t (i + 1)]
    constructor
    · rintro (⟨h1, h2⟩ | ⟨j, y, h1, h2, h3⟩)
      · exact ⟨0, h, rfl, h2, by simpa using h1⟩
      · exact ⟨j + 1, y, by simpa using h1, h2, by rw [show i + (j + 1) = i + 1 + j by omega]; exact h3⟩
    · rintro ⟨j, y, h1, h2, h3⟩
      cases j with
      | zero => simp at h1; subst h1; exact .inl ⟨by simpa using h3, h2⟩
      | succ j => exact .inr ⟨j, y, by simpa using h1, h2, by rw [show i + 1 + j = i + (j + 1) by omega]; exact h3⟩
/-- The group of a resource. -/
def grpR (s : SetL) (res : Int) : Int := if s.proto = 2 then s.homes.getD res.toNat 0 else res
theorem freeF_iff {s : SetL} {ak : List Ask} (hu : uniqA ak) (hN : ∀ a ∈ ak, a.n < s.tasks.length) (hr : ∀ a ∈ ak, 0 ≤ a.res ∧ a.res < (s.homes.length : Int)) {res : Int} : freeF s ak res = true ↔ ∀ a ∈ ak, a.holds = true → grpR s a.res ≠ grpR s res := by
  unfold freeF grpR
  by_cases hp : s.proto = 2
  · simp only [hp, if_true, Bool.not_eq_true']
    rw [← Bool.not_eq_true, servesF_iff]
    constructor
    · intro h a ha hh e
      obtain ⟨h0, h1⟩ := hr a ha
      have hl : a.res.toNat < s.homes.length := by omega
      refine h ⟨a.res.toNat, s.homes[a.res.toNat], List.getElem?_eq_getElem hl, ?_, ?_⟩
      · rw [← e, List.getD_eq_getElem?_getD, List.getElem?_eq_getElem hl]; rfl
      · rw [holderF_isSome hu hN]
        exact ⟨a, ha, hh, by omega⟩
    · rintro h ⟨j, y, h1, h2, h3⟩
      rw [holderF_isSome hu hN] at h3
      obtain ⟨a, ha, hh, e⟩ := h3
      refine h a ha hh ?_
      rw [e, ← h2, List.getD_eq_getElem?_getD]
      simp [h1]
  · simp only [hp, if_false, Bool.not_eq_true']
    rw [← Bool.not_eq_true, holderF_isSome hu hN]
    constructor
    · intro h a ha hh e; exact h ⟨a, ha, hh, e⟩
    · rintro h ⟨a, ha, hh, e⟩; exact h a ha hh e
end Go.Mod

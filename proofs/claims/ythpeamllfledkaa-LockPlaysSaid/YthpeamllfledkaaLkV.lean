/- Who holds: what stays true, whatever is asked, left, granted. -/
import Derived.Test.YthpeamllfledkaaLkJ
set_option linter.unusedVariables false
set_option linter.unusedSimpArgs false
namespace Go.Mod
open Classical

structure SetB (s : SetL) : Prop where
  nc : s.cores.length ≤ 3
  nh : s.homes.length ≤ 4
  nt : s.tasks.length ≤ 6
  cap : ∀ k ∈ s.cores, 1 ≤ k ∧ k ≤ 3
  home : ∀ h ∈ s.homes, 0 ≤ h ∧ h < (s.cores.length : Int)
  cl : ∀ t ∈ s.tasks, 0 ≤ t.cluster ∧ t.cluster < (s.cores.length : Int)

def clA (s : SetL) (a : Ask) : Nat := match s.tasks[a.n]? with
  | some t => t.cluster.toNat
  | none => 0
def inP (s : SetL) (c : Nat) (a : Ask) : Bool := a.isIn && decide (clA s a = c)
/-- How many of a cluster are in. -/
def inC (s : SetL) (ak : List Ask) (c : Nat) : Nat := (ak.filter (inP s c)).length
structure LkInv (s : SetL) (x : LS) : Prop where
  uniq : uniqA x.ak
  n : ∀ a ∈ x.ak, a.n < s.tasks.length
  res : ∀ a ∈ x.ak, 0 ≤ a.res ∧ a.res < (s.homes.length : Int)
  cnt : 0 ≤ x.cnt
  inn : s.proto ≠ 3 → ∀ a ∈ x.ak, a.isIn = true
  pin : ∀ a ∈ x.ak, a.isIn = true → 1 ≤ a.place ∧ a.place ≤ x.cnt
  pout : ∀ a ∈ x.ak, a.isIn = false → a.place = 0 ∧ a.holds = false
  one : ∀ a ∈ x.ak, ∀ b ∈ x.ak, a.holds = true → b.holds = true → grpR s a.res = grpR s b.res → a.n = b.n
  tok : s.proto = 3 → ∀ (c : Nat) k, s.cores[c]? = some k → ∃ ch, x.ts[c]? = some ch ∧ (ch.cap : Int) = k ∧ ch.cnt = inC s x.ak c

section
variable {s : SetL} {x : LS}
theorem uniq_len {ak : List Ask} {N : Nat} (hu : uniqA ak) (h : ∀ a ∈ ak, a.n < N) : ak.length ≤ N := by
  have := nodup_lt N (ak.map (fun a : Ask => a.n)) hu (fun n hn => by
    obtain ⟨a, ha, e⟩ := List.mem_map.1 hn
    rw [← e]; exact h a ha)
  simpa using this
theorem LkInv.task (v : LkInv s x) {a : Ask} (ha : a ∈ x.ak) : ∃ t, s.tasks[a.n]? = some t := ⟨_, List.getElem?_eq_getElem (v.n a ha)⟩
theorem cl_lt (b : SetB s) {a : Ask} {t : TaskL} (ht : s.tasks[a.n]? = some t) : clA s a = t.cluster.toNat ∧ 0 ≤ t.cluster ∧ clA s a < s.cores.length := by
  obtain ⟨h1, h2⟩ := b.cl t (List.mem_of_getElem? ht)
  have : clA s a = t.cluster.toNat := by unfold clA; rw [ht]
  refine ⟨this, h1, by rw [this]; omega⟩
theorem LkInv.ok (v : LkInv s x) (b : SetB s) {L : Lay} (hid : x.ts.map (·.id) = L.chs) (hc : x.cnt < 1000000) : LkOk s L x := by
  have hn := b.nt
  have hh := b.nh
  refine ⟨v.uniq, by have := uniq_len v.uniq v.n; omega, v.n, v.res, v.cnt, hc, hid, by omega, by omega, fun a ha hi => ?_⟩
  obtain ⟨t, ht⟩ := v.task ha
  obtain ⟨h1, h2, h3⟩ := cl_lt b ht
  by_cases hp : s.proto = 3
  · obtain ⟨ch, e, _⟩ := v.tok hp (clA s a) _ (List.getElem?_eq_getElem h3)
    exact ⟨t, ch, ht, h2, by rw [← h1]; exact e⟩
  · rw [v.inn hp a ha] at hi; cases hi

/-! ### one more asks -/
theorem find_none {ak : List Ask} {n : Int} (h : findA ak n = none) : ∀ a ∈ ak, (a.n : Int) ≠ n := fun a ha e => by
  unfold findA at h
  have := List.find?_eq_none.1 h a ha
  simp at this; exact this e
theorem LkInv.ask (v : LkInv s x) {n : Nat} {res : Int} (hn : n < s.tasks.length) (hr : 0 ≤ res ∧ res < (s.homes.length : Int)) (hx : findA x.ak (n : Int) = none) (p : Nat) :
    LkInv s ⟨newCnt s x.cnt, x.ak ++ [newA s x.cnt n res p], x.ts⟩ := by
  have hnn := find_none hx
  have hA : (newA s x.cnt n res p).n = n ∧ (newA s x.cnt n res p).res = res ∧ (newA s x.cnt n res p).holds = false := by unfold newA; split <;> simp
  have hmem : ∀ a ∈ x.ak ++ [newA s x.cnt n res p], a ∈ x.ak ∨ a = newA s x.cnt n res p := fun a ha => by simpa using ha
  have hc0 := v.cnt
  have hcn : x.cnt ≤ newCnt s x.cnt := by unfold newCnt; split <;> omega
  refine ⟨?_, fun a ha => ?_, fun a ha => ?_, by show 0 ≤ newCnt s x.cnt; omega, fun hp a ha => ?_, fun a ha hi => ?_, fun a ha hi => ?_, fun a ha b hb h1 h2 h3 => ?_, fun hp c k hk => ?_⟩
  · unfold uniqA
    rw [List.map_append, List.nodup_append]
    refine ⟨v.uniq, by simp, fun a ha b hb e => ?_⟩
    simp [hA.1] at hb
    subst hb
    obtain ⟨d, hd, e'⟩ := List.mem_map.1 ha
    exact hnn d hd (by omega)
  · rcases hmem a ha with h | rfl
    · exact v.n a h
    · rw [hA.1]; exact hn
  · rcases hmem a ha with h | rfl
    · exact v.res a h
    · rw [hA.2.1]; exact hr
  · rcases hmem a ha with h | rfl
    · exact v.inn hp a h
    · simp [newA, hp]
  · rcases hmem a ha with h | rfl
    · have := v.pin a h hi; exact ⟨this.1, by show a.place ≤ newCnt s x.cnt; omega⟩
    · by_cases hp : s.proto = 3
      · simp [newA, hp] at hi
      · simp [newA, newCnt, hp]; omega
  · rcases hmem a ha with h | rfl
    · exact v.pout a h hi
    · by_cases hp : s.proto = 3
      · simp [newA, hp]
      · simp [newA, hp] at hi
  · rcases hmem a ha with h | rfl
    · rcases hmem b hb with h' | rfl
      · exact v.one a h b h' h1 h2 h3
      · rw [hA.2.2] at h2; cases h2
    · rw [hA.2.2] at h1; cases h1
  · obtain ⟨ch, e1, e2, e3⟩ := v.tok hp c k hk
    refine ⟨ch, e1, e2, ?_⟩
    rw [e3]
    show inC s x.ak c = inC s (x.ak ++ [newA s x.cnt n res p]) c
    unfold inC
    rw [List.filter_append]
    have : inP s c (newA s x.cnt n res p) = false := by simp [inP, newA, hp]
    simp [this]

/-! ### one leaves -/
theorem drop_count {p : Ask → Bool} : ∀ {ak : List Ask} {a : Ask}, uniqA ak → a ∈ ak → (ak.filter p).length = ((dropA ak (a.n : Int)).filter p).length + if p a = true then 1 else 0
  | [], a, _, h => by cases h
  | d :: ak, a, hu, h => by
    obtain ⟨h1, h2⟩ := uniq_tail hu
    rw [dropA_cons]
    rcases List.mem_cons.1 h with rfl | h
    · rw [if_pos rfl, dropA_none h2]
      by_cases hp : p a = true
      · rw [List.filter_cons_of_pos hp, if_pos hp]; rfl
      · rw [List.filter_cons_of_neg hp, if_neg hp]; rfl
    · have hne : ¬ (d.n : Int) = (a.n : Int) := fun e => h2 a h e.symm
      rw [if_neg hne]
      have ih := drop_count (p := p) h1 h
      by_cases hp : p d = true
      · rw [List.filter_cons_of_pos hp, List.filter_cons_of_pos hp, List.length_cons, List.length_cons]; omega
      · rw [List.filter_cons_of_neg hp, List.filter_cons_of_neg hp]; exact ih
theorem LkInv.leave (v : LkInv s x) (b : SetB s) {a : Ask} (ha : a ∈ x.ak) : LkInv s ⟨x.cnt, dropA x.ak (a.n : Int), backT s a x.ts⟩ := by
  have hmem : ∀ d ∈ dropA x.ak (a.n : Int), d ∈ x.ak := fun d hd => (List.mem_filter.1 hd).1
  refine ⟨dropA_uniq v.uniq, fun d hd => v.n d (hmem d hd), fun d hd => v.res d (hmem d hd), v.cnt, fun hp d hd => v.inn hp d (hmem d hd), fun d hd => v.pin d (hmem d hd), fun d hd => v.pout d (hmem d hd), fun d hd e he => v.one d (hmem d hd) e (hmem e he), fun hp c k hk => ?_⟩
  obtain ⟨ch, e1, e2, e3⟩ := v.tok hp c k hk
  have hcount := drop_count (p := inP s c) v.uniq ha
  obtain ⟨t, ht⟩ := v.task ha
  obtain ⟨h1, h2, h3⟩ := cl_lt b ht
  show ∃ ch, (backT s a x.ts)[c]? = some ch ∧ (ch.cap : Int) = k ∧ ch.cnt = inC s (dropA x.ak (a.n : Int)) c
  unfold inC at e3 ⊢
  by_cases hi : a.isIn = true
  · by_cases hc : clA s a = c
    · have hp1 : inP s c a = true := by simp [inP, hi, hc]
      rw [if_pos hp1] at hcount
      refine ⟨{ ch with cnt := ch.cnt - 1 }, ?_, e2, by show ch.cnt - 1 = _; omega⟩
      unfold backT
      rw [if_pos ⟨hp, hi⟩, ht]
      simp only []
      rw [← h1, hc, e1]
      simp only []
      rw [List.getElem?_set_self (List.getElem?_eq_some_iff.1 e1).1]
    · have hp1 : inP s c a = false := by simp [inP, hc]
      rw [hp1] at hcount
      simp at hcount
      refine ⟨ch, ?_, e2, by omega⟩
      unfold backT
      rw [if_pos ⟨hp, hi⟩, ht]
      simp only []
      rw [← h1]
      cases hx : x.ts[clA s a]? with
      | none => exact e1
      | some d =>
        simp only []
        rw [List.getElem?_set_ne hc]; exact e1
  · have hp1 : inP s c a = false := by simp [inP, hi]
    rw [hp1] at hcount
    simp at hcount
    refine ⟨ch, ?_, e2, by omega⟩
    unfold backT
    rw [if_neg fun h => hi h.2]; exact e1

/-! ### what is given -/
theorem LkInv.gives (v : LkInv s x) {key : Ask → Int} : LkInv s (givesF s key x) := by
  have hsp := gives_fin (s := s) (key := key) v.uniq v.n v.res
  have hf : ∀ a : Ask, (if finA s key x.ak a then holdA a else a).n = a.n ∧ (if finA s key x.ak a then holdA a else a).res = a.res ∧ (if finA s key x.ak a then holdA a else a).isIn = a.isIn ∧ (if finA s key x.ak a then holdA a else a).place = a.place := fun a => by split <;> simp [holdA]
  have hmem : ∀ d ∈ (givesF s key x).ak, ∃ a ∈ x.ak, d = if finA s key x.ak a then holdA a else a := fun d hd => by
    rw [hsp] at hd
    obtain ⟨a, ha, e⟩ := List.mem_map.1 hd
    exact ⟨a, ha, e.symm⟩
  have hin : ∀ a, finA s key x.ak a → a ∈ x.ak ∧ a.holds = false ∧ a.isIn = true := fun a h => by
    have := List.mem_filter.1 (fmin_mem h.2)
    simp at this
    exact ⟨this.1, this.2.1, this.2.2⟩
  refine ⟨?_, fun d hd => ?_, fun d hd => ?_, v.cnt, fun hp d hd => ?_, fun d hd hi => ?_, fun d hd hi => ?_, fun d hd e he g1 g2 g3 => ?_, fun hp c k hk => ?_⟩
  · unfold uniqA
    rw [hsp, List.map_map]
    have : ((fun a : Ask => a.n) ∘ fun a => if finA s key x.ak a then holdA a else a) = fun a => a.n := by funext a; exact (hf a).1
    rw [this]; exact v.uniq
  · obtain ⟨a, ha, rfl⟩ := hmem d hd
    rw [(hf a).1]; exact v.n a ha
  · obtain ⟨a, ha, rfl⟩ := hmem d hd
    rw [(hf a).2.1]; exact v.res a ha
  · obtain ⟨a, ha, rfl⟩ := hmem d hd
    rw [(hf a).2.2.1]; exact v.inn hp a ha
  · obtain ⟨a, ha, rfl⟩ := hmem d hd
    rw [(hf a).2.2.1] at hi
    rw [(hf a).2.2.2]; exact v.pin a ha hi
  · obtain ⟨a, ha, rfl⟩ := hmem d hd
    rw [(hf a).2.2.1] at hi
    rw [(hf a).2.2.2]
    refine ⟨(v.pout a ha hi).1, ?_⟩
    split
    · rename_i h
      have := (hin a h).2.2
      rw [hi] at this; cases this
    · exact (v.pout a ha hi).2
  · obtain ⟨a, ha, rfl⟩ := hmem d hd
    obtain ⟨b, hb, rfl⟩ := hmem e he
    rw [(hf a).2.1, (hf b).2.1] at g3
    rw [(hf a).1, (hf b).1]
    by_cases fa : finA s key x.ak a
    · by_cases fb : finA s key x.ak b
      · have h1 := fa.2
        have h2 := fb.2
        rw [g3, h2] at h1
        cases h1; rfl
      · rw [if_neg fb] at g2
        exact absurd g3.symm (fa.1 b hb g2)
    · rw [if_neg fa] at g1
      by_cases fb : finA s key x.ak b
      · exact absurd g3 (fb.1 a ha g1)
      · rw [if_neg fb] at g2
        exact v.one a ha b hb g1 g2 g3
  · obtain ⟨ch, e1, e2, e3⟩ := v.tok hp c k hk
    refine ⟨ch, e1, e2, ?_⟩
    rw [e3]
    unfold inC
    rw [hsp, List.filter_map, List.length_map]
    congr 1
    apply List.filter_congr
    intro a _
    have e : clA s (if finA s key x.ak a then holdA a else a) = clA s a := by unfold clA; rw [(hf a).1]
    simp only [Function.comp, inP]
    rw [e, (hf a).2.2.1]
/-- Behind it nobody who is in waits for what nobody holds. -/
theorem gives_full (v : LkInv s x) {key : Ask → Int} : ∀ a ∈ (givesF s key x).ak, a.isIn = true → a.holds = false → ∃ b ∈ (givesF s key x).ak, b.holds = true ∧ grpR s b.res = grpR s a.res := by
  have hsp := gives_fin (s := s) (key := key) v.uniq v.n v.res
  intro d hd hi hh
  rw [hsp] at hd ⊢
  obtain ⟨a, ha, rfl⟩ := List.mem_map.1 hd
  by_cases fa : finA s key x.ak a
  · rw [if_pos fa] at hh; cases hh
  · rw [if_neg fa] at hi hh ⊢
    by_cases hold : ∃ b ∈ x.ak, b.holds = true ∧ grpR s b.res = grpR s a.res
    · obtain ⟨b, hb, h1, h2⟩ := hold
      refine ⟨_, List.mem_map_of_mem hb, ?_, ?_⟩
      · split
        · rfl
        · exact h1
      · split <;> exact h2
    · have hne : candA s x.ak (grpR s a.res) ≠ [] := fun e => by
        have : a ∈ candA s x.ak (grpR s a.res) := List.mem_filter.2 ⟨ha, by simp [hh, hi]⟩
        rw [e] at this; cases this
      obtain ⟨b, hb⟩ : ∃ b, fmin key (candA s x.ak (grpR s a.res)) = some b := by
        cases hx : fmin key (candA s x.ak (grpR s a.res)) with
        | none => exact absurd (fmin_none.1 hx) hne
        | some b => exact ⟨b, rfl⟩
      have hbm := List.mem_filter.1 (fmin_mem hb)
      simp at hbm
      have fb : finA s key x.ak b := ⟨fun e he h1 h2 => hold ⟨e, he, h1, h2.trans hbm.2.2⟩, by rw [hbm.2.2]; exact hb⟩
      refine ⟨_, List.mem_map_of_mem hbm.1, ?_, ?_⟩
      · rw [if_pos fb]; rfl
      · rw [if_pos fb]; exact hbm.2.2
end
end Go.Mod

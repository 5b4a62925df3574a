/- LockAgents: one is served at a time, the least first: the plain law. -/
import Derived.Test.YthpeamllfledkaaLfC
set_option linter.unusedVariables false
set_option linter.unusedSimpArgs false
namespace Go.Mod
open Classical

/-! ### the order of those that wait -/
theorem put_le {k d : Int} {ps : List (Int × Int)} (h : ps.Pairwise fun p q => p.1 ≤ q.1) : (putAt ps (posR k ps) (k, d)).Pairwise fun p q => p.1 ≤ q.1 := by
  unfold putAt
  have hs := h
  rw [← List.take_append_drop (posR k ps) ps, List.pairwise_append] at h
  obtain ⟨h1, h2, h3⟩ := h
  have hlo : ∀ a ∈ ps.take (posR k ps), a.1 ≤ k := fun a ha => by
    obtain ⟨j, hj⟩ := List.mem_iff_getElem?.1 ha
    have hjl := (List.getElem?_eq_some_iff.1 hj).1
    rw [List.length_take] at hjl
    rw [List.getElem?_take_of_lt (by omega)] at hj
    exact posR_lt (by omega) hj
  have hhi : ∀ b ∈ ps.drop (posR k ps), k ≤ b.1 := fun b hb => by
    obtain ⟨j, hj⟩ := List.mem_iff_getElem?.1 hb
    rw [List.getElem?_drop] at hj
    have hjl := (List.getElem?_eq_some_iff.1 hj).1
    have hq := posR_at (k := k) (List.getElem?_eq_getElem (l := ps) (i := posR k ps) (by omega))
    rcases Nat.eq_zero_or_pos j with h0 | h0
    · subst h0
      have := posR_at (k := k) hj
      omega
    · have := List.pairwise_iff_getElem.1 hs (posR k ps) (posR k ps + j) (by omega) hjl (by omega)
      rw [(List.getElem?_eq_some_iff.1 hj).2] at this
      omega
  rw [List.pairwise_append, List.pairwise_cons]
  refine ⟨h1, ⟨fun b hb => hhi b hb, h2⟩, fun a ha b hb => ?_⟩
  rcases List.mem_cons.1 hb with rfl | hb
  · exact hlo a ha
  · exact Int.le_trans (hlo a ha) (hhi b hb)
theorem rankG_le {key : Ask → Int} : ∀ (wa : List Ask) (ps : List (Int × Int)), ps.Pairwise (fun p q => p.1 ≤ q.1) → (rankG key ps wa).Pairwise fun p q => p.1 ≤ q.1
  | [], ps, h => h
  | a :: wa, ps, h => by
    simp only [rankG]
    split
    · exact rankG_le wa _ (put_le h)
    · exact rankG_le wa _ h
theorem rankG_has {key : Ask → Int} : ∀ (wa : List Ask) (ps : List (Int × Int)) (p : Int × Int), p ∈ rankG key ps wa ↔ p ∈ ps ∨ ∃ a ∈ wa, a.isIn = true ∧ p = (key a, (a.n : Int))
  | [], ps, p => by simp [rankG]
  | a :: wa, ps, p => by
    simp only [rankG]
    rw [rankG_has wa]
    by_cases h : a.isIn = true
    · rw [if_pos h, mem_putAt]
      constructor
      · rintro ((h1 | h1) | ⟨b, hb, h2⟩)
        · exact .inr ⟨a, by simp, h, h1⟩
        · exact .inl h1
        · exact .inr ⟨b, by simp [hb], h2⟩
      · rintro (h1 | ⟨b, hb, h2, h3⟩)
        · exact .inl (.inr h1)
        · rcases List.mem_cons.1 hb with rfl | hb
          · exact .inl (.inl h3)
          · exact .inr ⟨b, hb, h2, h3⟩
    · rw [if_neg h]
      constructor
      · rintro (h1 | ⟨b, hb, h2⟩)
        · exact .inl h1
        · exact .inr ⟨b, by simp [hb], h2⟩
      · rintro (h1 | ⟨b, hb, h2, h3⟩)
        · exact .inl h1
        · rcases List.mem_cons.1 hb with rfl | hb
          · exact absurd h2 h
          · exact .inr ⟨b, hb, h2, h3⟩
/-- The first of all. -/
theorem rankG_head {key : Ask → Int} {wa : List Ask} {a : Ask} (ha : a ∈ wa) (hi : a.isIn = true) (hmin : ∀ b ∈ wa, b.isIn = true → b.n = a.n ∨ key a < key b) : ∃ t, idsR (rankG key [] wa) = (a.n : Int) :: t := by
  have hs := rankG_le (key := key) wa [] List.Pairwise.nil
  have hm : (key a, (a.n : Int)) ∈ rankG key [] wa := (rankG_has wa [] _).2 (.inr ⟨a, ha, hi, rfl⟩)
  cases hr : rankG key [] wa with
  | nil => rw [hr] at hm; cases hm
  | cons p t =>
    rw [hr] at hm hs
    have hp : p ∈ rankG key [] wa := by rw [hr]; simp
    rcases (rankG_has wa [] p).1 hp with h | ⟨b, hb, hbi, rfl⟩
    · cases h
    · have hle : key b ≤ key a := by
        rcases List.mem_cons.1 hm with h | h
        · have := congrArg Prod.fst h; simp at this; omega
        · exact (List.pairwise_cons.1 hs).1 _ h
      rcases hmin b hb hbi with h | h
      · exact ⟨t.map (·.2), by simp [idsR, h]⟩
      · omega

/-! ### agents -/
structure AgS (x : LS) (line : List Nat) (h : Option Nat) : Prop where
  n : x.ak.map (·.n) = line
  nd : line.Nodup
  lt : ∀ t ∈ line, t < 6
  res : ∀ a ∈ x.ak, a.res = 0 ∨ a.res = 1
  inn : ∀ a ∈ x.ak, a.isIn = true
  hh : ∀ a ∈ x.ak, a.holds = decide (h = some a.n)
  hm : ∀ k, h = some k → k ∈ line
section
variable {s : SetL} {x : LS} {line : List Nat} {h : Option Nat} {c : Int}
theorem AgS.uniq (f : AgS x line h) : uniqA x.ak := by unfold uniqA; rw [f.n]; exact f.nd
theorem AgS.len (f : AgS x line h) : x.ak.length = line.length := by have := congrArg List.length f.n; simpa using this
theorem AgS.len6 (f : AgS x line h) : line.length ≤ 6 := nodup_lt 6 line f.nd f.lt
theorem AgS.ltA (f : AgS x line h) : ∀ a ∈ x.ak, a.n < 6 := fun a ha => f.lt _ (by rw [← f.n]; exact List.mem_map_of_mem ha)
theorem AgS.ok (f : AgS x line h) {p : Int} (cs : CrowdS s p c) {L : Lay} (hid : x.ts.map (·.id) = L.chs) (h0 : 0 ≤ x.cnt) (h1 : x.cnt < 1000000) : LkOk s L x := by
  have h6 := f.len6
  refine ⟨f.uniq, by rw [f.len]; omega, fun a ha => by rw [cs.len]; exact f.ltA a ha, fun a ha => by rw [cs.homes]; rcases f.res a ha with h | h <;> rw [h] <;> simp, h0, h1, hid, by rw [cs.len]; omega, by rw [cs.homes]; simp, fun a ha hi => by rw [f.inn a ha] at hi; cases hi⟩
theorem AgS.congr {y : LS} (f : AgS x line h) (he : y.ak.map unA = x.ak.map unA) : AgS y line h := by
  have hm : ∀ {β : Type} (g : Ask → β), (∀ a, g (unA a) = g a) → y.ak.map g = x.ak.map g := fun g hg => by
    have e := congrArg (List.map g) he
    rw [List.map_map, List.map_map] at e
    have e2 : (g ∘ unA) = g := funext hg
    rwa [e2] at e
  have hall : ∀ {P : Ask → Prop}, (∀ a b, unA a = unA b → P a → P b) → (∀ a ∈ x.ak, P a) → ∀ a ∈ y.ak, P a := fun hP hx a ha => by
    obtain ⟨i, hi⟩ := List.mem_iff_getElem?.1 ha
    obtain ⟨b, hb, e⟩ := un_get he hi
    exact hP b a e.symm (hx b (List.mem_of_getElem? hb))
  have e1 : ∀ a b : Ask, unA a = unA b → a.res = b.res ∧ a.isIn = b.isIn ∧ a.n = b.n ∧ a.holds = b.holds := fun a b e => ⟨(congrArg Ask.res e : (unA a).res = (unA b).res), (congrArg Ask.isIn e : (unA a).isIn = (unA b).isIn), (congrArg Ask.n e : (unA a).n = (unA b).n), (congrArg Ask.holds e : (unA a).holds = (unA b).holds)⟩
  exact ⟨(hm _ fun _ => rfl).trans f.n, f.nd, f.lt, hall (P := fun a => a.res = 0 ∨ a.res = 1) (fun a b e h => by rw [← (e1 a b e).1]; exact h) f.res, hall (fun a b e h => by rw [← (e1 a b e).2.1]; exact h) f.inn, hall (P := fun a => a.holds = decide (h = some a.n)) (fun a b e h => by rw [← (e1 a b e).2.2.2, ← (e1 a b e).2.2.1]; exact h) f.hh, f.hm⟩
/-- The greatest number of a row. -/
def topN (line : List Nat) : Option Nat := line.max?
theorem topN_some {line : List Nat} {m : Nat} (h : topN line = some m) : m ∈ line ∧ ∀ t ∈ line, t ≤ m := by
  unfold topN at h
  exact (List.max?_eq_some_iff).1 h
theorem AgS.grant (f : AgS x line h) (cs : CrowdS s 2 c) : AgS (grantF s x) line (if h = none then topN line else h) ∧ (grantF s x).cnt = x.cnt ∧ (grantF s x).ts = x.ts := by
  have hp : s.proto = 2 := cs.proto
  have hg0 : grant0 s x = givesF s (prioK s) x := by simp only [grant0, hp, if_true]
  have hgr : ∀ a ∈ x.ak, grpR s a.res = 0 := fun a ha => by
    unfold grpR
    rw [if_pos hp, cs.homes]
    rcases f.res a ha with e | e <;> rw [e] <;> rfl
  have hN : ∀ a ∈ x.ak, a.n < s.tasks.length := fun a ha => by rw [cs.len]; exact f.ltA a ha
  have hsp := gives_spec (s := s) (key := prioK s) (x := x) f.uniq hN (fun a ha => by rw [cs.homes]; rcases f.res a ha with h | h <;> rw [h] <;> simp)
  have hresN : ∀ n : Int, grpR s (resN x.ak n) = 0 := fun n => by
    unfold resN
    cases hf : findA x.ak n with
    | none => show grpR s 0 = 0; unfold grpR; rw [if_pos hp, cs.homes]; rfl
    | some a => exact hgr a (findA_mem hf).1
  simp only [hresN] at hsp
  have hprio : ∀ a ∈ x.ak, prioK s a = (6 : Int) - a.n := fun a ha => by
    obtain ⟨t, h1, h2, h3⟩ := cs.at (f.ltA a ha)
    unfold prioK; rw [h1]; exact h3
  have hc : (grant0 s x).cnt = x.cnt ∧ (grant0 s x).ts = x.ts := by rw [hg0]; exact ⟨rfl, rfl⟩
  have hmem : ∀ t ∈ line, ∃ a ∈ x.ak, a.n = t := fun t ht => by
    rw [← f.n] at ht
    obtain ⟨a, ha, e⟩ := List.mem_map.1 ht
    exact ⟨a, ha, e⟩
  have key : (grant0 s x).ak = x.ak.map fun a => if (if h = none then topN line else h) = some a.n then holdA a else a := by
    rw [hg0, hsp]
    apply List.map_congr_left
    intro a ha
    rw [hgr a ha]
    cases h with
    | some k =>
      obtain ⟨b, hb, hbn⟩ := hmem k (f.hm k rfl)
      have hn : ¬ noneG (fun n => (0 : Int)) x.ak 0 := fun g => g b hb (by rw [f.hh b hb, hbn]; simp) rfl
      rw [if_neg (fun g => hn g.1)]
      simp only [reduceCtorEq, if_false]
      by_cases e : some k = some a.n
      · rw [if_pos e]
        have := f.hh a ha
        rw [decide_eq_true e] at this
        unfold holdA; rw [← this]
      · rw [if_neg e]
    | none =>
      have hnone : ∀ b ∈ x.ak, b.holds = false := fun b hb => by rw [f.hh b hb]; simp
      have hng : noneG (fun n => (0 : Int)) x.ak 0 := fun b hb hbh => by rw [hnone b hb] at hbh; cases hbh
      have hw : waitA x.ak = x.ak := by
        unfold waitA
        rw [List.filter_eq_self]
        intro b hb; rw [hnone b hb]; rfl
      rw [hw]
      simp only [if_true]
      cases hm : topN line with
      | none =>
        exfalso
        have : line = [] := by unfold topN at hm; exact List.max?_eq_none_iff.1 hm
        have h1 := f.len
        rw [this] at h1
        have := List.eq_nil_of_length_eq_zero h1
        rw [this] at ha; cases ha
      | some m =>
        obtain ⟨hm1, hm2⟩ := topN_some hm
        obtain ⟨b, hb, hbn⟩ := hmem m hm1
        obtain ⟨t, ht⟩ := rankG_head (key := prioK s) hb (f.inn b hb) (fun d hd _ => by
          rw [hprio b hb, hprio d hd]
          have := hm2 d.n (by rw [← f.n]; exact List.mem_map_of_mem hd)
          rw [hbn]
          rcases Nat.lt_or_ge d.n m with h | h
          · right; omega
          · left; omega)
        rw [ht, List.find?_cons_of_pos (by simp)]
        by_cases e : a.n = m
        · rw [if_pos ⟨hng, by rw [hbn, e]⟩, if_pos (by rw [e])]
        · rw [if_neg (fun g => e (by have := Option.some.inj g.2; omega)), if_neg (fun g => e (Option.some.inj g).symm)]
  generalize hH : (if h = none then topN line else h) = h' at key ⊢
  have hm' : ∀ k, h' = some k → k ∈ line := fun k hk => by
    rw [← hH] at hk
    split at hk
    · exact (topN_some hk).1
    · exact f.hm k hk
  have hmono : ∀ a ∈ x.ak, a.holds = true → h' = some a.n := fun a ha hh => by
    rw [f.hh a ha] at hh
    have e := of_decide_eq_true hh
    rw [← hH, e]; simp
  have F0 : AgS (grant0 s x) line h' := by
    have hget : ∀ b ∈ (grant0 s x).ak, ∃ a ∈ x.ak, b = if h' = some a.n then holdA a else a := fun b hb => by
      rw [key] at hb
      obtain ⟨a, ha, e⟩ := List.mem_map.1 hb
      exact ⟨a, ha, e.symm⟩
    have hnn : ∀ a : Ask, (if h' = some a.n then holdA a else a).n = a.n := fun a => by split <;> rfl
    refine ⟨?_, f.nd, f.lt, fun b hb => ?_, fun b hb => ?_, fun b hb => ?_, hm'⟩
    · rw [key, List.map_map, ← f.n]
      apply List.map_congr_left
      intro a _
      exact hnn a
    · obtain ⟨a, ha, rfl⟩ := hget b hb
      have := f.res a ha
      split <;> exact this
    · obtain ⟨a, ha, rfl⟩ := hget b hb
      have := f.inn a ha
      split <;> exact this
    · obtain ⟨a, ha, rfl⟩ := hget b hb
      rw [hnn]
      by_cases e : h' = some a.n
      · rw [if_pos e, decide_eq_true e]; rfl
      · rw [if_neg e, decide_eq_false e]
        cases hb : a.holds with
        | false => rfl
        | true => exact absurd (hmono a ha hb) e
  exact ⟨F0.congr (tellF_un _ _ _ _), hc.1, hc.2⟩
theorem AgS.find (f : AgS x line h) {t : Nat} : (findA x.ak (t : Int)).isSome = true ↔ t ∈ line := by
  rw [← f.n]
  constructor
  · intro hh
    obtain ⟨a, ha⟩ := Option.isSome_iff_exists.1 hh
    obtain ⟨h1, h2⟩ := findA_mem ha
    exact List.mem_map.2 ⟨a, h1, by omega⟩
  · intro hh
    obtain ⟨a, h1, h2⟩ := List.mem_map.1 hh
    rw [← h2, uniq_find f.uniq h1]; rfl
theorem AgS.ask (f : AgS x line h) (hp : s.proto = 2) {t : Nat} (ht : t < 6) (hn : t ∉ line) {p : Nat} {r : Int} (hr : r = 0 ∨ r = 1) : AgS ⟨newCnt s x.cnt, x.ak ++ [newA s x.cnt t r p], x.ts⟩ (line ++ [t]) h := by
  have hA : newA s x.cnt t r p = ⟨t, r, x.cnt + 1, true, false, false, p⟩ := by simp [newA, hp]
  rw [hA]
  refine ⟨by simp [f.n], ?_, fun u hu => ?_, fun a ha => ?_, fun a ha => ?_, fun a ha => ?_, fun k hk => by simp [f.hm k hk]⟩
  · rw [List.nodup_append]
    exact ⟨f.nd, by simp, fun a ha b hb e => by simp at hb; subst hb; exact hn (e ▸ ha)⟩
  · rcases List.mem_append.1 hu with hu | hu
    · exact f.lt u hu
    · simp at hu; omega
  · rcases List.mem_append.1 ha with ha | ha
    · exact f.res a ha
    · simp at ha; subst ha; exact hr
  · rcases List.mem_append.1 ha with ha | ha
    · exact f.inn a ha
    · simp at ha; subst ha; rfl
  · rcases List.mem_append.1 ha with ha | ha
    · exact f.hh a ha
    · simp at ha; subst ha
      symm
      exact decide_eq_false fun e => hn (f.hm t e)
theorem AgS.leave {t : Nat} (f : AgS x line (some t)) {ts : List Chn} : AgS ⟨x.cnt, dropA x.ak (t : Int), ts⟩ (line.filter fun u => !decide (u = t)) none := by
  have hsub : ∀ a ∈ dropA x.ak (t : Int), a ∈ x.ak ∧ a.n ≠ t := fun a ha => by
    obtain ⟨h1, h2⟩ := List.mem_filter.1 ha
    simp at h2
    exact ⟨h1, fun e => h2 (by omega)⟩
  refine ⟨?_, f.nd.sublist List.filter_sublist, fun u hu => f.lt u (List.mem_filter.1 hu).1, fun a ha => f.res a (hsub a ha).1, fun a ha => f.inn a (hsub a ha).1, fun a ha => ?_, fun k hk => by cases hk⟩
  · show (dropA x.ak (t : Int)).map (·.n) = _
    rw [← f.n]
    unfold dropA
    rw [List.filter_map]
    congr 1
    apply List.filter_congr
    intro a _
    simp
    constructor <;> intro h <;> omega
  · obtain ⟨h1, h2⟩ := hsub a ha
    rw [f.hh a h1]
    have : ¬ (some t = some a.n) := fun e => h2 (Option.some.inj e).symm
    simp [this]
theorem AgS.holds (f : AgS x line h) (t : Nat) : holdsB x.ak (t : Int) = decide (h = some t) := by
  unfold holdsB
  cases hf : findA x.ak (t : Int) with
  | none =>
    symm
    refine decide_eq_false fun e => ?_
    have := f.find.2 (f.hm t e)
    rw [hf] at this; cases this
  | some a =>
    obtain ⟨h1, h2⟩ := findA_mem hf
    have : a.n = t := by omega
    rw [← this]
    exact f.hh a h1
theorem AgS.boost (f : AgS x line h) (t : Nat) : boostF 2 x.ak (t : Int) = if h = some t then 1 else 0 := by
  have := f.holds t
  unfold holdsB at this
  unfold boostF
  cases hf : findA x.ak (t : Int) with
  | none =>
    rw [hf] at this
    rw [if_neg (of_decide_eq_false this.symm)]
  | some a =>
    rw [hf] at this
    simp only at this ⊢
    rw [this]
    by_cases e : h = some t <;> simp [e]
end
end Go.Mod

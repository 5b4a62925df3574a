/- LockFair: one line, whoever asks. -/
import Derived.Test.YthpeamllfledkaaLkI
set_option linter.unusedVariables false
set_option linter.unusedSimpArgs false
namespace Go.Mod
open Classical

structure FairS (x : LS) (line : List Nat) (h : Bool) : Prop where
  n : x.ak.map (·.n) = line
  nd : line.Nodup
  lt : ∀ t ∈ line, t < 6
  res : ∀ a ∈ x.ak, a.res = 0
  inn : ∀ a ∈ x.ak, a.isIn = true
  pl : x.ak.Pairwise fun a b => a.place ≤ b.place
  le : ∀ a ∈ x.ak, a.place ≤ x.cnt
  hh : ∀ (i : Nat) a, x.ak[i]? = some a → a.holds = (h && decide (i = 0))
section
variable {s : SetL} {x : LS} {line : List Nat} {h : Bool} {c : Int}
theorem FairS.uniq (f : FairS x line h) : uniqA x.ak := by unfold uniqA; rw [f.n]; exact f.nd
theorem FairS.len (f : FairS x line h) : x.ak.length = line.length := by have := congrArg List.length f.n; simpa using this
theorem FairS.len6 (f : FairS x line h) : line.length ≤ 6 := nodup_lt 6 line f.nd f.lt
theorem FairS.ok (f : FairS x line h) (cs : CrowdS s 1 c) {L : Lay} (hid : x.ts.map (·.id) = L.chs) (h0 : 0 ≤ x.cnt) (h1 : x.cnt < 1000000) : LkOk s L x := by
  have h6 := f.len6
  refine ⟨f.uniq, by rw [f.len]; omega, fun a ha => ?_, fun a ha => by rw [f.res a ha, cs.homes]; simp, h0, h1, hid, by rw [cs.len]; omega, by rw [cs.homes]; simp, fun a ha hi => by rw [f.inn a ha] at hi; cases hi⟩
  rw [cs.len]
  exact f.lt _ (by rw [← f.n]; exact List.mem_map_of_mem ha)
theorem un_get {ak bk : List Ask} (h : ak.map unA = bk.map unA) {i : Nat} {a : Ask} (hi : ak[i]? = some a) : ∃ b, bk[i]? = some b ∧ unA a = unA b := by
  have := congrArg (fun l => l[i]?) h
  simp only [List.getElem?_map, hi, Option.map_some] at this
  cases hb : bk[i]? with
  | none => rw [hb] at this; cases this
  | some b => rw [hb] at this; exact ⟨b, rfl, Option.some.inj this⟩
theorem FairS.congr {y : LS} (f : FairS x line h) (hc : y.cnt = x.cnt) (he : y.ak.map unA = x.ak.map unA) : FairS y line h := by
  have hm : ∀ {β : Type} (g : Ask → β), (∀ a, g (unA a) = g a) → y.ak.map g = x.ak.map g := fun g hg => by
    have e := congrArg (List.map g) he
    rw [List.map_map, List.map_map] at e
    have e2 : (g ∘ unA) = g := funext hg
    rwa [e2] at e
  have hall : ∀ {P : Ask → Prop}, (∀ a b, unA a = unA b → P a → P b) → (∀ a ∈ x.ak, P a) → ∀ a ∈ y.ak, P a := fun hP hx a ha => by
    obtain ⟨i, hi⟩ := List.mem_iff_getElem?.1 ha
    obtain ⟨b, hb, e⟩ := un_get he hi
    exact hP b a e.symm (hx b (List.mem_of_getElem? hb))
  have e1 : ∀ a b : Ask, unA a = unA b → a.res = b.res ∧ a.isIn = b.isIn ∧ a.place = b.place ∧ a.holds = b.holds := fun a b e => ⟨(congrArg Ask.res e : (unA a).res = (unA b).res), (congrArg Ask.isIn e : (unA a).isIn = (unA b).isIn), (congrArg Ask.place e : (unA a).place = (unA b).place), (congrArg Ask.holds e : (unA a).holds = (unA b).holds)⟩
  refine ⟨(hm _ fun _ => rfl).trans f.n, f.nd, f.lt, hall (fun a b e h => by rw [← (e1 a b e).1]; exact h) f.res, hall (fun a b e h => by rw [← (e1 a b e).2.1]; exact h) f.inn, ?_, hall (P := fun a => a.place ≤ y.cnt) (fun a b e h => by rw [← (e1 a b e).2.2.1]; exact h) (by rw [hc]; exact f.le), fun i a hi => ?_⟩
  · have h2 := hm (fun a => a.place) fun _ => rfl
    have h3 : (x.ak.map fun a => a.place).Pairwise (· ≤ ·) := List.pairwise_map.2 f.pl
    rw [← h2] at h3
    exact List.pairwise_map.1 h3
  · obtain ⟨b, hb, e⟩ := un_get he hi
    rw [(e1 a b e).2.2.2]
    exact f.hh i b hb
/-- Behind a grant the first one holds. -/
theorem FairS.grant (f : FairS x line h) (cs : CrowdS s 1 c) : FairS (grantF s x) line true ∧ (grantF s x).cnt = x.cnt ∧ (grantF s x).ts = x.ts := by
  have hp : ¬ s.proto = 2 := by rw [cs.proto]; omega
  have hlets : letsF s x = x := letsF_in fun a ha => f.inn a (List.mem_filter.1 ha).1
  have hg0 : grant0 s x = givesF s (·.place) x := by simp only [grant0, hp, if_false, hlets]
  have hN : ∀ a ∈ x.ak, a.n < s.tasks.length := fun a ha => by rw [cs.len]; exact f.lt _ (by rw [← f.n]; exact List.mem_map_of_mem ha)
  have hsp := gives_spec (s := s) (key := (·.place)) (x := x) f.uniq hN (fun a ha => by rw [f.res a ha, cs.homes]; simp)
  have hres : ∀ n : Int, resN x.ak n = 0 := fun n => by
    unfold resN
    cases hf : findA x.ak n with
    | none => rfl
    | some a => exact f.res a (findA_mem hf).1
  have hids : idsR (rankG (·.place) [] (waitA x.ak)) = (waitA x.ak).map fun a => (a.n : Int) := by
    rw [rankG_sorted (key := fun a => a.place) (waitA x.ak) [] (fun a ha => f.inn a (List.mem_filter.1 ha).1) (f.pl.sublist List.filter_sublist) (by simp)]
    simp [idsR]
  rw [hids] at hsp
  simp only [hres] at hsp
  -- the asks, but for what was told
  have key : (grant0 s x).ak = x.ak.mapIdx fun i a => if i = 0 then holdA a else a := by
    rw [hg0, hsp]
    apply List.ext_getElem?
    intro i
    rw [List.getElem?_map, List.getElem?_mapIdx]
    cases hi : x.ak[i]? with
    | none => rfl
    | some a =>
      have ha := List.mem_of_getElem? hi
      simp only [Option.map_some, f.res a ha, Option.some.injEq]
      have hil := (List.getElem?_eq_some_iff.1 hi).1
      obtain ⟨a0, h0⟩ : ∃ a0, x.ak[0]? = some a0 := ⟨_, List.getElem?_eq_getElem (by omega)⟩
      cases hh : h with
      | true =>
        have h0h : a0.holds = true := by rw [f.hh 0 a0 h0, hh]; rfl
        have hn : ¬ noneG (fun n => grpR s 0) x.ak (grpR s 0) := fun g => g a0 (List.mem_of_getElem? h0) h0h rfl
        rw [if_neg (fun g => hn g.1)]
        by_cases h00 : i = 0
        · subst h00
          rw [if_pos rfl]
          rw [h0] at hi; cases hi
          unfold holdA
          rw [← h0h]
        · rw [if_neg h00]
      | false =>
        have hnone : ∀ b ∈ x.ak, b.holds = false := fun b hb => by
          obtain ⟨j, hj⟩ := List.mem_iff_getElem?.1 hb
          rw [f.hh j b hj, hh]; rfl
        have hw : waitA x.ak = x.ak := by
          unfold waitA
          rw [List.filter_eq_self]
          intro b hb; rw [hnone b hb]; rfl
        have hng : noneG (fun n => grpR s 0) x.ak (grpR s 0) := fun b hb hbh => by rw [hnone b hb] at hbh; cases hbh
        obtain ⟨rest, hrest⟩ : ∃ rest, x.ak = a0 :: rest := by
          cases hx : x.ak with
          | nil => rw [hx] at h0; cases h0
          | cons b r => rw [hx] at h0; simp at h0; subst h0; exact ⟨r, rfl⟩
        have hfind : ((waitA x.ak).map fun a => (a.n : Int)).find? (fun m => decide True) = some (a0.n : Int) := by
          rw [hw, hrest, List.map_cons, List.find?_cons_of_pos (by simp)]
        rw [hfind]
        by_cases h00 : i = 0
        · subst h00
          rw [h0] at hi; cases hi
          rw [if_pos ⟨hng, rfl⟩, if_pos rfl]
        · rw [if_neg h00, if_neg]
          rintro ⟨_, e⟩
          have e := Option.some.inj e
          exact h00 (map_inj_at f.uniq hi h0 (by show a.n = a0.n; omega))
  have hc : (grant0 s x).cnt = x.cnt ∧ (grant0 s x).ts = x.ts := by rw [hg0]; exact ⟨rfl, rfl⟩
  have F0 : FairS (grant0 s x) line true := by
    have hget : ∀ (i : Nat) a, (grant0 s x).ak[i]? = some a → ∃ b, x.ak[i]? = some b ∧ a = if i = 0 then holdA b else b := fun i a hi => by
      rw [key, List.getElem?_mapIdx] at hi
      cases hb : x.ak[i]? with
      | none => rw [hb] at hi; cases hi
      | some b => rw [hb] at hi; exact ⟨b, rfl, (Option.some.inj hi).symm⟩
    have hm : ∀ {β : Type} (g : Ask → β), (∀ a, g (holdA a) = g a) → (grant0 s x).ak.map g = x.ak.map g := fun g hg => by
      rw [key]
      apply List.ext_getElem?
      intro i
      rw [List.getElem?_map, List.getElem?_mapIdx, List.getElem?_map]
      cases x.ak[i]? with
      | none => rfl
      | some b =>
        simp only [Option.map_some, Option.some.injEq]
        split
        · exact hg b
        · rfl
    have hall : ∀ {P : Ask → Prop}, (∀ a, P a → P (holdA a)) → (∀ a ∈ x.ak, P a) → ∀ a ∈ (grant0 s x).ak, P a := fun hP hx a ha => by
      obtain ⟨i, hi⟩ := List.mem_iff_getElem?.1 ha
      obtain ⟨b, hb, rfl⟩ := hget i a hi
      have := hx b (List.mem_of_getElem? hb)
      split
      · exact hP b this
      · exact this
    refine ⟨(hm _ fun _ => rfl).trans f.n, f.nd, f.lt, hall (fun _ h => h) f.res, hall (fun _ h => h) f.inn, ?_, hall (P := fun a => a.place ≤ (grant0 s x).cnt) (fun _ h => h) (by rw [hc.1]; exact f.le), fun i a hi => ?_⟩
    · have h2 := hm (fun a => a.place) fun _ => rfl
      have h3 : (x.ak.map fun a => a.place).Pairwise (· ≤ ·) := List.pairwise_map.2 f.pl
      rw [← h2] at h3
      exact List.pairwise_map.1 h3
    · obtain ⟨b, hb, rfl⟩ := hget i a hi
      by_cases h0 : i = 0
      · subst h0; simp [holdA]
      · rw [if_neg h0, f.hh i b hb]; simp [h0]
  exact ⟨F0.congr rfl (tellF_un _ _ _ _), hc.1, hc.2⟩
/-- One more asks. -/
theorem FairS.ask (f : FairS x line h) (hl : line = [] → h = false) (hp : s.proto = 1) {t : Nat} (ht : t < 6) (hn : t ∉ line) {p : Nat} : FairS ⟨newCnt s x.cnt, x.ak ++ [newA s x.cnt t 0 p], x.ts⟩ (line ++ [t]) h := by
  have hA : newA s x.cnt t 0 p = ⟨t, 0, x.cnt + 1, true, false, false, p⟩ := by simp [newA, hp]
  have hC : newCnt s x.cnt = x.cnt + 1 := by simp [newCnt, hp]
  rw [hA, hC]
  refine ⟨by simp [f.n], ?_, fun u hu => ?_, fun a ha => ?_, fun a ha => ?_, ?_, fun a ha => ?_, fun i a hi => ?_⟩
  · rw [List.nodup_append]
    exact ⟨f.nd, by simp, fun a ha b hb e => by simp at hb; subst hb; exact hn (e ▸ ha)⟩
  · rcases List.mem_append.1 hu with hu | hu
    · exact f.lt u hu
    · simp at hu; omega
  · rcases List.mem_append.1 ha with ha | ha
    · exact f.res a ha
    · simp at ha; subst ha; rfl
  · rcases List.mem_append.1 ha with ha | ha
    · exact f.inn a ha
    · simp at ha; subst ha; rfl
  · rw [List.pairwise_append]
    refine ⟨f.pl, by simp, fun a ha b hb => ?_⟩
    simp at hb; subst hb
    have := f.le a ha
    show a.place ≤ x.cnt + 1
    omega
  · rcases List.mem_append.1 ha with ha | ha
    · have := f.le a ha; show a.place ≤ x.cnt + 1; omega
    · simp at ha; subst ha; exact Int.le_refl _
  · have hlen := f.len
    rw [List.getElem?_append] at hi
    split at hi
    · exact f.hh i a hi
    · rename_i hge
      cases hk : i - x.ak.length with
      | zero =>
        rw [hk] at hi; simp at hi; subst hi
        show false = _
        by_cases h0 : i = 0
        · subst h0
          have : line = [] := List.eq_nil_of_length_eq_zero (by omega)
          rw [hl this]; rfl
        · simp [h0]
      | succ k => rw [hk] at hi; simp at hi
/-- The first one leaves. -/
theorem FairS.leave {t : Nat} (f : FairS x (t :: line) true) {ts : List Chn} : FairS ⟨x.cnt, dropA x.ak (t : Int), ts⟩ line false := by
  obtain ⟨a0, rest, hx⟩ : ∃ a0 rest, x.ak = a0 :: rest := by
    cases hx : x.ak with
    | nil => have := f.n; rw [hx] at this; cases this
    | cons a r => exact ⟨a, r, rfl⟩
  have hn := f.n
  rw [hx, List.map_cons] at hn
  have hn0 : a0.n = t := (List.cons.inj hn).1
  have hu := f.uniq
  rw [hx] at hu
  obtain ⟨hu1, hu2⟩ := uniq_tail hu
  have hd : dropA x.ak (t : Int) = rest := by
    rw [hx, dropA_cons, if_pos (by omega), dropA_none]
    intro b hb e
    exact hu2 b hb (by omega)
  rw [hd]
  have hsub : ∀ a ∈ rest, a ∈ x.ak := fun a ha => by rw [hx]; simp [ha]
  refine ⟨(List.cons.inj hn).2, (List.nodup_cons.1 f.nd).2, fun u hu => f.lt u (by simp [hu]), fun a ha => f.res a (hsub a ha), fun a ha => f.inn a (hsub a ha), ?_, fun a ha => f.le a (hsub a ha), fun i a hi => ?_⟩
  · have := f.pl; rw [hx] at this; exact (List.pairwise_cons.1 this).2
  · have := f.hh (i + 1) a (by rw [hx]; simpa using hi)
    simpa using this
theorem FairS.find (f : FairS x line h) {t : Nat} : (findA x.ak (t : Int)).isSome = true ↔ t ∈ line := by
  rw [← f.n]
  constructor
  · intro hh
    obtain ⟨a, ha⟩ := Option.isSome_iff_exists.1 hh
    obtain ⟨h1, h2⟩ := findA_mem ha
    exact List.mem_map.2 ⟨a, h1, by omega⟩
  · intro hh
    obtain ⟨a, h1, h2⟩ := List.mem_map.1 hh
    rw [← h2, uniq_find f.uniq h1]; rfl
theorem FairS.holder (f : FairS x line true) (hl : line ≠ []) : ∃ t rest, line = t :: rest ∧ holderF x.ak 6 0 = some t := by
  cases line with
  | nil => exact absurd rfl hl
  | cons t rest =>
    refine ⟨t, rest, rfl, ?_⟩
    obtain ⟨a0, r, hx⟩ : ∃ a0 rest, x.ak = a0 :: rest := by
      cases hx : x.ak with
      | nil => have := f.n; rw [hx] at this; cases this
      | cons a r => exact ⟨a, r, rfl⟩
    have hn := f.n
    rw [hx, List.map_cons] at hn
    have hn0 : a0.n = t := (List.cons.inj hn).1
    have h0 : a0.holds = true := by rw [f.hh 0 a0 (by rw [hx]; rfl)]; rfl
    have ha0 : a0 ∈ x.ak := by rw [hx]; simp
    cases hf : holderF x.ak 6 0 with
    | none =>
      have hN : ∀ a ∈ x.ak, a.n < 6 := fun a ha => f.lt _ (by rw [← f.n]; exact List.mem_map_of_mem ha)
      exact absurd (f.res a0 ha0) ((holderF_none f.uniq hN).1 hf a0 ha0 h0)
    | some m =>
      obtain ⟨_, _, h3, _⟩ := firstN_some _ _ _ hf
      obtain ⟨a, ha, e1, e2, _⟩ := (holdsR_iff f.uniq).1 h3
      obtain ⟨i, hi⟩ := List.mem_iff_getElem?.1 ha
      have := f.hh i a hi
      rw [e2] at this
      simp at this
      subst this
      rw [hx] at hi; simp at hi; subst hi
      rw [← e1, hn0]
theorem FairS.holder0 (f : FairS x [] h) : holderF x.ak 6 0 = none := by
  have : x.ak = [] := by have := f.n; simpa using this
  rw [this]
  rw [holderF_none (by simp [uniqA]) (by simp)]
  simp
theorem FairS.wait (f : FairS x line true) : (waitL x.ak).length = line.length - 1 := by
  have hlen := f.len
  cases hx : x.ak with
  | nil => rw [hx] at hlen; simp at hlen; simp [waitL, ← hlen]
  | cons a0 r =>
    rw [hx] at hlen
    have h0 : a0.holds = true := by rw [f.hh 0 a0 (by rw [hx]; rfl)]; rfl
    have hr : ∀ b ∈ r, b.holds = false := fun b hb => by
      obtain ⟨i, hi⟩ := List.mem_iff_getElem?.1 hb
      rw [f.hh (i + 1) b (by rw [hx]; simpa using hi)]; simp
    have : r.filter (fun a => !a.holds) = r := by
      rw [List.filter_eq_self]; intro b hb; rw [hr b hb]; rfl
    unfold waitL
    rw [List.filter_cons, h0]
    simp [this]
    simp at hlen; omega
end
end Go.Mod

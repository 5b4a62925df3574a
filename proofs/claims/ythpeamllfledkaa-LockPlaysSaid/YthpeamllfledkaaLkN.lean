/- Who holds: those that are let in, what is told; a Grant. -/
import Derived.Test.YthpeamllfledkaaLkV
set_option linter.unusedVariables false
set_option linter.unusedSimpArgs false
namespace Go.Mod
open Classical

def selP (s : SetL) : (Nat → Nat) → List Ask → List Ask
  | _, [] => []
  | f, a :: l => if a.isIn = false ∧ (f (clA s a) : Int) < s.cores.getD (clA s a) 0 then a :: selP s (fun c => if c = clA s a then f c + 1 else f c) l else selP s f l
section
variable {s : SetL} {x : LS}
theorem selP_sub : ∀ (l : List Ask) (f : Nat → Nat), (selP s f l).Sublist l
  | [], f => by simp [selP]
  | a :: l, f => by
    simp only [selP]
    split
    · exact (selP_sub l _).cons_cons a
    · exact (selP_sub l f).cons a
theorem selP_out : ∀ (l : List Ask) (f : Nat → Nat), ∀ a ∈ selP s f l, a.isIn = false
  | [], f, a, h => by simp [selP] at h
  | d :: l, f, a, h => by
    simp only [selP] at h
    split at h
    · rename_i hc
      rcases List.mem_cons.1 h with rfl | h
      · exact hc.1
      · exact selP_out l _ a h
    · exact selP_out l f a h
/-- Those that are in may be left out. -/
theorem selP_wait : ∀ (l : List Ask) (f : Nat → Nat), (∀ a ∈ l, a.holds = true → a.isIn = true) → selP s f (waitA l) = selP s f l
  | [], f, _ => rfl
  | a :: l, f, h => by
    have ih := fun f => selP_wait l f fun b hb => h b (by simp [hb])
    unfold waitA at ih ⊢
    by_cases hh : a.holds = true
    · have hi := h a (by simp) hh
      rw [List.filter_cons_of_neg (by simp [hh])]
      rw [ih]
      simp [selP, hi]
    · rw [List.filter_cons_of_pos (by simpa using hh)]
      simp only [selP]
      split
      · rw [ih]
      · exact ih f
theorem selF_sel (b : SetB s) : ∀ (wa : List Ask) (ts : List Chn) (xs : List Int) (f : Nat → Nat), (∀ a ∈ wa, a.n < s.tasks.length) → (∀ (c : Nat) k, s.cores[c]? = some k → ∃ ch, ts[c]? = some ch ∧ (ch.cap : Int) = k ∧ ch.cnt = f c) →
    (selF s ts xs wa).2 = xs ++ (selP s f wa).map (fun a => (a.n : Int)) ∧ ∀ (c : Nat) k, s.cores[c]? = some k → ∃ ch, (selF s ts xs wa).1[c]? = some ch ∧ (ch.cap : Int) = k ∧ ch.cnt = f c + ((selP s f wa).filter fun a => decide (clA s a = c)).length
  | [], ts, xs, f, _, ht => by simpa [selF, selP] using ht
  | a :: wa, ts, xs, f, hn, ht => by
    have hn' : ∀ d ∈ wa, d.n < s.tasks.length := fun d hd => hn d (by simp [hd])
    simp only [selF, selP]
    by_cases hi : a.isIn = true
    · have h0 : ¬ (a.isIn = false ∧ (f (clA s a) : Int) < s.cores.getD (clA s a) 0) := fun h => by rw [hi] at h; cases h.1
      rw [if_pos hi, if_neg h0]
      exact selF_sel b wa ts xs f hn' ht
    · have hi' : a.isIn = false := by simpa using hi
      rw [if_neg hi]
      have htk : s.tasks[a.n]? = some (s.tasks[a.n]'(hn a (by simp))) := List.getElem?_eq_getElem _
      generalize s.tasks[a.n]'(hn a (by simp)) = t at htk
      obtain ⟨h1, h2, h3⟩ := cl_lt b htk
      have hk : s.cores[clA s a]? = some (s.cores[clA s a]'h3) := List.getElem?_eq_getElem _
      generalize s.cores[clA s a]'h3 = k at hk
      obtain ⟨ch, e1, e2, e3⟩ := ht (clA s a) k hk
      have hgd : s.cores.getD (clA s a) 0 = k := by simp [List.getD, hk]
      rw [htk]
      simp only []
      rw [← h1, e1]
      simp only []
      by_cases hr : ch.cnt < ch.cap
      · have h0 : a.isIn = false ∧ (f (clA s a) : Int) < s.cores.getD (clA s a) 0 := ⟨hi', by rw [hgd]; omega⟩
        rw [if_pos hr, if_pos h0]
        have := selF_sel b wa (ts.set (clA s a) { ch with cnt := ch.cnt + 1 }) (xs ++ [(a.n : Int)]) (fun c => if c = clA s a then f c + 1 else f c) hn' (fun c k' hk' => by
          by_cases hc : clA s a = c
          · subst hc
            rw [hk] at hk'; cases hk'
            exact ⟨_, List.getElem?_set_self (List.getElem?_eq_some_iff.1 e1).1, e2, by simp [e3]⟩
          · obtain ⟨d, g1, g2, g3⟩ := ht c k' hk'
            have hc' : ¬ c = clA s a := fun e => hc e.symm
            exact ⟨d, by rw [List.getElem?_set_ne hc]; exact g1, g2, by simp [hc', g3]⟩)
        refine ⟨by rw [this.1]; simp, fun c k' hk' => ?_⟩
        obtain ⟨d, g1, g2, g3⟩ := this.2 c k' hk'
        refine ⟨d, g1, g2, ?_⟩
        rw [g3]
        by_cases hc : c = clA s a
        · subst hc; simp; omega
        · have hc' : ¬ clA s a = c := fun e => hc e.symm
          simp [hc, hc']
      · have h0 : ¬ (a.isIn = false ∧ (f (clA s a) : Int) < s.cores.getD (clA s a) 0) := fun h => by rw [hgd] at h; omega
        rw [if_neg hr, if_neg h0]
        exact selF_sel b wa ts xs f hn' ht
theorem putF_map : ∀ (ids : List Int) (cnt : Int) (ak : List Ask), ids.Nodup → (putF cnt ak ids).2 = ak.map fun a => if (a.n : Int) ∈ ids then inA (cnt + 1 + (ids.idxOf (a.n : Int) : Nat)) a else a
  | [], cnt, ak, _ => by simp [putF]
  | n :: t, cnt, ak, hnd => by
    obtain ⟨h1, h2⟩ := List.nodup_cons.1 hnd
    simp only [putF]
    rw [putF_map t _ _ h2]
    unfold updA
    rw [List.map_map]
    apply List.map_congr_left
    intro a _
    simp only [Function.comp]
    by_cases e : (a.n : Int) = n
    · subst e
      rw [if_pos rfl]
      have : ¬ ((inA (cnt + 1) a).n : Int) ∈ t := h1
      rw [if_neg this]
      simp
    · rw [if_neg e]
      by_cases hm : (a.n : Int) ∈ t
      · have hi : (n :: t).idxOf (a.n : Int) = t.idxOf (a.n : Int) + 1 := by
          rw [List.idxOf_cons]
          have : (n == (a.n : Int)) = false := by simpa using fun h : n = (a.n : Int) => e h.symm
          simp [this]
        rw [if_pos hm, if_pos (by simp [hm]), hi]
        congr 1
        omega
      · rw [if_neg hm, if_neg (by simp [hm, e])]
theorem filter_sub {α : Type} {p : α → Bool} : ∀ {l sub : List α}, l.Nodup → sub.Sublist l → (∀ a ∈ l, p a = true ↔ a ∈ sub) → l.filter p = sub
  | [], sub, _, h, _ => by rw [List.sublist_nil.1 h]; rfl
  | a :: l, sub, hn, h, hp => by
    obtain ⟨h1, h2⟩ := List.nodup_cons.1 hn
    cases h with
    | cons _ h =>
      have ha : ¬ a ∈ sub := fun e => h1 (h.subset e)
      rw [List.filter_cons_of_neg fun e => ha ((hp a (by simp)).1 e)]
      exact filter_sub h2 h fun b hb => hp b (by simp [hb])
    | cons_cons _ h =>
      rename_i sub
      rw [List.filter_cons_of_pos ((hp a (by simp)).2 (by simp))]
      congr 1
      refine filter_sub h2 h fun b hb => ?_
      rw [hp b (by simp [hb])]
      simp
      intro e; subst e; exact absurd hb h1
theorem nodup_of_map {α β : Type} {f : α → β} {l : List α} (h : (l.map f).Nodup) : l.Nodup := by
  induction l with
  | nil => simp
  | cons a l ih =>
    rw [List.map_cons, List.nodup_cons] at h
    exact List.nodup_cons.2 ⟨fun e => h.1 (List.mem_map_of_mem e), ih h.2⟩
theorem uniq_eq {ak : List Ask} (hu : uniqA ak) {a b : Ask} (ha : a ∈ ak) (hb : b ∈ ak) (e : a.n = b.n) : a = b := by
  have h1 := uniq_find hu ha
  have h2 := uniq_find hu hb
  rw [e, h2] at h1
  exact (Option.some.inj h1).symm
/-- Who is let in. -/
def selA (s : SetL) (x : LS) : List Ask := selP s (inC s x.ak) x.ak
def selI (s : SetL) (x : LS) : List Int := sortI ((selA s x).map fun a => (a.n : Int))
theorem LkInv.inn' (v : LkInv s x) : ∀ a ∈ x.ak, a.holds = true → a.isIn = true := fun a ha h => by
  cases hi : a.isIn with
  | true => rfl
  | false => have := (v.pout a ha hi).2; rw [h] at this; cases this
theorem LkInv.sel (v : LkInv s x) (b : SetB s) (hp : s.proto = 3) : (selF s x.ts [] (waitA x.ak)).2 = (selA s x).map (fun a => (a.n : Int)) ∧
    ∀ (c : Nat) k, s.cores[c]? = some k → ∃ ch, (selF s x.ts [] (waitA x.ak)).1[c]? = some ch ∧ (ch.cap : Int) = k ∧ ch.cnt = inC s x.ak c + ((selA s x).filter fun a => decide (clA s a = c)).length := by
  have h := selF_sel b (waitA x.ak) x.ts [] (inC s x.ak) (fun a ha => v.n a (List.mem_filter.1 ha).1) (v.tok hp)
  rw [selP_wait _ _ v.inn'] at h
  simpa [selA] using h
theorem LkInv.lets_ak (v : LkInv s x) (b : SetB s) (hp : s.proto = 3) : (letsF s x).ak = x.ak.map (fun a => if (a.n : Int) ∈ selI s x then inA (x.cnt + 1 + ((selI s x).idxOf (a.n : Int) : Nat)) a else a) ∧ (letsF s x).cnt = x.cnt + (selI s x).length ∧ (selI s x).Nodup ∧ ∀ a ∈ x.ak, (a.n : Int) ∈ selI s x ↔ a ∈ selA s x := by
  obtain ⟨h1, _⟩ := v.sel b hp
  have hsub := selP_sub (s := s) x.ak (inC s x.ak)
  have hnd : (selI s x).Nodup := by
    refine (sortI_perm _).nodup_iff.2 ?_
    have h1 : (x.ak.map (·.n)).Nodup := v.uniq
    have h2 : ((selA s x).map (·.n)).Nodup := h1.sublist (hsub.map _)
    have e : ((selA s x).map fun a => (a.n : Int)) = ((selA s x).map (·.n)).map Int.ofNat := by rw [List.map_map]; rfl
    rw [e]
    exact List.Pairwise.map _ (fun a b h e => h (Int.ofNat.inj e)) h2
  refine ⟨?_, ?_, hnd, fun a ha => ?_⟩
  · show (putF x.cnt x.ak (sortI (selF s x.ts [] (waitA x.ak)).2)).2 = _
    rw [h1]
    exact putF_map _ _ _ hnd
  · show (putF x.cnt x.ak (sortI (selF s x.ts [] (waitA x.ak)).2)).1 = _
    rw [h1, putF_cnt]; rfl
  · have : (a.n : Int) ∈ selI s x ↔ (a.n : Int) ∈ (selA s x).map fun a => (a.n : Int) := (sortI_perm _).mem_iff
    rw [this]
    constructor
    · intro h
      obtain ⟨d, hd, e⟩ := List.mem_map.1 h
      have := uniq_eq v.uniq (hsub.subset hd) ha (by omega)
      rw [← this]; exact hd
    · exact fun h => List.mem_map_of_mem h
theorem LkInv.lets (v : LkInv s x) (b : SetB s) : LkInv s (letsF s x) ∧ x.cnt ≤ (letsF s x).cnt ∧ (letsF s x).cnt ≤ x.cnt + 6 := by
  by_cases hp : s.proto = 3
  · obtain ⟨h1, h2, h3, h4⟩ := v.lets_ak b hp
    obtain ⟨_, h5⟩ := v.sel b hp
    have hsub := selP_sub (s := s) x.ak (inC s x.ak)
    have hlen : (selI s x).length ≤ 6 := by
      have e1 : (selI s x).length = (selA s x).length := by have := (sortI_perm ((selA s x).map fun a => (a.n : Int))).length_eq; simpa [selI] using this
      have e2 : (selA s x).length ≤ x.ak.length := hsub.length_le
      have := uniq_len v.uniq v.n
      have := b.nt
      omega
    have hg : ∀ a : Ask, (if (a.n : Int) ∈ selI s x then inA (x.cnt + 1 + ((selI s x).idxOf (a.n : Int) : Nat)) a else a).n = a.n ∧ (if (a.n : Int) ∈ selI s x then inA (x.cnt + 1 + ((selI s x).idxOf (a.n : Int) : Nat)) a else a).res = a.res ∧ (if (a.n : Int) ∈ selI s x then inA (x.cnt + 1 + ((selI s x).idxOf (a.n : Int) : Nat)) a else a).holds = a.holds := fun a => by split <;> simp [inA]
    have hmem : ∀ d ∈ (letsF s x).ak, ∃ a ∈ x.ak, d = if (a.n : Int) ∈ selI s x then inA (x.cnt + 1 + ((selI s x).idxOf (a.n : Int) : Nat)) a else a := fun d hd => by
      rw [h1] at hd
      obtain ⟨a, ha, e⟩ := List.mem_map.1 hd
      exact ⟨a, ha, e.symm⟩
    have hc0 := v.cnt
    refine ⟨⟨?_, fun d hd => ?_, fun d hd => ?_, by rw [h2]; omega, fun hp' => absurd hp hp', fun d hd hi => ?_, fun d hd hi => ?_, fun d hd e he g1 g2 g3 => ?_, fun _ c k hk => ?_⟩, by rw [h2]; omega, by rw [h2]; omega⟩
    · unfold uniqA
      rw [h1, List.map_map]
      have : ((fun a : Ask => a.n) ∘ fun a => if (a.n : Int) ∈ selI s x then inA (x.cnt + 1 + ((selI s x).idxOf (a.n : Int) : Nat)) a else a) = fun a => a.n := by funext a; exact (hg a).1
      rw [this]; exact v.uniq
    · obtain ⟨a, ha, rfl⟩ := hmem d hd
      rw [(hg a).1]; exact v.n a ha
    · obtain ⟨a, ha, rfl⟩ := hmem d hd
      rw [(hg a).2.1]; exact v.res a ha
    · obtain ⟨a, ha, rfl⟩ := hmem d hd
      rw [h2]
      by_cases hm : (a.n : Int) ∈ selI s x
      · rw [if_pos hm]
        have := List.idxOf_lt_length_of_mem hm
        simp only [inA]; omega
      · rw [if_neg hm] at hi ⊢
        have := v.pin a ha hi
        omega
    · obtain ⟨a, ha, rfl⟩ := hmem d hd
      by_cases hm : (a.n : Int) ∈ selI s x
      · rw [if_pos hm] at hi; cases hi
      · rw [if_neg hm] at hi ⊢
        exact v.pout a ha hi
    · obtain ⟨a, ha, rfl⟩ := hmem d hd
      obtain ⟨a', ha', rfl⟩ := hmem e he
      rw [(hg a).2.2] at g1
      rw [(hg a').2.2] at g2
      rw [(hg a).2.1, (hg a').2.1] at g3
      rw [(hg a).1, (hg a').1]
      exact v.one a ha a' ha' g1 g2 g3
    · obtain ⟨ch, e1, e2, e3⟩ := h5 c k hk
      refine ⟨ch, e1, e2, ?_⟩
      rw [e3]
      unfold inC
      rw [h1, List.filter_map, List.length_map]
      have hcl : ∀ a : Ask, clA s (if (a.n : Int) ∈ selI s x then inA (x.cnt + 1 + ((selI s x).idxOf (a.n : Int) : Nat)) a else a) = clA s a := fun a => by unfold clA; rw [(hg a).1]
      have hq : ∀ a ∈ x.ak, ((inP s c) ∘ fun a => if (a.n : Int) ∈ selI s x then inA (x.cnt + 1 + ((selI s x).idxOf (a.n : Int) : Nat)) a else a) a = (inP s c a || (decide (a ∈ selA s x) && decide (clA s a = c))) := fun a ha => by
        simp only [Function.comp, inP]
        rw [hcl a]
        by_cases hm : (a.n : Int) ∈ selI s x
        · have hm' := (h4 a ha).1 hm
          rw [if_pos hm]
          simp [inA, hm']
        · have hm' : ¬ a ∈ selA s x := fun h => hm ((h4 a ha).2 h)
          rw [if_neg hm]
          simp [hm']
      rw [List.filter_congr hq]
      have hsplit : ∀ l : List Ask, (∀ a ∈ l, inP s c a = true → (decide (a ∈ selA s x) && decide (clA s a = c)) = false) → (l.filter fun a => inP s c a || (decide (a ∈ selA s x) && decide (clA s a = c))).length = (l.filter (inP s c)).length + (l.filter fun a => decide (a ∈ selA s x) && decide (clA s a = c)).length := by
        intro l
        induction l with
        | nil => intro _; rfl
        | cons a l ih =>
          intro h
          have ih := ih fun b hb => h b (by simp [hb])
          have ha := h a (by simp)
          by_cases g1 : inP s c a = true
          · have g2 := ha g1
            rw [List.filter_cons_of_pos (by simp [g1]), List.filter_cons_of_pos g1, List.filter_cons_of_neg (by rw [g2]; simp)]
            simp only [List.length_cons]; omega
          · by_cases g2 : (decide (a ∈ selA s x) && decide (clA s a = c)) = true
            · rw [List.filter_cons_of_pos (by simp only [g2, Bool.or_true]), List.filter_cons_of_neg g1, List.filter_cons_of_pos (p := fun a => decide (a ∈ selA s x) && decide (clA s a = c)) g2]
              simp only [List.length_cons]; omega
            · rw [List.filter_cons_of_neg (by simp only [Bool.not_eq_true] at g1 g2; simp only [g1, g2]; simp), List.filter_cons_of_neg g1, List.filter_cons_of_neg (p := fun a => decide (a ∈ selA s x) && decide (clA s a = c)) g2]
              exact ih
      rw [hsplit x.ak fun a ha hi => by
        simp only [inP, Bool.and_eq_true] at hi
        have : ¬ a ∈ selA s x := fun h => by have := selP_out _ _ a h; rw [hi.1] at this; cases this
        simp [this]]
      congr 1
      have hf : x.ak.filter (fun a => decide (a ∈ selA s x)) = selA s x := filter_sub (nodup_of_map v.uniq) hsub fun a _ => by simp
      have : (x.ak.filter fun a => decide (a ∈ selA s x) && decide (clA s a = c)) = (x.ak.filter fun a => decide (a ∈ selA s x)).filter fun a => decide (clA s a = c) := by
        rw [List.filter_filter]
        apply List.filter_congr
        intro a _
        rw [Bool.and_comm]
      rw [this, hf]
  · have : letsF s x = x := letsF_in fun a ha => v.inn hp a (List.mem_filter.1 ha).1
    rw [this]
    exact ⟨v, Int.le_refl _, by omega⟩

/-! ### what is told -/
theorem tellA_same {a : Ask} (h : a.told = true) : tellA a = a := by cases a; simp [tellA] at h ⊢; exact h
theorem tellF_map : ∀ (k i : Nat) (ak : List Ask) (out : List Int), uniqA ak → (tellF ak out i k).1 = ak.map fun a => if (i ≤ a.n ∧ a.n < i + k) ∧ a.holds = true then tellA a else a
  | 0, i, ak, out, _ => by
    have : ∀ a : Ask, ¬ ((i ≤ a.n ∧ a.n < i + 0) ∧ a.holds = true) := fun a h => by omega
    simp only [tellF, this, if_false, List.map_id']
  | k + 1, i, ak, out, hu => by
    have stay : (∀ a ∈ ak, a.n = i → a.holds = true → a.told = true) → ∀ out', (tellF ak out' (i + 1) k).1 = ak.map fun a => if (i ≤ a.n ∧ a.n < i + (k + 1)) ∧ a.holds = true then tellA a else a := fun h out' => by
      rw [tellF_map k (i + 1) ak out' hu]
      apply List.map_congr_left
      intro a ha
      by_cases e : a.n = i
      · rw [if_neg (fun g => by omega)]
        split
        · rename_i g
          rw [tellA_same (h a ha e g.2)]
        · rfl
      · have : (i + 1 ≤ a.n ∧ a.n < i + 1 + k) ↔ (i ≤ a.n ∧ a.n < i + (k + 1)) := by omega
        simp only [this]
    simp only [tellF]
    cases hf : findA ak (i : Int) with
    | none =>
      exact stay (fun a ha e _ => absurd (by omega) (find_none hf a ha)) out
    | some a =>
      obtain ⟨h1, h2⟩ := findA_mem hf
      simp only []
      split
      · rename_i hc
        rw [show (tellF (updA ak (i : Int) tellA) (out ++ [(i : Int)]) (i + 1) k).1 = _ from tellF_map k (i + 1) (updA ak (i : Int) tellA) (out ++ [(i : Int)]) (updA_uniq (fun _ => rfl) hu)]
        unfold updA
        rw [List.map_map]
        apply List.map_congr_left
        intro b hb
        simp only [Function.comp]
        by_cases e : (b.n : Int) = (i : Int)
        · have : b = a := uniq_eq hu hb h1 (by omega)
          subst this
          simp at hc
          rw [if_pos e, if_neg (fun g => by have : (tellA b).n = b.n := rfl; omega), if_pos ⟨by omega, hc.1⟩]
        · rw [if_neg e]
          have : (i + 1 ≤ b.n ∧ b.n < i + 1 + k) ↔ (i ≤ b.n ∧ b.n < i + (k + 1)) := by omega
          simp only [this]
      · rename_i hc
        refine stay (fun b hb e hh => ?_) out
        have : b = a := uniq_eq hu hb h1 (by omega)
        subst this
        simp [hh] at hc; exact hc
def newB (ak : List Ask) (n : Nat) : Bool := match findA ak (n : Int) with
  | some a => a.holds && !a.told
  | none => false
theorem tellF_out : ∀ (k i : Nat) (ak : List Ask) (out : List Int), uniqA ak → (tellF ak out i k).2 = out ++ ((List.range' i k).filter (newB ak)).map Int.ofNat
  | 0, i, ak, out, _ => by simp [tellF]
  | k + 1, i, ak, out, hu => by
    rw [List.range'_succ]
    simp only [tellF]
    cases hf : findA ak (i : Int) with
    | none =>
      simp only []
      rw [List.filter_cons_of_neg (by simp [newB, hf])]
      exact tellF_out k (i + 1) ak out hu
    | some a =>
      simp only []
      split
      · rename_i hc
        rw [List.filter_cons_of_pos (by simp only [newB, hf]; exact hc), show (tellF (updA ak (i : Int) tellA) (out ++ [(i : Int)]) (i + 1) k).2 = _ from tellF_out k (i + 1) (updA ak (i : Int) tellA) (out ++ [(i : Int)]) (updA_uniq (fun _ => rfl) hu)]
        have : (List.range' (i + 1) k).filter (newB (updA ak (i : Int) tellA)) = (List.range' (i + 1) k).filter (newB ak) := by
          apply List.filter_congr
          intro n hn
          have hn := (List.mem_range'_1.1 hn).1
          unfold newB
          rw [find_upd (ak := ak) (n := (i : Int)) (f := tellA) (fun _ => rfl) (n : Int)]
          cases hm : findA ak (n : Int) with
          | none => rfl
          | some d =>
            have := (findA_mem hm).2
            simp only [Option.map_some]
            rw [if_neg (by omega)]
        rw [this]; simp
      · rename_i hc
        rw [List.filter_cons_of_neg (by simp only [newB, hf]; exact hc)]
        exact tellF_out k (i + 1) ak out hu

/-! ### a Grant -/
theorem unj_get {ak bk : List Ask} (h : ak.map unA = bk.map unA) {i : Nat} {a : Ask} (hi : ak[i]? = some a) : ∃ b, bk[i]? = some b ∧ unA a = unA b := by
  have := congrArg (fun l => l[i]?) h
  simp only [List.getElem?_map, hi, Option.map_some] at this
  cases hb : bk[i]? with
  | none => rw [hb] at this; cases this
  | some b => rw [hb] at this; exact ⟨b, rfl, Option.some.inj this⟩
theorem unj_eq {a b : Ask} (e : unA a = unA b) : a.res = b.res ∧ a.isIn = b.isIn ∧ a.place = b.place ∧ a.holds = b.holds ∧ a.n = b.n :=
  ⟨(congrArg Ask.res e : (unA a).res = (unA b).res), (congrArg Ask.isIn e : (unA a).isIn = (unA b).isIn), (congrArg Ask.place e : (unA a).place = (unA b).place), (congrArg Ask.holds e : (unA a).holds = (unA b).holds), (congrArg Ask.n e : (unA a).n = (unA b).n)⟩
theorem un_uniq {ak bk : List Ask} (h : ak.map unA = bk.map unA) : ak.map (fun a => a.n) = bk.map fun a => a.n := by
  have e := congrArg (List.map fun a : Ask => a.n) h
  rw [List.map_map, List.map_map] at e
  exact e
theorem un_mem {ak bk : List Ask} (h : ak.map unA = bk.map unA) {a : Ask} (ha : a ∈ ak) : ∃ b ∈ bk, unA a = unA b := by
  obtain ⟨i, hi⟩ := List.mem_iff_getElem?.1 ha
  obtain ⟨b, h1, h2⟩ := unj_get h hi
  exact ⟨b, List.mem_of_getElem? h1, h2⟩
theorem LkInv.congr {y : LS} (v : LkInv s x) (hc : y.cnt = x.cnt) (ht : y.ts = x.ts) (he : y.ak.map unA = x.ak.map unA) : LkInv s y := by
  refine ⟨by unfold uniqA; rw [un_uniq he]; exact v.uniq, fun d hd => ?_, fun d hd => ?_, by rw [hc]; exact v.cnt, fun hp d hd => ?_, fun d hd hi => ?_, fun d hd hi => ?_, fun d hd e he' g1 g2 g3 => ?_, fun hp c k hk => ?_⟩
  · obtain ⟨a, ha, e⟩ := un_mem he hd
    rw [(unj_eq e).2.2.2.2]; exact v.n a ha
  · obtain ⟨a, ha, e⟩ := un_mem he hd
    rw [(unj_eq e).1]; exact v.res a ha
  · obtain ⟨a, ha, e⟩ := un_mem he hd
    rw [(unj_eq e).2.1]; exact v.inn hp a ha
  · obtain ⟨a, ha, e⟩ := un_mem he hd
    rw [(unj_eq e).2.1] at hi
    rw [(unj_eq e).2.2.1, hc]; exact v.pin a ha hi
  · obtain ⟨a, ha, e⟩ := un_mem he hd
    rw [(unj_eq e).2.1] at hi
    rw [(unj_eq e).2.2.1, (unj_eq e).2.2.2.1]; exact v.pout a ha hi
  · obtain ⟨a, ha, q⟩ := un_mem he hd
    obtain ⟨b, hb, r⟩ := un_mem he he'
    rw [(unj_eq q).2.2.2.1] at g1
    rw [(unj_eq r).2.2.2.1] at g2
    rw [(unj_eq q).1, (unj_eq r).1] at g3
    rw [(unj_eq q).2.2.2.2, (unj_eq r).2.2.2.2]
    exact v.one a ha b hb g1 g2 g3
  · obtain ⟨ch, e1, e2, e3⟩ := v.tok hp c k hk
    refine ⟨ch, by rw [ht]; exact e1, e2, ?_⟩
    rw [e3]
    unfold inC
    have h1 : ∀ l : List Ask, (l.filter (inP s c)).length = ((l.map unA).filter (inP s c)).length := fun l => by
      rw [List.filter_map, List.length_map]; rfl
    rw [h1 x.ak, h1 y.ak, he]
/-- What was told are those that hold. -/
def Told (x : LS) : Prop := ∀ a ∈ x.ak, a.told = a.holds
theorem LkInv.grant0 (v : LkInv s x) (b : SetB s) : LkInv s (Mod.grant0 s x) ∧ x.cnt ≤ (Mod.grant0 s x).cnt ∧ (Mod.grant0 s x).cnt ≤ x.cnt + 6 ∧ ∀ a ∈ (Mod.grant0 s x).ak, a.isIn = true → a.holds = false → ∃ d ∈ (Mod.grant0 s x).ak, d.holds = true ∧ grpR s d.res = grpR s a.res := by
  unfold Mod.grant0
  split
  · exact ⟨v.gives, Int.le_refl _, by show x.cnt ≤ x.cnt + 6; omega, gives_full v⟩
  · obtain ⟨h1, h2, h3⟩ := v.lets b
    exact ⟨h1.gives, h2, h3, gives_full h1⟩
theorem LkInv.grant (v : LkInv s x) (b : SetB s) : LkInv s (grantF s x) ∧ x.cnt ≤ (grantF s x).cnt ∧ (grantF s x).cnt ≤ x.cnt + 6 ∧ (∀ a ∈ (grantF s x).ak, a.isIn = true → a.holds = false → ∃ d ∈ (grantF s x).ak, d.holds = true ∧ grpR s d.res = grpR s a.res) ∧
    (grantF s x).ak.map (·.n) = x.ak.map (·.n) ∧ (grantF s x).ak.map nrA = x.ak.map nrA ∧ ((∀ a ∈ x.ak, a.told = true → a.holds = true) → Told (grantF s x)) ∧ ∀ n ∈ grantO s x, ∃ a ∈ (grantF s x).ak, n = (a.n : Int) ∧ a.holds = true := by
  obtain ⟨h1, h2, h3, h4⟩ := v.grant0 b
  have he : (grantF s x).ak.map unA = (Mod.grant0 s x).ak.map unA := tellF_un _ _ _ _
  have hi := h1.congr (y := grantF s x) rfl rfl he
  have hmap := tellF_map s.tasks.length 0 (Mod.grant0 s x).ak [] h1.uniq
  have hnr : (Mod.grant0 s x).ak.map nrA = x.ak.map nrA := by
    have hg : ∀ (key : Ask → Int) (y : LS), (givesF s key y).ak.map nrA = y.ak.map nrA := fun key y => by
      show (giveF _ _ _).map nrA = _
      generalize idsR _ = ids
      generalize y.ak = ak
      induction ids generalizing ak with
      | nil => rfl
      | cons n t ih =>
        simp only [giveF]
        rw [ih]
        unfold giveOne
        split
        · split
          · unfold updA
            rw [List.map_map]
            apply List.map_congr_left
            intro a _
            simp only [Function.comp]
            split <;> rfl
          · rfl
        · rfl
    have hl : (letsF s x).ak.map nrA = x.ak.map nrA := by
      show (putF _ _ _).2.map nrA = _
      generalize sortI _ = ids
      generalize x.cnt = cnt
      generalize x.ak = ak
      induction ids generalizing cnt ak with
      | nil => rfl
      | cons n t ih =>
        simp only [putF]
        rw [ih]
        unfold updA
        rw [List.map_map]
        apply List.map_congr_left
        intro a _
        simp only [Function.comp]
        split <;> rfl
    unfold Mod.grant0
    split
    · exact hg _ _
    · rw [hg]; exact hl
  have hnr' : (grantF s x).ak.map nrA = x.ak.map nrA := by
    rw [← hnr]
    have e := congrArg (List.map nrA) he
    rw [List.map_map, List.map_map] at e
    exact e
  refine ⟨hi, h2, h3, fun a ha g1 g2 => ?_, ?_, hnr', fun ht a ha => ?_, fun n hn => ?_⟩
  · obtain ⟨d, hd, e⟩ := un_mem he ha
    rw [(unj_eq e).2.1] at g1
    rw [(unj_eq e).2.2.2.1] at g2
    obtain ⟨f, hf, q1, q2⟩ := h4 d hd g1 g2
    obtain ⟨f', hf', e'⟩ := un_mem he.symm hf
    exact ⟨f', hf', by rw [← (unj_eq e').2.2.2.1]; exact q1, by rw [← (unj_eq e').1, (unj_eq e).1]; exact q2⟩
  · have e := congrArg (List.map Prod.fst) hnr'
    rw [List.map_map, List.map_map] at e
    exact e
  · have ha' : a ∈ (tellF (Mod.grant0 s x).ak [] 0 s.tasks.length).1 := ha
    rw [hmap] at ha'
    obtain ⟨d, hd, rfl⟩ := List.mem_map.1 ha'
    have hdn := h1.n d hd
    by_cases hh : d.holds = true
    · rw [if_pos ⟨by omega, hh⟩]; simp [tellA, hh]
    · rw [if_neg fun g => hh g.2]
      have htg : ∀ d ∈ (Mod.grant0 s x).ak, d.told = true → d.holds = true := by
        have hg : ∀ (key : Ask → Int) (y : LS), (∀ a ∈ y.ak, a.told = true → a.holds = true) → ∀ a ∈ (givesF s key y).ak, a.told = true → a.holds = true := fun key y h => giveF_all (P := fun a => a.told = true → a.holds = true) (fun _ _ _ => rfl) _ _ h
        have hl : ∀ a ∈ (letsF s x).ak, a.told = true → a.holds = true := putF_all (P := fun a => a.told = true → a.holds = true) (fun _ _ h => h) _ _ _ ht
        unfold Mod.grant0
        split
        · exact hg _ _ ht
        · exact hg _ _ hl
      cases htd : d.told with
      | true => exact absurd (htg d hd htd) hh
      | false => simpa using hh
  · have hn' : n ∈ (tellF (Mod.grant0 s x).ak [] 0 s.tasks.length).2 := hn
    rw [tellF_out _ _ _ _ h1.uniq] at hn'
    simp only [List.nil_append, List.mem_map, List.mem_filter] at hn'
    obtain ⟨k, ⟨_, hk⟩, rfl⟩ := hn'
    unfold newB at hk
    split at hk
    · rename_i a ha
      obtain ⟨g1, g2⟩ := findA_mem ha
      simp at hk
      obtain ⟨f', hf', e'⟩ := un_mem he.symm g1
      exact ⟨f', hf', by rw [← (unj_eq e').2.2.2.2]; exact g2.symm, by rw [← (unj_eq e').2.2.2.1]; exact hk.1⟩
    · cases hk
end
end Go.Mod

/- LockGates: Grant, Ask, Leave; what is seen. -/
import Derived.Test.YthpeamllfledkaaLhA
set_option linter.unusedVariables false
set_option linter.unusedSimpArgs false
namespace Go.Mod
open Classical

section
variable {s : SetL} {x : LS} {asked : List Nat} {c m : Nat}
theorem un_back {ak bk : List Ask} (h : ak.map unA = bk.map unA) {i : Nat} {b : Ask} (hi : bk[i]? = some b) : ∃ a, ak[i]? = some a ∧ unA a = unA b := by
  obtain ⟨a, h1, h2⟩ := un_get h.symm hi
  exact ⟨a, h1, h2.symm⟩
theorem un_eq {a b : Ask} (e : unA a = unA b) : a.res = b.res ∧ a.isIn = b.isIn ∧ a.place = b.place ∧ a.holds = b.holds ∧ a.n = b.n :=
  ⟨(congrArg Ask.res e : (unA a).res = (unA b).res), (congrArg Ask.isIn e : (unA a).isIn = (unA b).isIn), (congrArg Ask.place e : (unA a).place = (unA b).place), (congrArg Ask.holds e : (unA a).holds = (unA b).holds), (congrArg Ask.n e : (unA a).n = (unA b).n)⟩
theorem GtS.congr {y : LS} (f : GtS x asked c m) (g : GtG x m) (hc : y.cnt = x.cnt) (ht : y.ts = x.ts) (he : y.ak.map unA = x.ak.map unA) : GtS y asked c m ∧ GtG y m := by
  have hn : y.ak.map (·.n) = x.ak.map (·.n) := by
    have e := congrArg (List.map fun a : Ask => a.n) he
    rw [List.map_map, List.map_map] at e
    exact e
  refine ⟨⟨hn.trans f.n, f.nd, f.lt, fun b hb => ?_, fun i b hb => ?_, fun i j b d hij hj hb hd => ?_, fun i b hi hb => ?_, f.ml, by rw [ht]; exact f.ts, fun i b hb hh => ?_⟩, fun i b hb h1 h2 => ?_⟩
  · obtain ⟨i, hi⟩ := List.mem_iff_getElem?.1 hb
    obtain ⟨a, h1, e⟩ := un_get he hi
    rw [(un_eq e).1]; exact f.res a (List.mem_of_getElem? h1)
  · obtain ⟨a, h1, e⟩ := un_get he hb
    rw [(un_eq e).2.1]; exact f.inn i a h1
  · obtain ⟨a, h1, e⟩ := un_get he hb
    obtain ⟨a', h1', e'⟩ := un_get he hd
    rw [(un_eq e).2.2.1, (un_eq e').2.2.1]; exact f.pl i j a a' hij hj h1 h1'
  · obtain ⟨a, h1, e⟩ := un_get he hb
    rw [(un_eq e).2.2.1, hc]; exact f.le i a hi h1
  · obtain ⟨a, h1, e⟩ := un_get he hb
    rw [(un_eq e).2.2.2.1] at hh
    obtain ⟨q1, q2⟩ := f.hh i a h1 hh
    refine ⟨q1, fun j d hj hd => ?_⟩
    obtain ⟨a', h1', e'⟩ := un_get he hd
    rw [(un_eq e).1, (un_eq e').1]; exact q2 j a' hj h1'
  · obtain ⟨a, h1', e⟩ := un_get he hb
    rw [(un_eq e).2.2.2.1]
    refine g i a h1' h1 fun j d hj hd => ?_
    obtain ⟨d', hd', e'⟩ := un_back he hd
    rw [← (un_eq e').1, ← (un_eq e).1]; exact h2 j d' hj hd'
theorem GtS.grant (f : GtS x asked c m) {ci : Int} (cs : CrowdS s 3 ci) (hm : m = min c asked.length ∨ (m + 1 = min c asked.length)) (hc0 : 0 ≤ x.cnt) :
    GtS (grantF s x) asked c (min c asked.length) ∧ GtG (grantF s x) (min c asked.length) ∧ (grantF s x).cnt = x.cnt + (min c asked.length - m : Nat) ∧ (grantF s x).ts.map (·.id) = x.ts.map (·.id) := by
  have hp : ¬ s.proto = 2 := by rw [cs.proto]; omega
  have hg0 : grant0 s x = givesF s (·.place) (letsF s x) := by simp only [grant0, hp, if_false]
  obtain ⟨f1, k1, i1⟩ := f.lets cs hm hc0
  obtain ⟨f2, g2⟩ := f1.give cs
  rw [← hg0] at f2 g2
  obtain ⟨f3, g3⟩ := f2.congr (y := grantF s x) g2 rfl rfl (tellF_un _ _ _ _)
  refine ⟨f3, g3, ?_, ?_⟩
  · show (grant0 s x).cnt = _
    rw [hg0]; exact k1
  · show (grant0 s x).ts.map (·.id) = _
    rw [hg0]; exact i1
theorem GtS.find (f : GtS x asked c m) {t : Nat} : (findA x.ak (t : Int)).isSome = true ↔ t ∈ asked := by
  rw [← f.n]
  constructor
  · intro hh
    obtain ⟨a, ha⟩ := Option.isSome_iff_exists.1 hh
    obtain ⟨h1, h2⟩ := findA_mem ha
    exact List.mem_map.2 ⟨a, h1, by omega⟩
  · intro hh
    obtain ⟨a, h1, h2⟩ := List.mem_map.1 hh
    rw [← h2, uniq_find f.uniq h1]; rfl
theorem GtS.ask (f : GtS x asked c m) (hp : s.proto = 3) {t : Nat} (ht : t < 6) (hn : t ∉ asked) {p : Nat} {r : Int} (hr : r = 0 ∨ r = 1) : GtS ⟨newCnt s x.cnt, x.ak ++ [newA s x.cnt t r p], x.ts⟩ (asked ++ [t]) c m := by
  have hA : newA s x.cnt t r p = ⟨t, r, 0, false, false, false, p⟩ := by simp [newA, hp]
  have hC : newCnt s x.cnt = x.cnt := by simp [newCnt, hp]
  rw [hA, hC]
  have hlen := f.len
  have hml := f.ml
  have hget : ∀ (i : Nat) b, (x.ak ++ [(⟨t, r, 0, false, false, false, p⟩ : Ask)])[i]? = some b → x.ak[i]? = some b ∨ (i = x.ak.length ∧ b = ⟨t, r, 0, false, false, false, p⟩) := fun i b hb => by
    rw [List.getElem?_append] at hb
    split at hb
    · exact .inl hb
    · rename_i h
      cases hk : i - x.ak.length with
      | zero => rw [hk] at hb; simp at hb; exact .inr ⟨by omega, hb.symm⟩
      | succ k => rw [hk] at hb; simp at hb
  refine ⟨by simp [f.n], ?_, fun u hu => ?_, fun b hb => ?_, fun i b hb => ?_, fun i j b d hij hj hb hd => ?_, fun i b hi hb => ?_, by simp; omega, f.ts, fun i b hb hh => ?_⟩
  · rw [List.nodup_append]
    exact ⟨f.nd, by simp, fun a ha b hb e => by simp at hb; subst hb; exact hn (e ▸ ha)⟩
  · rcases List.mem_append.1 hu with hu | hu
    · exact f.lt u hu
    · simp at hu; omega
  · rcases List.mem_append.1 hb with hb | hb
    · exact f.res b hb
    · simp at hb; subst hb; exact hr
  · rcases hget i b hb with h | ⟨rfl, rfl⟩
    · exact f.inn i b h
    · symm; exact decide_eq_false (by omega)
  · rcases hget i b hb with h | ⟨rfl, rfl⟩
    · rcases hget j d hd with h' | ⟨rfl, rfl⟩
      · exact f.pl i j b d hij hj h h'
      · omega
    · omega
  · rcases hget i b hb with h | ⟨rfl, rfl⟩
    · exact f.le i b hi h
    · omega
  · rcases hget i b hb with h | ⟨rfl, rfl⟩
    · obtain ⟨q1, q2⟩ := f.hh i b h hh
      refine ⟨q1, fun j d hj hd => ?_⟩
      rcases hget j d hd with h' | ⟨rfl, rfl⟩
      · exact q2 j d hj h'
      · have := (List.getElem?_eq_some_iff.1 h).1; omega
    · cases hh
/-- One of those that are in leaves. -/
theorem GtS.leave (f : GtS x asked c m) (cs : s.proto = 3) {k t : Nat} (hk : k < m) (ht : asked[k]? = some t) (hcl : ∀ a ∈ x.ak, ∃ tk, s.tasks[a.n]? = some tk ∧ tk.cluster = 0) : ∃ a, findA x.ak (t : Int) = some a ∧ a.isIn = true ∧ GtS ⟨x.cnt, dropA x.ak (t : Int), backT s a x.ts⟩ (asked.eraseIdx k) c (m - 1) ∧ (backT s a x.ts).map (·.id) = x.ts.map (·.id) := by
  have hlen := f.len
  have hml := f.ml
  have hka : k < x.ak.length := by omega
  obtain ⟨a, ha⟩ : ∃ a, x.ak[k]? = some a := ⟨_, List.getElem?_eq_getElem hka⟩
  have hat : a.n = t := by
    have : (x.ak.map (·.n))[k]? = some t := by rw [f.n]; exact ht
    rw [List.getElem?_map, ha] at this
    exact Option.some.inj this
  have hin : a.isIn = true := by rw [f.inn k a ha]; simpa using hk
  obtain ⟨c0, c1, hts, hc0, hcap⟩ := f.ts
  obtain ⟨tk, h1, h2⟩ := hcl a (List.mem_of_getElem? ha)
  have hbt : backT s a x.ts = [{ c0 with cnt := c0.cnt - 1 }, c1] := by
    unfold backT
    rw [if_pos ⟨cs, hin⟩, h1]
    simp [h2, hts]
  have hd : dropA x.ak (t : Int) = x.ak.eraseIdx k := by
    unfold dropA
    rw [List.eraseIdx_eq_take_drop_succ]
    conv => lhs; rw [← List.take_append_drop (k + 1) x.ak, List.take_add_one, ha]
    rw [List.filter_append, List.filter_append]
    have e1 : (x.ak.take k).filter (fun b => !decide ((b.n : Int) = (t : Int))) = x.ak.take k := by
      rw [List.filter_eq_self]
      intro b hb
      obtain ⟨i, hi⟩ := List.mem_iff_getElem?.1 hb
      have hil := (List.getElem?_eq_some_iff.1 hi).1
      rw [List.length_take] at hil
      rw [List.getElem?_take_of_lt (by omega)] at hi
      simp
      intro e
      have := map_inj_at f.uniq hi ha (by show b.n = a.n; omega)
      omega
    have e2 : (x.ak.drop (k + 1)).filter (fun b => !decide ((b.n : Int) = (t : Int))) = x.ak.drop (k + 1) := by
      rw [List.filter_eq_self]
      intro b hb
      obtain ⟨i, hi⟩ := List.mem_iff_getElem?.1 hb
      rw [List.getElem?_drop] at hi
      simp
      intro e
      have := map_inj_at f.uniq hi ha (by show b.n = a.n; omega)
      omega
    rw [e1, e2]
    simp [hat]
  refine ⟨a, by rw [← hat]; exact uniq_find f.uniq (List.mem_of_getElem? ha), hin, ?_, by rw [hbt, hts]; rfl⟩
  rw [hd, hbt]
  have hget : ∀ (i : Nat) b, (x.ak.eraseIdx k)[i]? = some b → x.ak[if i < k then i else i + 1]? = some b := fun i b hb => by
    rw [List.getElem?_eraseIdx] at hb
    split at hb
    · rename_i h; rw [if_pos h]; exact hb
    · rename_i h; rw [if_neg h]; exact hb
  refine ⟨?_, f.nd.sublist (List.eraseIdx_sublist ..), fun u hu => f.lt u ((List.eraseIdx_sublist ..).subset hu), fun b hb => f.res b ((List.eraseIdx_sublist ..).subset hb), fun i b hb => ?_, fun i j b d hij hj hb hd => ?_, fun i b hi hb => ?_, ?_, ⟨_, c1, rfl, by show c0.cnt - 1 = m - 1; omega, hcap⟩, fun i b hb hh => ?_⟩
  · show (x.ak.eraseIdx k).map (·.n) = _
    rw [← f.n, List.eraseIdx_eq_take_drop_succ, List.eraseIdx_eq_take_drop_succ]
    simp [List.map_take, List.map_drop]
  · rw [f.inn _ b (hget i b hb)]
    congr 1
    apply propext
    split <;> omega
  · refine f.pl _ _ b d ?_ ?_ (hget i b hb) (hget j d hd)
    · split <;> split <;> omega
    · split <;> omega
  · refine f.le _ b ?_ (hget i b hb)
    split <;> omega
  · rw [List.length_eraseIdx_of_lt (by omega)]; omega
  · obtain ⟨q1, q2⟩ := f.hh _ b (hget i b hb) hh
    refine ⟨?_, fun j d hj hd => q2 _ d ?_ (hget j d hd)⟩
    · split at q1 <;> omega
    · split <;> split <;> omega
end
end Go.Mod

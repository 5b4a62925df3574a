/- LockGates: those that hold are told. -/
import Derived.Test.YthpeamllfledkaaLhB
set_option linter.unusedVariables false
set_option linter.unusedSimpArgs false
namespace Go.Mod
open Classical

/-- How many hold. -/
def cntH (ak : List Ask) : Nat := (ak.filter fun a => a.holds).length
theorem cntH_cons (a : Ask) (ak : List Ask) : cntH (a :: ak) = (if a.holds then 1 else 0) + cntH ak := by
  unfold cntH
  rw [List.filter_cons]
  cases a.holds <;> simp <;> omega
section
variable {s : SetL} {x : LS} {asked : List Nat} {c m : Nat}
theorem GtS.cnt_le (f : GtS x asked c m) : cntH x.ak ≤ m ∧ cntH x.ak ≤ 2 := by
  constructor
  · have h1 : x.ak.filter (fun a => a.holds) = (x.ak.take m).filter fun a => a.holds := by
      conv => lhs; rw [← List.take_append_drop m x.ak]
      rw [List.filter_append]
      have : (x.ak.drop m).filter (fun a => a.holds) = [] := by
        rw [List.filter_eq_nil_iff]
        intro a ha hh
        obtain ⟨i, hi⟩ := List.mem_iff_getElem?.1 ha
        rw [List.getElem?_drop] at hi
        have := (f.hh _ a hi hh).1
        omega
      rw [this, List.append_nil]
    unfold cntH
    rw [h1]
    refine Nat.le_trans (List.length_filter_le _ _) ?_
    rw [List.length_take]; omega
  · have hnd : ((x.ak.filter fun a => a.holds).map fun a => a.res.toNat).Nodup := by
      have hp : x.ak.Pairwise fun a b => a.holds = true → b.holds = true → a.res ≠ b.res := by
        rw [List.pairwise_iff_getElem]
        intro i j hi hj hij _ h2
        exact (f.hh j _ (List.getElem?_eq_getElem hj) h2).2 i _ hij (List.getElem?_eq_getElem hi)
      have hp2 := (hp.sublist (List.filter_sublist (p := fun a => a.holds)))
      unfold List.Nodup
      rw [List.pairwise_map]
      refine List.Pairwise.imp_of_mem (fun {a b} ha hb h => ?_) hp2
      have h1 := h (List.mem_filter.1 ha).2 (List.mem_filter.1 hb).2
      have r1 := f.res a (List.mem_filter.1 ha).1
      have r2 := f.res b (List.mem_filter.1 hb).1
      omega
    have := nodup_lt 2 _ hnd (fun t ht => by
      obtain ⟨a, ha, rfl⟩ := List.mem_map.1 ht
      rcases f.res a (List.mem_filter.1 ha).1 with h | h <;> rw [h] <;> decide)
    rw [List.length_map] at this
    exact this
theorem GtS.holds (f : GtS x asked c m) {k t : Nat} {a : Ask} (ha : x.ak[k]? = some a) (ht : asked[k]? = some t) : a.n = t ∧ holdsB x.ak (t : Int) = a.holds ∧ boostF 3 x.ak (t : Int) = if a.holds then a.place else 0 := by
  have hat : a.n = t := by
    have : (x.ak.map (·.n))[k]? = some t := by rw [f.n]; exact ht
    rw [List.getElem?_map, ha] at this
    exact Option.some.inj this
  have hfa : findA x.ak (t : Int) = some a := by rw [← hat]; exact uniq_find f.uniq (List.mem_of_getElem? ha)
  refine ⟨hat, by unfold holdsB; rw [hfa], ?_⟩
  unfold boostF; rw [hfa]; simp
variable {H : MH} {l : Nat} {L : Lay} {es : List (Int × Value)} {wl : List Int}
theorem seen_loop {o : Value} {i : Int} {ci : Int} (hci : ci = (c : Int)) (cs : CrowdS s 3 ci) (f : GtS x asked c m) (hmc : m ≤ c) (V : LkV H l s L (x.ak.map entC) x.cnt wl x.ak x.ts) {aa : Option Addr} {an ac : Nat} (hr : Row 1 H (.slice aa an ac) (i64s (linI asked))) (han : an = asked.length) {B : Int} (hB : x.cnt ≤ B) (hB2 : B ≤ 1000) :
    ∀ (d k : Nat) (n : Nat) (last : Int), k + d = asked.length → n + d ≤ 100 → 0 ≤ last → last ≤ B →
    ∃ last' : Int, 0 ≤ last' ∧ last' ≤ B ∧ Rc mpLk (.loop m7_0) [(0, o), (5, .int .i64 ci), (6, .pointer (some ⟨l, 0, none⟩)), (7, .slice aa an ac), (8, .int .i64 last), (9, .int .i64 i), (13, .int .i64 (n : Int)), (14, .int .i64 (k : Int))] H =
      some (.exit 2, [(0, o), (5, .int .i64 ci), (6, .pointer (some ⟨l, 0, none⟩)), (7, .slice aa an ac), (8, .int .i64 last'), (9, .int .i64 i), (13, .int .i64 ((n + cntH (x.ak.drop k) : Nat) : Int)), (14, .int .i64 (an : Int)), (98, .bool false)], H) := by
  intro d
  have hlen := f.len
  have h6 := f.len6
  induction d with
  | zero =>
    intro k n last hk hn h0 h1
    have : k = an := by omega
    subst this
    refine ⟨last, h0, h1, ?_⟩
    rw [Rc_loop, List.drop_of_length_le (by omega)]
    simp [m7_0, cntH]
  | succ d ih =>
    intro k n last hk hn h0 h1
    have hkl : k < asked.length := by omega
    obtain ⟨t, ht⟩ : ∃ t, asked[k]? = some t := ⟨_, List.getElem?_eq_getElem hkl⟩
    obtain ⟨a, ha⟩ : ∃ a, x.ak[k]? = some a := ⟨_, List.getElem?_eq_getElem (by omega)⟩
    have hdr : x.ak.drop k = a :: x.ak.drop (k + 1) := by rw [List.drop_eq_getElem_cons (by omega)]; congr 1; exact (List.getElem?_eq_some_iff.1 ha).2
    obtain ⟨_, g1, g2⟩ := f.holds ha ht
    have e1 := R_holds (mp := mpLk) rfl V (t : Int)
    have e2 := R_boost (mp := mpLk) rfl rfl V (t : Int)
    rw [g1] at e1
    rw [cs.proto, g2] at e2
    have hkn : (k : Int) < (an : Int) := by omega
    have w1 : IntKind.i64.wrap ((k : Int) + 1) = (k : Int) + 1 := wrap_i64 (by omega) (by omega)
    have w2 : IntKind.i64.wrap ((n : Int) + 1) = (n : Int) + 1 := wrap_i64 (by omega) (by omega)
    obtain ⟨b, oo, j, cs', rfl, hBb, hes, hat⟩ := hr.at (k := k) (by omega)
    have hlk : (linI asked)[k]? = some (t : Int) := by unfold linI; rw [List.getElem?_map, ht]; rfl
    rw [i64s_get hlk] at hat
    have hkan : k < an := by omega
    rw [hdr, cntH_cons]
    by_cases hh : a.holds = true
    · obtain ⟨q1, _⟩ := f.hh k a ha hh
      obtain ⟨p1, p2⟩ := f.le k a q1 ha
      obtain ⟨last', l0, l1, l2⟩ := ih (k + 1) (n + 1) (max last a.place) (by omega) (by omega) (by omega) (by omega)
      refine ⟨last', l0, l1, ?_⟩
      simp only [hh, if_true] at e1 e2 ⊢
      rw [show n + (1 + cntH (x.ak.drop (k + 1))) = n + 1 + cntH (x.ak.drop (k + 1)) by omega, Rc_loop]
      have hkc : ¬ ci ≤ (k : Int) := by omega
      simp at l2
      simp [m7_0, hkan, ld_at hBb, hat, e1, w2, hkc, e2, w1]
      exact l2
    · have hh : a.holds = false := by simpa using hh
      obtain ⟨last', l0, l1, l2⟩ := ih (k + 1) n last (by omega) (by omega) h0 h1
      refine ⟨last', l0, l1, ?_⟩
      simp only [hh, Bool.false_eq_true, if_false] at e1 e2 ⊢
      rw [show n + (0 + cntH (x.ak.drop (k + 1))) = n + cntH (x.ak.drop (k + 1)) by omega, Rc_loop]
      simp at l2
      simp [m7_0, hkan, ld_at hBb, hat, e1, w1]
      exact l2
end
end Go.Mod

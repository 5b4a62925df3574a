/- The document's locks: a Grant gives the same. -/
import Derived.Test.YthpeamllfledkaaRfF
set_option linter.unusedVariables false
set_option linter.unusedSimpArgs false
namespace Go.Mod
open Classical

/-- Some of them hold now. -/
noncomputable def selH (S : Ask → Prop) (a : Ask) : Ask := if S a then holdA a else a
section
variable {s : SetL} {x : LS} {S : Ask → Prop}
theorem selH_same (a : Ask) : (selH S a).n = a.n ∧ (selH S a).res = a.res ∧ (selH S a).isIn = a.isIn ∧ (selH S a).place = a.place ∧ (selH S a).holds = (decide (S a) || a.holds) := by
  unfold selH; split <;> rename_i h <;> simp [holdA, h]
theorem heldR_iff {ak : List Ask} {res : Int} : heldR s ak res = true ↔ ∃ a ∈ ak, a.holds = true ∧ grpR s a.res = grpR s res := by
  unfold heldR; simp
theorem heldR_selH {ak : List Ask} {res : Int} : heldR s (ak.map (selH S)) res = true ↔ ∃ a ∈ ak, (S a ∨ a.holds = true) ∧ grpR s a.res = grpR s res := by
  rw [heldR_iff]
  constructor
  · rintro ⟨d, hd, h1, h2⟩
    obtain ⟨a, ha, rfl⟩ := List.mem_map.1 hd
    rw [(selH_same a).2.2.2.2] at h1
    rw [(selH_same a).2.1] at h2
    exact ⟨a, ha, by simpa using h1, h2⟩
  · rintro ⟨a, ha, h1, h2⟩
    exact ⟨_, List.mem_map_of_mem ha, by rw [(selH_same a).2.2.2.2]; simpa using h1, by rw [(selH_same a).2.1]; exact h2⟩
theorem fin_props {key : Ask → Int} {ak : List Ask} {a : Ask} (h : finA s key ak a) : a ∈ ak ∧ a.holds = false ∧ a.isIn = true := by
  have := List.mem_filter.1 (fmin_mem h.2)
  simp at this
  exact ⟨this.1, this.2.1, this.2.2⟩
theorem best_fin (v : LkInv s x) (hS : ∀ a ∈ x.ak, S a → finA s (keyR s) x.ak a) {q : Nat} {d : Ask} (hq : (x.ak.map (selH S))[q]? = some d) (hb : fmin (keyR s) ((x.ak.map (selH S)).filter (candR s (x.ak.map (selH S)))) = some d) :
    ∃ a, x.ak[q]? = some a ∧ ¬ S a ∧ d = a ∧ finA s (keyR s) x.ak a := by
  rw [List.getElem?_map] at hq
  obtain ⟨a, ha, rfl⟩ := Option.map_eq_some_iff.1 hq
  have ham := List.mem_of_getElem? ha
  have hc := (List.mem_filter.1 (fmin_mem hb)).2
  unfold candR at hc
  simp only [Bool.and_eq_true, Bool.not_eq_true', decide_eq_true_eq] at hc
  obtain ⟨c1, c2, c3⟩ := hc
  have hnS : ¬ S a := fun h => by rw [(selH_same a).2.2.2.2] at c1; simp [h] at c1
  have hsa : selH S a = a := by unfold selH; rw [if_neg hnS]
  rw [hsa] at hb c1 c2 c3
  have hfree : ∀ b ∈ x.ak, (S b ∨ b.holds = true) → grpR s b.res ≠ grpR s a.res := fun b hb' h e => by
    have := heldR_selH.2 ⟨b, hb', h, e⟩
    rw [c3] at this; cases this
  refine ⟨a, ha, hnS, hsa, fun b hb' h => hfree b hb' (.inr h), ?_⟩
  have h1 := fmin_filter (p := fun d => decide (grpR s d.res = grpR s a.res)) hb (by simp)
  have h2 : ((x.ak.map (selH S)).filter (candR s (x.ak.map (selH S)))).filter (fun d => decide (grpR s d.res = grpR s a.res)) = candA s x.ak (grpR s a.res) := by
    rw [List.filter_filter, List.filter_map]
    have e1 : x.ak.filter ((fun d => decide (grpR s d.res = grpR s a.res) && candR s (x.ak.map (selH S)) d) ∘ selH S) = candA s x.ak (grpR s a.res) := by
      unfold candA
      apply List.filter_congr
      intro b hbm
      simp only [Function.comp]
      by_cases hg : grpR s b.res = grpR s a.res
      · have hnb : ¬ S b := fun h => hfree b hbm (.inl h) hg
        have hsb : selH S b = b := by unfold selH; rw [if_neg hnb]
        rw [hsb]
        have hhb : b.holds = false := by
          cases h : b.holds with
          | false => rfl
          | true => exact absurd hg (hfree b hbm (.inr h))
        have hhe : heldR s (x.ak.map (selH S)) b.res = false := by
          rw [Bool.eq_false_iff]
          intro h
          obtain ⟨e, he, h1, h2⟩ := heldR_selH.1 h
          exact hfree e he h1 (h2.trans hg)
        have hin : b.isIn = decide (0 < b.place) := by
          cases hi : b.isIn with
          | true => have := v.pin b hbm hi; rw [decide_eq_true (by omega)]
          | false => have := (v.pout b hbm hi).1; rw [decide_eq_false (by omega)]
        unfold candR
        rw [hhe, hhb, hin]
        simp [hg]
      · have : grpR s (selH S b).res ≠ grpR s a.res := by rw [(selH_same b).2.1]; exact hg
        simp [this, hg]
    rw [e1]
    have : ∀ l : List Ask, (∀ b ∈ l, ¬ S b) → l.map (selH S) = l := fun l h => by
      conv => rhs; rw [← List.map_id l]
      apply List.map_congr_left
      intro b hb
      unfold selH; rw [if_neg (h b hb)]; rfl
    refine this _ fun b hbm h => ?_
    have := List.mem_filter.1 hbm
    simp at this
    exact hfree b this.1 (.inl h) this.2.2
  rw [h2] at h1
  exact h1
theorem best_end (v : LkInv s x) (hS : ∀ a ∈ x.ak, S a → finA s (keyR s) x.ak a) (hb : fmin (keyR s) ((x.ak.map (selH S)).filter (candR s (x.ak.map (selH S)))) = none) : ∀ a, finA s (keyR s) x.ak a → S a := by
  intro a fa
  obtain ⟨ham, hh, hi⟩ := fin_props fa
  apply Classical.byContradiction
  intro hn
  have hsa : selH S a = a := by unfold selH; rw [if_neg hn]
  have he := fmin_none.1 hb
  have hc : candR s (x.ak.map (selH S)) a = true := by
    have hpl := (v.pin a ham hi).1
    have hhe : heldR s (x.ak.map (selH S)) a.res = false := by
      rw [Bool.eq_false_iff]
      intro h
      obtain ⟨e, hem, h1, h2⟩ := heldR_selH.1 h
      rcases h1 with h1 | h1
      · have fe := hS e hem h1
        have k1 := fa.2
        have k2 := fe.2
        rw [h2, k1] at k2
        cases k2
        exact hn h1
      · exact fa.1 e hem h1 h2
    unfold candR
    rw [hhe, hh]
    simp; omega
  have : a ∈ (x.ak.map (selH S)).filter (candR s (x.ak.map (selH S))) := List.mem_filter.2 ⟨by rw [← hsa]; exact List.mem_map_of_mem ham, hc⟩
  rw [he] at this; cases this
end

/-! ### the loops -/
def QL (r : Nat) (s : SetL) (ak : List Ask) (cnt : Int) (b3 : Nat) (N : Nat → Bool) : List (MH → List Nat → Prop) := [RfA r s ak cnt, Pt b3 ⟨1, true, false⟩ (narr N)]
theorem QL.good {r : Nat} {s : SetL} {ak : List Ask} {cnt : Int} {b3 : Nat} {N : Nat → Bool} : ∀ P ∈ QL r s ak cnt b3 N, Good P := by
  intro P hP
  simp only [QL, List.mem_cons, List.not_mem_nil, or_false] at hP
  rcases hP with rfl | rfl
  · exact RfA.good
  · exact Pt.good
section
variable {mp : FuncId → Option MDef} {H H0 : MH} {F : List Nat} {r : Nat} {s : SetL} {cnt : Int} {x : LS}
theorem give_loop (h41 : mp 41 = some (.code m41)) (h61 : mp 61 = some (.code m61)) (h62 : mp 62 = some (.code m62)) (hs : SetAt H0 s) (b : SetB s) (v : LkInv s x) {b3 : Nat} : ∀ (k : Nat) (S : Ask → Prop) (N : Nat → Bool) (bi : Int) (H : MH) (F : List Nat), (x.ak.filter fun a => decide (¬ S a)).length ≤ k → (∀ a ∈ x.ak, S a → finA s (keyR s) x.ak a) → (∀ t, N t = true ↔ ∃ a ∈ x.ak, a.n = t ∧ S a) →
    BestAt s (x.ak.map (selH S)) (x.ak.map (selH S)).length bi → Ext H0 H → (∀ id ∈ F, H0.length ≤ id) → Sep (QL r s (x.ak.map (selH S)) cnt b3 N) H F →
    ∃ (M : Nat → Bool) (bj : Int) (H' : MH) (F' : List Nat), Rc mp (.loop m16_1) [(0, .pointer (some ⟨r, 0, none⟩)), (3, .pointer (some ⟨b3, 0, none⟩)), (4, .int .i64 bi)] H = some (.exit 0, [(0, .pointer (some ⟨r, 0, none⟩)), (3, .pointer (some ⟨b3, 0, none⟩)), (4, .int .i64 bj), (26, .bool false)], H') ∧
      Sep (QL r s (x.ak.map (selH fun a => finA s (keyR s) x.ak a)) cnt b3 M) H' F' ∧ Upd H F H' F' ∧ ∀ t, M t = true ↔ ∃ a ∈ x.ak, a.n = t ∧ finA s (keyR s) x.ak a := by
  have hnt := b.nt
  have hakl := uniq_len v.uniq v.n
  intro k
  induction k with
  | zero =>
    intro S N bi H F hk hS hN hb e hF h
    rcases hb with ⟨rfl, hb⟩ | ⟨q, d, rfl, hq, hb⟩
    · rw [List.take_length] at hb
      have hend := best_end v hS hb
      have hSe : x.ak.map (selH S) = x.ak.map (selH fun a => finA s (keyR s) x.ak a) := by
        apply List.map_congr_left
        intro a ha
        unfold selH
        by_cases h : S a
        · rw [if_pos h, if_pos (hS a ha h)]
        · rw [if_neg h, if_neg fun h' => h (hend a h')]
      refine ⟨N, -1, H, F, ?_, hSe ▸ h, Upd.refl _ _, fun t => ?_⟩
      · rw [Rc_loop]
        simp [m16_1]
      · rw [hN]
        exact ⟨fun ⟨a, h1, h2, h3⟩ => ⟨a, h1, h2, hS a h1 h3⟩, fun ⟨a, h1, h2, h3⟩ => ⟨a, h1, h2, hend a h3⟩⟩
    · rw [List.take_length] at hb
      obtain ⟨a, ha, hnS, _⟩ := best_fin v hS hq hb
      have : a ∈ x.ak.filter fun a => decide (¬ S a) := List.mem_filter.2 ⟨List.mem_of_getElem? ha, by simpa using hnS⟩
      have := List.length_pos_of_mem this
      omega
  | succ k ih =>
    intro S N bi H F hk hS hN hb e hF h
    rcases hb with ⟨rfl, hb⟩ | ⟨q, d, rfl, hq, hb⟩
    · rw [List.take_length] at hb
      have hend := best_end v hS hb
      have hSe : x.ak.map (selH S) = x.ak.map (selH fun a => finA s (keyR s) x.ak a) := by
        apply List.map_congr_left
        intro a ha
        unfold selH
        by_cases h : S a
        · rw [if_pos h, if_pos (hS a ha h)]
        · rw [if_neg h, if_neg fun h' => h (hend a h')]
      refine ⟨N, -1, H, F, ?_, hSe ▸ h, Upd.refl _ _, fun t => ?_⟩
      · rw [Rc_loop]
        simp [m16_1]
      · rw [hN]
        exact ⟨fun ⟨a, h1, h2, h3⟩ => ⟨a, h1, h2, hS a h1 h3⟩, fun ⟨a, h1, h2, h3⟩ => ⟨a, h1, h2, hend a h3⟩⟩
    · rw [List.take_length] at hb
      obtain ⟨a, ha, hnS, rfl, hfin⟩ := best_fin v hS hq hb
      have ham := List.mem_of_getElem? ha
      have hn := v.n d ham
      have hn6 : d.n < 6 := by omega
      have hn6I : (d.n : Int) < 6 := by omega
      -- it holds now
      let S' : Ask → Prop := fun b => S b ∨ b.n = d.n
      have hS' : ∀ b ∈ x.ak, S' b → finA s (keyR s) x.ak b := fun b hb h => by
        rcases h with h | h
        · exact hS b hb h
        · rw [uniq_eq v.uniq hb ham h]; exact hfin
      have hset : (x.ak.map (selH S)).set q (holdA d) = x.ak.map (selH S') := by
        apply List.ext_getElem?
        intro j
        rw [List.getElem?_map]
        by_cases ej : q = j
        · subst ej
          rw [List.getElem?_set_self (List.getElem?_eq_some_iff.1 hq).1, ha]
          simp [selH, S']
        · rw [List.getElem?_set_ne ej, List.getElem?_map]
          cases hj : x.ak[j]? with
          | none => rfl
          | some b =>
            have hne : b.n ≠ d.n := fun e => ej (map_inj_at v.uniq ha hj (by show d.n = b.n; exact e.symm))
            simp [selH, S', hne]
      let N' : Nat → Bool := fun t => if t = d.n then true else N t
      have hN' : ∀ t, N' t = true ↔ ∃ a ∈ x.ak, a.n = t ∧ S' a := fun t => by
        show (if t = d.n then true else N t) = true ↔ _
        by_cases e : t = d.n
        · rw [if_pos e]
          exact ⟨fun _ => ⟨d, ham, e.symm, .inr rfl⟩, fun _ => rfl⟩
        · rw [if_neg e, hN]
          constructor
          · rintro ⟨a, h1, h2, h3⟩; exact ⟨a, h1, h2, .inl h3⟩
          · rintro ⟨a, h1, h2, h3 | h3⟩
            · exact ⟨a, h1, h2, h3⟩
            · omega
      have hmeas : (x.ak.filter fun a => decide (¬ S' a)).length ≤ k := by
        have : (x.ak.filter fun a => decide (¬ S' a)).length < (x.ak.filter fun a => decide (¬ S a)).length := by
          have hsplit : x.ak.filter (fun a => decide (¬ S' a)) = (x.ak.filter fun a => decide (¬ S a)).filter fun b => !decide (b.n = d.n) := by
            rw [List.filter_filter]
            apply List.filter_congr
            intro b _
            show decide (¬ (S b ∨ b.n = d.n)) = _
            by_cases h1 : S b <;> by_cases h2 : b.n = d.n <;> simp [h1, h2]
          rw [hsplit]
          refine Nat.lt_of_le_of_ne (List.length_filter_le _ _) fun e => ?_
          have := List.length_filter_eq_length_iff.1 e d (List.mem_filter.2 ⟨ham, by simpa using hnS⟩)
          simp at this
        omega
      -- the writes
      have hql := (List.getElem?_eq_some_iff.1 hq).1
      obtain ⟨_, H1, F1, p1, u1, a, c, l1, l2, l3⟩ := Sep.upd (ι := Unit) (k := 0) (P' := fun _ => RfA r s (x.ak.map (selH S')) cnt) (C := fun _ H' => ∃ a c, mread (.ld none) [.pointer (some ⟨r, 4, none⟩)] H = some (.slice a (x.ak.map (selH S)).length c) ∧ mpure (.ia 4) [.slice a (x.ak.map (selH S)).length c, .int .i64 (q : Int)] = some (.pointer (some ⟨adB a, adO a + q * 4, none⟩)) ∧
          meff (.st 1) [.pointer (some ⟨adB a, adO a + q * 4 + 3, none⟩), .bool true] H = some (.tuple #[], H')) (fun _ => RfA.good) QL.good h rfl (fun A hA _ => by
        obtain ⟨a, c, hA⟩ := hA
        have V := RfV.of hA (hs.ext e)
        have hd := ld_at V.loc 4
        obtain ⟨H', w1, w2, w3⟩ := rf_field hA hq (d' := holdA d) (j := 3) (v := .bool true) (by omega) rfl rfl
        rw [hset] at w2
        refine ⟨(), H', A, ⟨a, c, w2⟩, w3, a, c, by rw [hd]; rfl, ?_, w1⟩
        have := V.row.ia c .i64 (q : Int)
        rw [if_pos (by omega)] at this
        simpa using this)
      have p1 : Sep (QL r s (x.ak.map (selH S')) cnt b3 N) H1 F1 := p1
      obtain ⟨e1, hF1⟩ := upd_extL e hF u1
      obtain ⟨A1, hA1, _⟩ := Sep.at_ (k := 0) p1 rfl
      obtain ⟨a1, c1, hA1⟩ := hA1
      have V1 := RfV.of hA1 (hs.ext e1)
      have hd1 := ld_at V1.loc
      simp only [rfC] at hd1
      have hq1 : (x.ak.map (selH S'))[q]? = some (selH S' d) := by rw [List.getElem?_map, ha]; rfl
      have hql1 := (List.getElem?_eq_some_iff.1 hq1).1
      have hia1 := V1.row.ia c1 .i64 (q : Int)
      rw [if_pos (by omega)] at hia1
      have hrd1 := V1.row.rd0 hq1 (by omega) H1 (Ext.refl _)
      simp only [askR] at hrd1
      rw [(selH_same d).1] at hrd1
      obtain ⟨_, H2, F2, p2, u2, l4⟩ := Sep.upd (ι := Unit) (k := 1) (P' := fun _ => Pt b3 ⟨1, true, false⟩ (narr N')) (C := fun _ H' => meff (.st 1) [.pointer (some ⟨b3, d.n, none⟩), .bool true] H1 = some (.tuple #[], H')) (fun _ => Pt.good) QL.good p1 rfl (fun A hA _ => by
        obtain ⟨rfl, hA⟩ := hA
        have hl := (List.getElem?_eq_some_iff.1 hA).1
        have hst := st_at hA rfl d.n (.bool true) rfl (by rw [narr_len]; exact hn6)
        rw [narr_set hn6 (M := N') (fun q => rfl)] at hst
        refine ⟨(), _, [b3], ⟨rfl, by rw [List.getElem?_set_self hl]⟩, ⟨by simp, fun id hid hn => ?_, fun id hid => .inl hid⟩, hst⟩
        have hne : b3 ≠ id := fun e => hn (by simp [e])
        rw [List.getElem?_set_ne hne])
      have p2 : Sep (QL r s (x.ak.map (selH S')) cnt b3 N') H2 F2 := p2
      obtain ⟨e2, hF2⟩ := upd_extL e1 hF1 u2
      obtain ⟨A2, hA2, _⟩ := Sep.at_ (k := 0) p2 rfl
      obtain ⟨a2, c2, hA2⟩ := hA2
      have V2 := RfV.of hA2 (hs.ext e2)
      have hN2 : ∀ d ∈ x.ak.map (selH S'), d.n < s.tasks.length := fun d hd => by
        obtain ⟨a, ha, rfl⟩ := List.mem_map.1 hd
        rw [(selH_same a).1]; exact v.n a ha
      have hR2 : ∀ d ∈ x.ak.map (selH S'), 0 ≤ d.res ∧ d.res < (s.homes.length : Int) := fun d hd => by
        obtain ⟨a, ha, rfl⟩ := List.mem_map.1 hd
        rw [(selH_same a).2.1]; exact v.res a ha
      obtain ⟨bj, hbj, H3, l5, x3⟩ := G_best (mp := mp) (H := H2) h41 h61 h62 V2 (by rw [List.length_map]; omega) hN2 hR2 (Ext.refl _)
      obtain ⟨M, bk, H', F', f1, f2, f3, f4⟩ := ih S' N' bj H3 F2 (by refine Nat.le_trans (Nat.le_of_eq ?_) hmeas; congr 1; apply List.filter_congr; intro a _; congr) hS' hN' hbj (e2.trans x3) hF2 (Sep.ext QL.good p2 x3)
      refine ⟨M, bk, H', F', ?_, f2, ((u1.trans u2).trans (Upd.ext x3)).trans f3, f4⟩
      simp at hia1 l1 l2
      rw [Rc_loop]
      simp (maxDischargeDepth := 8) [m16_1, l1, l2, l3, hd1, hia1, hrd1, hn6I, hn6, l4, l5]
      exact f1
end
end Go.Mod

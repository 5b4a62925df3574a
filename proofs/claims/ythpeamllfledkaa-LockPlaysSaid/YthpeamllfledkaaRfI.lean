/- LockPlays: they are alike. -/
import Derived.Test.YthpeamllfledkaaRfH
set_option linter.unusedVariables false
set_option linter.unusedSimpArgs false
namespace Go.Mod
open Classical

theorem holder_someJ {ak : List Ask} {N : Nat} {res : Int} (hu : uniqA ak) {n : Nat} (h : holderF ak N res = some n) : n < N ∧ ∃ a ∈ ak, a.n = n ∧ a.holds = true ∧ a.res = res := by
  obtain ⟨h1, h2, h3, _⟩ := firstN_some N 0 n h
  obtain ⟨a, ha, g1, g2, g3⟩ := (holdsR_iff hu).1 h3
  exact ⟨by omega, a, ha, g1, g2, g3⟩
section
variable {H H0 : MH} {F : List Nat} {r l : Nat} {s sR : SetL} {L : Lay} {x : LS} {cnt : Int} {a : Option Addr} {c : Nat}
theorem alike1 (sm : SameS s sR) (b : SetB s) (v : LkInv s x) (V : LkV H l s L (x.ak.map entC) x.cnt (waitL x.ak) x.ak x.ts) (W : RfV H r sR cnt x.ak a c) : ∀ (k : Nat) (t : Int), t + k = 7 → -1 ≤ t →
    Rc mpLk (.loop m19_1) [(0, .pointer (some ⟨l, 0, none⟩)), (1, .pointer (some ⟨r, 0, none⟩)), (5, .int .i64 t)] H = some (.exit 0, [(0, .pointer (some ⟨l, 0, none⟩)), (1, .pointer (some ⟨r, 0, none⟩)), (5, .int .i64 7), (12, .bool false)], H) := by
  have hnt := b.nt
  have hakl := uniq_len v.uniq v.n
  intro k
  induction k with
  | zero =>
    intro t ht h0
    have : t = 7 := by omega
    subst this
    rw [Rc_loop]
    simp [m19_1]
  | succ k ih =>
    intro t ht h0
    have h6 : t ≤ 6 := by omega
    have w : IntKind.i64.wrap (t + 1) = t + 1 := wrap_i64 (by omega) (by omega)
    have h21 := R_holds (mp := mpLk) lkP.f21 V t
    have h26 := R_boost (mp := mpLk) lkP.f26 lkP.f21 V t
    have h43 := R_holdsR (mp := mpLk) rfl rfl W v.uniq (by omega) t
    have h44 := R_boostR (mp := mpLk) rfl rfl rfl W v.uniq (by omega) t
    rw [← sm.proto] at h44
    have := ih (t + 1) (by omega) (by omega)
    rw [Rc_loop]
    simp [m19_1, h6, h21, h26, h43, h44, w]
    exact this
theorem holders_same (v : LkInv s x) (res : Int) : holdRV (holdR x.ak res) = holderV (holderF x.ak s.tasks.length res) := by
  cases hh : holderF x.ak s.tasks.length res with
  | none =>
    have hn := (holderF_none v.uniq v.n).1 hh
    have : holdR x.ak res = none := by
      unfold holdR
      rw [List.find?_eq_none]
      intro d hd h
      simp at h
      exact hn d hd h.2 h.1
    rw [this]; rfl
  | some n =>
    obtain ⟨_, d, hd, hn, h1, h2⟩ := holder_someJ v.uniq hh
    have : holdR x.ak res = some d := by
      unfold holdR
      cases hf : x.ak.find? fun a => decide (a.res = res) && a.holds with
      | none =>
        have := List.find?_eq_none.1 hf d hd
        simp [h1, h2] at this
      | some e =>
        have he := List.mem_of_find?_eq_some hf
        have hp := List.find?_some hf
        simp at hp
        rw [uniq_eq v.uniq he hd (v.one e he d hd hp.2 h1 (by rw [hp.1, h2]))]
    rw [this, ← hn]; rfl
theorem alike2 (b : SetB s) (v : LkInv s x) (V : LkV H l s L (x.ak.map entC) x.cnt (waitL x.ak) x.ak x.ts) (W : RfV H r sR cnt x.ak a c) : ∀ (k : Nat) (t : Int), t + k = 5 → -1 ≤ t →
    Rc mpLk (.loop m19_0) [(0, .pointer (some ⟨l, 0, none⟩)), (1, .pointer (some ⟨r, 0, none⟩)), (6, .int .i64 t)] H = some (.exit 2, [(0, .pointer (some ⟨l, 0, none⟩)), (1, .pointer (some ⟨r, 0, none⟩)), (6, .int .i64 5), (32, .bool false)], H) := by
  have hnt := b.nt
  have hakl := uniq_len v.uniq v.n
  intro k
  induction k with
  | zero =>
    intro t ht h0
    have : t = 5 := by omega
    subst this
    rw [Rc_loop]
    simp [m19_0]
  | succ k ih =>
    intro t ht h0
    have h6 : t ≤ 4 := by omega
    have w : IntKind.i64.wrap (t + 1) = t + 1 := wrap_i64 (by omega) (by omega)
    have h24 := R_holder (mp := mpLk) lkP.f24 lkP.f21 V (by omega) t
    have h45 := R_holderR (mp := mpLk) rfl W (by omega) t
    rw [holders_same v] at h45
    have := ih (t + 1) (by omega) (by omega)
    unfold holderV at h24 h45
    rw [Rc_loop]
    simp [m19_0, h6, h24, h45, w]
    exact this
/-- Those that wait, in order. -/
theorem wait_sorted (b : SetB s) (v : LkInv s x) : ((List.range' 0 s.tasks.length).filter (waitB x.ak)).map Int.ofNat = sortI (waitL x.ak) := by
  refine sortI_eq ?_ ?_
  · unfold Sorted
    rw [List.pairwise_map]
    refine List.Pairwise.sublist List.filter_sublist ?_
    refine List.Pairwise.imp ?_ List.pairwise_lt_range'
    intro a b hab
    exact Int.ofNat_le.2 (Nat.le_of_lt hab)
  · have hnd1 : (((List.range' 0 s.tasks.length).filter (waitB x.ak)).map Int.ofNat).Nodup :=
      List.Pairwise.map _ (fun a b h e => h (Int.ofNat.inj e)) (List.Pairwise.sublist List.filter_sublist ((List.pairwise_lt_range' (s := 0) (n := s.tasks.length)).imp (fun h => Nat.ne_of_lt h)))
    have hnd2 : (waitL x.ak).Nodup := by
      unfold waitL
      have h1 : (x.ak.map (·.n)).Nodup := v.uniq
      have h2 : ((x.ak.filter fun a => !a.holds).map (·.n)).Nodup := h1.sublist (List.filter_sublist.map _)
      have e : ((x.ak.filter fun a => !a.holds).map fun a => (a.n : Int)) = ((x.ak.filter fun a => !a.holds).map (·.n)).map Int.ofNat := by rw [List.map_map]; rfl
      rw [e]
      exact List.Pairwise.map _ (fun a b h e => h (Int.ofNat.inj e)) h2
    rw [List.perm_ext_iff_of_nodup hnd1 hnd2]
    intro n
    rw [mem_waitL]
    simp only [List.mem_map, List.mem_filter, List.mem_range'_1]
    constructor
    · rintro ⟨t, ⟨_, ht⟩, rfl⟩
      unfold waitB at ht
      cases hf : findA x.ak (t : Int) with
      | none => rw [hf] at ht; cases ht
      | some d =>
        rw [hf] at ht
        obtain ⟨h1, h2⟩ := findA_mem hf
        exact ⟨d, h1, by simpa using ht, h2⟩
    · rintro ⟨d, hd, h1, rfl⟩
      refine ⟨d.n, ⟨⟨by omega, by have := v.n d hd; omega⟩, ?_⟩, rfl⟩
      unfold waitB
      rw [uniq_find v.uniq hd]
      simp [h1]
theorem G_alike (sm : SameS s sR) (b : SetB s) (v : LkInv s x) (V : LkV H l s L (x.ak.map entC) x.cnt (waitL x.ak) x.ak x.ts) (W : RfV H r sR cnt x.ak a c) : GR mpLk 19 [.pointer (some ⟨l, 0, none⟩), .pointer (some ⟨r, 0, none⟩)] H (.bool true) := by
  have hnt := b.nt
  have hakl := uniq_len v.uniq v.n
  have hwl := waitL_len x.ak
  have f1 := alike1 (L := L) sm b v V W 8 (-1) (by omega) (by omega)
  have f2 := alike2 (L := L) b v V W 6 (-1) (by omega) (by omega)
  obtain ⟨D, v1, H1, g1, g2, g3, g4, g5⟩ := R_waiting (mp := mpLk) lkP.f25 lkP.f49 lkP.f55 lkP.f50 lkP.f66 lkP.f67 lkP.f88 lkP.f78 lkP.f84 lkP.f98 V (by omega)
  obtain ⟨v2, H2, k1, k2, k3⟩ := R_waitR (mp := mpLk) (H := H1) rfl rfl W v.uniq (by omega) (by rw [← sm.len]; omega) g4
  rw [← sm.len, wait_sorted b v, ← sortI_eq g1 g2] at k3
  have hlD : D.length ≤ 1000000 := by have := g2.length_eq; omega
  have h14 := R_same (mp := mpLk) (f := 14) rfl (k2.row g5) k3 hlD
  refine ⟨H2, ?_, g4.trans k2⟩
  rw [R_code (fn := m19) rfl]
  simp [m19, f1, f2, g3, k1, h14]
end

/-! ### the law's things side by side -/
theorem rfA_flat {r : Nat} {s : SetL} {ak bk : List Ask} {cnt : Int} (h : ak.flatMap askR = bk.flatMap askR) : RfA r s ak cnt = RfA r s bk cnt := by
  have hl : ak.length = bk.length := by
    have := congrArg List.length h
    rw [askR_flen, askR_flen] at this
    omega
  unfold RfA
  rw [h, hl]
theorem flat_tell {ak bk : List Ask} (h : ak.map unA = bk.map unA) : ak.flatMap askR = bk.flatMap askR := by
  have e := congrArg (List.flatMap askR) h
  rw [List.flatMap_map, List.flatMap_map] at e
  exact e
def PL (l r : Nat) (s sR : SetL) (L : Lay) (x : LS) : List (MH → List Nat → Prop) := [LkS l s L x, RfA r sR x.ak x.cnt]
theorem PL.good {l r : Nat} {s sR : SetL} {L : Lay} {x : LS} : ∀ P ∈ PL l r s sR L x, Good P := by
  intro P hP
  simp only [PL, List.mem_cons, List.not_mem_nil, or_false] at hP
  rcases hP with rfl | rfl
  · exact LkS.good
  · exact RfA.good
section
variable {l r : Nat} {s sR : SetL} {L : Lay} {H0 : MH}
/-- Both turn. -/
theorem pl_both {H : MH} {F : List Nat} {x y : LS} {Q1 Q2 : MH → MH → Prop} (h : Sep (PL l r s sR L x) H F) (e : Ext H0 H) (hF : ∀ id ∈ F, H0.length ≤ id) (h1 : ∀ A, LkS l s L x H A → ∃ H' F', LkS l s L y H' F' ∧ Upd H A H' F' ∧ Q1 H H') (h2 : ∀ H1 A, Ext H0 H1 → (∀ id ∈ A, H0.length ≤ id) → RfA r sR x.ak x.cnt H1 A → ∃ H' F', RfA r sR y.ak y.cnt H' F' ∧ Upd H1 A H' F' ∧ Q2 H1 H') :
    ∃ H1 H2 F2, Q1 H H1 ∧ Q2 H1 H2 ∧ Sep (PL l r s sR L y) H2 F2 ∧ Ext H0 H2 ∧ (∀ id ∈ F2, H0.length ≤ id) ∧ ∃ G, Upd H F H1 G ∧ Upd H1 G H2 F2 := by
  obtain ⟨_, H1, F1, p1, u1, q1⟩ := Sep.upd (ι := Unit) (k := 0) (P' := fun _ => LkS l s L y) (C := fun _ H' => Q1 H H') (fun _ => LkS.good) PL.good h rfl (fun A hA _ => by
    obtain ⟨H', F', e, p, u⟩ := h1 A hA
    exact ⟨(), H', F', e, p, u⟩)
  obtain ⟨e1, hF1⟩ := upd_extL e hF u1
  have p1 : Sep [LkS l s L y, RfA r sR x.ak x.cnt] H1 F1 := p1
  obtain ⟨_, H2, F2, p2, u2, q2⟩ := Sep.upd (ι := Unit) (k := 1) (P' := fun _ => RfA r sR y.ak y.cnt) (C := fun _ H' => Q2 H1 H') (fun _ => RfA.good) (fun P hP => by
    simp only [List.mem_cons, List.not_mem_nil, or_false] at hP
    rcases hP with rfl | rfl
    · exact LkS.good
    · exact RfA.good) p1 rfl (fun A hA hs => by
    obtain ⟨H', F', e, p, u⟩ := h2 H1 A e1 (fun id hid => hF1 id (hs id hid)) hA
    exact ⟨(), H', F', e, p, u⟩)
  obtain ⟨e2, hF2⟩ := upd_extL e1 hF1 u2
  exact ⟨H1, H2, F2, q1, q2, p2, e2, hF2, F1, u1, u2⟩
theorem grantO_new {x : LS} (v : LkInv s x) (b : SetB s) (ht : Told x) (sm : SameS s sR) {M : Nat → Bool} (hM : ∀ t, M t = true ↔ ∃ a ∈ (letsY sR x).ak, a.n = t ∧ finA sR (keyR sR) (letsY sR x).ak a) : newL M 6 = grantO s x := by
  have hnt := b.nt
  have h0 := v.grant0 b
  have ho : grantO s x = _ := tellF_out s.tasks.length 0 (Mod.grant0 s x).ak [] h0.1.uniq
  rw [ho, List.nil_append]
  have vR := v.same sm
  have bR := b.same sm
  have vy := letsY_inv vR bR
  have hak : (Mod.grant0 s x).ak = (letsY sR x).ak.map (fun a => if finA sR (keyR sR) (letsY sR x).ak a then holdA a else a) := by
    rw [sm.grant0, grant0_eq vR, gives_fin vy.uniq vy.n vy.res]
  have hty : ∀ a ∈ (letsY sR x).ak, a.told = a.holds := by
    unfold letsY
    split
    · exact putF_all (P := fun a => a.told = a.holds) (fun _ _ h => h) _ _ _ ht
    · exact ht
  have hb : ∀ t, newB (Mod.grant0 s x).ak t = M t := fun t => by
    rw [Bool.eq_iff_iff, hM]
    unfold newB
    rw [hak]
    have hu0 : uniqA ((letsY sR x).ak.map fun a => if finA sR (keyR sR) (letsY sR x).ak a then holdA a else a) := by rw [← hak]; exact h0.1.uniq
    constructor
    · intro h
      split at h
      · rename_i d hd
        obtain ⟨h1, h2⟩ := findA_mem hd
        obtain ⟨a, ha, e⟩ := List.mem_map.1 h1
        by_cases hf : finA sR (keyR sR) (letsY sR x).ak a
        · refine ⟨a, ha, ?_, hf⟩
          rw [if_pos hf] at e
          have : a.n = d.n := by rw [← e]; rfl
          omega
        · rw [if_neg hf] at e
          subst e
          rw [hty a ha] at h
          cases hh : a.holds <;> rw [hh] at h <;> cases h
      · cases h
    · rintro ⟨a, ha, rfl, hf⟩
      have hm : holdA a ∈ (letsY sR x).ak.map fun a => if finA sR (keyR sR) (letsY sR x).ak a then holdA a else a := List.mem_map.2 ⟨a, ha, by rw [if_pos hf]⟩
      have := uniq_find hu0 hm
      rw [show ((holdA a).n : Int) = (a.n : Int) from rfl] at this
      rw [this]
      have h1 := (fin_props hf).2.1
      have h2 := hty a ha
      simp [holdA, h2, h1]
  have hbf : newB (Mod.grant0 s x).ak = M := funext hb
  rw [hbf]
  unfold newL
  congr 1
  have hlow : ∀ t, M t = true → t < s.tasks.length := fun t h => by
    obtain ⟨a, ha, rfl, _⟩ := (hM t).1 h
    rw [sm.len]; exact vy.n a ha
  have hsp : List.range 6 = List.range' 0 s.tasks.length ++ List.range' s.tasks.length (6 - s.tasks.length) := by
    rw [List.range_eq_range', show (6 : Nat) = s.tasks.length + (6 - s.tasks.length) by omega, ← List.range'_append_1]
    simp
  rw [hsp, List.filter_append]
  have : (List.range' s.tasks.length (6 - s.tasks.length)).filter M = [] := by
    rw [List.filter_eq_nil_iff]
    intro t ht h
    have := (List.mem_range'_1.1 ht).1
    have := hlow t h
    omega
  rw [this, List.append_nil]
end
end Go.Mod

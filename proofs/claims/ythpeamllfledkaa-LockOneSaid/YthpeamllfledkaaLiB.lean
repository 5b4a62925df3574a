/- LockOne: holders, whole. -/
import Derived.Test.YthpeamllfledkaaLiA
set_option linter.unusedVariables false
set_option linter.unusedSimpArgs false
namespace Go.Mod
open Classical

def srvL (s : SetL) (ak : List Ask) (r c : Nat) : List Nat := (List.range r).filter fun q => (holderF ak s.tasks.length (q : Int)).isSome && decide (s.homes.getD q 0 = (c : Int))
def srvF (s : SetL) (ak : List Ask) (r c : Nat) : Nat := (srvL s ak r c).length
def sarr (s : SetL) (ak : List Ask) (r : Nat) : List Value := (List.range 3).map fun c => Value.int .i64 (srvF s ak r c)
theorem sarr_at {s : SetL} {ak : List Ask} {r c : Nat} (h : c < 3) : (sarr s ak r)[c]? = some (.int .i64 (srvF s ak r c)) := by simp [sarr, h]
theorem srvF_le {s : SetL} {ak : List Ask} {r c : Nat} : srvF s ak r c ≤ r := by
  have := List.length_filter_le (fun q : Nat => (holderF ak s.tasks.length (q : Int)).isSome && decide (s.homes.getD q 0 = (c : Int))) (List.range r)
  simpa [srvF, srvL] using this
theorem srvF_succ {s : SetL} {ak : List Ask} {r c : Nat} : srvF s ak (r + 1) c = srvF s ak r c + if (holderF ak s.tasks.length (r : Int)).isSome = true ∧ s.homes.getD r 0 = (c : Int) then 1 else 0 := by
  unfold srvF srvL
  rw [List.range_succ, List.filter_append, List.length_append]
  congr 1
  rw [List.filter_cons]
  by_cases h : (holderF ak s.tasks.length (r : Int)).isSome = true ∧ s.homes.getD r 0 = (c : Int)
  · rw [if_pos h, if_pos (by simp only [h.1, h.2, decide_true, Bool.and_self])]; rfl
  · rw [if_neg h, if_neg (by simpa using h)]; rfl
theorem sarr_same {s : SetL} {ak : List Ask} {r : Nat} (h : (holderF ak s.tasks.length (r : Int)).isSome = false) : sarr s ak (r + 1) = sarr s ak r := by
  unfold sarr
  apply List.map_congr_left
  intro c _
  rw [srvF_succ, if_neg fun h' => by rw [h] at h'; cases h'.1]; rfl
theorem sarr_more {s : SetL} {ak : List Ask} {r c : Nat} (h : (holderF ak s.tasks.length (r : Int)).isSome = true) (hc : s.homes.getD r 0 = (c : Int)) (h3 : c < 3) : sarr s ak (r + 1) = (sarr s ak r).set c (.int .i64 ((srvF s ak r c : Int) + 1)) := by
  apply List.ext_getElem?
  intro q
  rcases Nat.lt_or_ge q 3 with hq | hq
  · rw [sarr_at hq, srvF_succ]
    by_cases e : c = q
    · subst e
      rw [List.getElem?_set_self (by simp [sarr]; omega), if_pos ⟨h, hc⟩]; rfl
    · rw [List.getElem?_set_ne e, sarr_at hq, if_neg fun h' => e (by have := h'.2; rw [hc] at this; omega)]; rfl
  · rw [List.getElem?_eq_none (by simp [sarr]; omega), List.getElem?_eq_none (by simp [sarr]; omega)]

section
variable {mp : FuncId → Option MDef} {H H0 : MH} {l : Nat} {s s0 : SetL} {L : Lay} {x : LS}
theorem outer_loop (P : LkP mp) (h48 : mp 48 = some (.code m48)) (v : LkInv s x) (b : SetB s) (fl : Full s x) (sm : SameS s s0) (V : LkV H0 l s L (x.ak.map entC) x.cnt (waitL x.ak) x.ak x.ts) (hs : SetAt H0 s0) {b3 b5 b7 : Nat} (g3 : H0.length ≤ b3) (g5 : H0.length ≤ b5) (g7 : H0.length ≤ b7) (n37 : b3 ≠ b7) (n57 : b5 ≠ b7) : ∀ (k r : Nat) (H : MH), r + k = s0.homes.length → Ext H0 H →
    H[b3]? = some (.cells ⟨0, true, false⟩ s0.cells) → H[b5]? = some (.cells ⟨0, true, false⟩ (warr x.ak)) → H[b7]? = some (.cells ⟨1, true, false⟩ (sarr s x.ak r)) →
    ∃ H', Rc mp (.loop m22_2) [(1, .pointer (some ⟨l, 0, none⟩)), (3, .pointer (some ⟨b3, 0, none⟩)), (5, .pointer (some ⟨b5, 0, none⟩)), (7, .pointer (some ⟨b7, 0, none⟩)), (8, .int .i64 (r : Int))] H =
      some (.exit 0, [(1, .pointer (some ⟨l, 0, none⟩)), (3, .pointer (some ⟨b3, 0, none⟩)), (5, .pointer (some ⟨b5, 0, none⟩)), (7, .pointer (some ⟨b7, 0, none⟩)), (8, .int .i64 (s0.homes.length : Int)), (18, .bool false)], H') ∧ Ext H0 H' ∧
      H'[b3]? = some (.cells ⟨0, true, false⟩ s0.cells) ∧ H'[b7]? = some (.cells ⟨1, true, false⟩ (sarr s x.ak s0.homes.length)) := by
  have hnt := b.nt
  have hnh := b.nh
  have hlen := sm.len
  have hhl : s0.homes.length = s.homes.length := by rw [sm.homes]
  intro k
  induction k with
  | zero =>
    intro r H hi e q3 q5 q7
    have : r = s0.homes.length := by omega
    subst this
    refine ⟨H, ?_, e, q3, q7⟩
    have hd := ld_at q3
    simp only [SetL.cells] at hd
    rw [Rc_loop]
    simp [m22_2, hd]
  | succ k ih =>
    intro r H hi e q3 q5 q7
    have hin : r < s0.homes.length := by omega
    have hd := ldb q3
    simp only [SetL.cells] at hd
    have hw5 := ldb q5
    have w : IntKind.i64.wrap ((r : Int) + 1) = (r : Int) + 1 := wrap_i64 (by omega) (by omega)
    have h24 := holder_at (mp := mp) P.f24 P.f21 V (by omega) (r : Int) H e
    obtain ⟨y, hy⟩ : ∃ y, s0.homes[r]? = some y := ⟨_, List.getElem?_eq_getElem hin⟩
    have hyb := b.home y (by rw [sm.homes]; exact List.mem_of_getElem? hy)
    have hnc := b.nc
    obtain ⟨c, rfl⟩ : ∃ c : Nat, (c : Int) = y := ⟨y.toNat, by omega⟩
    have hc3 : c < 3 := by omega
    have hc3I : (c : Int) < 3 := by omega
    have hgd : s.homes.getD r 0 = (c : Int) := by simp [List.getD, sm.homes, hy]
    have hia := (hs.ext e).homes.ia
    have hrd := (hs.ext e).homes.rd1 hy
    simp only [intC] at hrd
    have hsl : srvF s x.ak r c ≤ r := srvF_le
    have ws : IntKind.i64.wrap ((srvF s x.ak r c : Int) + 1) = (srvF s x.ak r c : Int) + 1 := wrap_i64 (by omega) (by omega)
    have hsa := sarr_at (s := s) (ak := x.ak) (r := r) hc3
    cases ho : holderF x.ak s.tasks.length (r : Int) with
    | none =>
      obtain ⟨H1, f1, e1⟩ := inner_loop (mp := mp) (b7 := b7) P h48 v b fl sm (V.ext e) (hs.ext e) q3 q5 (r := r) (by omega) s0.tasks.length 0 H (by omega) (Ext.refl _)
      rw [ho] at h24 f1
      simp at h24 f1
      obtain ⟨H', f2, p2⟩ := ih (r + 1) H1 (by omega) (e.trans e1) (e1.get q3) (e1.get q5) (by rw [sarr_same (by rw [ho]; rfl)]; exact e1.get q7)
      refine ⟨H', ?_, p2⟩
      simp at f2
      rw [Rc_loop]
      simp (maxDischargeDepth := 12) [m22_2, hd, hin, h24, f1, w]
      exact f2
    | some n =>
      obtain ⟨hn, a, ha, han, hah, har⟩ := holder_some v.uniq ho
      have hn6 : n < 6 := by omega
      have hn6I : (n : Int) < 6 := by omega
      have hnI : (n : Int) < (s0.tasks.length : Int) := by omega
      have hnN : ¬ s0.tasks.length ≤ n := by omega
      have hnN2 : n < 6 := hn6
      have hwa := warr_at (ak := x.ak) hn6
      have hwn : wantF x.ak n = (r : Int) + 1 := (want_iff v.uniq (fun a ha => (v.res a ha).1)).2 ⟨a, ha, han, har⟩
      have h21 := R_holds (mp := mp) P.f21 (V.ext e) (n : Int)
      rw [(holdsB_iff v.uniq).2 ⟨a, ha, han, hah⟩] at h21
      have h26 := R_boost (mp := mp) P.f26 P.f21 (V.ext e) (n : Int)
      have hbo : 1 ≤ boostF s.proto x.ak (n : Int) := by
        unfold boostF
        rw [← han, uniq_find v.uniq ha]
        simp only [hah, if_true]
        split
        · omega
        · exact (v.pin a ha (v.inn' a ha hah)).1
      have hbo' : ¬ boostF s.proto x.ak (n : Int) < 1 := by omega
      generalize boostF s.proto x.ak (n : Int) = bo at h26 hbo'
      have eS : Ext H0 (H.set b7 (.cells ⟨1, true, false⟩ ((sarr s x.ak r).set c (.int .i64 ((srvF s x.ak r c : Int) + 1))))) := ext_set e g7
      have hb7 : b7 < H.length := (List.getElem?_eq_some_iff.1 q7).1
      have q3' : (H.set b7 (.cells ⟨1, true, false⟩ ((sarr s x.ak r).set c (.int .i64 ((srvF s x.ak r c : Int) + 1)))))[b3]? = some (.cells ⟨0, true, false⟩ s0.cells) := by rw [List.getElem?_set_ne fun h => n37 h.symm]; exact q3
      have q5' : (H.set b7 (.cells ⟨1, true, false⟩ ((sarr s x.ak r).set c (.int .i64 ((srvF s x.ak r c : Int) + 1)))))[b5]? = some (.cells ⟨0, true, false⟩ (warr x.ak)) := by rw [List.getElem?_set_ne fun h => n57 h.symm]; exact q5
      have q7' : (H.set b7 (.cells ⟨1, true, false⟩ ((sarr s x.ak r).set c (.int .i64 ((srvF s x.ak r c : Int) + 1)))))[b7]? = some (.cells ⟨1, true, false⟩ ((sarr s x.ak r).set c (.int .i64 ((srvF s x.ak r c : Int) + 1)))) := by rw [List.getElem?_set_self hb7]
      obtain ⟨H1, f1, e1⟩ := inner_loop (mp := mp) (b7 := b7) P h48 v b fl sm (V.ext eS) (hs.ext eS) q3' q5' (r := r) (by omega) s0.tasks.length 0 _ (by omega) (Ext.refl _)
      rw [ho] at h24 f1
      simp at h24 f1
      obtain ⟨H', f2, p2⟩ := ih (r + 1) H1 (by omega) (eS.trans e1) (e1.get q3') (e1.get q5') (by rw [sarr_more (by rw [ho]; rfl) hgd hc3]; exact e1.get q7')
      refine ⟨H', ?_, p2⟩
      simp at f2
      have hsl3 : c < (sarr s x.ak r).length := by simp [sarr]; omega
      have hst := st_at q7 rfl c (.int .i64 ((srvF s x.ak r c : Int) + 1)) rfl hsl3
      have hld7 := ld_at q7 c
      rw [hsa] at hld7
      simp at hld7
      rw [Rc_loop]
      simp (maxDischargeDepth := 12) [m22_2, hd, hin, h24, hw5, hnI, hnN, hn6I, hwa, hwn, w, h21, h26, hbo', hia, hrd, hc3I, hld7, ws, hst, f1]
      exact f2
theorem srv_one (v : LkInv s x) (b : SetB s) (hp : s.proto = 2) {c : Nat} : srvF s x.ak s.homes.length c ≤ 1 := by
  unfold srvF
  have hnd : (srvL s x.ak s.homes.length c).Nodup := List.Nodup.sublist List.filter_sublist List.nodup_range
  have hall : ∀ q ∈ srvL s x.ak s.homes.length c, ∀ q' ∈ srvL s x.ak s.homes.length c, q = q' := by
    intro q hq q' hq'
    simp only [srvL, List.mem_filter, List.mem_range, Bool.and_eq_true, decide_eq_true_eq] at hq hq'
    obtain ⟨h1, h2, h3⟩ := hq
    obtain ⟨h1', h2', h3'⟩ := hq'
    obtain ⟨a, ha, hah, har⟩ := (holderF_isSome v.uniq v.n).1 h2
    obtain ⟨d, hd, hdh, hdr⟩ := (holderF_isSome v.uniq v.n).1 h2'
    have hg : grpR s a.res = grpR s d.res := by
      unfold grpR
      rw [if_pos hp, if_pos hp, har, hdr]
      simp only [Int.toNat_natCast]
      rw [h3, h3']
    have := uniq_eq v.uniq ha hd (v.one a ha d hd hah hdh hg)
    subst this
    omega
  cases hL : srvL s x.ak s.homes.length c with
  | nil => simp
  | cons q t =>
    cases t with
    | nil => simp
    | cons q' t =>
      rw [hL] at hnd hall
      have := hall q (by simp) q' (by simp)
      subst this
      simp at hnd
theorem last_loop (v : LkInv s x) (b : SetB s) (sm : SameS s s0) {b3 b7 : Nat} {i3 i7 : Info} (q3 : H[b3]? = some (.cells i3 s0.cells)) (q7 : H[b7]? = some (.cells i7 (sarr s x.ak s.homes.length))) : ∀ (k c : Nat), c + k = s0.cores.length →
    Rc mp (.loop m22_0) [(3, .pointer (some ⟨b3, 0, none⟩)), (7, .pointer (some ⟨b7, 0, none⟩)), (13, .int .i64 (c : Int))] H = some (.exit 4, [(3, .pointer (some ⟨b3, 0, none⟩)), (7, .pointer (some ⟨b7, 0, none⟩)), (13, .int .i64 (s0.cores.length : Int)), (143, .bool false)], H) := by
  have hnc := b.nc
  have hcl : s0.cores.length = s.cores.length := by rw [sm.cores]
  have hd := ld_at q3
  simp only [SetL.cells] at hd
  have h7 := ld_at q7
  intro k
  induction k with
  | zero =>
    intro c hc
    have : c = s0.cores.length := by omega
    subst this
    rw [Rc_loop]
    simp [m22_0, hd]
  | succ k ih =>
    intro c hc
    have hin : c < s0.cores.length := by omega
    have hc3I : (c : Int) < 3 := by omega
    have w : IntKind.i64.wrap ((c : Int) + 1) = (c : Int) + 1 := wrap_i64 (by omega) (by omega)
    have hsa := sarr_at (s := s) (ak := x.ak) (r := s.homes.length) (show c < 3 by omega)
    have := ih (c + 1) (by omega)
    rw [Rc_loop]
    by_cases hp : s0.proto = 2
    · have h1 := srv_one v b (by rw [sm.proto]; exact hp) (c := c)
      have h1' : ¬ (1 : Int) < (srvF s x.ak s.homes.length c : Int) := by omega
      simp [m22_0, hd, hin, hp, hc3I, h7, hsa, h1', w]
      simp at this
      exact this
    · simp [m22_0, hd, hin, hp, w]
      simp at this
      exact this
theorem G_holders (P : LkP mp) (h22 : mp 22 = some (.code m22)) (h48 : mp 48 = some (.code m48)) (v : LkInv s x) (b : SetB s) (fl : Full s x) (sm : SameS s s0) (V : LkV H0 l s L (x.ak.map entC) x.cnt (waitL x.ak) x.ak x.ts) (hs : SetAt H0 s0) :
    GR mp 22 [.agg s0.cells.toArray, .pointer (some ⟨l, 0, none⟩), .agg (warr x.ak).toArray] H0 (.bool true) := by
  have hw0 : warr x.ak = [.int .i64 (wantF x.ak 0), .int .i64 (wantF x.ak 1), .int .i64 (wantF x.ak 2), .int .i64 (wantF x.ak 3), .int .i64 (wantF x.ak 4), .int .i64 (wantF x.ak 5)] := rfl
  have e1 : Ext H0 (H0 ++ [.cells ⟨0, true, false⟩ s0.cells, .cells ⟨0, true, false⟩ (warr x.ak), .cells ⟨1, true, false⟩ [.int .i64 0, .int .i64 0, .int .i64 0]]) := ⟨_, rfl⟩
  obtain ⟨H1, f1, x1, q3, q7⟩ := outer_loop (mp := mp) P h48 v b fl sm V hs (b3 := H0.length) (b5 := H0.length + 1) (b7 := H0.length + 2) (by omega) (by omega) (by omega) (by omega) (by omega) s0.homes.length 0 _ (by omega) e1 (by simp) (by simp) (by simp [sarr, srvF, srvL, List.range, List.range.loop])
  have hhl : s0.homes.length = s.homes.length := by rw [sm.homes]
  rw [hhl] at q7
  have f2 := last_loop (mp := mp) v b sm q3 q7 s0.cores.length 0 (by omega)
  refine ⟨H1, ?_, x1⟩
  rw [R_code h22]
  rw [hw0] at f1 ⊢
  simp only [SetL.cells] at f1 ⊢
  simp at f1 f2
  simp [m22, f1, f2]
end
end Go.Mod

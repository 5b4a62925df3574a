/- LockPlays: the loop, the law. -/
import Derived.Test.YthpeamllfledkaaRfI
set_option linter.unusedVariables false
set_option linter.unusedSimpArgs false
namespace Go.Mod
open Classical

section
variable {H : MH} {F : List Nat}
theorem sep_drop {P Q R : HP} (h : Sep [P * Q, R] H F) : ∃ F', Sep [P, R] H F' ∧ ∀ y ∈ F', y ∈ F := by
  obtain ⟨A, B, hA, hB, hAB, hF⟩ := h
  obtain ⟨C, D, hC, hD, hCD, hA'⟩ := hA
  refine ⟨C ++ B, ⟨C, B, hC, hB, fun y hy hb => hAB y ((hA' y).2 (.inl hy)) hb, by simp⟩, fun y hy => ?_⟩
  rw [hF]
  rcases List.mem_append.1 hy with h | h
  · exact .inl ((hA' y).2 (.inl h))
  · exact .inr h
end
theorem newA_same {s sR : SetL} (sm : SameS s sR) (cnt : Int) (n : Nat) (res : Int) (p : Nat) : newA sR cnt n res p = newA s cnt n res p := by unfold newA; rw [sm.proto]
theorem newCnt_same {s sR : SetL} (sm : SameS s sR) (cnt : Int) : newCnt sR cnt = newCnt s cnt := by unfold newCnt; rw [sm.proto]
section
variable {l r : Nat} {s sR : SetL} {L : Lay} {H0 : MH}
theorem pl_ref {H : MH} {F : List Nat} {x : LS} (h : Sep (PL l r s sR L x) H F) (hs : SetAt H sR) : ∃ a c, RfV H r sR x.cnt x.ak a c := by
  obtain ⟨A, hA, _⟩ := Sep.at_ (k := 1) h rfl
  exact RfA.v hA hs
theorem pl_lk {H : MH} {F : List Nat} {x : LS} (h : Sep (PL l r s sR L x) H F) : LkV H l s L (x.ak.map entC) x.cnt (waitL x.ak) x.ak x.ts := by
  obtain ⟨A, hA, _⟩ := Sep.at_ (k := 0) h rfl
  exact LkV.of hA
theorem two_good {P Q : HP} (hp : Good P) (hq : Good Q) : ∀ R ∈ [P, Q], Good R := by
  intro R hR
  simp only [List.mem_cons, List.not_mem_nil, or_false] at hR
  rcases hR with rfl | rfl
  · exact hp
  · exact hq
theorem plays_loop (b : SetB s) (sm : SameS s sR) (hs : SetAt H0 sR) {sa : Option Addr} {sc : Nat} {st : List StepL} (hr : RowG 3 H0 sa st stpC) (h80 : st.length ≤ 80) :
    ∀ (k i : Nat) (H : MH) (F : List Nat) (x : LS) (v8 : Value), i + k = st.length → x.cnt ≤ 7 * i → x.ts.map (·.id) = L.chs → LkInv s x → Told x → Sep (PL l r s sR L x) H F → Ext H0 H → (∀ id ∈ F, H0.length ≤ id) →
    ∃ H', Rc mpLk (.loop m3_0) [(1, .slice sa st.length sc), (5, .pointer (some ⟨l, 0, none⟩)), (6, .pointer (some ⟨r, 0, none⟩)), (7, .int .i64 (i : Int))] H =
      some (.exit 0, [(1, .slice sa st.length sc), (5, .pointer (some ⟨l, 0, none⟩)), (6, .pointer (some ⟨r, 0, none⟩)), (7, .int .i64 (st.length : Int)), (27, .bool false)], H') := by
  have hnt := b.nt
  have hnh := b.nh
  have hlen := sm.len
  have hhl : s.homes.length = sR.homes.length := by rw [sm.homes]
  intro k
  induction k with
  | zero =>
    intro i H F x v8 hi hc hid v ht hS e hF
    have : i = st.length := by omega
    subst this
    refine ⟨H, ?_⟩
    rw [Rc_loop]
    simp [m3_0]
  | succ k ih =>
    intro i H F x v8 hi hc hid v ht hS e hF
    have hin : i < st.length := by omega
    obtain ⟨y, hy⟩ : ∃ y, st[i]? = some y := ⟨_, List.getElem?_eq_getElem hin⟩
    have hrd := hr.rdn hy
    simp only [stpC] at hrd
    have w : IntKind.i64.wrap ((i : Int) + 1) = (i : Int) + 1 := wrap_i64 (by omega) (by omega)
    have hc0 := v.cnt
    have e1 : Ext H (H ++ [.cells ⟨0, true, false⟩ [.int .i64 y.what, .int .i64 y.task, .int .i64 y.res]]) := ⟨_, rfl⟩
    have hS1 := Sep.ext PL.good hS e1
    have hakl : x.ak.length ≤ 6 := by have := uniq_len v.uniq v.n; omega
    have hgl := (Sep.good PL.good).lt hS
    -- behind the answer
    have next : ∀ (Hb : MH) (Fb : List Nat) (y' : LS), y'.cnt ≤ x.cnt + 7 → y'.ts.map (·.id) = L.chs → LkInv s y' → Told y' → Sep (PL l r s sR L y') Hb Fb → Ext H0 Hb → (∀ id ∈ Fb, H0.length ≤ id) →
        (∀ (H2 : MH), R mpLk 19 [.pointer (some ⟨l, 0, none⟩), .pointer (some ⟨r, 0, none⟩)] Hb = some (.bool true, H2) →
          Rc mpLk (.loop m3_0) [(1, .slice sa st.length sc), (5, .pointer (some ⟨l, 0, none⟩)), (6, .pointer (some ⟨r, 0, none⟩)), (7, .int .i64 (i : Int))] H = Rc mpLk (.loop m3_0) [(1, .slice sa st.length sc), (5, .pointer (some ⟨l, 0, none⟩)), (6, .pointer (some ⟨r, 0, none⟩)), (7, .int .i64 ((i : Int) + 1))] H2) →
        ∃ H', Rc mpLk (.loop m3_0) [(1, .slice sa st.length sc), (5, .pointer (some ⟨l, 0, none⟩)), (6, .pointer (some ⟨r, 0, none⟩)), (7, .int .i64 (i : Int))] H =
      some (.exit 0, [(1, .slice sa st.length sc), (5, .pointer (some ⟨l, 0, none⟩)), (6, .pointer (some ⟨r, 0, none⟩)), (7, .int .i64 (st.length : Int)), (27, .bool false)], H') := by
      intro Hb Fb y' g0 g1 g2 g3 g4 g5 g6 g7
      obtain ⟨a', c', W⟩ := pl_ref g4 (hs.ext g5)
      obtain ⟨H2, e19, x2⟩ := G_alike sm b g2 (pl_lk g4) W
      rw [g7 H2 e19]
      have := ih (i + 1) H2 Fb y' (.bool true) (by omega) (by omega) g1 g2 g3 (Sep.ext PL.good g4 x2) (g5.trans x2) g6
      simpa using this
    have V0 := pl_lk hS1
    obtain ⟨aR, cR, W0⟩ := pl_ref hS1 (hs.ext (e.trans e1))
    have dB : ∀ o, mread (.ld none) [.pointer (some ⟨H.length, o, none⟩)] (H ++ [.cells ⟨0, true, false⟩ [.int .i64 y.what, .int .i64 y.task, .int .i64 y.res]]) = knownO [Value.int .i64 y.what, .int .i64 y.task, .int .i64 y.res][o]? := fun o => ld_at (i := ⟨0, true, false⟩) (by simp) o
    by_cases hk : y.what ≤ 3
    · by_cases ht1 : y.task < 0 ∨ (s.tasks.length : Int) ≤ y.task
      · have e12 := (R_ask_no (mp := mpLk) rfl V0 (n := y.task) (res := y.res)).1 ht1
        have e13 := (R_askR_no (mp := mpLk) rfl rfl W0 v.uniq (by omega) (n := y.task) (res := y.res)).1 (by rw [← hlen]; exact ht1)
        refine next _ F x (by omega) hid v ht hS1 (e.trans e1) hF (fun H2 e19 => ?_)
        rw [Rc_loop]
        simp (maxDischargeDepth := 12) [m3_0, hin, hr.ia, hrd, e, stx, dB, hk, e12, e13, mdraw_full, e19, w]
        done
      · by_cases ht2 : y.res < 0 ∨ (s.homes.length : Int) ≤ y.res
        · have e12 := (R_ask_no (mp := mpLk) rfl V0 (n := y.task) (res := y.res)).2.1 ht1 ht2
          have e13 := (R_askR_no (mp := mpLk) rfl rfl W0 v.uniq (by omega) (n := y.task) (res := y.res)).2.1 (by rw [← hlen]; exact ht1) (by rw [← hhl]; exact ht2)
          refine next _ F x (by omega) hid v ht hS1 (e.trans e1) hF (fun H2 e19 => ?_)
          rw [Rc_loop]
          simp (maxDischargeDepth := 12) [m3_0, hin, hr.ia, hrd, e, stx, dB, hk, e12, e13, mdraw_full, e19, w]
          done
        · cases hfa : findA x.ak y.task with
          | some a =>
            have e12 := (R_ask_no (mp := mpLk) rfl V0 (n := y.task) (res := y.res)).2.2 ht1 ht2 (by rw [hfa]; rfl)
            have e13 := (R_askR_no (mp := mpLk) rfl rfl W0 v.uniq (by omega) (n := y.task) (res := y.res)).2.2 (by rw [← hlen]; exact ht1) (by rw [← hhl]; exact ht2) (by rw [hfa]; rfl)
            refine next _ F x (by omega) hid v ht hS1 (e.trans e1) hF (fun H2 e19 => ?_)
            rw [Rc_loop]
            simp (maxDischargeDepth := 12) [m3_0, hin, hr.ia, hrd, e, stx, dB, hk, e12, e13, mdraw_full, e19, w]
            done
          | none =>
            obtain ⟨n, hn⟩ : ∃ n : Nat, (n : Int) = y.task := ⟨y.task.toNat, by omega⟩
            rw [← hn] at hfa ht1
            obtain ⟨p, H1, F1, p1, u1, e12⟩ := Sep.upd (ι := Nat) (k := 0) (P' := fun p => LkS l s L ⟨newCnt s x.cnt, x.ak ++ [newA s x.cnt n y.res p], x.ts⟩) (C := fun p H' => R mpLk 12 [.pointer (some ⟨l, 0, none⟩), .int .i64 (n : Int), .int .i64 y.res] (H ++ [.cells ⟨0, true, false⟩ [.int .i64 y.what, .int .i64 y.task, .int .i64 y.res]]) = some (.int .i64 0, H')) (fun _ => LkS.good) PL.good hS1 rfl (fun A hA _ => by
              obtain ⟨H', F', p, e, q, u⟩ := R_ask_ok (mp := mpLk) rfl rfl hA (n := n) (res := y.res) (by omega) (by omega) (by omega) hfa (by omega) hc0 (by omega)
              exact ⟨p, H', F', q, u, e⟩)
            have p1 : Sep [LkS l s L ⟨newCnt s x.cnt, x.ak ++ [newA s x.cnt n y.res p], x.ts⟩, RfA r sR x.ak x.cnt] H1 F1 := p1
            obtain ⟨x1, hF1⟩ := upd_extL (e.trans e1) hF u1
            obtain ⟨_, H2, F2, p2, u2, e13⟩ := Sep.upd (ι := Unit) (k := 1) (P' := fun _ => RfA r sR (x.ak ++ [newA s x.cnt n y.res p]) (newCnt s x.cnt)) (C := fun _ H' => R mpLk 13 [.pointer (some ⟨r, 0, none⟩), .int .i64 (n : Int), .int .i64 y.res] H1 = some (.int .i64 0, H')) (fun _ => RfA.good) (two_good LkS.good RfA.good) p1 rfl (fun A hA _ => by
              obtain ⟨H', F', e, q, u⟩ := R_askR_ok (mp := mpLk) rfl rfl hA (hs.ext x1) (by omega) (n := n) (res := y.res) (by omega) (by omega) (by omega) hfa hc0 (by omega) p
              rw [newA_same sm, newCnt_same sm] at q
              exact ⟨(), H', F', q, u, e⟩)
            have p2 : Sep (PL l r s sR L ⟨newCnt s x.cnt, x.ak ++ [newA s x.cnt n y.res p], x.ts⟩) H2 F2 := p2
            obtain ⟨x2, hF2⟩ := upd_extL x1 hF1 u2
            have hcn : newCnt s x.cnt ≤ x.cnt + 1 := by unfold newCnt; split <;> omega
            have hBo : H1[H.length]? = some (.cells ⟨0, true, false⟩ [.int .i64 y.what, .int .i64 y.task, .int .i64 y.res]) := u1.get (by simp) (fun hm => by have := hgl _ hm; omega)
            have d1 := ld_at hBo
            have hA : (newA s x.cnt n y.res p).told = false ∧ (newA s x.cnt n y.res p).holds = false := by unfold newA; split <;> simp
            refine next H2 F2 ⟨newCnt s x.cnt, x.ak ++ [newA s x.cnt n y.res p], x.ts⟩ (by show newCnt s x.cnt ≤ _; omega) hid (v.ask (by omega) ⟨by omega, by omega⟩ hfa p) (fun a ha => by
              rcases List.mem_append.1 ha with ha | ha
              · exact ht a ha
              · simp at ha; subst ha; rw [hA.1, hA.2]) p2 x2 hF2 (fun H3 e19 => ?_)
            rw [Rc_loop]
            rw [← hn] at e12 d1 hrd dB
            simp (maxDischargeDepth := 12) [m3_0, hin, hr.ia, hrd, e, stx, dB, d1, hk, e12, e13, mdraw_full, e19, w]
            done
    · by_cases hk6 : y.what ≤ 6
      · have ok := v.ok b hid (by omega)
        obtain ⟨k1, k2, k3, k4, k5, k6, k7, k8⟩ := v.grant b
        obtain ⟨gv, H1, F1, p1, u1, e15⟩ := Sep.upd (ι := Value) (k := 0) (P' := fun gv => LkS l s L (grantF s x) * OwnA 1 gv (i64s (grantO s x))) (C := fun gv H' => R mpLk 15 [.pointer (some ⟨l, 0, none⟩)] (H ++ [.cells ⟨0, true, false⟩ [.int .i64 y.what, .int .i64 y.task, .int .i64 y.res]]) = some (gv, H')) (fun _ => LkS.good.star OwnA.good) PL.good hS1 rfl (fun A hA _ => by
          obtain ⟨v, H', F', e, p, u⟩ := lk_grantS lkP hA ok
          exact ⟨v, H', F', p, u, e⟩)
        have p1 : Sep [LkS l s L (grantF s x) * OwnA 1 gv (i64s (grantO s x)), RfA r sR x.ak x.cnt] H1 F1 := p1
        obtain ⟨x1, hF1⟩ := upd_extL (e.trans e1) hF u1
        have hflat : (Mod.grant0 sR x).ak.flatMap askR = (grantF s x).ak.flatMap askR := by
          rw [← sm.grant0]
          exact (flat_tell (tellF_un _ _ _ _)).symm
        have hcg : (Mod.grant0 sR x).cnt = (grantF s x).cnt := by rw [← sm.grant0]; rfl
        obtain ⟨⟨M, vo⟩, H2, F2, p2, u2, e16, hvo, hM⟩ := Sep.upd (ι := (Nat → Bool) × Value) (k := 1) (P' := fun _ => RfA r sR (grantF s x).ak (grantF s x).cnt) (C := fun z H' => R mpLk 16 [.pointer (some ⟨r, 0, none⟩)] H1 = some (z.2, H') ∧ Row 1 H' z.2 (i64s (newL z.1 6)) ∧ ∀ t, z.1 t = true ↔ ∃ a ∈ (letsY sR x).ak, a.n = t ∧ finA sR (keyR sR) (letsY sR x).ak a) (fun _ => RfA.good) (two_good (LkS.good.star OwnA.good) RfA.good) p1 rfl (fun A hA hsub => by
          obtain ⟨M, vo, H', F', e, p, u, ro, hm⟩ := R_grantR (mp := mpLk) rfl rfl rfl rfl rfl rfl hs (b.same sm) (v.same sm) (by omega) x1 (fun id hid => hF1 id (hsub id hid)) hA
          rw [hcg, rfA_flat hflat] at p
          exact ⟨⟨M, vo⟩, H', F', p, u, e, ro, hm⟩)
        have p2 : Sep [LkS l s L (grantF s x) * OwnA 1 gv (i64s (grantO s x)), RfA r sR (grantF s x).ak (grantF s x).cnt] H2 F2 := p2
        obtain ⟨x2, hF2⟩ := upd_extL x1 hF1 u2
        have hnew := grantO_new v b ht sm hM
        rw [hnew] at hvo
        obtain ⟨A, hA, _⟩ := Sep.at_ (k := 0) p2 rfl
        obtain ⟨B, hB, _⟩ := star_r hA
        have hgl : (grantO s x).length ≤ 1000000 := by rw [← hnew]; exact Nat.le_trans (newL_len (N := M) (k := 6)) (by omega)
        have h14 := R_same (mp := mpLk) (f := 14) rfl (Own.row hB) hvo hgl
        obtain ⟨F3, p3, hsub⟩ := sep_drop p2
        have hids : (grantF s x).ts.map (·.id) = x.ts.map (·.id) := by
          show (Mod.grant0 s x).ts.map (·.id) = _
          unfold Mod.grant0
          split
          · rfl
          · exact selF_ids _ _ _
        refine next H2 F3 (grantF s x) (by omega) (by rw [hids]; exact hid) k1 (k7 fun a ha h => by rw [ht a ha] at h; exact h) p3 x2 (fun id hm => hF2 id (hsub id hm)) (fun H3 e19 => ?_)
        rw [Rc_loop]
        simp (maxDischargeDepth := 12) [m3_0, hin, hr.ia, hrd, e, stx, dB, hk, hk6, e15, e16, h14, e19, w]
        done
      · cases hfa : findA x.ak y.task with
        | none =>
          have e17 := R_leave_no (mp := mpLk) rfl V0 hfa
          have e18 := R_leaveR_no (mp := mpLk) rfl rfl W0 (by omega) hfa
          refine next _ F x (by omega) hid v ht hS1 (e.trans e1) hF (fun H2 e19 => ?_)
          rw [Rc_loop]
          simp (maxDischargeDepth := 12) [m3_0, hin, hr.ia, hrd, e, stx, dB, hk, hk6, e17, e18, mdraw_full, e19, w]
          done
        | some a =>
          obtain ⟨ha, hn⟩ := findA_mem hfa
          obtain ⟨_, H1, F1, p1, u1, e17⟩ := Sep.upd (ι := Unit) (k := 0) (P' := fun _ => LkS l s L ⟨x.cnt, dropA x.ak (a.n : Int), backT s a x.ts⟩) (C := fun _ H' => R mpLk 17 [.pointer (some ⟨l, 0, none⟩), .int .i64 (a.n : Int)] (H ++ [.cells ⟨0, true, false⟩ [.int .i64 y.what, .int .i64 y.task, .int .i64 y.res]]) = some (.int .i64 0, H')) (fun _ => LkS.good) PL.good hS1 rfl (fun A hA _ => by
            obtain ⟨H', F', e, p, u⟩ := R_leave_ok (mp := mpLk) rfl rfl rfl hA (n := (a.n : Int)) (a := a) (by rw [hn]; exact hfa) v.uniq hid (fun hp hi => by
              obtain ⟨t, htk⟩ := v.task ha
              obtain ⟨c1, c2, c3⟩ := cl_lt b htk
              obtain ⟨ch, q1, q2, q3⟩ := v.tok hp (clA s a) _ (List.getElem?_eq_getElem c3)
              refine ⟨t, ch, htk, c2, by rw [← c1]; exact q1, ?_⟩
              rw [q3]
              unfold inC
              exact List.length_pos_of_mem (List.mem_filter.2 ⟨ha, by simp [inP, hi]⟩))
            exact ⟨(), H', F', p, u, e⟩)
          have p1 : Sep [LkS l s L ⟨x.cnt, dropA x.ak (a.n : Int), backT s a x.ts⟩, RfA r sR x.ak x.cnt] H1 F1 := p1
          obtain ⟨x1, hF1⟩ := upd_extL (e.trans e1) hF u1
          obtain ⟨_, H2, F2, p2, u2, e18⟩ := Sep.upd (ι := Unit) (k := 1) (P' := fun _ => RfA r sR (dropA x.ak (a.n : Int)) x.cnt) (C := fun _ H' => R mpLk 18 [.pointer (some ⟨r, 0, none⟩), .int .i64 (a.n : Int)] H1 = some (.int .i64 0, H')) (fun _ => RfA.good) (two_good LkS.good RfA.good) p1 rfl (fun A hA _ => by
            obtain ⟨H', F', e, q, u⟩ := R_leaveR_ok (mp := mpLk) rfl rfl hA (hs.ext x1) v.uniq (by omega) ha
            exact ⟨(), H', F', q, u, e⟩)
          have p2 : Sep (PL l r s sR L ⟨x.cnt, dropA x.ak (a.n : Int), backT s a x.ts⟩) H2 F2 := p2
          obtain ⟨x2, hF2⟩ := upd_extL x1 hF1 u2
          have hBo : H1[H.length]? = some (.cells ⟨0, true, false⟩ [.int .i64 y.what, .int .i64 y.task, .int .i64 y.res]) := u1.get (by simp) (fun hm => by have := hgl _ hm; omega)
          have d1 := ld_at hBo
          have hids : (backT s a x.ts).map (·.id) = x.ts.map (·.id) := by
            unfold backT
            split
            · split
              · split
                · rename_i ch hch
                  exact map_set_same hch rfl
                · rfl
              · rfl
            · rfl
          refine next H2 F2 ⟨x.cnt, dropA x.ak (a.n : Int), backT s a x.ts⟩ (by show x.cnt ≤ x.cnt + 7; omega) (by rw [hids]; exact hid) (v.leave b ha) (fun d hd => ht d (List.mem_filter.1 hd).1) p2 x2 hF2 (fun H3 e19 => ?_)
          rw [Rc_loop]
          rw [← hn] at e17 d1 hrd dB
          simp (maxDischargeDepth := 12) [m3_0, hin, hr.ia, hrd, e, stx, dB, d1, hk, hk6, e17, e18, mdraw_full, e19, w]
          done
end
theorem sameS_refl (s : SetL) : SameS s s := ⟨rfl, rfl, rfl, rfl⟩
theorem emptyS_b : SetB emptyS := ⟨by simp [emptyS], by simp [emptyS], by simp [emptyS], by simp [emptyS], by simp [emptyS], by simp [emptyS]⟩
theorem emptyS_at {H : MH} : SetAt H emptyS := ⟨RowG.nil, RowG.nil, RowG.nil, by simp [emptyS], by simp [emptyS]⟩
/-- New locks, of whatever set. -/
theorem new_any {H : MH} {s0 : SetL} (hs : SetAt H s0) (hsrc : SetSrc H s0) (fw : fewS s0) :
    ∃ (l : Nat) (s : SetL) (L : Lay) (x : LS) (H' : MH) (F' : List Nat), R mpLk 10 [.agg s0.cells.toArray] H = some (.pointer (some ⟨l, 0, none⟩), H') ∧ LkS l s L x H' F' ∧ Ext H H' ∧ (∀ id ∈ F', H.length ≤ id) ∧ x.ts.map (·.id) = L.chs ∧ SameS s (if okSet s0 then s0 else emptyS) ∧ SetB s ∧ LkInv s x ∧ x.cnt = 0 ∧ x.ak = [] := by
  by_cases ok : okSet s0
  · obtain ⟨l, s, L, x, H', F', h⟩ := new_ok hs hsrc fw ok
    exact ⟨l, s, L, x, H', F', by rw [if_pos ok]; exact h⟩
  · obtain ⟨f1, f2, f3, f4⟩ := fw
    obtain ⟨l, s, L, x, H', F', e, q, x1, g, hc, ha, hid, hh⟩ := R_new lkP lkChk hs hsrc ⟨by omega, by omega, by omega, fun t ht => by have := f4 t ht; omega⟩ (fun h => absurd h ok)
    rcases hh with ⟨h, _⟩ | ⟨_, rfl⟩
    · exact absurd h ok
    · refine ⟨l, emptyS, L, x, H', F', e, q, x1, g, hid, by rw [if_neg ok]; exact sameS_refl _, emptyS_b, ?_, hc, ha⟩
      exact ⟨by rw [ha]; simp [uniqA], by rw [ha]; simp, by rw [ha]; simp, by omega, by rw [ha]; simp, by rw [ha]; simp, by rw [ha]; simp, by rw [ha]; simp, fun hp => by simp [emptyS] at hp⟩
theorem lockPlays {H : MH} {ss : List Value} {sd : List D} {v : Value} {d : D} (rs : RepL H shSet ss sd) (rv : Rep H (.row [.int .i64, .int .i64, .int .i64]) v d) : ∃ H', R mpLk 3 [.agg ss.toArray, v] H = some (.bool true, H') := by
  obtain ⟨s0, rfl, hs0, hsrc⟩ := rep_setS rs
  obtain ⟨a, st, rfl, hst, _, _⟩ := rep_rowG rv fun ms ds h => rep_step h
  refine isTrue_ex ?_
  have hF := fun (H' : MH) (e' : Ext H H') => (G_few (mp := mpLk) (f := 9) (H := H') rfl hs0 e').eq
  have eb : Ext H (H ++ [.cells ⟨0, true, false⟩ s0.cells]) := ⟨_, rfl⟩
  have hb2 : (H ++ [MObj.cells ⟨0, true, false⟩ s0.cells])[H.length]? = some (.cells ⟨0, true, false⟩ s0.cells) := by simp
  have dn := ldbn hb2
  rw [R_code (fn := m3) rfl]
  by_cases k1 : fewS s0
  case neg =>
    rw [decide_eq_false k1] at hF
    simp only [SetL.cells] at hF dn
    simp (maxDischargeDepth := 12) [m3, SetL.cells, dn, knownL_R, hF]
  rw [decide_eq_true k1] at hF
  have hs := hs0.at k1
  by_cases k3 : st.length ≤ 80
  case neg =>
    have k3' : (80 : Int) < (st.length : Int) := by omega
    simp only [SetL.cells] at hF dn
    simp (maxDischargeDepth := 12) [m3, SetL.cells, dn, knownL_R, hF, k3']
  have k3' : ¬ (80 : Int) < (st.length : Int) := by omega
  obtain ⟨Hn, hHn⟩ : ∃ Hn, aft mpLk 9 [.agg s0.cells.toArray] (H ++ [.cells ⟨0, true, false⟩ s0.cells]) = Hn := ⟨_, rfl⟩
  have en : Ext (H ++ [.cells ⟨0, true, false⟩ s0.cells]) Hn := by rw [← hHn]; simp (maxDischargeDepth := 12)
  have eHn : Ext H Hn := eb.trans en
  obtain ⟨l, s, L, x, H1, F1, e10, p1, x1, g1, hid, sm, b, v, hc, ha⟩ := new_any (hs.ext eHn) (hsrc.ext eHn) k1
  -- the document's
  obtain ⟨H2, r, e11, x2, hr, hrl⟩ : ∃ (H2 : MH) (r : Nat), R mpLk 11 [.agg s0.cells.toArray] H1 = some (.pointer (some ⟨r, 0, none⟩), H2) ∧ Ext H1 H2 ∧ H2[r]? = some (.cells ⟨0, true, false⟩ (rfC (if okSet s0 then s0 else emptyS) none 0 0 0)) ∧ H1.length ≤ r := by
    have eO : Ext H1 (H1 ++ [.cells ⟨0, true, false⟩ s0.cells]) := ⟨_, rfl⟩
    obtain ⟨H3, k4, x4⟩ := G_okR (mp := mpLk) (H := H1 ++ [.cells ⟨0, true, false⟩ s0.cells]) lkChkR (hs.ext (eHn.trans (x1.trans eO))) (Ext.refl _)
    have hB : H3[H1.length]? = some (.cells ⟨0, true, false⟩ s0.cells) := x4.get (by simp)
    refine ⟨H3 ++ [.cells ⟨0, true, false⟩ (rfC (if okSet s0 then s0 else emptyS) none 0 0 0)], H3.length, ?_, (eO.trans x4).trans ⟨_, rfl⟩, by simp, by have := (eO.trans x4).len; omega⟩
    have dB := ldn_at hB 0 4 (by simp [SetL.cells]) rfl
    rw [R_code (fn := m11) rfl]
    by_cases ok : okSet s0
    · rw [decide_eq_true ok] at k4
      simp only [SetL.cells] at k4 dB
      simp [m11, SetL.cells, ldnx, k4, ok, rfC, dB]
    · rw [decide_eq_false ok] at k4
      simp only [SetL.cells] at k4 dB
      simp [m11, SetL.cells, ldnx, k4, ok, rfC, emptyS]
  have hsR : SetAt Hn (if okSet s0 then s0 else emptyS) := by
    split
    · exact hs.ext eHn
    · exact emptyS_at
  have hA : RfA r (if okSet s0 then s0 else emptyS) x.ak x.cnt H2 [r] := by
    rw [ha, hc]
    exact ⟨none, 0, [r], [], ⟨rfl, hr⟩, .inl ⟨rfl, rfl, rfl⟩, by simp, by simp⟩
  have hS : Sep (PL l r s (if okSet s0 then s0 else emptyS) L x) H2 (F1 ++ [r]) := sep_two (LkS.good.ext p1 x2) hA (fun z hz hm => by
    have := LkS.good.lt p1 z hz
    simp at hm; omega)
  obtain ⟨H', e3⟩ := plays_loop (sc := st.length) b sm hsR (hst.ext eHn) k3 st.length 0 H2 (F1 ++ [r]) x (.bool true) (by omega) (by rw [hc]; omega) hid v (by intro d hd; rw [ha] at hd; cases hd) hS (x1.trans x2) (fun id hm => by
    rcases List.mem_append.1 hm with h | h
    · exact g1 id h
    · simp at h; have := x1.len; omega)
  have hb2n : Hn[H.length]? = some (.cells ⟨0, true, false⟩ s0.cells) := en.get hb2
  have dn0 := ldbn hb2n
  have xr := Ext.refl Hn
  simp only [SetL.cells] at hF dn hHn e10 e11 dn0
  simp at e3
  simp (maxDischargeDepth := 12) [m3, SetL.cells, dn, knownL_R, hF, k3', hHn, dn0, xr, x1, e10, e11, mdraw_full, e3]
end Go.Mod

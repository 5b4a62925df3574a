/- RankDrops: the model's side. -/
import Derived.Test.YtpdkmcnoidbjoaaRankR
set_option linter.unusedVariables false
set_option linter.unusedSimpArgs false
namespace Go.Mod
open Go.Proofs

theorem ids_nodup {f : Int → Int} {xs : List Int} {m : Nat} {ps : List (Int × Int)} (h : ps.Pairwise lexR) (he : KeysR f xs m ps) : (idsR ps).Nodup := by
  unfold idsR List.Nodup
  rw [List.pairwise_map]
  refine List.Pairwise.imp_of_mem ?_ h
  intro p q hp hq hlx e
  obtain ⟨n1, x1, _, a2, a3, a4⟩ := he p hp
  obtain ⟨n2, x2, _, b2, b3, b4⟩ := he q hq
  have hn : n1 = n2 := by omega
  subst hn
  rw [a3] at b3; cases b3
  simp only [lexR] at hlx
  omega
theorem erase_filter : ∀ {ps : List (Int × Int)} {q : Nat} {k : Int}, (idsR ps).Nodup → (idsR ps)[q]? = some k → ps.eraseIdx q = ps.filter fun p => decide (p.2 ≠ k)
  | [], q, k, _, h => by simp [idsR] at h
  | p :: ps, 0, k, hn, h => by
    simp [idsR] at h hn
    subst h
    simp only [List.eraseIdx_zero, List.tail_cons]
    rw [List.filter_cons_of_neg (by simp), List.filter_eq_self.2 (fun q hq => ?_)]
    have := hn.1 q.1
    simp
    intro e
    exact this (by rw [← e]; exact hq)
  | p :: ps, q + 1, k, hn, h => by
    have hn' : (idsR ps).Nodup := by simp [idsR] at hn ⊢; exact hn.2
    have h' : (idsR ps)[q]? = some k := by simpa [idsR] using h
    have hpk : p.2 ≠ k := by
      intro e
      simp [idsR] at hn
      obtain ⟨p', hp', rfl⟩ := List.mem_map.1 (List.mem_of_getElem? h')
      refine hn.1 p'.1 ?_
      rw [e]; exact hp'
    rw [List.eraseIdx_cons_succ, erase_filter hn' h', List.filter_cons_of_pos (by simpa using hpk)]

section
variable {r n c : Nat} {a : Option Addr} {xs : List Int}
theorem drops1 {id : Int} (hx : xs.length ≤ 40) (hb : ∀ x ∈ xs, 0 ≤ x ∧ x < 256) :
    ∀ (k i : Nat) (H : MH) (F : List Nat) (ps : List (Int × Int)), i + k = xs.length → Stay 1 (.slice a n c) (u8s xs) H F → RankA r ps 64 H F → ps.length = i → ps.Pairwise lexR → KeysR (fun x => x) xs i ps → (∀ m : Nat, m < i → (m : Int) ∈ idsR ps) →
    ∃ (H' : MH) (F' : List Nat) (ps' : List (Int × Int)), Rc mpRk (.loop m8_1) [(0, .slice a n c), (1, .int .u8 id), (5, .pointer (some ⟨r, 0, none⟩)), (6, .int .i64 (i : Int))] H =
      some (.exit 0, [(0, .slice a n c), (1, .int .u8 id), (5, .pointer (some ⟨r, 0, none⟩)), (6, .int .i64 (n : Int)), (26, .bool false)], H') ∧
      Stay 1 (.slice a n c) (u8s xs) H' F' ∧ RankA r ps' 64 H' F' ∧ ps'.length = xs.length ∧ ps'.Pairwise lexR ∧ KeysR (fun x => x) xs xs.length ps' ∧ (∀ m : Nat, m < xs.length → (m : Int) ∈ idsR ps') := by
  intro k
  induction k with
  | zero =>
    intro i H F ps hk hS h hl hs he hm
    have hn := hS.1.u8n
    have : i = n := by omega
    subst this
    refine ⟨H, F, ps, ?_, hS, h, by omega, hs, hn ▸ he, hn ▸ hm⟩
    rw [Rc_loop]
    simp [m8_1]
  | succ k ih =>
    intro i H F ps hk hS h hl hs he hm
    have hn := hS.1.u8n
    have hlt : i < n := by omega
    obtain ⟨x, hxx⟩ : ∃ x, xs[i]? = some x := ⟨_, List.getElem?_eq_getElem (by omega)⟩
    have hxb := hb x (List.mem_of_getElem? hxx)
    obtain ⟨b, o, j, cs, rfl, hB, hat⟩ := hS.1.u8 (by omega)
    have hcx := hat i x hxx
    obtain ⟨H1, F1, e1, g1, u1⟩ := R_kput (mp := mpRk) rfl rfl h (by omega) x (i : Int)
    obtain ⟨H', F', ps', f1, f2⟩ := ih (i + 1) H1 F1 _ (by omega) (hS.upd u1) g1 (by rw [putAt_len (posR_le ..)]; omega) (put_sorted hs fun p hp => he.lt p hp) (he.put hxx _) (fun m hmi => by
      rcases Nat.lt_or_ge m i with h | h
      · obtain ⟨p, hp, e⟩ := List.mem_map.1 (hm m h)
        exact List.mem_map.2 ⟨p, mem_putAt.2 (.inr hp), e⟩
      · have : m = i := by omega
        subst this
        exact List.mem_map.2 ⟨(x, (m : Int)), mem_putAt.2 (.inl rfl), rfl⟩)
    refine ⟨H', F', ps', ?_, f2⟩
    have w1 : IntKind.i64.wrap x = x := wrap_i64 (by omega) (by omega)
    have w2 : IntKind.i64.wrap ((i : Int) + 1) = (i : Int) + 1 := wrap_i64 (by omega) (by omega)
    simp at f1
    rw [Rc_loop]
    simp [m8_1, hlt, ld_at hB, hcx, w1, w2, e1]
    exact f1
theorem drops2 {al : Option Addr} {nl cl : Nat} {kk : Int} {all : List Int} (hal : all.length ≤ 1000) :
    ∀ (rest : List (Int × Int)) (z : Nat) (H : MH) (F : List Nat), idsR rest = all.drop z → z ≤ all.length → Stay 1 (.slice al nl cl) (i64s all) H F → RankA r (rest.filter fun p => decide (p.2 ≠ kk)) 64 H F →
    ∃ (H' : MH) (F' : List Nat), Rc mpRk (.loop m8_0) [(5, .pointer (some ⟨r, 0, none⟩)), (7, .int .i64 kk), (8, .slice al nl cl), (9, .int .i64 (z : Int))] H =
      some (.exit 2, [(5, .pointer (some ⟨r, 0, none⟩)), (7, .int .i64 kk), (8, .slice al nl cl), (9, .int .i64 (nl : Int)), (64, .bool false)], H') ∧ RankA r [] 64 H' F'
  | [], z, H, F, he, hz, hS, h => by
    have hn := hS.1.i64n
    have : z = nl := by
      have := congrArg List.length he
      simp [idsR] at this; omega
    subst this
    refine ⟨H, F, ?_, h⟩
    rw [Rc_loop]
    simp [m8_0]
  | p :: rest, z, H, F, he, hz, hS, h => by
    have hn := hS.1.i64n
    have hzl : z < nl := by
      have := congrArg List.length he
      simp [idsR] at this; omega
    have hzz : all[z]? = some p.2 := by
      have := congrArg (fun l => l[0]?) he
      simpa [idsR] using this.symm
    have hrest : idsR rest = all.drop (z + 1) := by
      have := congrArg (List.drop 1) he
      simpa [idsR, List.drop_drop, Nat.add_comm] using this
    obtain ⟨_, b, o, j, cs, rfl, hB, hat⟩ := hS.1.i64 hzz
    have w : IntKind.i64.wrap ((z : Int) + 1) = (z : Int) + 1 := wrap_i64 (by omega) (by omega)
    by_cases hpk : p.2 = kk
    · rw [List.filter_cons_of_neg (by simpa using hpk)] at h
      obtain ⟨H', F', f1, f2⟩ := drops2 hal rest (z + 1) H F hrest (by omega) hS h
      refine ⟨H', F', ?_, f2⟩
      simp at f1
      rw [Rc_loop]
      simp [m8_0, hzl, ld_at hB, hat, hpk, w]
      exact f1
    · rw [List.filter_cons_of_pos (by simpa using hpk)] at h
      obtain ⟨H1, F1, e1, g1, u1⟩ := R_ktake (mp := mpRk) rfl rfl rfl h
      obtain ⟨H', F', f1, f2⟩ := drops2 hal rest (z + 1) H1 F1 hrest (by omega) (hS.upd u1) g1
      obtain ⟨_, b', o', j', cs', e', hB1, hat1⟩ := (hS.upd u1).1.i64 hzz
      cases e'
      refine ⟨H', F', ?_, f2⟩
      simp at f1
      rw [Rc_loop]
      simp [m8_0, hzl, ld_at hB, hat, hpk, w, e1, ld_at hB1, hat1]
      exact f1
end
theorem rankDrops {H : MH} {v : Value} {xs : List Int} {id : Int} (hr : Row 1 H v (u8s xs)) (hb : ∀ x ∈ xs, 0 ≤ x ∧ x < 256) (hid : 0 ≤ id ∧ id < 256) : ∃ H', R mpRk 8 [v, .int .u8 id] H = some (.bool true, H') := by
  refine isTrue_ex ?_
  obtain ⟨a, n, c, rfl, hl⟩ := hr.slice
  have hn := hr.u8n
  by_cases hbig : 40 < xs.length
  · rw [R_code (fn := m8) rfl]
    have : (40 : Int) < (n : Int) := by omega
    simp [m8, knownR_R, this]
  by_cases h0 : xs.length = 0
  · rw [R_code (fn := m8) rfl]
    have : n = 0 := by omega
    simp [m8, knownR_R, this]
  · have hsm : ¬ (40 : Int) < (n : Int) := by omega
    have hn0 : ¬ n = 0 := by omega
    obtain ⟨H1, e1, g1, x1⟩ := R_knew (mp := mpRk) rfl (H := H) (x := 64)
    have e64 : min (max (64 : Int) 0) 64 = 64 := by omega
    rw [e64] at g1
    obtain ⟨H2, F2, ps, h2, s2, g2, l2, p2, k2, m2⟩ := drops1 (c := c) (id := id) (by omega) hb xs.length 0 H1 _ [] (by omega) (stay_new hr x1) g1 rfl .nil (by simp [KeysR]) (by simp)
    obtain ⟨v3, H3, G3, e3, o3, x3, n3⟩ := R_kall (mp := mpRk) rfl g2
    have g3 := RankA.good.ext g2 x3
    have w1 : IntKind.i64.wrap id = id := wrap_i64 (by omega) (by omega)
    have tm : id.tmod (n : Int) = ((id.toNat % n : Nat) : Int) := by
      rw [Int.tmod_eq_emod_of_nonneg (by omega), show id = ((id.toNat : Nat) : Int) by omega]; rfl
    have hk := Nat.mod_lt id.toNat (show 0 < n by omega)
    generalize id.toNat % n = kk at tm hk
    have hmem := m2 kk (by omega)
    have hnd := ids_nodup p2 k2
    obtain ⟨H4, F4, ps4, e4, g4, u4, hd⟩ := R_kdrop (mp := mpRk) rfl rfl rfl rfl g3 (kk : Int)
    rcases hd with ⟨hno, _⟩ | ⟨q, hq, _, rfl⟩
    · exact absurd hmem hno
    rw [erase_filter hnd hq] at g4
    have hno : (kk : Int) ∉ idsR (ps.filter fun p => decide (p.2 ≠ (kk : Int))) := by
      intro h
      obtain ⟨p, hp, e⟩ := List.mem_map.1 h
      have := (List.mem_filter.1 hp).2
      simp at this
      exact this e
    obtain ⟨H5, F5, ps5, e5, g5, u5, hd5⟩ := R_kdrop (mp := mpRk) rfl rfl rfl rfl g4 (kk : Int)
    rcases hd5 with ⟨_, rfl⟩ | ⟨q5, hq5, _, _⟩
    · have hlen5 := R_klen (mp := mpRk) rfl g5
      have hfl : (ps.filter fun p => decide (p.2 ≠ (kk : Int))).length = n - 1 := by
        rw [← erase_filter hnd hq, List.length_eraseIdx, if_pos (by have := (List.getElem?_eq_some_iff.1 hq).1; rwa [idsR_len] at this)]; omega
      rw [hfl] at hlen5
      have hS3 : Stay 1 v3 (i64s (idsR ps)) H3 F2 := by
        refine ⟨Own.row o3, fun b o n' c' e hb => ?_⟩
        have := n3 b (Own.blk o3 b o n' c' e)
        have := RankA.good.lt g2 b hb
        omega
      obtain ⟨a3, n3', c3, rfl, _⟩ := (Own.row o3).slice
      obtain ⟨H6, F6, h6, g6⟩ := drops2 (kk := (kk : Int)) (by rw [idsR_len]; omega) ps 0 H5 F5 (by simp) (by omega) ((hS3.upd u4).upd u5) g5
      have hlen6 := R_klen (mp := mpRk) rfl g6
      have w3 : IntKind.i64.wrap ((n : Int) - 1) = (n : Int) - 1 := wrap_i64 (by omega) (by omega)
      have w4 : ((n - 1 : Nat) : Int) = (n : Int) - 1 := by omega
      rw [w4] at hlen5
      rw [decide_eq_true hmem] at e4
      rw [decide_eq_false hno] at e5
      rw [R_code (fn := m8) rfl]
      simp at h2 h6 hlen6
      simp [m8, knownR_R, hsm, hn0, e1, h2, w1, tm, e3, e4, e5, hlen5, w3, h6, hlen6]
    · exact absurd (List.mem_of_getElem? hq5) hno
end Go.Mod

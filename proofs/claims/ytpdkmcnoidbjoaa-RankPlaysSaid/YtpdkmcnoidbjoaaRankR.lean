/- RankMixed, RankDrops: the model's side. -/
import Derived.Test.YtpdkmcnoidbjoaaRankQ
set_option linter.unusedVariables false
set_option linter.unusedSimpArgs false
namespace Go.Mod
open Go.Proofs

theorem Row.i64 {H : MH} {a : Option Addr} {n c k : Nat} {l : List Int} {y : Int} (h : Row 1 H (.slice a n c) (i64s l)) (hy : l[k]? = some y) :
    k < n ∧ ∃ b o j cs, a = some ⟨b, o, none⟩ ∧ H[b]? = some (.cells j cs) ∧ cs[o + k]? = some (.int .i64 y) := by
  have hk := (List.getElem?_eq_some_iff.1 hy).1
  obtain ⟨a', n', c', e, hl⟩ := h.slice
  cases e
  rw [i64s_len] at hl
  obtain ⟨b, o, j, cs, rfl, hB, _, hat⟩ := h.at (k := k) (by omega)
  exact ⟨by omega, b, o, j, cs, rfl, hB, by rw [hat]; exact i64s_get hy⟩
theorem Row.i64n {H : MH} {a : Option Addr} {n c : Nat} {l : List Int} (h : Row 1 H (.slice a n c) (i64s l)) : n = l.length := by
  obtain ⟨a', n', c', e, hl⟩ := h.slice
  cases e
  rw [i64s_len] at hl; omega

section
variable {r n c : Nat} {a : Option Addr} {xs : List Int}
theorem mixed0 {H : MH} {al : Option Addr} {nl cl i q : Nat} {takes xq : Int} {ids : List Int} (hx : xs.length ≤ 64) (hb : ∀ x ∈ xs, 0 ≤ x ∧ x < 256) (hr : Row 1 H (.slice a n c) (u8s xs)) (hl : Row 1 H (.slice al nl cl) (i64s ids)) (hil : ids.length ≤ 1000)
    (hq : xs[q]? = some xq) (hy : ∀ y ∈ ids, ∃ (m : Nat) (x : Int), y = (m : Int) ∧ m ≤ i ∧ xs[m]? = some x ∧ lexR (xq, (q : Int)) (x, (m : Int))) :
    ∀ (k z : Nat), z + k = nl →
    Rc mpRk (.loop m7_0) [(0, .slice a n c), (1, .int .u16 takes), (5, .pointer (some ⟨r, 0, none⟩)), (6, .int .i64 (i : Int)), (7, .int .i64 (q : Int)), (9, .slice al nl cl), (10, .int .i64 (z : Int))] H =
      some (.exit 2, [(0, .slice a n c), (1, .int .u16 takes), (5, .pointer (some ⟨r, 0, none⟩)), (6, .int .i64 (i : Int)), (7, .int .i64 (q : Int)), (9, .slice al nl cl), (10, .int .i64 (nl : Int)), (61, .bool false)], H) := by
  intro k
  induction k with
  | zero =>
    intro z hk
    have : z = nl := by omega
    subst this
    rw [Rc_loop]
    simp [m7_0]
  | succ k ih =>
    intro z hk
    have hzl : z < nl := by omega
    have hnl := hl.i64n
    obtain ⟨y, hyy⟩ : ∃ y, ids[z]? = some y := ⟨_, List.getElem?_eq_getElem (by omega)⟩
    obtain ⟨m, x, rfl, hmi, hxm, hlx⟩ := hy y (List.mem_of_getElem? hyy)
    obtain ⟨_, b2, o2, j2, cs2, rfl, hB2, hat2⟩ := hl.i64 hyy
    have hql := (List.getElem?_eq_some_iff.1 hq).1
    have hml := (List.getElem?_eq_some_iff.1 hxm).1
    have hn := hr.u8n
    obtain ⟨b, o, j, cs, rfl, hB, hat⟩ := hr.u8 (by omega)
    have h1 := hat q xq hq
    have h2 := hat m x hxm
    have w : IntKind.i64.wrap ((z : Int) + 1) = (z : Int) + 1 := wrap_i64 (by omega) (by omega)
    have hqn : q < n := by omega
    have hmn : m < n := by omega
    have hmi' : ¬ i < m := by omega
    simp only [lexR] at hlx
    have g1 : ¬ x < xq := by omega
    have := ih (z + 1) (by omega)
    simp at this
    rw [Rc_loop]
    by_cases heq : x = xq
    · have g2 : ¬ m < q := by omega
      simp [m7_0, hzl, ld_at hB2, hat2, mdraw_plain, hmi', hqn, hmn, ld_at hB, h1, h2, g1, heq, g2, w]
      exact this
    · simp [m7_0, hzl, ld_at hB2, hat2, mdraw_plain, hmi', hqn, hmn, ld_at hB, h1, h2, g1, heq, w]
      exact this
theorem mixed1 {takes : Int} (hx : xs.length ≤ 64) (hb : ∀ x ∈ xs, 0 ≤ x ∧ x < 256) :
    ∀ (k i : Nat) (H : MH) (F : List Nat) (ps : List (Int × Int)), i + k = xs.length → Stay 1 (.slice a n c) (u8s xs) H F → RankA r ps 64 H F → ps.length ≤ i → ps.Pairwise lexR → KeysR (fun x => x) xs i ps →
    ∃ (H' : MH), Rc mpRk (.loop m7_1) [(0, .slice a n c), (1, .int .u16 takes), (5, .pointer (some ⟨r, 0, none⟩)), (6, .int .i64 (i : Int))] H =
      some (.exit 0, [(0, .slice a n c), (1, .int .u16 takes), (5, .pointer (some ⟨r, 0, none⟩)), (6, .int .i64 (n : Int)), (21, .bool false)], H') := by
  intro k
  induction k with
  | zero =>
    intro i H F ps hk hS h hl hs he
    have hn := hS.1.u8n
    have : i = n := by omega
    subst this
    refine ⟨H, ?_⟩
    rw [Rc_loop]
    simp [m7_1]
  | succ k ih =>
    intro i H F ps hk hS h hl hs he
    have hn := hS.1.u8n
    have hlt : i < n := by omega
    obtain ⟨x, hxx⟩ : ∃ x, xs[i]? = some x := ⟨_, List.getElem?_eq_getElem (by omega)⟩
    have hxb := hb x (List.mem_of_getElem? hxx)
    obtain ⟨H1, F1, e1, g1, u1⟩ := R_kput (mp := mpRk) rfl rfl h (by omega) x (i : Int)
    have s1 := put_sorted hs (k := x) (d := (i : Int)) fun p hp => he.lt p hp
    have k1 : KeysR (fun x => x) xs (i + 1) (putAt ps (posR x ps) (x, (i : Int))) := he.put hxx _
    have l1 : (putAt ps (posR x ps) (x, (i : Int))).length = ps.length + 1 := putAt_len (posR_le ..) _
    generalize putAt ps (posR x ps) (x, (i : Int)) = qs at *
    have hS1 := hS.upd u1
    have w1 : IntKind.i64.wrap x = x := wrap_i64 (by omega) (by omega)
    have w2 : IntKind.i64.wrap ((i : Int) + 1) = (i : Int) + 1 := wrap_i64 (by omega) (by omega)
    have h8 : (i : Int).tmod 16 = ((i % 16 : Nat) : Int) := by rw [Int.tmod_eq_emod_of_nonneg (by omega)]; rfl
    have w8 : IntKind.u64.wrap ((i % 16 : Nat) : Int) = ((i % 16 : Nat) : Int) := by
      unfold IntKind.wrap; simp only [IntKind.signed, IntKind.bits]; simp; omega
    obtain ⟨q, hq⟩ : ∃ q, mbin .shr (.int .u16 takes) (.int .u64 ((i % 16 : Nat) : Int)) = some (.int .u16 q) := by
      rw [ev_i_shr, if_neg (by omega)]; exact ⟨_, rfl⟩
    obtain ⟨z, hz⟩ : ∃ z, mbin .and (.int .u16 q) (.int .u16 1) = some (.int .u16 z) := ⟨_, ev_i_and⟩
    generalize i % 16 = i8 at h8 w8 hq
    obtain ⟨b0, o0, j0, cs0, ha, hB, hat⟩ := hS.1.u8 (by omega)
    have hcx := hat i x hxx
    by_cases hz1 : z = 0
    · obtain ⟨H', f1⟩ := ih (i + 1) H1 F1 qs (by omega) hS1 g1 (by omega) s1 k1
      refine ⟨H', ?_⟩
      subst ha
      simp at f1
      rw [Rc_loop]
      simp [m7_1, hlt, ld_at hB, hcx, w1, e1, h8, w8, hq, hz, hz1, w2, -ev_i_shr, -ev_i_and]
      exact f1
    · cases qs with
      | nil => simp at l1
      | cons p qs =>
      obtain ⟨m, y, hm, hp2, hyy, hp1⟩ := k1 p (by simp)
      obtain ⟨pk, pi⟩ := p
      simp only at hp1 hp2
      subst hp1; subst hp2
      obtain ⟨H2, F2, e2, g2, u2⟩ := R_ktake (mp := mpRk) rfl rfl rfl g1
      have hS2 := hS1.upd u2
      obtain ⟨v3, H3, G3, e3, o3, x3, n3⟩ := R_kall (mp := mpRk) rfl g2
      have hS3 := hS2.ext x3
      have g3 := RankA.good.ext g2 x3
      obtain ⟨a3, n3', c3, rfl, _⟩ := (Own.row o3).slice
      have hl0 : (idsR qs).length ≤ 1000 := by rw [idsR_len]; simp at l1; omega
      have hloop := mixed0 (r := r) (takes := takes) (i := i) (q := m) (xq := pk) hx hb hS3.1 (Own.row o3) hl0 hyy (fun y hy => by
        obtain ⟨p', hp', rfl⟩ := List.mem_map.1 hy
        obtain ⟨m', x', h1, h2, h3, h4⟩ := k1 p' (by simp [hp'])
        have := (List.pairwise_cons.1 s1).1 p' hp'
        refine ⟨m', x', h2, by omega, h3, ?_⟩
        obtain ⟨pk', pi'⟩ := p'
        simp only at h2 h4
        subst h2; subst h4
        exact this) n3' 0 (by omega)
      obtain ⟨H', f1⟩ := ih (i + 1) H3 F2 qs (by omega) hS3 g3 (by simp at l1; omega) (List.pairwise_cons.1 s1).2 (fun p hp => k1 p (by simp [hp]))
      refine ⟨H', ?_⟩
      subst ha
      have hmi : ¬ (i : Int) < (m : Int) := by omega
      have hmi' : ¬ i < m := by omega
      simp at f1 hloop
      rw [Rc_loop]
      simp [m7_1, hlt, ld_at hB, hcx, w1, e1, h8, w8, hq, hz, hz1, w2, e2, hmi, hmi', e3, hloop, -ev_i_shr, -ev_i_and]
      exact f1
end
theorem stay_new {H H1 : MH} {a : Option Addr} {n c : Nat} {l : List Value} {es : Nat} (hr : Row es H (.slice a n c) l) (x1 : Ext H H1) : Stay es (.slice a n c) l H1 [H.length] := by
  refine ⟨x1.row hr, fun b o n' c' e hb => ?_⟩
  simp at hb
  rcases hr with ⟨h1, _⟩ | ⟨b', o', m', d', j', cs', h1, _, h3, _⟩
  · rw [h1] at e; cases e
  · rw [h1] at e; cases e
    have := (List.getElem?_eq_some_iff.1 h3).1
    omega
theorem rankMixed {H : MH} {v : Value} {xs : List Int} {takes : Int} (hr : Row 1 H v (u8s xs)) (hb : ∀ x ∈ xs, 0 ≤ x ∧ x < 256) : ∃ H', R mpRk 7 [v, .int .u16 takes] H = some (.bool true, H') := by
  refine isTrue_ex ?_
  obtain ⟨a, n, c, rfl, hl⟩ := hr.slice
  have hn := hr.u8n
  by_cases hbig : 64 < xs.length
  · rw [R_code (fn := m7) rfl]
    have : (64 : Int) < (n : Int) := by omega
    simp [m7, knownR_R, this]
  · have hsm : ¬ (64 : Int) < (n : Int) := by omega
    obtain ⟨H1, e1, g1, x1⟩ := R_knew (mp := mpRk) rfl (H := H) (x := 64)
    have e64 : min (max (64 : Int) 0) 64 = 64 := by omega
    rw [e64] at g1
    obtain ⟨H2, h2⟩ := mixed1 (c := c) (takes := takes) (by omega) hb xs.length 0 H1 _ [] (by omega) (stay_new hr x1) g1 (by simp) .nil (by simp [KeysR])
    rw [R_code (fn := m7) rfl]
    simp at h2
    simp [m7, knownR_R, hsm, e1, h2]
end Go.Mod

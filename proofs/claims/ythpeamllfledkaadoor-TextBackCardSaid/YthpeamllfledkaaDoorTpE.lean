/- Package text: Print. -/
import Derived.Test.YthpeamllfledkaaDoorTpD
set_option linter.unusedVariables false
set_option linter.unusedSimpArgs false
namespace Go.Mod
open Go.Lib

theorem firstE_ok (s : SetL) : ∀ (l : List TaskL) (i : Nat), (firstE s i l).2 = 0 → ∀ t ∈ l, ∃ j, taskE s j t = 0
  | [], _, _, t, ht => by cases ht
  | x :: l, i, h, t, ht => by
    unfold firstE at h
    split at h
    · rename_i h0
      rcases List.mem_cons.1 ht with rfl | ht
      · exact ⟨i, h0⟩
      · exact firstE_ok s l (i + 1) h t ht
    · rename_i h0
      exact absurd h h0
theorem taskE_ok {s : SetL} {i : Nat} {t : TaskL} (h : taskE s i t = 0) : formOk t ∧ (0 ≤ t.cluster ∧ t.cluster < (s.cores.length : Int)) ∧ (¬ ∃ o ∈ s.tasks.take i, o.name = t.name ∨ o.prio = t.prio) ∧ partsOk s.homes.length t.parts := by
  unfold taskE at h
  split at h
  · cases h
  rename_i h1
  split at h
  · cases h
  rename_i h2
  split at h
  · cases h
  rename_i h3
  split at h
  · cases h
  rename_i h4
  exact ⟨Classical.not_not.1 h1, Classical.not_not.1 h2, h3, Classical.not_not.1 h4⟩
theorem ok_facts {s : SetL} (h : (checkE s).2 = 0) : (1 ≤ s.proto ∧ s.proto ≤ 3) ∧ placesB s.cores s.homes ∧ s.tasks.length ≤ 6 ∧ s.tasks ≠ [] ∧ (firstE s 0 s.tasks).2 = 0 := by
  unfold checkE at h
  split at h
  · cases h
  rename_i h1
  split at h
  · cases h
  rename_i h2
  split at h
  · cases h
  rename_i h3
  split at h
  · cases h
  rename_i h4
  exact ⟨Classical.not_not.1 h1, Classical.not_not.1 h2, by omega, h4, h⟩
theorem ok_small {s : SetL} (h : (checkE s).2 = 0) : ∀ t ∈ s.tasks, t.parts.length ≤ 6 ∧ (taskN t).length ≤ 8 := fun t ht => by
  obtain ⟨_, _, _, _, h5⟩ := ok_facts h
  obtain ⟨j, hj⟩ := firstE_ok s s.tasks 0 h5 t ht
  obtain ⟨h1, _, _, h4⟩ := taskE_ok hj
  refine ⟨h4.2.2, ?_⟩
  have h6 := h1.1.2.2
  unfold taskN
  have : t.name.size = t.name.data.toList.length := by rw [Array.length_toList]; rfl
  omega

def kProtB : Bs := [112, 114, 111, 116, 111, 99, 111, 108, 32]
def headS (s : SetL) : Bs := kProtB ++ (wordN s.proto.toNat ++ ([10] ++ (kCores ++ (numsT s.cores ++ [10]))))
def homesS (s : SetL) : Bs := if s.homes = [] then [] else kHomes ++ (numsT s.homes ++ [10])
/-- A set's text. -/
def printL (s : SetL) : Bs := headS s ++ (homesS s ++ tasksT s.tasks)
theorem wordN_len (n : Nat) : (wordN n).length ≤ 5 := by
  unfold wordN
  split <;> simp [kFair, kAgent, kToken]

section
variable {mp : FuncId → Option MDef} {H : MH}
theorem numsG_loop (h22 : mp 22 = some (.code m22)) (h31 : mp 31 = some (.intr (scalS itoaG))) {ns : List Int} (hl : ns.length ≤ 1000) {a : Option Addr} {n c : Nat} (hn : n = ns.length) (hr : RowG 1 H a ns intC) : ∀ (k i : Nat), i + k = ns.length →
    Rc mp (.loop m39_0) [(3, .string (B (numsT (ns.take i)))), (6, .slice a n c), (7, .int .i64 (n : Int)), (8, .int .i64 (i : Int))] H =
      some (.exit 0, [(3, .string (B (numsT ns))), (6, .slice a n c), (7, .int .i64 (n : Int)), (8, .int .i64 (n : Int)), (9, .bool false)], H) := by
  intro k
  induction k with
  | zero =>
    intro i hi
    have : i = ns.length := by omega
    subst this
    rw [Rc_loop, List.take_length]
    simp [m39_0, hn]
  | succ k ih =>
    intro i hi
    have hil : i < ns.length := by omega
    have hil' : i < n := by omega
    have hget := List.getElem?_eq_getElem hil
    have h1 := hr.ia c .i64 (i : Int)
    rw [if_pos ⟨by omega, by omega⟩, Int.toNat_natCast, ← hn, Nat.mul_one] at h1
    have l1 := hr.rd1 hget H (Ext.refl H)
    simp only [intC] at l1
    have htk : ns.take (i + 1) = ns.take i ++ [ns[i]] := by rw [List.take_add_one, hget]; rfl
    have w : IntKind.i64.wrap ((i : Int) + 1) = (i : Int) + 1 := wrap_i64 (by omega) (by omega)
    have h := ih (i + 1) (by omega)
    have hnt : numsT (ns.take (i + 1)) = numsT (ns.take i) ++ 32 :: textL ns[i] := by rw [htk]; unfold numsT; rw [List.flatMap_append]; simp
    rw [hnt] at h
    have hq := R_text (mp := mp) (H := H) h22 h31 ns[i]
    have hb := numsT_len (ns.take i)
    have hb2 := textL_le ns[i]
    rw [List.length_take] at hb
    generalize numsT (ns.take i) = t0 at h hb
    generalize textL ns[i] = tx at h hq hb2
    generalize ns[i] = x at l1 hq
    obtain ⟨t1, ht1, f1⟩ : ∃ t1 : Bs, t1 = 32 :: tx ∧ mbin .add (.string ⟨#[32]⟩) (.string (B tx)) = some (.string (B t1)) := ⟨_, rfl, s_addM (l := [32]) (by simp) (by omega)⟩
    have l2 : t1.length = 1 + tx.length := by rw [ht1]; simp; omega
    obtain ⟨t2, ht2, f2⟩ : ∃ t2 : Bs, t2 = t0 ++ t1 ∧ mbin .add (.string (B t0)) (.string (B t1)) = some (.string (B t2)) := ⟨_, rfl, s_addM (by omega) (by omega)⟩
    rw [← ht1, ← ht2] at h
    clear ht1 ht2
    rw [Rc_loop]
    simp [-ev_s_add, m39_0, hil', h1, l1, hq, f1, f2, w]
    exact h
theorem R_numsG (hf : mp 39 = some (.code m39)) (h22 : mp 22 = some (.code m22)) (h31 : mp 31 = some (.intr (scalS itoaG))) {ns : List Int} (hl : ns.length ≤ 1000) {a : Option Addr} {n c : Nat} (hn : n = ns.length) (hr : RowG 1 H a ns intC) :
    R mp 39 [.slice a n c] H = some (.string (B (numsT ns)), H) := by
  have h := numsG_loop h22 h31 hl (n := n) (c := c) hn hr ns.length 0 (by omega)
  have e : (B (numsT (ns.take 0))) = ⟨#[]⟩ := rfl
  rw [e] at h
  simp at h
  rw [R_code hf]
  simp [m39, h]
theorem R_print (P : PrP mp) {s : SetL} (hs : SetAt H s) [Decidable ((checkE s).2 = 0)] : ∃ H', R mp 27 [.agg s.cells.toArray] H = some (.string (B (if (checkE s).2 = 0 then printL s else [])), H') ∧ Ext H H' := by
  have e1 : Ext H (H ++ [.cells ⟨0, true, false⟩ s.cells]) := ⟨_, rfl⟩
  obtain ⟨H1, q1, x1⟩ := G_checkP P.k (hs.ext e1) (Ext.refl _)
  have E1 := e1.trans x1
  have hb1 : H1[H.length]? = some (.cells ⟨0, true, false⟩ s.cells) := x1.get (by simp)
  have hone : s.cells.all one = true := rfl
  by_cases hok : (checkE s).2 = 0
  · rw [if_pos hok]
    obtain ⟨hpr, hpl, htl, htn, _⟩ := ok_facts hok
    have hsm := ok_small hok
    obtain ⟨⟨hc1, hc3, hh4⟩, _⟩ := hpl
    obtain ⟨p, hp, hp1⟩ : ∃ p : Nat, s.proto = (p : Int) ∧ 1 ≤ p ∧ p ≤ 3 := ⟨s.proto.toNat, by omega, by omega, by omega⟩
    rw [hok] at q1
    -- the builder
    have e2 : ∀ o, Ext H1 (H1 ++ [o]) := fun o => ⟨[o], rfl⟩
    have hB0 : BldA H1.length [] (H1 ++ [.cells iBl [.pointer none, .slice none 0 0]]) [H1.length] := ⟨_, _, .inl rfl, [H1.length], [], ⟨rfl, by simp [iBl]⟩, .inl ⟨rfl, rfl, rfl⟩, by simp, by simp⟩
    have hb2 := (e2 (.cells iBl [.pointer none, .slice none 0 0])).get hb1
    have hs2 := hs.ext (E1.trans (e2 (.cells iBl [.pointer none, .slice none 0 0])))
    have qc := fun K (x : Ext (H1 ++ [.cells iBl [.pointer none, .slice none 0 0]]) K) => R_numsG (mp := mp) (H := K) P.e P.a P.b (by omega) (n := s.cores.length) (c := s.cc) rfl (hs2.cores.ext x)
    have qh := fun K (x : Ext (H1 ++ [.cells iBl [.pointer none, .slice none 0 0]]) K) => R_numsG (mp := mp) (H := K) P.e P.a P.b (by omega) (n := s.homes.length) (c := s.hc) rfl (hs2.homes.ext x)
    have qp := fun K => R_proto (mp := mp) (H := K) P.d hp1
    have hheadS : headS s = kProtB ++ (wordN p ++ ([10] ++ (kCores ++ (numsT s.cores ++ [10])))) := by unfold headS; rw [hp]; simp
    have lc := numsT_len s.cores
    have lh := numsT_len s.homes
    have lw := wordN_len p
    have hhomesS : homesS s = if s.homes = [] then [] else kHomes ++ (numsT s.homes ++ [10]) := rfl
    generalize numsT s.cores = nc at qc hheadS lc
    generalize numsT s.homes = nh at qh hhomesS lh
    generalize wordN p = wp at qp hheadS lw
    obtain ⟨t1, ht1, f1⟩ : ∃ t1 : Bs, t1 = kProtB ++ wp ∧ mbin .add (.string ⟨#[112, 114, 111, 116, 111, 99, 111, 108, 32]⟩) (.string (B wp)) = some (.string (B t1)) := ⟨_, rfl, s_addM (l := kProtB) (by simp [kProtB]) (by omega)⟩
    have l1 : t1.length = 9 + wp.length := by rw [ht1]; simp [kProtB]; omega
    obtain ⟨t2, ht2, f2⟩ : ∃ t2 : Bs, t2 = t1 ++ [10] ∧ mbin .add (.string (B t1)) (.string ⟨#[10]⟩) = some (.string (B t2)) := ⟨_, rfl, s_addM (m := [10]) (by omega) (by simp)⟩
    have l2 : t2.length = t1.length + 1 := by rw [ht2]; simp
    obtain ⟨t3, ht3, f3⟩ : ∃ t3 : Bs, t3 = t2 ++ kCores ∧ mbin .add (.string (B t2)) (.string ⟨#[99, 111, 114, 101, 115]⟩) = some (.string (B t3)) := ⟨_, rfl, s_addM (m := kCores) (by omega) (by simp [kCores])⟩
    have l3 : t3.length = t2.length + 5 := by rw [ht3]; simp [kCores]
    obtain ⟨t4, ht4, f4⟩ : ∃ t4 : Bs, t4 = t3 ++ nc ∧ mbin .add (.string (B t3)) (.string (B nc)) = some (.string (B t4)) := ⟨_, rfl, s_addM (by omega) (by omega)⟩
    have l4 : t4.length = t3.length + nc.length := by rw [ht4]; simp
    obtain ⟨t5, ht5, f5⟩ : ∃ t5 : Bs, t5 = t4 ++ [10] ∧ mbin .add (.string (B t4)) (.string ⟨#[10]⟩) = some (.string (B t5)) := ⟨_, rfl, s_addM (m := [10]) (by omega) (by simp)⟩
    have l5 : t5.length = t4.length + 1 := by rw [ht5]; simp
    have hne5 : t5 ≠ [] := by rw [ht5]; simp
    have eh : headS s = t5 := by rw [hheadS, ht5, ht4, ht3, ht2, ht1]; simp only [List.append_assoc]
    clear ht1 ht2 ht3 ht4 ht5 hheadS
    obtain ⟨H2, F2, w2, hB2, u2⟩ := R_write (mp := mp) P.c P.h hB0 hne5 (by simp; omega)
    have F0 : ∀ id ∈ [H1.length], H1.length ≤ id := by simp
    obtain ⟨E2, hF2⟩ := ext_upd (H0 := H1) (e2 _) u2 F0
    have hb3 := E2.get hb1
    have q1' : R mp 36 [.agg #[.int .i64 (p : Int), .slice s.ca s.cores.length s.cc, .slice s.ha s.homes.length s.hc, .slice s.ta s.tasks.length s.tc]] (H ++ [.cells ⟨0, true, false⟩ [.int .i64 (p : Int), .slice s.ca s.cores.length s.cc, .slice s.ha s.homes.length s.hc, .slice s.ta s.tasks.length s.tc]]) = some (.tuple #[.int .i64 (checkE s).1, .int .i64 0], H1) := by
      have := q1
      simp only [SetL.cells, hp] at this
      exact this
    simp only [SetL.cells, hp] at hb1 hb2 hb3
    rw [List.nil_append] at hB2
    -- the lines of homes, the tasks
    have hPt : ∀ t ∈ s.tasks, RowG 3 H1 t.pa t.parts partC ∧ t.parts.length ≤ 6 ∧ (taskN t).length ≤ 8 := fun t ht => ⟨(hs.parts t ht).ext E1, (hsm t ht).1, (hsm t ht).2⟩
    have fin : ∀ (H3 : MH) (F3 : List Nat) (acc : Bs), Ext H1 H3 → (∀ id ∈ F3, H1.length ≤ id) → BldA H1.length acc H3 F3 → acc ≠ [] → acc.length ≤ 1000 →
        ∃ H4 H5, Rc mp (.loop m27_1) [(5, .pointer (some ⟨H1.length, 0, none⟩)), (40, .slice s.ta s.tasks.length s.tc), (41, .int .i64 (s.tasks.length : Int)), (42, .int .i64 0)] H3 =
          some (.exit 0, [(5, .pointer (some ⟨H1.length, 0, none⟩)), (40, .slice s.ta s.tasks.length s.tc), (41, .int .i64 (s.tasks.length : Int)), (42, .int .i64 (s.tasks.length : Int)), (43, .bool false)], H4) ∧
          R mp 41 [.pointer (some ⟨H1.length, 0, none⟩)] H4 = some (.string (B (acc ++ tasksT s.tasks)), H5) ∧ Ext H1 H5 := by
      intro H3 F3 acc x3 hF3 hB3 hne hl
      obtain ⟨H4, F4, g1, hB4, u4⟩ := tasksT_loop P (H0 := H1) (c := s.tc) (hs.tasks.ext E1) (by omega) hPt s.tasks.length 0 H3 F3 acc (by omega) (by omega) x3 hF3 hB3
      rw [List.drop_zero] at hB4
      obtain ⟨x4, hF4⟩ := ext_upd x3 u4 hF3
      have hlt : (tasksT s.tasks).length ≤ 400 * s.tasks.length := by
        have hall : ∀ l : List TaskL, (∀ t ∈ l, t.parts.length ≤ 6 ∧ (taskN t).length ≤ 8) → (tasksT l).length ≤ 400 * l.length := by
          intro l
          induction l with
          | nil => intro _; simp [tasksT]
          | cons t l ih =>
            intro h
            have h1 := taskT_len t
            have h2 := h t (by simp)
            have h3 := ih fun x hx => h x (by simp [hx])
            unfold tasksT at h3 ⊢
            rw [List.flatMap_cons, List.length_append, List.length_cons]; omega
        exact hall s.tasks hsm
      obtain ⟨H5, g2, u5⟩ := R_bstr (mp := mp) P.g hB4 (by simp [hne]) (by rw [List.length_append]; omega)
      exact ⟨H4, H5, g1, g2, (ext_upd x4 u5 hF4).1⟩
    have qc1 := qc _ (Ext.refl _)
    have qp1 := qp (H1 ++ [.cells iBl [.pointer none, .slice none 0 0]])
    unfold iBl at qc1 qp1 w2 hb2
    by_cases hh : s.homes = []
    · have hh1 : s.homes.length = 0 := by rw [hh]; rfl
      have hh0 : ¬ 0 < s.homes.length := by omega
      have hh0' : ¬ (0 : Int) < (s.homes.length : Int) := by omega
      obtain ⟨H4, H5, g1, g2, x5⟩ := fin H2 F2 t5 E2 hF2 hB2 hne5 (by omega)
      refine ⟨H5, ?_, E1.trans x5⟩
      unfold printL
      rw [eh, hhomesS, if_pos hh, List.nil_append]
      rw [R_code P.i]
      simp [-ev_s_add, m27, SetL.cells, hp, q1', ldx, ldnx, mdraw_full, hb2, qp1, f1, f2, f3, qc1, f4, f5, w2, hb3, hh0, hh0', g1, g2]
    · have hh0 : 0 < s.homes.length := List.length_pos_iff.2 hh
      have hh0' : (0 : Int) < (s.homes.length : Int) := by omega
      obtain ⟨t6, ht6, f6⟩ : ∃ t6 : Bs, t6 = kHomes ++ nh ∧ mbin .add (.string ⟨#[104, 111, 109, 101, 115]⟩) (.string (B nh)) = some (.string (B t6)) := ⟨_, rfl, s_addM (l := kHomes) (by simp [kHomes]) (by omega)⟩
      have l6 : t6.length = 5 + nh.length := by rw [ht6]; simp [kHomes]; omega
      obtain ⟨t7, ht7, f7⟩ : ∃ t7 : Bs, t7 = t6 ++ [10] ∧ mbin .add (.string (B t6)) (.string ⟨#[10]⟩) = some (.string (B t7)) := ⟨_, rfl, s_addM (m := [10]) (by omega) (by simp)⟩
      have l7 : t7.length = t6.length + 1 := by rw [ht7]; simp
      have e7 : kHomes ++ (nh ++ [10]) = t7 := by rw [ht7, ht6]; simp
      have hne7 : t7 ≠ [] := by rw [ht7]; simp
      have qh2 := R_numsG (mp := mp) (H := H2) P.e P.a P.b (by omega) (n := s.homes.length) (c := s.hc) rfl ((hs.homes.ext E1).ext E2)
      have hnh : nh = numsT s.homes := by
        have h1 := qh _ (Ext.refl _)
        have h2 := R_numsG (mp := mp) (H := H1 ++ [.cells iBl [.pointer none, .slice none 0 0]]) P.e P.a P.b (by omega) (n := s.homes.length) (c := s.hc) rfl hs2.homes
        rw [h1] at h2
        have h3 := congrArg Prod.fst (Option.some.inj h2)
        exact B_inj (Value.string.inj h3)
      rw [← hnh] at qh2
      obtain ⟨H3, F3, w3, hB3, u3⟩ := R_write (mp := mp) P.c P.h hB2 hne7 (by omega)
      obtain ⟨E3, hF3⟩ := ext_upd E2 u3 hF2
      have hb4 := E3.get hb1
      obtain ⟨H4, H5, g1, g2, x5⟩ := fin H3 F3 (t5 ++ t7) E3 hF3 hB3 (by simp [hne5]) (by rw [List.length_append]; omega)
      refine ⟨H5, ?_, E1.trans x5⟩
      unfold printL
      rw [eh, hhomesS, if_neg hh, e7, ← List.append_assoc]
      clear ht6 ht7 e7
      rw [R_code P.i]
      simp [-ev_s_add, m27, SetL.cells, hp, q1', ldx, ldnx, mdraw_full, hb2, qp1, f1, f2, f3, qc1, f4, f5, w2, hb3, hh0, hh0', qh2, f6, f7, w3, hb4, g1, g2]
  · rw [if_neg hok]
    refine ⟨H1, ?_, E1⟩
    rw [R_code P.i]
    simp only [SetL.cells] at q1 hb1
    simp [m27, q1, hok, ldnx, SetL.cells, B]
end
end Go.Mod

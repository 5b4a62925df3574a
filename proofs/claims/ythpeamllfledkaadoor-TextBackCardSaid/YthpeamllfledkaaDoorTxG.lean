/- Package text: the lines ahead of tasks. -/
import Derived.Test.YthpeamllfledkaaDoorTxF
set_option linter.unusedVariables false
set_option linter.unusedSimpArgs false
namespace Go.Mod
open Go.Lib

structure HeadR where
  p : Int
  cores : List Int
  homes : List Int
  k : Nat
  ok : Bool
def headL (l : List (Nat × List Bs)) : HeadR :=
  match l with
  | [] => ⟨0, [], [], 0, false⟩
  | (_, w0) :: l1 =>
    if ¬ (w0.getD 0 [] = kProtocol ∧ w0.length = 2) then ⟨0, [], [], 0, false⟩ else
    if protoN (w0.getD 1 []) = 0 then ⟨0, [], [], 0, false⟩ else
    match l1 with
    | [] => ⟨0, [], [], 1, false⟩
    | (_, w1) :: l2 =>
      if ¬ w1.getD 0 [] = kCores then ⟨0, [], [], 1, false⟩ else
      match numsL (w1.drop 1) with
      | none => ⟨0, [], [], 1, false⟩
      | some cs => if cs = [] then ⟨0, [], [], 1, false⟩ else
        match l2 with
        | [] => ⟨protoN (w0.getD 1 []), cs, [], 2, true⟩
        | (_, w2) :: _ => if ¬ w2.getD 0 [] = kHomes then ⟨protoN (w0.getD 1 []), cs, [], 2, true⟩ else
          match numsL (w2.drop 1) with
          | none => ⟨0, [], [], 2, false⟩
          | some hs => if hs = [] then ⟨0, [], [], 2, false⟩ else ⟨protoN (w0.getD 1 []), cs, hs, 3, true⟩

section
variable {mp : FuncId → Option MDef} {H : MH}
def HeadOk (mp : FuncId → Option MDef) (H : MH) (v : Value) (h : HeadR) : Prop :=
  ∃ x1 x2 pv H', R mp 43 [v] H = some (.tuple #[.agg (setC pv x1 x2).toArray, .int .i64 (h.k : Int), .bool h.ok], H') ∧ Ext H H' ∧ one x1 = true ∧ one x2 = true ∧
    (h.ok = true → pv = h.p ∧ Row 1 H' x1 (i64s h.cores) ∧ Row 1 H' x2 (i64s h.homes))
/-- What is known of the k-th row. -/
theorem rw_all {a : Option Addr} {rs : List RwL} {n : Nat} (hn : n = rs.length) (h : RowG 2 H a rs rwC) (hW : WordsAt H rs) {k : Nat} {r : RwL} (hr : rs[k]? = some r) (c : Nat) :
    mpure (.ia 2) [.slice a n c, .int .i64 (k : Int)] = some (.pointer (some ⟨adB a, adO a + k * 2, none⟩)) ∧ mread (.ld none) [.pointer (some ⟨adB a, adO a + k * 2 + 1, none⟩)] H = some (.slice r.wa r.w.length r.wc) ∧ Row 1 H (.slice r.wa r.w.length r.wc) (sv r.w) := by
  subst hn
  exact ⟨rw_ia h (List.getElem?_eq_some_iff.1 hr).1 c, rw_ws h hr, hW r (List.mem_of_getElem? hr)⟩
theorem RowG.keepP {α : Type} {w : Nat} {H1 : MH} {a : Option Addr} {l : List α} {g : α → List Value} {p : Nat → Prop} (h : RowG w H a l g) (k : KeepP p H H1) (hp : p w) : RowG w H1 a l g :=
  ⟨h.ad, fun j x hx => by
    obtain ⟨i, cs, h1, h2, h3⟩ := h.rec_ j x hx
    exact ⟨i, cs, k _ i cs h1 (h2 ▸ hp), h2, h3⟩, h.wid⟩
theorem keep_set {p : Nat → Prop} {b : Nat} {i : Info} {cs : List Value} {o : MObj} (hb : H[b]? = some (.cells i cs)) (hp : ¬ p i.es) : KeepP p H (H.set b o) := fun k j ds hk hj => by
  by_cases e : b = k
  · subst e; rw [hb] at hk; cases hk; exact absurd hj hp
  · rw [List.getElem?_set_ne e]; exact hk
def P123 (e : Nat) : Prop := e ≠ 0
theorem WordsAt.keepP {H1 : MH} {rs : List RwL} (h : WordsAt H rs) (k : KeepP P123 H H1) : WordsAt H1 rs := fun r hr => Row.keepP (h r hr) k (by unfold P123; omega)
theorem proto_loop (h38 : mp 38 = some (.code m38)) {a : Option Addr} {rs : List RwL} {n c b2 b5 : Nat} {r : RwL} {w : Bs} (hn : n = rs.length) (hr : RowG 2 H a rs rwC) (hrs : rs[0]? = some r) (hW : WordsAt H rs) (hw : r.w[1]? = some w)
    (hb : H[b5]? = some (.cells ⟨0, true, false⟩ (setC 0 (.slice none 0 0) (.slice none 0 0)))) :
    Rc mp (.loop m43_0) [(0, .slice a n c), (2, .pointer (some ⟨b2, 0, none⟩)), (5, .pointer (some ⟨b5, 0, none⟩)), (6, .int .i64 1)] H =
      some (.exit 0, [(0, .slice a n c), (2, .pointer (some ⟨b2, 0, none⟩)), (5, .pointer (some ⟨b5, 0, none⟩)), (6, .int .i64 4), (30, .bool false)], H.set b5 (.cells ⟨0, true, false⟩ (setC (protoN w) (.slice none 0 0) (.slice none 0 0)))) := by
  subst hn
  have hblt := (List.getElem?_eq_some_iff.1 hb).1
  have hend : ∀ X : MH, Rc mp (.loop m43_0) [(0, .slice a rs.length c), (2, .pointer (some ⟨b2, 0, none⟩)), (5, .pointer (some ⟨b5, 0, none⟩)), (6, .int .i64 ((3 + 1 : Nat) : Int))] X =
      some (.exit 0, [(0, .slice a rs.length c), (2, .pointer (some ⟨b2, 0, none⟩)), (5, .pointer (some ⟨b5, 0, none⟩)), (6, .int .i64 4), (30, .bool false)], X) := fun X => by
    rw [Rc_loop]; simp [m43_0]
  have kk : ∀ o, KeepP P123 H (H.set b5 o) := fun o => keep_set hb (by unfold P123; simp)
  have st : ∀ (q : Int) (m : Nat), 1 ≤ m ∧ m ≤ 3 → Rc mp (.loop m43_0) [(0, .slice a rs.length c), (2, .pointer (some ⟨b2, 0, none⟩)), (5, .pointer (some ⟨b5, 0, none⟩)), (6, .int .i64 (m : Int))] (H.set b5 (.cells ⟨0, true, false⟩ (setC q (.slice none 0 0) (.slice none 0 0)))) =
      Rc mp (.loop m43_0) [(0, .slice a rs.length c), (2, .pointer (some ⟨b2, 0, none⟩)), (5, .pointer (some ⟨b5, 0, none⟩)), (6, .int .i64 ((m + 1 : Nat) : Int))] (H.set b5 (.cells ⟨0, true, false⟩ (setC (if w = wordN m then (m : Int) else q) (.slice none 0 0) (.slice none 0 0)))) := fun q m hm => by
    rw [proto_step h38 (hr.keepP (kk _) (by unfold P123; omega)) hrs (hW.keepP (kk _)) hw hm (p := q) (List.getElem?_set_self hblt)]
    split
    · rw [List.set_set]
    · rfl
  have h0 := set_id hb
  have s1 := st 0 1 (by omega)
  rw [h0] at s1
  have e : (1 : Int) = ((1 : Nat) : Int) := rfl
  rw [e, s1, st _ 2 (by omega), st _ 3 (by omega), hend]
  congr 5
  unfold protoN wordN
  by_cases c1 : w = kFair
  · subst c1; simp [kFair, kAgent, kToken]
  · by_cases c2 : w = kAgent
    · subst c2; simp [kFair, kAgent, kToken]
    · by_cases c3 : w = kToken
      · subst c3; simp [kFair, kAgent, kToken]
      · simp [c1, c2, c3]
theorem R_head {t : TypeId} (P : TxP mp t) (hf : mp 43 = some (.code m43)) (h38 : mp 38 = some (.code m38)) {a : Option Addr} {rs : List RwL} {n c : Nat} (hn : n = rs.length) (hr : RowG 2 H a rs rwC) (hW : WordsAt H rs) (hne : ∀ r ∈ rs, r.w ≠ []) (hsz : ∀ r ∈ rs, r.w.length ≤ 100000 ∧ ∀ w ∈ r.w, w.length ≤ 100000) :
    HeadOk mp H (.slice a n c) (headL (rs.map RwL.plain)) := by
  have E2 : ∀ X Y : MObj, Ext H (H ++ [X, Y]) := fun X Y => ⟨[X, Y], rfl⟩
  have hset : ∀ (X : MH), H.length < X.length → ∀ o, (X.set H.length o)[H.length]? = some o := fun X h o => List.getElem?_set_self h
  cases rs with
  | nil =>
    subst hn
    refine ⟨.slice none 0 0, .slice none 0 0, 0, H ++ [.cells ⟨0, true, false⟩ (setC 0 (.slice none 0 0) (.slice none 0 0)), .cells ⟨0, true, false⟩ (setC 0 (.slice none 0 0) (.slice none 0 0))], ?_, E2 _ _, rfl, rfl, fun h => by cases h⟩
    rw [R_code hf]
    simp [m43, headL, stx, ldnx, setC]
  | cons r0 rest =>
    have hn0 : ¬ n = 0 := by rw [hn]; simp
    have hne0 := hne r0 (by simp)
    obtain ⟨w00, hw00⟩ : ∃ x, r0.w[0]? = some x := ⟨_, List.getElem?_eq_getElem (List.length_pos_iff.2 hne0)⟩
    have hd00 : r0.w.getD 0 [] = w00 := by rw [List.getD_eq_getElem?_getD, hw00]; rfl
    simp only [List.map_cons, RwL.plain, headL]
    generalize hX : H ++ [MObj.cells ⟨0, true, false⟩ (setC 0 (.slice none 0 0) (.slice none 0 0)), .cells ⟨0, true, false⟩ (setC 0 (.slice none 0 0) (.slice none 0 0))] = X
    have eX : Ext H X := hX ▸ E2 _ _
    have hX2 : X[H.length]? = some (.cells ⟨0, true, false⟩ (setC 0 (.slice none 0 0) (.slice none 0 0))) := by rw [← hX]; simp
    have hX5 : X[H.length + 1]? = some (.cells ⟨0, true, false⟩ (setC 0 (.slice none 0 0) (.slice none 0 0))) := by rw [← hX]; simp
    have hrX := hr.ext eX
    have hWX : WordsAt X (r0 :: rest) := fun r h => row_ext' (hW r h) eX
    obtain ⟨i0, l0, g0⟩ := rw_all hn hrX hWX (k := 0) (r := r0) rfl c
    obtain ⟨b0, o0, hwa0, l00, _⟩ := row_get g0 (k := 0) (x := .string (B w00)) (by simp [sv, hw00])
    rw [hwa0] at l0
    simp at i0 l0 l00
    have hsetX := hset X (List.getElem?_eq_some_iff.1 hX2).1
    have hposN : 0 < r0.w.length := List.length_pos_iff.2 hne0
    have hn0' : ¬ (n : Int) = 0 := by omega
    have hpos0 : (0 : Int) < (r0.w.length : Int) := by have := List.length_pos_iff.2 hne0; omega
    have hXs := set_id hX2
    have hX' : H ++ [MObj.cells ⟨0, true, false⟩ [.int .i64 0, .slice none 0 0, .slice none 0 0, .slice none 0 0], .cells ⟨0, true, false⟩ [.int .i64 0, .slice none 0 0, .slice none 0 0, .slice none 0 0]] = X := hX
    by_cases h1 : r0.w.getD 0 [] = kProtocol ∧ r0.w.length = 2
    · rw [if_neg (fun h => h h1)]
      obtain ⟨hk, hl2⟩ := h1
      rw [hd00] at hk
      subst hk
      obtain ⟨w01, hw01⟩ : ∃ x, r0.w[1]? = some x := ⟨_, List.getElem?_eq_getElem (by omega)⟩
      have hd01 : r0.w.getD 1 [] = w01 := by rw [List.getD_eq_getElem?_getD, hw01]; rfl
      rw [hd01]
      have hloop := proto_loop h38 (b2 := H.length) (c := c) hn hrX rfl hWX hw01 hX5
      have hl2' : (r0.w.length : Int) = 2 := by omega
      generalize protoN w01 = p at hloop ⊢
      have hXlt : H.length + 1 < X.length := (List.getElem?_eq_some_iff.1 hX5).1
      have hX1e : Ext H (X.set (H.length + 1) (.cells ⟨0, true, false⟩ (setC p (.slice none 0 0) (.slice none 0 0)))) := ext_set eX (by omega)
      have k1 : KeepP P123 X (X.set (H.length + 1) (.cells ⟨0, true, false⟩ (setC p (.slice none 0 0) (.slice none 0 0)))) := keep_set hX5 (by unfold P123; simp)
      have hX15 : (X.set (H.length + 1) (.cells ⟨0, true, false⟩ (setC p (.slice none 0 0) (.slice none 0 0))))[H.length + 1]? = some (.cells ⟨0, true, false⟩ (setC p (.slice none 0 0) (.slice none 0 0))) := List.getElem?_set_self hXlt
      have hX12 : (X.set (H.length + 1) (.cells ⟨0, true, false⟩ (setC p (.slice none 0 0) (.slice none 0 0))))[H.length]? = some (.cells ⟨0, true, false⟩ (setC 0 (.slice none 0 0) (.slice none 0 0))) := by rw [List.getElem?_set_ne (by omega)]; exact hX2
      generalize hX1 : X.set (H.length + 1) (.cells ⟨0, true, false⟩ (setC p (.slice none 0 0) (.slice none 0 0))) = X1 at hloop hX1e k1 hX15 hX12
      have hset1 := hset X1 (List.getElem?_eq_some_iff.1 hX12).1
      unfold setC at hX15 hX12
      by_cases hp : p = 0
      · rw [if_pos hp]
        subst hp
        refine ⟨.slice none 0 0, .slice none 0 0, 0, X1.set H.length (.cells ⟨0, true, false⟩ (setC 0 (.slice none 0 0) (.slice none 0 0))), ?_, ext_set hX1e (Nat.le_refl _), rfl, rfl, fun h => by cases h⟩
        rw [R_code hf]
        simp [m43, hX', hn0, hn0', hposN, i0, l0, l00, hpos0, kProtocol, hl2, hl2', hloop, stx, ldx, ldnx, hX15, hX12, hset1, setC]
      · rw [if_neg hp]
        have hrX1 := hrX.keepP k1 (by unfold P123; omega)
        have hWX1 := hWX.keepP k1
        cases rest with
        | nil =>
          have hn1 : n = 1 := hn
          subst hn1
          refine ⟨.slice none 0 0, .slice none 0 0, p, X1.set H.length (.cells ⟨0, true, false⟩ (setC p (.slice none 0 0) (.slice none 0 0))), ?_, ext_set hX1e (Nat.le_refl _), rfl, rfl, fun h => by cases h⟩
          rw [R_code hf]
          simp [m43, hX', hn0, hn0', hposN, i0, l0, l00, hpos0, kProtocol, hl2, hl2', hloop, stx, ldx, ldnx, hX15, hX12, hset1, setC, hp]
        | cons r1 rest2 =>
          have hn1 : (1 : Int) < (n : Int) := by rw [hn]; simp; omega
          have hn1N : 1 < n := by omega
          have hne1 := hne r1 (by simp)
          obtain ⟨w10, hw10⟩ : ∃ x, r1.w[0]? = some x := ⟨_, List.getElem?_eq_getElem (List.length_pos_iff.2 hne1)⟩
          have hd10 : r1.w.getD 0 [] = w10 := by rw [List.getD_eq_getElem?_getD, hw10]; rfl
          have hposN1 : 0 < r1.w.length := List.length_pos_iff.2 hne1
          have hpos1 : (0 : Int) < (r1.w.length : Int) := by omega
          obtain ⟨i1, l1, g1⟩ := rw_all hn hrX1 hWX1 (k := 1) (r := r1) rfl c
          obtain ⟨b1, o1, hwa1, l10, _⟩ := row_get g1 (k := 0) (x := .string (B w10)) (by simp [sv, hw10])
          obtain ⟨a4, n4, c4, q4, r4⟩ := row_drop g1 (k := 1) (by omega)
          have r4' : Row 1 X1 (.slice a4 n4 c4) (sv (r1.w.drop 1)) := by simpa [sv, List.map_drop] using r4
          rw [hwa1] at l1
          rw [hwa1] at q4
          have q4' : mread (.sl 1 true false false) [.slice (some ⟨b1, o1, none⟩) r1.w.length r1.wc, .int .i64 1] X1 = some (.slice a4 n4 c4) := q4
          simp at i1 l1 l10
          simp only [List.map_cons, RwL.plain, hd10]
          by_cases h2 : w10 = kCores
          · rw [if_neg (fun h => h h2)]
            subst h2
            obtain ⟨a5, n5, c5, Y, q5, xY, r5⟩ := R_nums P.g P.a P.b P.c (ws := r1.w.drop 1) (fun x hx => (hsz r1 (by simp)).2 x (List.mem_of_mem_drop hx)) (by have := (hsz r1 (by simp)).1; simp; omega) r4'
            have hY5 := xY.get hX15
            have hY2 := xY.get hX12
            have hYlt : H.length + 1 < Y.length := (List.getElem?_eq_some_iff.1 hY5).1
            have hY1e : Ext H (Y.set (H.length + 1) (.cells ⟨0, true, false⟩ [.int .i64 p, .slice a5 n5 c5, .slice none 0 0, .slice none 0 0])) := ext_set (hX1e.trans xY) (by omega)
            have k2 : KeepP P123 Y (Y.set (H.length + 1) (.cells ⟨0, true, false⟩ [.int .i64 p, .slice a5 n5 c5, .slice none 0 0, .slice none 0 0])) := keep_set hY5 (by unfold P123; simp)
            have hY15 : (Y.set (H.length + 1) (.cells ⟨0, true, false⟩ [.int .i64 p, .slice a5 n5 c5, .slice none 0 0, .slice none 0 0]))[H.length + 1]? = some (.cells ⟨0, true, false⟩ [.int .i64 p, .slice a5 n5 c5, .slice none 0 0, .slice none 0 0]) := List.getElem?_set_self hYlt
            have hY12 : (Y.set (H.length + 1) (.cells ⟨0, true, false⟩ [.int .i64 p, .slice a5 n5 c5, .slice none 0 0, .slice none 0 0]))[H.length]? = some (.cells ⟨0, true, false⟩ [.int .i64 0, .slice none 0 0, .slice none 0 0, .slice none 0 0]) := by rw [List.getElem?_set_ne (by omega)]; exact hY2
            generalize hY1 : Y.set (H.length + 1) (.cells ⟨0, true, false⟩ [.int .i64 p, .slice a5 n5 c5, .slice none 0 0, .slice none 0 0]) = Y1 at hY1e k2 hY15 hY12
            have hset2 := hset Y1 (List.getElem?_eq_some_iff.1 hY12).1
            have r5' := Row.keepP r5 k2 (by unfold P123; omega)
            have hl5 := row_len r5
            rw [i64s_len] at hl5
            have fail : ∀ (h : HeadR), h = ⟨0, [], [], 1, false⟩ → (numsL (r1.w.drop 1) = none ∨ numsL (r1.w.drop 1) = some []) → HeadOk mp H (.slice a n c) h := by
              rintro h rfl hq
              refine ⟨.slice a5 n5 c5, .slice none 0 0, p, Y1.set H.length (.cells ⟨0, true, false⟩ (setC p (.slice a5 n5 c5) (.slice none 0 0))), ?_, ext_set hY1e (Nat.le_refl _), rfl, rfl, fun h => by cases h⟩
              rw [R_code hf]
              rcases hq with hq | hq
              · rw [hq] at q5
                simp [m43, hX', hn0, hn0', hposN, i0, l0, l00, hpos0, kProtocol, hl2, hl2', hloop, stx, ldx, ldnx, hX15, hX12, setC, hp, hn1, hn1N, i1, l1, l10, hpos1, hposN1, kCores, q4', q5, hY5, hY1, hY15, hY12, hset2]
              · rw [hq] at q5 hl5
                simp at hl5
                subst hl5
                simp [m43, hX', hn0, hn0', hposN, i0, l0, l00, hpos0, kProtocol, hl2, hl2', hloop, stx, ldx, ldnx, hX15, hX12, setC, hp, hn1, hn1N, i1, l1, l10, hpos1, hposN1, kCores, q4', q5, hY5, hY1, hY15, hY12, hset2]
            cases hq : numsL (r1.w.drop 1) with
            | none => exact fail _ rfl (.inl hq)
            | some cs =>
              simp only []
              by_cases hcs : cs = []
              · rw [if_pos hcs]
                exact fail _ rfl (.inr (hcs ▸ hq))
              · rw [if_neg hcs]
                rw [hq] at q5 hl5 r5 r5'
                simp only [Option.getD_some, Option.isSome_some] at q5 hl5 r5 r5'
                have hn5 : ¬ n5 = 0 := by rw [hl5]; simpa using hcs
                have hn5' : ¬ (n5 : Int) = 0 := by omega
                have hfe : ∀ o, Ext H (Y1.set H.length o) := fun o => ext_set hY1e (Nat.le_refl _)
                have kfin : ∀ o, KeepP P123 Y1 (Y1.set H.length o) := fun o => keep_set hY12 (by unfold P123; simp)
                cases rest2 with
                | nil =>
                  have hn2 : n = 2 := hn
                  subst hn2
                  refine ⟨.slice a5 n5 c5, .slice none 0 0, p, Y1.set H.length (.cells ⟨0, true, false⟩ (setC p (.slice a5 n5 c5) (.slice none 0 0))), ?_, hfe _, rfl, rfl, fun _ => ⟨rfl, Row.keepP r5' (kfin _) (by unfold P123; omega), .inl ⟨rfl, rfl⟩⟩⟩
                  rw [R_code hf]
                  simp [m43, hX', hn0, hn0', hposN, i0, l0, l00, hpos0, kProtocol, hl2, hl2', hloop, stx, ldx, ldnx, hX15, hX12, setC, hp, hn1, hn1N, i1, l1, l10, hpos1, hposN1, kCores, q4', q5, hY5, hY1, hY15, hY12, hset2, hn5, hn5']
                | cons r2 rest3 =>
                  have hn2 : ¬ (n : Int) = 2 := by rw [hn]; simp; omega
                  have hn2N : ¬ n = 2 := by omega
                  have hlt2 : (2 : Int) < (n : Int) := by rw [hn]; simp; omega
                  have hne2 := hne r2 (by simp)
                  obtain ⟨w20, hw20⟩ : ∃ x, r2.w[0]? = some x := ⟨_, List.getElem?_eq_getElem (List.length_pos_iff.2 hne2)⟩
                  have hd20 : r2.w.getD 0 [] = w20 := by rw [List.getD_eq_getElem?_getD, hw20]; rfl
                  have hposN2 : 0 < r2.w.length := List.length_pos_iff.2 hne2
                  have hpos2 : (0 : Int) < (r2.w.length : Int) := by omega
                  have kY : KeepP P123 X1 Y1 := (KeepP.ext xY).trans k2
                  obtain ⟨i2, l2, g2⟩ := rw_all hn (hrX1.keepP kY (by unfold P123; omega)) (hWX1.keepP kY) (k := 2) (r := r2) rfl c
                  obtain ⟨b2, o2, hwa2, l20, _⟩ := row_get g2 (k := 0) (x := .string (B w20)) (by simp [sv, hw20])
                  obtain ⟨a6, n6, c6, q6, r6⟩ := row_drop g2 (k := 1) (by omega)
                  have r6' : Row 1 Y1 (.slice a6 n6 c6) (sv (r2.w.drop 1)) := by simpa [sv, List.map_drop] using r6
                  rw [hwa2] at l2
                  rw [hwa2] at q6
                  have q6' : mread (.sl 1 true false false) [.slice (some ⟨b2, o2, none⟩) r2.w.length r2.wc, .int .i64 1] Y1 = some (.slice a6 n6 c6) := q6
                  simp at i2 l2 l20
                  simp only [List.map_cons, RwL.plain, hd20]
                  by_cases h3 : w20 = kHomes
                  · rw [if_neg (fun h => h h3)]
                    subst h3
                    obtain ⟨a7, n7, c7, Z, q7, xZ, r7⟩ := R_nums P.g P.a P.b P.c (ws := r2.w.drop 1) (fun x hx => (hsz r2 (by simp)).2 x (List.mem_of_mem_drop hx)) (by have := (hsz r2 (by simp)).1; simp; omega) r6'
                    have hZ5 := xZ.get hY15
                    have hZ2 := xZ.get hY12
                    have hZlt : H.length + 1 < Z.length := (List.getElem?_eq_some_iff.1 hZ5).1
                    have hZ1e : Ext H (Z.set (H.length + 1) (.cells ⟨0, true, false⟩ [.int .i64 p, .slice a5 n5 c5, .slice a7 n7 c7, .slice none 0 0])) := ext_set (hY1e.trans xZ) (by omega)
                    have k3 : KeepP P123 Z (Z.set (H.length + 1) (.cells ⟨0, true, false⟩ [.int .i64 p, .slice a5 n5 c5, .slice a7 n7 c7, .slice none 0 0])) := keep_set hZ5 (by unfold P123; simp)
                    have hZ15 : (Z.set (H.length + 1) (.cells ⟨0, true, false⟩ [.int .i64 p, .slice a5 n5 c5, .slice a7 n7 c7, .slice none 0 0]))[H.length + 1]? = some (.cells ⟨0, true, false⟩ [.int .i64 p, .slice a5 n5 c5, .slice a7 n7 c7, .slice none 0 0]) := List.getElem?_set_self hZlt
                    have hZ12 : (Z.set (H.length + 1) (.cells ⟨0, true, false⟩ [.int .i64 p, .slice a5 n5 c5, .slice a7 n7 c7, .slice none 0 0]))[H.length]? = some (.cells ⟨0, true, false⟩ [.int .i64 0, .slice none 0 0, .slice none 0 0, .slice none 0 0]) := by rw [List.getElem?_set_ne (by omega)]; exact hZ2
                    generalize hZ1 : Z.set (H.length + 1) (.cells ⟨0, true, false⟩ [.int .i64 p, .slice a5 n5 c5, .slice a7 n7 c7, .slice none 0 0]) = Z1 at hZ1e k3 hZ15 hZ12
                    have hset3 := hset Z1 (List.getElem?_eq_some_iff.1 hZ12).1
                    have r7' := Row.keepP r7 k3 (by unfold P123; omega)
                    have hl7 := row_len r7
                    rw [i64s_len] at hl7
                    have hfe2 : ∀ o, Ext H (Z1.set H.length o) := fun o => ext_set hZ1e (Nat.le_refl _)
                    have kfin2 : ∀ o, KeepP P123 Z1 (Z1.set H.length o) := fun o => keep_set hZ12 (by unfold P123; simp)
                    have kZ : KeepP P123 Y1 Z1 := (KeepP.ext xZ).trans k3
                    cases hq2 : numsL (r2.w.drop 1) with
                    | none =>
                      rw [hq2] at q7
                      refine ⟨.slice a5 n5 c5, .slice a7 n7 c7, p, Z1.set H.length (.cells ⟨0, true, false⟩ (setC p (.slice a5 n5 c5) (.slice a7 n7 c7))), ?_, hfe2 _, rfl, rfl, fun h => by cases h⟩
                      rw [R_code hf]
                      simp [m43, hX', hn0, hn0', hposN, i0, l0, l00, hpos0, kProtocol, hl2, hl2', hloop, stx, ldx, ldnx, hX15, hX12, setC, hp, hn1, hn1N, i1, l1, l10, hpos1, hposN1, kCores, q4', q5, hY5, hY1, hY15, hY12, hset2, hn5, hn5', hn2, hn2N, hlt2, i2, l2, l20, hpos2, hposN2, kHomes, q6', q7, hZ5, hZ1, hZ15, hZ12, hset3]
                    | some hs =>
                      rw [hq2] at q7 hl7 r7 r7'
                      simp only [Option.getD_some, Option.isSome_some] at q7 hl7 r7 r7'
                      simp only []
                      by_cases hhs : hs = []
                      · rw [if_pos hhs]
                        subst hhs
                        simp at hl7
                        subst hl7
                        refine ⟨.slice a5 n5 c5, .slice a7 0 c7, p, Z1.set H.length (.cells ⟨0, true, false⟩ (setC p (.slice a5 n5 c5) (.slice a7 0 c7))), ?_, hfe2 _, rfl, rfl, fun h => by cases h⟩
                        rw [R_code hf]
                        simp [m43, hX', hn0, hn0', hposN, i0, l0, l00, hpos0, kProtocol, hl2, hl2', hloop, stx, ldx, ldnx, hX15, hX12, setC, hp, hn1, hn1N, i1, l1, l10, hpos1, hposN1, kCores, q4', q5, hY5, hY1, hY15, hY12, hset2, hn5, hn5', hn2, hn2N, hlt2, i2, l2, l20, hpos2, hposN2, kHomes, q6', q7, hZ5, hZ1, hZ15, hZ12, hset3]
                      · rw [if_neg hhs]
                        have hn7 : ¬ n7 = 0 := by rw [hl7]; simpa using hhs
                        have hn7' : ¬ (n7 : Int) = 0 := by omega
                        refine ⟨.slice a5 n5 c5, .slice a7 n7 c7, p, Z1.set H.length (.cells ⟨0, true, false⟩ (setC p (.slice a5 n5 c5) (.slice a7 n7 c7))), ?_, hfe2 _, rfl, rfl, fun _ => ⟨rfl, Row.keepP (Row.keepP r5' kZ (by unfold P123; omega)) (kfin2 _) (by unfold P123; omega), Row.keepP r7' (kfin2 _) (by unfold P123; omega)⟩⟩
                        rw [R_code hf]
                        simp [m43, hX', hn0, hn0', hposN, i0, l0, l00, hpos0, kProtocol, hl2, hl2', hloop, stx, ldx, ldnx, hX15, hX12, setC, hp, hn1, hn1N, i1, l1, l10, hpos1, hposN1, kCores, q4', q5, hY5, hY1, hY15, hY12, hset2, hn5, hn5', hn2, hn2N, hlt2, i2, l2, l20, hpos2, hposN2, kHomes, q6', q7, hZ5, hZ1, hZ15, hZ12, hset3, hn7, hn7']
                  · rw [if_pos h3]
                    have h3' : ¬ w20 = [104, 111, 109, 101, 115] := h3
                    refine ⟨.slice a5 n5 c5, .slice none 0 0, p, Y1.set H.length (.cells ⟨0, true, false⟩ (setC p (.slice a5 n5 c5) (.slice none 0 0))), ?_, hfe _, rfl, rfl, fun _ => ⟨rfl, Row.keepP r5' (kfin _) (by unfold P123; omega), .inl ⟨rfl, rfl⟩⟩⟩
                    rw [R_code hf]
                    simp [m43, hX', hn0, hn0', hposN, i0, l0, l00, hpos0, kProtocol, hl2, hl2', hloop, stx, ldx, ldnx, hX15, hX12, setC, hp, hn1, hn1N, i1, l1, l10, hpos1, hposN1, kCores, q4', q5, hY5, hY1, hY15, hY12, hset2, hn5, hn5', hn2, hn2N, hlt2, i2, l2, l20, hpos2, hposN2, h3']
          · rw [if_pos h2]
            have h2' : ¬ w10 = [99, 111, 114, 101, 115] := h2
            refine ⟨.slice none 0 0, .slice none 0 0, p, X1.set H.length (.cells ⟨0, true, false⟩ (setC p (.slice none 0 0) (.slice none 0 0))), ?_, ext_set hX1e (Nat.le_refl _), rfl, rfl, fun h => by cases h⟩
            rw [R_code hf]
            simp [m43, hX', hn0, hn0', hposN, i0, l0, l00, hpos0, kProtocol, hl2, hl2', hloop, stx, ldx, ldnx, hX15, hX12, hset1, setC, hp, hn1, hn1N, i1, l1, l10, hpos1, hposN1, h2']
    · rw [if_pos h1]
      rw [hd00] at h1
      refine ⟨.slice none 0 0, .slice none 0 0, 0, X, ?_, eX, rfl, rfl, fun h => by cases h⟩
      rw [R_code hf]
      unfold setC at hX2 hX5 hXs
      by_cases h2 : w00 = kProtocol
      · have h3 : ¬ (r0.w.length : Int) = 2 := fun h => h1 ⟨h2, by omega⟩
        have h3' : ¬ r0.w.length = 2 := fun h => h1 ⟨h2, h⟩
        simp [m43, hX', hn0, hn0', hposN, i0, l0, l00, hpos0, h2, kProtocol, h3, h3', stx, ldnx, hX5, hX2, hXs, setC]
      · have h2' : ¬ w00 = [112, 114, 111, 116, 111, 99, 111, 108] := h2
        simp [m43, hX', hn0, hn0', hposN, i0, l0, l00, hpos0, h2', stx, ldnx, hX5, hX2, hXs, setC]
end
end Go.Mod

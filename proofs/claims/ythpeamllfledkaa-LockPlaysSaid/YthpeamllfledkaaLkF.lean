/- Who holds: crowds of tasks. -/
import Derived.Test.YthpeamllfledkaaLkE
set_option linter.unusedVariables false
set_option linter.unusedSimpArgs false
namespace Go.Mod

def nmI (i : Nat) : ByteArray := ByteArray.empty.push (UInt8.ofNat (97 + i))
def crT (n : Int) (i : Nat) : TCore := ⟨nmI i, 100, 100, n - i, 0, [⟨3, 1, 0⟩]⟩
section
variable {mp : FuncId → Option MDef} {H H0 H1 : MH} {F : List Nat}
theorem crowd_loop {b b6 : Nat} {p cs hs : Value} {n : Nat} (hn : n ≤ 9) : ∀ (k i : Nat) (H : MH) (F : List Nat) (v : Value) (tl : List TaskL), i + k = n → tl.length = i →
    (Pt b ⟨0, true, false⟩ [p, cs, hs, v] * OwnA 6 v (tl.flatMap taskC)) H F → tl.map coreT = (List.range i).map (crT n) → (∀ t ∈ tl, RowG 3 H t.pa t.parts partC ∧ SrcA 3 H t.pa t.parts.length ∧ ∀ b o, t.pa = some ⟨b, o, none⟩ → b ∉ F) →
    ∃ (H' : MH) (F' : List Nat) (v' : Value) (tl' : List TaskL), Rc mp (.loop m23_0) [(1, .int .i64 (n : Int)), (6, .pointer (some ⟨b6, 0, none⟩)), (7, .pointer (some ⟨b, 0, none⟩)), (8, .int .i64 (i : Int))] H =
      some (.exit 0, [(1, .int .i64 (n : Int)), (6, .pointer (some ⟨b6, 0, none⟩)), (7, .pointer (some ⟨b, 0, none⟩)), (8, .int .i64 (n : Int)), (16, .bool false)], H') ∧
      (Pt b ⟨0, true, false⟩ [p, cs, hs, v'] * OwnA 6 v' (tl'.flatMap taskC)) H' F' ∧ tl'.map coreT = (List.range n).map (crT n) ∧ (∀ t ∈ tl', RowG 3 H' t.pa t.parts partC ∧ SrcA 3 H' t.pa t.parts.length ∧ ∀ b o, t.pa = some ⟨b, o, none⟩ → b ∉ F') ∧ Upd H F H' F' := by
  intro k
  induction k with
  | zero =>
    intro i H F v tl hi hl hS hc hP
    have : i = n := by omega
    subst this
    refine ⟨H, F, v, tl, ?_, hS, hc, hP, Upd.refl _ _⟩
    rw [Rc_loop]
    simp [m23_0]
  | succ k ih =>
    intro i H F v tl hi hl hS hc hP
    have hil : (i : Int) < (n : Int) := by omega
    have hin : i < n := by omega
    have w1 : IntKind.i64.wrap (97 + (i : Int)) = 97 + (i : Int) := wrap_i64 (by omega) (by omega)
    have w2 : IntKind.i64.wrap ((i : Int) + 1) = (i : Int) + 1 := wrap_i64 (by omega) (by omega)
    have w3 : IntKind.i64.wrap ((n : Int) - (i : Int)) = (n : Int) - (i : Int) := wrap_i64 (by omega) (by omega)
    have w4 : IntKind.u8.wrap (97 + (i : Int)) = 97 + (i : Int) := by
      rcases le12 (show i ≤ 12 by omega) with rfl | rfl | rfl | rfl | rfl | rfl | rfl | rfl | rfl | rfl | rfl | rfl | rfl <;> rfl
    have w5 : ((97 + (i : Int)).toNat) = 97 + i := by omega
    obtain ⟨B, hB, _⟩ := star_r hS
    obtain ⟨va, vn, vc, rfl, _⟩ := (Own.row hB).slice
    have hb := star_at hS
    let t : TaskL := ⟨nmI i, 100, 100, (n : Int) - i, 0, some ⟨H.length + 1, 0, none⟩, 1, [⟨3, 1, 0⟩]⟩
    have x2 : Ext H (H ++ [.cells ⟨1, true, true⟩ [.int .u8 (97 + (i : Int))], .cells ⟨3, true, true⟩ [.int .i64 3, .int .i64 1, .int .i64 0]]) := ⟨_, rfl⟩
    have hg := (Pt.good (t := b) (i := ⟨0, true, false⟩) (cs := [p, cs, hs, .slice va vn vc])).star (OwnA.good (es := 6) (v := .slice va vn vc) (l := tl.flatMap taskC))
    have hfl : (tl.flatMap taskC).length = tl.length * 6 := flat_len fun _ _ => rfl
    have hall : (tl.flatMap taskC).all one = true := by
      rw [List.all_eq_true]
      intro x hx
      obtain ⟨t, _, ht⟩ := List.mem_flatMap.1 hx
      exact List.all_eq_true.1 (taskC_len t).2 x ht
    obtain ⟨v', H1, H', F', e1, e2, p1, u1⟩ := push_fld (es := 6) (bytes := 72) (k := 3) (xs := taskC t) (hg.ext hS x2) rfl (by simp) hall rfl rfl (by omega) (by omega) (by omega)
    have u2 : Upd H F H' F' := (Upd.ext x2).trans u1
    have hst : (Pt b ⟨0, true, false⟩ [p, cs, hs, v'] * OwnA 6 v' ((tl ++ [t]).flatMap taskC)) H' F' := by simpa using p1
    have hgt := hg.lt hS
    have hpar : ∀ u ∈ tl ++ [t], RowG 3 H' u.pa u.parts partC ∧ SrcA 3 H' u.pa u.parts.length ∧ ∀ b o, u.pa = some ⟨b, o, none⟩ → b ∉ F' := fun u hu => by
      have key : ∃ q, RowG 3 (H ++ [.cells ⟨1, true, true⟩ [.int .u8 (97 + (i : Int))], .cells ⟨3, true, true⟩ [.int .i64 3, .int .i64 1, .int .i64 0]]) u.pa u.parts partC ∧ SrcA 3 (H ++ [.cells ⟨1, true, true⟩ [.int .u8 (97 + (i : Int))], .cells ⟨3, true, true⟩ [.int .i64 3, .int .i64 1, .int .i64 0]]) u.pa u.parts.length ∧ (∀ b o, u.pa = some ⟨b, o, none⟩ → b ∉ F) ∧ q = 0 := by
        rcases List.mem_append.1 hu with hu | hu
        · obtain ⟨g1, g2, g3⟩ := hP u hu
          exact ⟨0, g1.ext x2, g2.ext x2, g3, rfl⟩
        · simp at hu; subst hu
          have hB : (H ++ [MObj.cells ⟨1, true, true⟩ [.int .u8 (97 + (i : Int))], .cells ⟨3, true, true⟩ [.int .i64 3, .int .i64 1, .int .i64 0]])[H.length + 1]? = some (.cells ⟨3, true, true⟩ [.int .i64 3, .int .i64 1, .int .i64 0]) := by simp
          refine ⟨0, rowG_new (l := [(⟨3, 1, 0⟩ : PartL)]) hB rfl fun _ _ => ⟨rfl, rfl⟩, .inr ⟨H.length + 1, 0, _, _, rfl, hB, rfl, by simp [t]⟩, fun b o e hm => ?_, rfl⟩
          cases e
          have := hgt _ hm; omega
      obtain ⟨_, g1, g2, g3, _⟩ := key
      have hlt : ∀ b o, u.pa = some ⟨b, o, none⟩ → b < (H ++ [MObj.cells ⟨1, true, true⟩ [.int .u8 (97 + (i : Int))], .cells ⟨3, true, true⟩ [.int .i64 3, .int .i64 1, .int .i64 0]]).length := fun b o e => by
        rcases g2 with ⟨h, _⟩ | ⟨b', o', j, cs, h1, h2, _⟩
        · rw [h] at e; cases e
        · rw [h1] at e; cases e; exact (List.getElem?_eq_some_iff.1 h2).1
      refine ⟨g1.frame fun hn => ?_, ?_, fun b o e hm => ?_⟩
      · have e := g1.ad.resolve_left hn
        exact u1.same _ (hlt _ _ e) (g3 _ _ e)
      · rcases g2 with h | ⟨b', o', j, cs, h1, h2, h3⟩
        · exact .inl h
        · exact .inr ⟨b', o', j, cs, h1, (u1.same b' (hlt b' o' h1) (g3 b' o' h1)).trans h2, h3⟩
      · rcases u1.new b hm with h | h
        · exact g3 b o e h
        · have := hlt b o e; omega
    obtain ⟨H2, F2, v2, tl2, e3, p2, c2, q2, u3⟩ := ih (i + 1) H' F' v' (tl ++ [t]) (by omega) (by simp; omega) hst (by rw [List.range_succ, List.map_append, List.map_append, hc]; rfl) hpar
    refine ⟨H2, F2, v2, tl2, ?_, p2, c2, q2, u2.trans u3⟩
    have sb : mread .strb [.slice (some ⟨H.length, 0, none⟩) 1 1] (H ++ [.cells ⟨1, true, true⟩ [.int .u8 (97 + (i : Int))]]) = some (.string (nmI i)) := by
      rw [strb_at (i := ⟨1, true, true⟩) (c := [.int .u8 (97 + (i : Int))]) (by simp) (by simp)]
      show (some (ByteArray.empty.push (UInt8.ofNat (97 + (i : Int)).toNat))).map Value.string = _
      rw [w5]; rfl
    rw [Rc_loop]
    simp only [taskC, t] at e1
    simp at e1 e2 e3
    simp [m23_0, hin, ld_at hb, w1, w2, w3, w4, sb, e1, e2]
    exact e3
theorem R_crowd (hf : mp 23 = some (.code m23)) {p c : Int} {n : Nat} (hn : n ≤ 9) : ∃ (s : SetL) (H' : MH), R mp 23 [.int .i64 p, .int .i64 (n : Int), .int .i64 c] H = some (.agg s.cells.toArray, H') ∧ Ext H H' ∧ SetAt H' s ∧ SetSrc H' s ∧ s.proto = p ∧ s.cores = [c, 1] ∧ s.homes = [0, 0] ∧ s.tasks.map coreT = (List.range n).map (crT n) := by
  let z4 : List Value := [.int .i64 0, .slice none 0 0, .slice none 0 0, .slice none 0 0]
  let H4 : MH := H ++ [.cells ⟨0, true, false⟩ z4, .cells ⟨1, true, true⟩ [.int .i64 c, .int .i64 1], .cells ⟨1, true, true⟩ [.int .i64 0, .int .i64 0], .cells ⟨0, true, false⟩ [.int .i64 p, .slice (some ⟨H.length + 1, 0, none⟩) 2 2, .slice (some ⟨H.length + 2, 0, none⟩) 2 2, .slice none 0 0]]
  have x4 : Ext H H4 := ⟨_, rfl⟩
  have hl4 : H4.length = H.length + 4 := by simp [H4]
  have q6 : H4[H.length]? = some (.cells ⟨0, true, false⟩ z4) := by simp [H4]
  have qc : H4[H.length + 1]? = some (.cells ⟨1, true, true⟩ [.int .i64 c, .int .i64 1]) := by simp [H4]
  have qh : H4[H.length + 2]? = some (.cells ⟨1, true, true⟩ [.int .i64 0, .int .i64 0]) := by simp [H4]
  have q7 : H4[H.length + 3]? = some (.cells ⟨0, true, false⟩ [.int .i64 p, .slice (some ⟨H.length + 1, 0, none⟩) 2 2, .slice (some ⟨H.length + 2, 0, none⟩) 2 2, .slice none 0 0]) := by simp [H4]
  obtain ⟨H1, F1, v, tl, e1, p1, c1, r1, u1⟩ := crowd_loop (mp := mp) (b := H.length + 3) (b6 := H.length) (p := .int .i64 p) (cs := .slice (some ⟨H.length + 1, 0, none⟩) 2 2) (hs := .slice (some ⟨H.length + 2, 0, none⟩) 2 2) hn n 0 H4 [H.length + 3] (.slice none 0 0) [] (by omega) rfl ⟨[H.length + 3], [], ⟨rfl, q7⟩, .inl ⟨rfl, rfl, rfl⟩, by simp, by simp⟩ rfl (by simp)
  have hb := star_at p1
  obtain ⟨B, hB, hBs⟩ := star_r p1
  obtain ⟨va, vn, vc, rfl, _⟩ := (Own.row hB).slice
  obtain ⟨rg, hvn⟩ := RowG.of (Own.row hB) (by omega) (fun t _ => taskC_len t)
  subst hvn
  have k6 : H1[H.length]? = some (.cells ⟨0, true, false⟩ z4) := (u1.same _ (by omega) (by simp)).trans q6
  have kc : H1[H.length + 1]? = some (.cells ⟨1, true, true⟩ [.int .i64 c, .int .i64 1]) := (u1.same _ (by omega) (by simp)).trans qc
  have kh : H1[H.length + 2]? = some (.cells ⟨1, true, true⟩ [.int .i64 0, .int .i64 0]) := (u1.same _ (by omega) (by simp)).trans qh
  have uH : Upd H [] H4 [H.length + 3] := ⟨x4.len, fun id h1 _ => ext_get x4 h1, fun id hid => .inr (by simp at hid; omega)⟩
  obtain ⟨xe, hge⟩ := (uH.trans u1).toExt
  let s : SetL := ⟨p, [c, 1], some ⟨H.length + 1, 0, none⟩, 2, [0, 0], some ⟨H.length + 2, 0, none⟩, 2, tl, va, vc⟩
  have hlt := (List.getElem?_eq_some_iff.1 k6).1
  have hne : ∀ id, id ≠ H.length → (H1.set H.length (.cells ⟨0, true, false⟩ s.cells))[id]? = H1[id]? := fun id h => List.getElem?_set_ne (Ne.symm h)
  have neR : ∀ {α : Type} {w : Nat} {a : Option Addr} {l : List α} {g : α → List Value}, RowG w H1 a l g → w ≠ 0 → l ≠ [] → adB a ≠ H.length := fun h hw hn e => by
    rename_i l _
    cases l with
    | nil => exact hn rfl
    | cons x l =>
      obtain ⟨i, cs, h1, h2, _⟩ := h.rec_ 0 x rfl
      rw [e, k6] at h1; cases h1; exact hw h2.symm
  have neS : ∀ {w : Nat} {a : Option Addr} {m : Nat}, SrcA w H1 a m → w ≠ 0 → SrcA w (H1.set H.length (.cells ⟨0, true, false⟩ s.cells)) a m := fun h hw => by
    rcases h with h | ⟨b, o, i, cs, h1, h2, h3⟩
    · exact .inl h
    · exact .inr ⟨b, o, i, cs, h1, (hne b (fun e => by subst e; rw [k6] at h2; cases h2; exact hw h3.1.symm)).trans h2, h3⟩
  have rc : RowG 1 H1 (some ⟨H.length + 1, 0, none⟩) [c, 1] intC := rowG_new (l := [c, 1]) kc rfl fun _ _ => ⟨rfl, rfl⟩
  have rh : RowG 1 H1 (some ⟨H.length + 2, 0, none⟩) [(0 : Int), 0] intC := rowG_new (l := [(0 : Int), 0]) kh rfl fun _ _ => ⟨rfl, rfl⟩
  have hlen : tl.length = n := by have := congrArg List.length c1; simpa using this
  have hSt : SrcA 6 H1 va tl.length := by
    rcases hB with ⟨h1, h2, _⟩ | ⟨b, n', c', cs, h1, h2, h3, h4, _, _⟩
    · injection h1 with a b c; exact .inl ⟨a, b⟩
    · cases h1; exact .inr ⟨b, 0, _, cs, rfl, h3, rfl, by have := Nat.mul_le_mul_right 6 h2; omega⟩
  have hvc : tl.length ≤ vc := by
    rcases hB with ⟨h1, h2, _⟩ | ⟨b, n', c', cs, h1, h2, _⟩
    · injection h1 with a b c; omega
    · cases h1; exact h2
  have hnm : ∀ t ∈ tl, t.name.size ≤ 1000000 ∧ t.parts.length ≤ 1000000 := fun t ht => by
    have : coreT t ∈ (List.range n).map (crT n) := by rw [← c1]; exact List.mem_map_of_mem ht
    obtain ⟨i, _, hi⟩ := List.mem_map.1 this
    have h1 : t.name = nmI i := (congrArg TCore.name hi).symm
    have h2 : t.parts = [⟨3, 1, 0⟩] := (congrArg TCore.parts hi).symm
    rw [h1, h2]
    have : (nmI i).size = 1 := rfl
    simp [this]
  refine ⟨s, H1.set H.length (.cells ⟨0, true, false⟩ s.cells), ?_, ext_set xe (Nat.le_refl _), ⟨rc.frame fun hn => hne _ (neR rc (by omega) hn), rh.frame fun hn => hne _ (neR rh (by omega) hn), rg.frame fun hn => hne _ (neR rg (by omega) hn), fun t ht => (r1 t ht).1.frame fun hn => hne _ (neR (r1 t ht).1 (by omega) hn), by simp [s], by simp [s], by show tl.length ≤ _; omega, hvc, hnm⟩,
    ⟨neS (.inr ⟨_, _, _, _, rfl, kc, rfl, by simp [s]⟩) (by omega), neS (.inr ⟨_, _, _, _, rfl, kh, rfl, by simp [s]⟩) (by omega), neS hSt (by omega), fun t ht => neS (r1 t ht).2.1 (by omega)⟩, rfl, rfl, rfl, c1⟩
  have l1 := ldn_at hb 0 4 (by simp) rfl
  have l2 := ldn_at (H := H1.set H.length (.cells ⟨0, true, false⟩ s.cells)) (List.getElem?_set_self hlt) 0 4 (by simp [SetL.cells]) rfl
  have st6 : meff (.st 4) [.pointer (some ⟨H.length, 0, none⟩), .agg #[.int .i64 p, .slice (some ⟨H.length + 1, 0, none⟩) 2 2, .slice (some ⟨H.length + 2, 0, none⟩) 2 2, .slice va tl.length vc]] H1 = some (.tuple #[], H1.set H.length (.cells ⟨0, true, false⟩ s.cells)) := by
    rw [stx]; rw [k6]; rfl
  simp only [H4, z4, s, SetL.cells] at e1 l1 l2 st6 ⊢
  simp at e1 l1 l2
  rw [R_code hf]
  simp [m23, stx, e1, l1, st6, l2]
end
theorem crowd_cores {n : Nat} {tl : List TaskL} (h : tl.map coreT = (List.range n).map (crT n)) {i : Nat} {t : TaskL} (ht : tl[i]? = some t) : coreT t = crT n i ∧ i < n := by
  have h1 := congrArg (fun l => l[i]?) h
  simp only [List.getElem?_map, ht, Option.map_some] at h1
  have hi : i < n := by
    have := (List.getElem?_eq_some_iff.1 ht).1
    have h2 := congrArg List.length h
    simp at h2; omega
  rw [List.getElem?_range hi] at h1
  exact ⟨Option.some.inj h1, hi⟩
end Go.Mod

/- The document's Parse: the lines, one behind the other. -/
import Derived.Test.YthpeamllfledkaaGreatDoorGs5
import Derived.Test.YthpeamllfledkaaGreatDoorGs3
import Derived.Test.YthpeamllfledkaaGreatDoorGrG
set_option linter.unusedVariables false
set_option linter.unusedSimpArgs false
namespace Go.Mod
open Go.Lib

def DA (b : Nat) (p : Int) (x1 x2 v : Value) (out : List TaskL) (av : Value) (ats : List Nat) : HP :=
  (Pt b ⟨0, true, false⟩ [.int .i64 p, x1, x2, v] * OwnA 6 v (out.flatMap taskC)) * OwnA 1 av (i64s (ats.map fun n : Nat => (n : Int)))
theorem DA.good {b : Nat} {p : Int} {x1 x2 v : Value} {out : List TaskL} {av : Value} {ats : List Nat} : Good (DA b p x1 x2 v out av ats) := (Pt.good.star OwnA.good).star OwnA.good
section
variable {mp : FuncId → Option MDef} {H : MH}
/-- What is made anew lies outside of whatever was owned. -/
theorem R_ints2 (hf : mp 22 = some (.code m22)) (h46 : mp 46 = some (.code m46)) {ws : List Bs} (hws : ∀ w ∈ ws, w.length ≤ 100000) (hlen : ws.length ≤ 100001) {sa : Option Addr} {sn sc : Nat}
    (hr : Row 1 H (.slice sa sn sc) (sv ws)) : ∃ a n c H', R mp 22 [.slice sa sn sc] H = some (.tuple #[.slice a n c, .bool (numsL ws).isSome], H') ∧ Ext H H' ∧ Row 1 H' (.slice a n c) (i64s ((numsL ws).getD [])) ∧
      ∀ G : List Nat, (∀ id ∈ G, id < H.length) → Stay 1 (.slice a n c) (i64s ((numsL ws).getD [])) H' G := by
  rcases ints_loop h46 hws hlen ws.length 0 H [] [] none 0 0 (by omega) (by simp) ⟨hr, by simp⟩ (.inl ⟨rfl, rfl, rfl⟩) with ⟨ns, h1, H', G', a', n', c', h2, h3, h4⟩ | ⟨h1, H', G', h2, h4⟩
  · rw [List.drop_zero] at h1
    rw [h1]
    simp at h2
    have hrow : Row 1 H' (.slice a' n' c') (i64s ((some ns).getD [])) := by simpa using Own.row h3
    refine ⟨a', n', c', H', ?_, h4.toExt.1, hrow, fun G hG => ⟨hrow, fun b o n c e hb => ?_⟩⟩
    · rw [R_code hf]
      simp [m22, h2]
    · rcases h3 with ⟨h8, _⟩ | ⟨b', n2, c2, cs', h8, _, _, _, _, h9⟩
      · rw [e] at h8; cases h8
      · rw [e] at h8; cases h8
        have hbG : b ∈ G' := by rw [h9]; simp
        rcases h4.new b hbG with h | h
        · simp at h
        · have := hG b hb; omega
  · rw [List.drop_zero] at h1
    rw [h1]
    simp at h2
    refine ⟨none, 0, 0, H', ?_, h4.toExt.1, .inl ⟨rfl, rfl⟩, fun G hG => ⟨.inl ⟨rfl, rfl⟩, fun b o n c e _ => by cases e⟩⟩
    rw [R_code hf]
    simp [m22, h2]
theorem da_push {b : Nat} {p : Int} {x1 x2 v : Value} {out : List TaskL} {av : Value} {ats : List Nat} {F : List Nat} (h : DA b p x1 x2 v out av ats H F) (t : TaskL) (i : Nat) (hl : out.length ≤ 100001) (hal : ats.length ≤ 100001) :
    ∃ v' a n c H1 H2 H3 F', meff (.app 6 72) [v, .slice (some ⟨H.length, 0, none⟩) 1 1] (H ++ [.cells ⟨6, true, true⟩ (taskC t)]) = some (v', H1) ∧
      meff (.app 1 8) [av, .slice (some ⟨H1.length, 0, none⟩) 1 1] (H1 ++ [.cells ⟨1, true, true⟩ [.int .i64 (i : Int)]]) = some (.slice a n c, H2) ∧ meff (.st 1) [.pointer (some ⟨b, 3, none⟩), v'] H2 = some (.tuple #[], H3) ∧
      DA b p x1 x2 v' (out ++ [t]) (.slice a n c) (ats ++ [i]) H3 F' ∧ Upd H F H3 F' := by
  have h1 := star_comm (star_rcomm h)
  obtain ⟨⟨a5, n5, c5⟩, H1, F1, p1, u1, f1⟩ := star_upd (P' := fun (q : Option Addr × Nat × Nat) => OwnA 6 (.slice q.1 q.2.1 q.2.2) ((out ++ [t]).flatMap taskC))
    (C := fun q H' => meff (.app 6 72) [v, .slice (some ⟨H.length, 0, none⟩) 1 1] (H ++ [.cells ⟨6, true, true⟩ (taskC t)]) = some (.slice q.1 q.2.1 q.2.2, H')) (Pt.good.star OwnA.good) (fun _ => OwnA.good) h1 (fun A hA _ => by
      obtain ⟨a5, n5, c5, H5, G5, g1, g2, g3⟩ := own_push1 (bytes := 72) hA (tasks_one out) (xs := taskC t) rfl rfl (by omega) (by rw [tasks_len]; omega) (by omega)
      exact ⟨(a5, n5, c5), H5, G5, by rw [List.flatMap_append]; simpa using g2, g3, g1⟩)
  have h2 := star_comm (star_assoc' p1)
  obtain ⟨⟨a6, n6, c6⟩, H2, F2, p2, u2, f2⟩ := star_upd (P' := fun (q : Option Addr × Nat × Nat) => OwnA 1 (.slice q.1 q.2.1 q.2.2) (i64s ((ats ++ [i]).map fun n : Nat => (n : Int))))
    (C := fun q H' => meff (.app 1 8) [av, .slice (some ⟨H1.length, 0, none⟩) 1 1] (H1 ++ [.cells ⟨1, true, true⟩ [.int .i64 (i : Int)]]) = some (.slice q.1 q.2.1 q.2.2, H')) (OwnA.good.star Pt.good) (fun _ => OwnA.good) h2 (fun A hA _ => by
      obtain ⟨a5, n5, c5, H5, G5, g1, g2, g3⟩ := own_push1 (bytes := 8) hA (i64s_one _) (xs := [.int .i64 (i : Int)]) rfl rfl (by omega) (by rw [i64s_len, List.length_map]; omega) (by omega)
      exact ⟨(a5, n5, c5), H5, G5, by rw [List.map_append]; rw [i64s_snoc] at g2; simpa using g2, g3, g1⟩)
  have h3 := star_comm (star_assoc' p2)
  obtain ⟨H3, e3, p3, u3⟩ := fld_put (OwnA.good.star OwnA.good) h3 rfl (n := 3) (by simp) (v := .slice a5 n5 c5) rfl
  exact ⟨.slice a5 n5 c5, a6, n6, c6, H1, H2, H3, F2, f1, f2, e3, star_rcomm (star_assoc' p3), u1.trans (u2.trans u3)⟩
theorem da_es {b : Nat} {p : Int} {x1 x2 v : Value} {out : List TaskL} {av : Value} {ats : List Nat} {G : List Nat} (h : DA b p x1 x2 v out av ats H G) : ∀ id ∈ G, ∀ i cs, H[id]? = some (.cells i cs) → ¬ i.es = 3 := by
  obtain ⟨A, C, ⟨A1, A2, hA1, hA2, _, hA⟩, hC, _, hG⟩ := h
  intro id hid i cs hi hp
  rcases (hG id).1 hid with h | h
  · rcases (hA id).1 h with h | h
    · rw [hA1.1] at h; simp at h; subst h
      rw [hA1.2] at hi; cases hi
      simp at hp
    · have := own_es hA2 id h i cs hi
      omega
  · have := own_es hC id h i cs hi
    omega
theorem PartsAt.keep3 {H1 : MH} {l : List TaskL} (h : PartsAt H l) (k : KeepP (fun e => e = 3) H H1) : PartsAt H1 l := fun t ht => ⟨(h t ht).1.keepP k rfl, (h t ht).2⟩
theorem row_isSlice {es : Nat} {v : Value} {l : List Value} (h : Row es H v l) : isUnk v = false ∧ one v = true := by
  rcases h with ⟨rfl, _⟩ | ⟨b, o, n, c, i, cs, rfl, _⟩ <;> exact ⟨rfl, rfl⟩
theorem protoD_nn (w : List Bs) : 0 ≤ protoD w := by
  unfold protoD
  split
  · unfold protoN
    split
    · omega
    · split
      · omega
      · split <;> omega
  · omega

/-- What the loop over the lines comes to. -/
def DLoop (mp : FuncId → Option MDef) (b2 b6 : Nat) (lv : Value) (sn : Nat) (H : MH) (G : List Nat) (s : StD) (av : Value) (i : Nat) : StD ⊕ (Int × Int) → Prop
  | .inl s' => ∃ (H' : MH) (G' : List Nat) (x1 x2 v av' : Value) (out : List TaskL), Rc mp (.loop m8_0) [(2, .pointer (some ⟨b2, 0, none⟩)), (5, lv), (6, .pointer (some ⟨b6, 0, none⟩)), (7, .int .i64 (s.st : Int)), (8, .int .i64 (s.ci : Int)), (9, av), (10, .int .i64 (i : Int))] H =
      some (.exit 0, [(2, .pointer (some ⟨b2, 0, none⟩)), (5, lv), (6, .pointer (some ⟨b6, 0, none⟩)), (7, .int .i64 (s'.st : Int)), (8, .int .i64 (s'.ci : Int)), (9, av'), (10, .int .i64 (sn : Int)), (26, .bool false)], H') ∧
      Stay 1 x1 (i64s s'.cores) H' G' ∧ Stay 1 x2 (i64s s'.homes) H' G' ∧ DA b6 s'.p x1 x2 v out av' s'.at_ H' G' ∧ out.map TaskL.plain = s'.tasks ∧ PartsAt H' out ∧ Upd H G H' G' ∧ s'.at_.length = out.length ∧ out.length ≤ sn ∧ s'.cores.length ≤ 100001 ∧ s'.homes.length ≤ 100001
  | .inr e => ∃ (H' : MH) (G' : List Nat), Rc mp (.loop m8_0) [(2, .pointer (some ⟨b2, 0, none⟩)), (5, lv), (6, .pointer (some ⟨b6, 0, none⟩)), (7, .int .i64 (s.st : Int)), (8, .int .i64 (s.ci : Int)), (9, av), (10, .int .i64 (i : Int))] H =
      some (.ret, [(2, .pointer (some ⟨b2, 0, none⟩)), (3, .int .i64 e.1), (4, .int .i64 e.2)], H') ∧ Upd H G H' G'
/-- One round that goes on. -/
theorem DLoop.step {b2 b6 sn : Nat} {lv av av1 : Value} {H H1 : MH} {G G1 : List Nat} {s s1 : StD} {i : Nat} {r : StD ⊕ (Int × Int)}
    (h : Rc mp (.loop m8_0) [(2, .pointer (some ⟨b2, 0, none⟩)), (5, lv), (6, .pointer (some ⟨b6, 0, none⟩)), (7, .int .i64 (s.st : Int)), (8, .int .i64 (s.ci : Int)), (9, av), (10, .int .i64 (i : Int))] H =
      Rc mp (.loop m8_0) [(2, .pointer (some ⟨b2, 0, none⟩)), (5, lv), (6, .pointer (some ⟨b6, 0, none⟩)), (7, .int .i64 (s1.st : Int)), (8, .int .i64 (s1.ci : Int)), (9, av1), (10, .int .i64 ((i + 1 : Nat) : Int))] H1)
    (u : Upd H G H1 G1) (g : DLoop mp b2 b6 lv sn H1 G1 s1 av1 (i + 1) r) : DLoop mp b2 b6 lv sn H G s av i r := by
  cases r with
  | inl s' =>
    obtain ⟨H', G', x1, x2, v, av', out, h1, h2, h3, h4, h5, h6, h7, h8⟩ := g
    exact ⟨H', G', x1, x2, v, av', out, h.trans h1, h2, h3, h4, h5, h6, u.trans h7, h8⟩
  | inr e =>
    obtain ⟨H', G', h1, h7⟩ := g
    exact ⟨H', G', h.trans h1, u.trans h7⟩
end
end Go.Mod
/- The document's Parse: a line. -/
set_option linter.unusedVariables false
set_option linter.unusedSimpArgs false
namespace Go.Mod
open Go.Lib

section
variable {mp : FuncId → Option MDef} {H : MH}
theorem goD_cons {i : Nat} {w : List Bs} {l : List (Nat × List Bs)} {s : StD} : goD ((i, w) :: l) s = match stepD s i w with
    | .inl s' => goD l s'
    | .inr e => .inr ((i : Int), e) := rfl
set_option maxHeartbeats 4000000 in
theorem dparse_loop (D : DxP mp) (h21 : mp 21 = some (.code m21)) (h37 : mp 37 = some (.code m37)) {ls : List Bs} (hls : ∀ w ∈ ls, w.length ≤ 2000) (hlen : ls.length ≤ 100001) {sa : Option Addr} {sn sc : Nat} {b2 b6 : Nat} :
    ∀ (k i : Nat) (H : MH) (G : List Nat) (s : StD) (out : List TaskL) (x1 x2 v av : Value), i + k = ls.length → out.length ≤ i → s.at_.length = out.length → s.st ≤ 3 → s.cores.length ≤ 100001 → s.homes.length ≤ 100001 →
      Stay 1 (.slice sa sn sc) (sv ls) H G → Stay 1 x1 (i64s s.cores) H G → Stay 1 x2 (i64s s.homes) H G → DA b6 s.p x1 x2 v out av s.at_ H G → out.map TaskL.plain = s.tasks → PartsAt H out → H[b2]? = some zSet → b2 ∉ G →
      DLoop mp b2 b6 (.slice sa sn sc) sn H G s av i (goD (rowsL i (ls.drop i)) s) := by
  intro k
  induction k with
  | zero =>
    intro i H G s out x1 x2 v av hi ho hat hst hcl hhl hS h1 h2 hA hts hP hz hb
    have hn := hS.1.svn
    have : i = ls.length := by omega
    subst this
    rw [List.drop_length]
    refine ⟨H, G, x1, x2, v, av, out, ?_, h1, h2, hA, hts, hP, Upd.refl _ _, hat, by omega, hcl, hhl⟩
    rw [Rc_loop]
    simp [m8_0, hn]
  | succ k ih =>
    intro i H G s out x1 x2 v av hi ho hat hst hcl hhl hS h1 h2 hA hts hP hz hb
    have hn := hS.1.svn
    have hil : i < ls.length := by omega
    have hil' : i < sn := by omega
    have hdrop : ls.drop i = ls[i] :: ls.drop (i + 1) := List.drop_eq_getElem_cons hil
    obtain ⟨b, o, j, cs, rfl, hB, hatt⟩ := hS.1.sv (List.getElem?_eq_getElem hil)
    have hld := ld_at hB (o + i)
    rw [hatt] at hld
    have hxl : ls[i].length ≤ 2000 := hls _ (List.getElem_mem hil)
    have w : IntKind.i64.wrap ((i : Int) + 1) = (i : Int) + 1 := wrap_i64 (by omega) (by omega)
    rw [hdrop]
    generalize ls[i] = x at hatt hld hxl
    obtain ⟨a1, n1, c1, H1, q1, r1, e1⟩ := R_wordsR (H := H) h21 h37 (l := x) (by omega)
    have hn1 := r1.svn
    unfold rowsL
    have hwb := words_bound x
    generalize wordsOf x = ws at r1 hn1 hwb ⊢
    have u1 := Upd.ext (F := G) e1
    by_cases hws : ws = []
    · rw [if_pos hws]
      subst hws
      have hn1' : n1 = 0 := by simpa using hn1
      refine DLoop.step ?_ u1 (ih (i + 1) H1 G s out x1 x2 v av (by omega) (by omega) hat hst hcl hhl (hS.upd u1) (h1.upd u1) (h2.upd u1) (DA.good.ext hA e1) hts (hP.keep3 (KeepP.ext e1)) (e1.get hz) hb)
      conv => lhs; rw [Rc_loop]
      simp [m8_0, hil', hld, w, q1, hn1']
    rw [if_neg hws, goD_cons]
    have hpos : 0 < ws.length := List.length_pos_iff.2 hws
    have hn0 : ¬ n1 = 0 := by omega
    have hn0' : ¬ (n1 : Int) = 0 := by omega
    have hposI : (0 : Int) < (n1 : Int) := by omega
    have hposN : 0 < n1 := by omega
    have hGlt := DA.good.lt hA
    -- its numbers
    obtain ⟨a2, n2, c2, s2, r2⟩ := row_drop r1 (k := 1) (by omega)
    have s2' : mread (.sl 1 true false false) [.slice a1 n1 c1, .int .i64 1] H1 = some (.slice a2 n2 c2) := s2
    have r2' : Row 1 H1 (.slice a2 n2 c2) (sv (ws.drop 1)) := by simpa [sv, List.map_drop] using r2
    have hwl : ∀ y ∈ ws, y.length ≤ 100000 := fun y hy => by have := hwb.2 y hy; omega
    obtain ⟨a3, n3, c3, H2, q3, e2, r3, st3⟩ := R_ints2 D.n22 D.n46 (ws := ws.drop 1) (fun y hy => hwl y (List.mem_of_mem_drop hy)) (by simp; omega) r2'
    have hn3 := row_len r3
    rw [i64s_len] at hn3
    have hst3 := st3 G fun id hid => Nat.lt_of_lt_of_le (hGlt id hid) e1.len
    have hnum : (numsD ws).length ≤ 100001 := by
      unfold numsD
      cases hq : numsL (ws.drop 1) with
      | none => simp
      | some m => have := numsL_len hq; simp at this ⊢; omega
    have hok : numsD ws ≠ [] → (numsL (ws.drop 1)).isSome = true := fun h => by
      unfold numsD at h
      cases hq : numsL (ws.drop 1) with
      | none => rw [hq] at h; exact absurd rfl h
      | some m => rfl
    have hnd : (numsL (ws.drop 1)).getD [] = numsD ws := rfl
    rw [hnd] at r3 hn3 hst3
    generalize (numsL (ws.drop 1)).isSome = okb at q3 hok
    -- the first word
    have r1' := row_ext' r1 e2
    obtain ⟨w0, hw0⟩ : ∃ y, ws[0]? = some y := ⟨_, List.getElem?_eq_getElem hpos⟩
    have hd0 : ws.getD 0 [] = w0 := by rw [List.getD_eq_getElem?_getD, hw0]; rfl
    obtain ⟨b0, o0, hwa, l0, _⟩ := row_get r1' (k := 0) (x := .string (B w0)) (by simp [sv, hw0])
    rw [Nat.add_zero] at l0
    simp at l0
    have qp := R_protoR (H := H2) D hws r1'
    subst hwa
    have E2 : Ext H H2 := e1.trans e2
    have u2 := Upd.ext (F := G) E2
    have hS2 := hS.upd u2
    have h12 := h1.upd u2
    have h22 := h2.upd u2
    have hA2 := DA.good.ext hA E2
    have hP2 := hP.keep3 (KeepP.ext E2)
    have hz2 := E2.get hz
    have hzs2 := set_id hz2
    unfold zSet at hzs2
    have hz2' := hz2
    unfold zSet at hz2'
    obtain ⟨k1, o1⟩ := row_isSlice h1.1
    obtain ⟨k2, o2⟩ := row_isSlice h2.1
    obtain ⟨st, p, cores, ci, homes, tasks, at_⟩ := s
    simp only [] at hat hst hcl hhl h1 h2 hA hts h12 h22 hA2
    have hpd := protoD_nn ws
    have err : ∀ (H3 : MH) (e : Int), Upd H G H3 G → Rc mp (.loop m8_0) [(2, .pointer (some ⟨b2, 0, none⟩)), (5, .slice (some ⟨b, o, none⟩) sn sc), (6, .pointer (some ⟨b6, 0, none⟩)), (7, .int .i64 (st : Int)), (8, .int .i64 (ci : Int)), (9, av), (10, .int .i64 (i : Int))] H =
        some (.ret, [(2, .pointer (some ⟨b2, 0, none⟩)), (3, .int .i64 (i : Int)), (4, .int .i64 e)], H3) → DLoop mp b2 b6 (.slice (some ⟨b, o, none⟩) sn sc) sn H G ⟨st, p, cores, ci, homes, tasks, at_⟩ av i (.inr ((i : Int), e)) := fun H3 e u h => ⟨H3, G, h, u⟩
    have hbox : H2[b6]? = some (.cells ⟨0, true, false⟩ [.int .i64 p, x1, x2, v]) := star_at2 hA2
    have hs0 : st = 0 ∨ st = 1 ∨ st = 2 ∨ st = 3 := by omega
    unfold stepD
    simp only []
    rw [hd0]
    -- a line that is none
    have bad : ¬ (st = 0 ∧ protoD ws ≠ 0) → ¬ (st = 1 ∧ w0 = kCores ∧ numsD ws ≠ []) → ¬ (st = 2 ∧ w0 = kHomes ∧ numsD ws ≠ []) → ¬ (2 ≤ st ∧ w0 = kTask) →
        DLoop mp b2 b6 (.slice (some ⟨b, o, none⟩) sn sc) sn H G ⟨st, p, cores, ci, homes, tasks, at_⟩ av i (.inr ((i : Int), 10)) := by
      intro c0 c1' c2' c3'
      refine err H2 10 u2 ?_
      rw [Rc_loop]
      rcases hs0 with rfl | rfl | rfl | rfl
      · have hp0 : protoD ws = 0 := by
          by_cases h : protoD ws = 0
          · exact h
          · exact absurd ⟨rfl, h⟩ c0
        rw [hp0] at qp
        simp [m8_0, hil', hld, w, q1, hn0, hn0', s2', q3, qp, stx, hz2', hzs2]
      · by_cases hc : w0 = kCores
        · have hnil : numsD ws = [] := by
            by_cases h : numsD ws = []
            · exact h
            · exact absurd ⟨rfl, hc, h⟩ c1'
          have hn30 : n3 = 0 := by rw [hn3, hnil]; rfl
          subst hc
          cases okb <;> simp [m8_0, hil', hld, w, q1, hn0, hn0', s2', q3, l0, hposN, hposI, kCores, hn30, stx, hz2', hzs2]
        · have hc' : ¬ w0 = [99, 111, 114, 101, 115] := hc
          simp [m8_0, hil', hld, w, q1, hn0, hn0', s2', q3, l0, hposN, hposI, hc', stx, hz2', hzs2]
      · have ht' : ¬ w0 = [116, 97, 115, 107] := fun h => c3' ⟨by omega, h⟩
        by_cases hc : w0 = kHomes
        · have hnil : numsD ws = [] := by
            by_cases h : numsD ws = []
            · exact h
            · exact absurd ⟨rfl, hc, h⟩ c2'
          have hn30 : n3 = 0 := by rw [hn3, hnil]; rfl
          subst hc
          cases okb <;> simp [m8_0, hil', hld, w, q1, hn0, hn0', s2', q3, l0, hposN, hposI, kHomes, hn30, stx, hz2', hzs2]
        · have hc' : ¬ w0 = [104, 111, 109, 101, 115] := hc
          simp [m8_0, hil', hld, w, q1, hn0, hn0', s2', q3, l0, hposN, hposI, hc', ht', stx, hz2', hzs2]
      · have ht' : ¬ w0 = [116, 97, 115, 107] := fun h => c3' ⟨by omega, h⟩
        simp [m8_0, hil', hld, w, q1, hn0, hn0', s2', q3, l0, hposN, hposI, ht', stx, hz2', hzs2]
    by_cases c0 : st = 0 ∧ protoD ws ≠ 0
    · rw [if_pos c0]
      obtain ⟨rfl, hp0⟩ := c0
      have hgt : 0 < protoD ws := by omega
      obtain ⟨H3, g1, g2, g3⟩ := fld_put2 OwnA.good OwnA.good hA2 rfl (n := 0) (by simp) (v := .int .i64 (protoD ws)) rfl
      have hb3 := g3.get hz2 hb
      refine DLoop.step ?_ (u2.trans g3) (ih (i + 1) H3 G ⟨1, protoD ws, cores, ci, homes, tasks, at_⟩ out x1 x2 v av (by omega) (by omega) hat (by simp) hcl hhl (hS2.upd g3) (h12.upd g3) (h22.upd g3) g2 hts (hP2.keep3 (KeepP.upd g3 (da_es hA2))) hb3 hb)
      conv => lhs; rw [Rc_loop]
      simp [m8_0, hil', hld, w, q1, hn0, hn0', s2', q3, qp, hgt, g1]
    rw [if_neg c0]
    by_cases c1' : st = 1 ∧ w0 = kCores ∧ numsD ws ≠ []
    · rw [if_pos c1']
      obtain ⟨rfl, rfl, hne⟩ := c1'
      have hokt := hok hne
      subst hokt
      have hn3p : 0 < n3 := by rw [hn3]; exact List.length_pos_iff.2 hne
      have hn3I : (0 : Int) < (n3 : Int) := by omega
      obtain ⟨H3, g1, g2, g3⟩ := fld_put2 OwnA.good OwnA.good hA2 rfl (n := 1) (by simp) (v := .slice a3 n3 c3) rfl
      have hb3 := g3.get hz2 hb
      refine DLoop.step ?_ (u2.trans g3) (ih (i + 1) H3 G ⟨2, p, numsD ws, i, homes, tasks, at_⟩ out (.slice a3 n3 c3) x2 v av (by omega) (by omega) hat (by simp) hnum hhl (hS2.upd g3) (hst3.upd g3) (h22.upd g3) g2 hts (hP2.keep3 (KeepP.upd g3 (da_es hA2))) hb3 hb)
      conv => lhs; rw [Rc_loop]
      simp [m8_0, hil', hld, w, q1, hn0, hn0', s2', q3, l0, hposN, hposI, kCores, hn3p, hn3I, g1]
    rw [if_neg c1']
    by_cases c2' : st = 2 ∧ w0 = kHomes ∧ numsD ws ≠ []
    · rw [if_pos c2']
      obtain ⟨rfl, rfl, hne⟩ := c2'
      have hokt := hok hne
      subst hokt
      have hn3p : 0 < n3 := by rw [hn3]; exact List.length_pos_iff.2 hne
      have hn3I : (0 : Int) < (n3 : Int) := by omega
      obtain ⟨H3, g1, g2, g3⟩ := fld_put2 OwnA.good OwnA.good hA2 rfl (n := 2) (by simp) (v := .slice a3 n3 c3) rfl
      have hb3 := g3.get hz2 hb
      refine DLoop.step ?_ (u2.trans g3) (ih (i + 1) H3 G ⟨3, p, cores, ci, numsD ws, tasks, at_⟩ out x1 (.slice a3 n3 c3) v av (by omega) (by omega) hat (by simp) hcl hnum (hS2.upd g3) (h12.upd g3) (hst3.upd g3) g2 hts (hP2.keep3 (KeepP.upd g3 (da_es hA2))) hb3 hb)
      conv => lhs; rw [Rc_loop]
      simp [m8_0, hil', hld, w, q1, hn0, hn0', s2', q3, l0, hposN, hposI, kHomes, hn3p, hn3I, g1]
    rw [if_neg c2']
    by_cases c3' : 2 ≤ st ∧ w0 = kTask
    · rw [if_pos c3']
      obtain ⟨hst2, ht⟩ := c3'
      subst ht
      have hnh : ¬ kTask = kCores := by decide
      have hnh2 : ¬ kTask = kHomes := by decide
      have hs1 : ¬ st = 0 := by omega
      have hs1' : ¬ st = 1 := by omega
      have hs1i : ¬ (st : Int) = 0 := by omega
      have hs1i' : ¬ (st : Int) = 1 := by omega
      have hs2i : (2 : Int) ≤ (st : Int) := by omega
      obtain ⟨H3, e3, hT⟩ := R_taskR (H := H2) D (ws := ws) hwl hws (by omega) r1'
      have u3 := Upd.ext (F := G) e3
      rcases hT with ⟨e, t1, te, t2⟩ | ⟨tk, a, c, t1, t1b, t2, t3, t4⟩
      · rw [t1]
        simp only []
        have e4 : Ext H3 (H3 ++ [.cells ⟨0, true, false⟩ [.string ⟨#[]⟩, .int .i64 0, .int .i64 0, .int .i64 0, .int .i64 0, .slice none 0 0]]) := ⟨_, rfl⟩
        have hz4 := e4.get (e3.get hz2)
        have hzs4 := set_id hz4
        unfold zSet at hz4 hzs4
        refine err (H3 ++ [.cells ⟨0, true, false⟩ [.string ⟨#[]⟩, .int .i64 0, .int .i64 0, .int .i64 0, .int .i64 0, .slice none 0 0]]) e (u2.trans (u3.trans (Upd.ext e4))) ?_
        rw [Rc_loop]
        by_cases h2 : st = 2
        · subst h2
          simp [m8_0, hil', hld, w, q1, hn0, hn0', s2', q3, l0, hposN, hposI, kTask, t2, te, stx, hz4, hzs4]
        · have h2i : ¬ (st : Int) = 2 := by omega
          simp [m8_0, hil', hld, w, q1, hn0, hn0', s2', q3, l0, hposN, hposI, kTask, hs1i, hs1i', hs2i, hs1, hs1', hst2, h2, h2i, t2, te, stx, hz4, hzs4]
      · rw [t1]
        simp only []
        have hnm : (tk.at a c).name.size ≤ 100000 := by
          rw [(taskL_plain t1b a c).2]
          by_cases hl1 : 1 < ws.length
          · rw [List.getD_eq_getElem?_getD, List.getElem?_eq_getElem hl1]
            exact hwl _ (List.getElem_mem _)
          · rw [List.getD_eq_getElem?_getD, List.getElem?_eq_none (by omega)]; simp
        have hpl := (taskL_plain t1b a c).1
        have e4 : Ext H3 (H3 ++ [.cells ⟨0, true, false⟩ (taskC (tk.at a c))]) := ⟨_, rfl⟩
        have E4 := e3.trans e4
        have u4 := Upd.ext (F := G) E4
        have hA4 := DA.good.ext hA2 E4
        have hbox4 : (H3 ++ [MObj.cells ⟨0, true, false⟩ (taskC (tk.at a c))])[b6]? = some (.cells ⟨0, true, false⟩ [.int .i64 p, x1, x2, v]) := star_at2 hA4
        have kv : isUnk v = false := by
          obtain ⟨A, C, ⟨A1, A2, _, hv, _⟩, _⟩ := hA4
          exact (row_isSlice (Own.row hv)).1
        have hld3 := ld_at hbox4 3
        obtain ⟨v', a6, n6, c6, H5, H6, H7, G7, f1, f2, f3, p7, u7⟩ := da_push hA4 (tk.at a c) i (by omega) (by omega)
        have es4 := da_es hA4
        have kp : KeepP (fun e => e = 3) (H3 ++ [.cells ⟨0, true, false⟩ (taskC (tk.at a c))]) H7 := KeepP.upd u7 es4
        have hz7 := u7.get (E4.get hz2) hb
        have hb7 : b2 ∉ G7 := fun h => by
          rcases u7.new _ h with h | h
          · exact hb h
          · have := (List.getElem?_eq_some_iff.1 (E4.get hz2)).1; omega
        have hP7 : PartsAt H7 (out ++ [tk.at a c]) := fun t ht => by
          rcases List.mem_append.1 ht with h | h
          · exact (((hP2.keep3 (KeepP.ext E4)).keep3 kp) t h)
          · simp at h; subst h
            exact ⟨(t3.ext e4).keepP kp rfl, t4, hnm⟩
        refine DLoop.step ?_ (u2.trans (u4.trans u7)) (ih (i + 1) H7 G7 ⟨3, p, cores, ci, homes, tasks ++ [tk], at_ ++ [i]⟩ (out ++ [tk.at a c]) x1 x2 v' (.slice a6 n6 c6) (by omega) (by simp; omega) (by simp [hat]) (by simp) hcl hhl ((hS2.upd u4).upd u7) ((h12.upd u4).upd u7) ((h22.upd u4).upd u7) p7 (by rw [List.map_append, hts]; simp [hpl]) hP7 hz7 hb7)
        conv => lhs; rw [Rc_loop]
        simp only [taskC, TaskL.at] at t2 f1 hld3
        simp at f1 f2
        by_cases h2 : st = 2
        · subst h2
          simp [m8_0, hil', hld, w, q1, hn0, hn0', s2', q3, l0, hposN, hposI, kTask, t2, stx, ldnx, hld3, kv, f1, f2, f3]
        · have h2i : ¬ (st : Int) = 2 := by omega
          simp [m8_0, hil', hld, w, q1, hn0, hn0', s2', q3, l0, hposN, hposI, kTask, hs1i, hs1i', hs2i, hs1, hs1', hst2, h2, h2i, t2, stx, ldnx, hld3, kv, f1, f2, f3]
    rw [if_neg c3']
    exact bad c0 c1' c2' c3'
end
end Go.Mod
/- The document's Same: sets that are alike. -/
set_option linter.unusedVariables false
set_option linter.unusedSimpArgs false
namespace Go.Mod

theorem take_grow {α : Type} {la lb : List α} {i : Nat} (ht : la.take i = lb.take i) {x y : α} (hx : la[i]? = some x) (hy : lb[i]? = some y) (h : x = y) : la.take (i + 1) = lb.take (i + 1) := by
  rw [List.take_add_one, List.take_add_one, ht, hx, hy, h]
section
variable {mp : FuncId → Option MDef} {H H0 : MH}
theorem sameI_loop {la lb : List Int} (hl : la.length ≤ 1000000) {a b : Option Addr} {n m c d : Nat} (hn : n = la.length) (hm : m = lb.length) (ha : RowG 1 H a la intC) (hb : RowG 1 H b lb intC) (hlen : la.length = lb.length) : ∀ (k i : Nat), i + k = la.length → la.take i = lb.take i →
    (la = lb ∧ Rc mp (.loop m34_0) [(0, .slice a n c), (1, .slice b m d), (5, .int .i64 (i : Int))] H = some (.exit 0, [(0, .slice a n c), (1, .slice b m d), (5, .int .i64 (la.length : Int)), (14, .bool false)], H)) ∨
    (la ≠ lb ∧ Rc mp (.loop m34_0) [(0, .slice a n c), (1, .slice b m d), (5, .int .i64 (i : Int))] H = some (.ret, [(4, .bool false)], H)) := by
  intro k
  induction k with
  | zero =>
    intro i hi ht
    have : i = la.length := by omega
    subst this
    refine .inl ⟨?_, ?_⟩
    · rw [List.take_length] at ht
      rw [ht, hlen, List.take_length]
    · rw [Rc_loop]
      simp [m34_0, hn]
  | succ k ih =>
    intro i hi ht
    have hia : i < la.length := by omega
    have hib : i < lb.length := by omega
    have hin : i < n := by omega
    have him : i < m := by omega
    have hga := List.getElem?_eq_getElem hia
    have hgb := List.getElem?_eq_getElem hib
    have i1 := ha.ia c .i64 (i : Int)
    rw [if_pos ⟨by omega, by omega⟩, Int.toNat_natCast, ← hn, Nat.mul_one] at i1
    have i2 := hb.ia d .i64 (i : Int)
    rw [if_pos ⟨by omega, by omega⟩, Int.toNat_natCast, ← hm, Nat.mul_one] at i2
    have r1 := ha.rd1 hga H (Ext.refl H)
    have r2 := hb.rd1 hgb H (Ext.refl H)
    simp only [intC] at r1 r2
    have w : IntKind.i64.wrap ((i : Int) + 1) = (i : Int) + 1 := wrap_i64 (by omega) (by omega)
    by_cases hx : la[i] = lb[i]
    · rcases ih (i + 1) (by omega) (take_grow ht hga hgb hx) with ⟨q1, q2⟩ | ⟨q1, q2⟩
      · refine .inl ⟨q1, ?_⟩
        rw [Rc_loop]
        simp [m34_0, hin, him, i1, i2, r1, r2, mdraw_plain, w, hx]
        exact q2
      · refine .inr ⟨q1, ?_⟩
        rw [Rc_loop]
        simp [m34_0, hin, him, i1, i2, r1, r2, mdraw_plain, w, hx]
        exact q2
    · refine .inr ⟨fun e => hx (by simp [e]), ?_⟩
      rw [Rc_loop]
      simp [m34_0, hin, him, i1, i2, r1, r2, mdraw_plain, w, hx]
theorem R_sameI (hf : mp 34 = some (.code m34)) {la lb : List Int} (hl : la.length ≤ 1000000) {a b : Option Addr} {n m c d : Nat} (hn : n = la.length) (hm : m = lb.length) (ha : RowG 1 H a la intC) (hb : RowG 1 H b lb intC) :
    R mp 34 [.slice a n c, .slice b m d] H = some (.bool (decide (la = lb)), H) := by
  by_cases hlen : la.length = lb.length
  · obtain rfl : m = n := by omega
    rcases sameI_loop (mp := mp) (c := c) (d := d) hl hn hm ha hb hlen la.length 0 (by omega) (by simp) with ⟨q1, q2⟩ | ⟨q1, q2⟩
    · simp at q2
      rw [R_code hf]
      simp [m34, q2, q1]
    · simp at q2
      rw [R_code hf]
      simp [m34, q2, q1]
  · have h1 : ¬ n = m := by omega
    have h2 : ¬ la = lb := fun e => hlen (by rw [e])
    have h3 : ¬ (n : Int) = m := by omega
    rw [R_code hf]
    simp [m34, h1, h2, h3]

/-! ### tasks -/
theorem sameP_loop {la lb : List PartL} (hl : la.length ≤ 1000000) {a b : Option Addr} {c d b2 b3 : Nat} {cs ds : List Value} (ha : RowG 3 H a la partC) (hb : RowG 3 H b lb partC) (hlen : la.length = lb.length)
    (h2 : H[b2]? = some (.cells ⟨0, true, false⟩ cs)) (h3 : H[b3]? = some (.cells ⟨0, true, false⟩ ds)) (hc : cs[5]? = some (.slice a la.length c)) (hd : ds[5]? = some (.slice b lb.length d)) : ∀ (k i : Nat), i + k = la.length → la.take i = lb.take i →
    (la = lb ∧ Rc mp (.loop m35_0) [(2, .pointer (some ⟨b2, 0, none⟩)), (3, .pointer (some ⟨b3, 0, none⟩)), (5, .int .i64 (i : Int))] H = some (.exit 0, [(2, .pointer (some ⟨b2, 0, none⟩)), (3, .pointer (some ⟨b3, 0, none⟩)), (5, .int .i64 (la.length : Int)), (52, .bool false)], H)) ∨
    (la ≠ lb ∧ Rc mp (.loop m35_0) [(2, .pointer (some ⟨b2, 0, none⟩)), (3, .pointer (some ⟨b3, 0, none⟩)), (5, .int .i64 (i : Int))] H = some (.ret, [(4, .bool false)], H)) := by
  intro k
  have l2 := ld_at h2 5
  have l3 := ld_at h3 5
  rw [hc] at l2
  rw [hd] at l3
  induction k with
  | zero =>
    intro i hi ht
    have : i = la.length := by omega
    subst this
    refine .inl ⟨?_, ?_⟩
    · rw [List.take_length] at ht
      rw [ht, hlen, List.take_length]
    · rw [Rc_loop]
      simp [m35_0, l2]
  | succ k ih =>
    intro i hi ht
    have hia : i < la.length := by omega
    have hib : i < lb.length := by omega
    have hia' : (i : Int) < (la.length : Int) := by omega
    have hga := List.getElem?_eq_getElem hia
    have hgb := List.getElem?_eq_getElem hib
    have i1 := ha.ia c .i64 (i : Int)
    rw [if_pos ⟨by omega, by omega⟩, Int.toNat_natCast] at i1
    have i2 := hb.ia d .i64 (i : Int)
    rw [if_pos ⟨by omega, by omega⟩, Int.toNat_natCast] at i2
    have r1 := ha.rdn hga H (Ext.refl H)
    have r2 := hb.rdn hgb H (Ext.refl H)
    simp only [partC] at r1 r2
    have w : IntKind.i64.wrap ((i : Int) + 1) = (i : Int) + 1 := wrap_i64 (by omega) (by omega)
    have heq : (la[i] = lb[i]) ↔ (la[i].kind = lb[i].kind ∧ la[i].len = lb[i].len ∧ la[i].res = lb[i].res) := by
      generalize la[i] = p
      generalize lb[i] = q
      obtain ⟨p1, p2, p3⟩ := p
      obtain ⟨q1, q2, q3⟩ := q
      simp
    by_cases hx : la[i] = lb[i]
    · have hx2 := heq.1 hx
      rcases ih (i + 1) (by omega) (take_grow ht hga hgb hx) with ⟨q1, q2⟩ | ⟨q1, q2⟩
      · refine .inl ⟨q1, ?_⟩
        rw [Rc_loop]
        simp [m35_0, hia, hia', l2, l3, i1, i2, r1, r2, mdraw_plain, w, hx2, ceqs, ceq]
        exact q2
      · refine .inr ⟨q1, ?_⟩
        rw [Rc_loop]
        simp [m35_0, hia, hia', l2, l3, i1, i2, r1, r2, mdraw_plain, w, hx2, ceqs, ceq]
        exact q2
    · have hx2 : ¬ (la[i].kind = lb[i].kind ∧ la[i].len = lb[i].len ∧ la[i].res = lb[i].res) := fun h => hx (heq.2 h)
      have hbool : (!la[i].kind == lb[i].kind || (!la[i].len == lb[i].len || !la[i].res == lb[i].res)) = true := by
        generalize la[i] = p at hx2
        generalize lb[i] = q at hx2
        by_cases h1 : p.kind = q.kind
        · by_cases h2 : p.len = q.len
          · have h3 : ¬ p.res = q.res := fun h => hx2 ⟨h1, h2, h⟩
            simp [h3]
          · simp [h2]
        · simp [h1]
      refine .inr ⟨fun e => hx (by simp [e]), ?_⟩
      rw [Rc_loop]
      simp [m35_0, hia, hia', l2, l3, i1, i2, r1, r2, mdraw_plain, w, ceqs, ceq, hbool]
theorem plain_iff (t u : TaskL) : t.plain = u.plain ↔ (t.name = u.name ∧ t.period = u.period ∧ t.deadline = u.deadline ∧ t.prio = u.prio ∧ t.cluster = u.cluster ∧ t.parts = u.parts) := by
  obtain ⟨a1, a2, a3, a4, a5, a6, a7, a8⟩ := t
  obtain ⟨b1, b2, b3, b4, b5, b6, b7, b8⟩ := u
  simp [TaskL.plain, TaskL.at]
theorem R_sameT (hf : mp 35 = some (.code m35)) {t u : TaskL} (ht : RowG 3 H t.pa t.parts partC) (hu : RowG 3 H u.pa u.parts partC) (hl : t.parts.length ≤ 1000000) [Decidable (t.plain = u.plain)] :
    ∃ H', R mp 35 [.agg (taskC t).toArray, .agg (taskC u).toArray] H = some (.bool (decide (t.plain = u.plain)), H') ∧ Ext H H' := by
  have e2 : Ext H (H ++ [.cells ⟨0, true, false⟩ (taskC t), .cells ⟨0, true, false⟩ (taskC u)]) := ⟨_, rfl⟩
  refine ⟨_, ?_, e2⟩
  have hp := plain_iff t u
  by_cases h1 : t.name = u.name
  · by_cases h2 : t.period = u.period
    · by_cases h3 : t.deadline = u.deadline
      · by_cases h4 : t.prio = u.prio
        · by_cases h5 : t.cluster = u.cluster
          · by_cases h6 : t.parts.length = u.parts.length
            · have hb2 : (H ++ [MObj.cells ⟨0, true, false⟩ (taskC t), .cells ⟨0, true, false⟩ (taskC u)])[H.length]? = some (.cells ⟨0, true, false⟩ (taskC t)) := by simp
              have hb3 : (H ++ [MObj.cells ⟨0, true, false⟩ (taskC t), .cells ⟨0, true, false⟩ (taskC u)])[H.length + 1]? = some (.cells ⟨0, true, false⟩ (taskC u)) := by simp
              rcases sameP_loop (mp := mp) hl (ht.ext e2) (hu.ext e2) h6 hb2 hb3 rfl rfl t.parts.length 0 (by omega) (by simp) with ⟨q1, q2⟩ | ⟨q1, q2⟩
              · have hq : t.plain = u.plain := hp.2 ⟨h1, h2, h3, h4, h5, q1⟩
                simp only [taskC] at q2
                simp at q2
                rw [R_code hf, decide_eq_true hq]
                simp [m35, taskC, ldx, h1, h2, h3, h4, h5, h6] at q2 ⊢
                simp [q2]
              · have hq : ¬ t.plain = u.plain := fun h => q1 (hp.1 h).2.2.2.2.2
                simp only [taskC] at q2
                simp at q2
                rw [R_code hf, decide_eq_false hq]
                simp [m35, taskC, ldx, h1, h2, h3, h4, h5, h6] at q2 ⊢
                simp [q2]
            · have hq : ¬ t.plain = u.plain := fun h => h6 (by rw [(hp.1 h).2.2.2.2.2])
              have h6' : ¬ (t.parts.length : Int) = (u.parts.length : Int) := by omega
              rw [R_code hf, decide_eq_false hq]
              simp [m35, taskC, ldx, h1, h2, h3, h4, h5, h6, h6']
          · have hq : ¬ t.plain = u.plain := fun h => h5 (hp.1 h).2.2.2.2.1
            rw [R_code hf, decide_eq_false hq]
            simp [m35, taskC, ldx, h1, h2, h3, h4, h5]
        · have hq : ¬ t.plain = u.plain := fun h => h4 (hp.1 h).2.2.2.1
          rw [R_code hf, decide_eq_false hq]
          simp [m35, taskC, ldx, h1, h2, h3, h4]
      · have hq : ¬ t.plain = u.plain := fun h => h3 (hp.1 h).2.2.1
        rw [R_code hf, decide_eq_false hq]
        simp [m35, taskC, ldx, h1, h2, h3]
    · have hq : ¬ t.plain = u.plain := fun h => h2 (hp.1 h).2.1
      rw [R_code hf, decide_eq_false hq]
      simp [m35, taskC, ldx, h1, h2]
  · have hq : ¬ t.plain = u.plain := fun h => h1 (hp.1 h).1
    have h1' : ¬ t.name.toList = u.name.toList := fun h => h1 (ba_inj h)
    rw [R_code hf, decide_eq_false hq]
    simp [m35, taskC, ldx, h1, h1']
end
end Go.Mod
/- The document's Same. -/
set_option linter.unusedVariables false
set_option linter.unusedSimpArgs false
namespace Go.Mod

section
variable {mp : FuncId → Option MDef} {H H0 : MH}
open Classical in
theorem sameS_loop (h47 : mp 35 = some (.code m35)) {s u : SetL} (hs : SetAt H0 s) (hu : SetAt H0 u) {b2 b3 : Nat} (h2 : H0[b2]? = some (.cells ⟨0, true, false⟩ s.cells)) (h3 : H0[b3]? = some (.cells ⟨0, true, false⟩ u.cells)) (hlen : s.tasks.length = u.tasks.length) : ∀ (k i : Nat) (H : MH), i + k = s.tasks.length → Ext H0 H → (s.tasks.map TaskL.plain).take i = (u.tasks.map TaskL.plain).take i →
    (s.tasks.map TaskL.plain = u.tasks.map TaskL.plain ∧ ∃ H', Rc mp (.loop m11_0) [(2, .pointer (some ⟨b2, 0, none⟩)), (3, .pointer (some ⟨b3, 0, none⟩)), (5, .int .i64 (i : Int))] H = some (.exit 0, [(2, .pointer (some ⟨b2, 0, none⟩)), (3, .pointer (some ⟨b3, 0, none⟩)), (5, .int .i64 (s.tasks.length : Int)), (40, .bool false)], H') ∧ Ext H H') ∨
    (s.tasks.map TaskL.plain ≠ u.tasks.map TaskL.plain ∧ ∃ H', Rc mp (.loop m11_0) [(2, .pointer (some ⟨b2, 0, none⟩)), (3, .pointer (some ⟨b3, 0, none⟩)), (5, .int .i64 (i : Int))] H = some (.ret, [(4, .bool false)], H') ∧ Ext H H') := by
  intro k
  induction k with
  | zero =>
    intro i H hi e ht
    have : i = s.tasks.length := by omega
    subst this
    have l2 := ld_at (e.get h2) 3
    simp only [SetL.cells] at l2
    refine .inl ⟨?_, H, ?_, Ext.refl _⟩
    · have h1 : (s.tasks.map TaskL.plain).length = s.tasks.length := by simp
      have h2 : (u.tasks.map TaskL.plain).length = s.tasks.length := by simp [hlen]
      rw [List.take_of_length_le (by omega), List.take_of_length_le (by omega)] at ht
      exact ht
    · rw [Rc_loop]
      simp at l2
      simp [m11_0, l2]
  | succ k ih =>
    intro i H hi e ht
    have hia : i < s.tasks.length := by omega
    have hib : i < u.tasks.length := by omega
    have hia' : (i : Int) < (s.tasks.length : Int) := by omega
    have hszt := hs.few.2.2.1
    have hga := List.getElem?_eq_getElem hia
    have hgb := List.getElem?_eq_getElem hib
    have hma := List.getElem_mem hia
    have hmb := List.getElem_mem hib
    have l2 := ld_at (e.get h2) 3
    have l3 := ld_at (e.get h3) 3
    simp only [SetL.cells] at l2 l3
    have i1 := hs.tasks.ia s.tc .i64 (i : Int)
    rw [if_pos ⟨by omega, by omega⟩, Int.toNat_natCast] at i1
    have i2 := hu.tasks.ia u.tc .i64 (i : Int)
    rw [if_pos ⟨by omega, by omega⟩, Int.toNat_natCast] at i2
    have r1 := hs.tasks.rdn hga H e
    have r2 := hu.tasks.rdn hgb H e
    have w : IntKind.i64.wrap ((i : Int) + 1) = (i : Int) + 1 := wrap_i64 (by omega) (by omega)
    obtain ⟨H1, q1, x1⟩ := R_sameT (mp := mp) (H := H) h47 (t := s.tasks[i]) (u := u.tasks[i]) ((hs.parts _ hma).ext e) ((hu.parts _ hmb).ext e) ((hs.few.2.2.2.2 _ hma).2)
    simp only [taskC] at r1 r2 q1
    simp at l2 l3 q1
    by_cases hx : s.tasks[i].plain = u.tasks[i].plain
    · rcases ih (i + 1) H1 (by omega) (e.trans x1) (take_grow ht (by rw [List.getElem?_map, hga]; rfl) (by rw [List.getElem?_map, hgb]; rfl) hx) with ⟨g1, H', g2, g3⟩ | ⟨g1, H', g2, g3⟩
      · refine .inl ⟨g1, H', ?_, x1.trans g3⟩
        rw [Rc_loop]
        simp [m11_0, hia, hia', l2, l3, i1, i2, r1, r2, mdraw_plain, w, q1, hx]
        exact g2
      · refine .inr ⟨g1, H', ?_, x1.trans g3⟩
        rw [Rc_loop]
        simp [m11_0, hia, hia', l2, l3, i1, i2, r1, r2, mdraw_plain, w, q1, hx]
        exact g2
    · refine .inr ⟨fun e => hx ?_, H1, ?_, x1⟩
      · have h1 : (s.tasks.map TaskL.plain)[i]? = some s.tasks[i].plain := by rw [List.getElem?_map, hga]; rfl
        have h2 : (u.tasks.map TaskL.plain)[i]? = some u.tasks[i].plain := by rw [List.getElem?_map, hgb]; rfl
        rw [e, h2] at h1
        exact (Option.some.inj h1).symm
      · rw [Rc_loop]
        simp [m11_0, hia, hia', l2, l3, i1, i2, r1, r2, mdraw_plain, w, q1, hx]
theorem sets_iff (s u : SetL) : s.plain = u.plain ↔ (s.proto = u.proto ∧ s.cores = u.cores ∧ s.homes = u.homes ∧ s.tasks.map TaskL.plain = u.tasks.map TaskL.plain) := by
  simp [SetL.plain, plainSet]
open Classical in
theorem R_sameS (hf : mp 11 = some (.code m11)) (h46 : mp 34 = some (.code m34)) (h47 : mp 35 = some (.code m35)) {s u : SetL} (hs : SetAt H s) (hu : SetAt H u) :
    ∃ H', R mp 11 [.agg s.cells.toArray, .agg u.cells.toArray] H = some (.bool (decide (s.plain = u.plain)), H') ∧ Ext H H' := by
  have e2 : Ext H (H ++ [.cells ⟨0, true, false⟩ s.cells, .cells ⟨0, true, false⟩ u.cells]) := ⟨_, rfl⟩
  have hp := sets_iff s u
  have qc := R_sameI (mp := mp) (H := H ++ [.cells ⟨0, true, false⟩ s.cells, .cells ⟨0, true, false⟩ u.cells]) h46 hs.few.1 (n := s.cores.length) (m := u.cores.length) (c := s.cc) (d := u.cc) rfl rfl (hs.cores.ext e2) (hu.cores.ext e2)
  have qh := R_sameI (mp := mp) (H := H ++ [.cells ⟨0, true, false⟩ s.cells, .cells ⟨0, true, false⟩ u.cells]) h46 hs.few.2.1 (n := s.homes.length) (m := u.homes.length) (c := s.hc) (d := u.hc) rfl rfl (hs.homes.ext e2) (hu.homes.ext e2)
  simp only [SetL.cells] at qc qh
  by_cases h1 : s.proto = u.proto
  · by_cases h2 : s.cores = u.cores
    · by_cases h3 : s.homes = u.homes
      · by_cases h4 : s.tasks.length = u.tasks.length
        · have hb2 : (H ++ [MObj.cells ⟨0, true, false⟩ s.cells, .cells ⟨0, true, false⟩ u.cells])[H.length]? = some (.cells ⟨0, true, false⟩ s.cells) := by simp
          have hb3 : (H ++ [MObj.cells ⟨0, true, false⟩ s.cells, .cells ⟨0, true, false⟩ u.cells])[H.length + 1]? = some (.cells ⟨0, true, false⟩ u.cells) := by simp
          rcases sameS_loop (mp := mp) h47 (hs.ext e2) (hu.ext e2) hb2 hb3 h4 s.tasks.length 0 _ (by omega) (Ext.refl _) (by simp) with ⟨q1, H', q2, q3⟩ | ⟨q1, H', q2, q3⟩
          · have hq : s.plain = u.plain := hp.2 ⟨h1, h2, h3, q1⟩
            refine ⟨H', ?_, e2.trans q3⟩
            rw [R_code hf, decide_eq_true hq]
            rw [decide_eq_true h2] at qc
            rw [decide_eq_true h3] at qh
            simp only [SetL.cells, h1, h4] at q2 qc qh
            simp at q2
            simp [m11, SetL.cells, ldx, h1, qc, qh, h4, q2]
          · have hq : ¬ s.plain = u.plain := fun h => q1 (hp.1 h).2.2.2
            refine ⟨H', ?_, e2.trans q3⟩
            rw [R_code hf, decide_eq_false hq]
            rw [decide_eq_true h2] at qc
            rw [decide_eq_true h3] at qh
            simp only [SetL.cells, h1, h4] at q2 qc qh
            simp at q2
            simp [m11, SetL.cells, ldx, h1, qc, qh, h4, q2]
        · have hq : ¬ s.plain = u.plain := fun h => h4 (by have := congrArg List.length (hp.1 h).2.2.2; simpa using this)
          have h4' : ¬ (s.tasks.length : Int) = (u.tasks.length : Int) := by omega
          refine ⟨_, ?_, e2⟩
          rw [R_code hf, decide_eq_false hq]
          rw [decide_eq_true h2] at qc
          rw [decide_eq_true h3] at qh
          simp only [h1] at qc qh
          simp [m11, SetL.cells, ldx, h1, qc, qh, h4, h4']
      · have hq : ¬ s.plain = u.plain := fun h => h3 (hp.1 h).2.2.1
        refine ⟨_, ?_, e2⟩
        rw [R_code hf, decide_eq_false hq]
        rw [decide_eq_true h2] at qc
        rw [decide_eq_false h3] at qh
        simp only [h1] at qc qh
        simp [m11, SetL.cells, ldx, h1, qc, qh]
    · have hq : ¬ s.plain = u.plain := fun h => h2 (hp.1 h).2.1
      refine ⟨_, ?_, e2⟩
      rw [R_code hf, decide_eq_false hq]
      rw [decide_eq_false h2] at qc
      simp only [h1] at qc
      simp [m11, SetL.cells, ldx, h1, qc]
  · have hq : ¬ s.plain = u.plain := fun h => h1 (hp.1 h).1
    refine ⟨_, ?_, e2⟩
    rw [R_code hf, decide_eq_false hq]
    simp [m11, SetL.cells, ldx, h1]
end
end Go.Mod
/- The document's Parse: what is checked. -/
set_option linter.unusedVariables false
set_option linter.unusedSimpArgs false
namespace Go.Mod
open Go.Lib

section
variable {mp : FuncId → Option MDef} {H : MH}
/-- What the document's check of a set that was read hands back. -/
def CheckedD (H : MH) (x : Option (Value × MH)) (s : SetL) (ats : List Nat) (ci n : Nat) : Prop :=
  if (checkE s).2 = 0 then ∃ H', x = some (.tuple #[.agg s.cells.toArray, .int .i64 (n : Int), .int .i64 0], H') ∧ Ext H H' else
  if 0 ≤ (checkE s).1 then ∃ H', x = some (errW (ats.getD (checkE s).1.toNat 0 : Int) (checkE s).2, H') ∧ Ext H H' else
  if (checkE s).2 = 16 then ∃ H', x = some (errW (ci : Int) (checkE s).2, H') ∧ Ext H H' else
  ∃ H', x = some (errW (n : Int) (checkE s).2, H') ∧ Ext H H'
theorem R_checkedR {rn rp ro rq rk : FuncId} (hf : mp 25 = some (.code m25)) (hc : ChkR mp rn rp ro rq 36 rk) {s : SetL} (hs : SetAt H s) {ats : List Nat} (hat : ats.length = s.tasks.length) {a : Option Addr} {k c : Nat} (hr : Row 1 H (.slice a k c) (i64s (ats.map fun n : Nat => (n : Int)))) (ci n : Nat) :
    CheckedD H (R mp 25 [.agg s.cells.toArray, .slice a k c, .int .i64 (ci : Int), .int .i64 (n : Int)] H) s ats ci n := by
  have hk := row_len hr
  rw [i64s_len, List.length_map] at hk
  have e1 : Ext H (H ++ [.cells ⟨0, true, false⟩ s.cells, .cells ⟨0, true, false⟩ [.int .i64 0, .slice none 0 0, .slice none 0 0, .slice none 0 0]]) := ⟨_, rfl⟩
  obtain ⟨H2, q, e2⟩ := G_checkR hc hs e1
  have hcc := checkE_cases s
  unfold CheckedD
  have hb4 := e2.get (show (H ++ [MObj.cells ⟨0, true, false⟩ s.cells, .cells ⟨0, true, false⟩ [.int .i64 0, .slice none 0 0, .slice none 0 0, .slice none 0 0]])[H.length]? = some (.cells ⟨0, true, false⟩ s.cells) by simp)
  have hb8 := e2.get (show (H ++ [MObj.cells ⟨0, true, false⟩ s.cells, .cells ⟨0, true, false⟩ [.int .i64 0, .slice none 0 0, .slice none 0 0, .slice none 0 0]])[H.length + 1]? = some (.cells ⟨0, true, false⟩ [.int .i64 0, .slice none 0 0, .slice none 0 0, .slice none 0 0]) by simp)
  have hzs := set_id hb8
  have hset : ∀ o, (H2.set (H.length + 1) o)[H.length + 1]? = some o := fun o => List.getElem?_set_self (List.getElem?_eq_some_iff.1 hb8).1
  have E := e1.trans e2
  have hfin : ∀ o, Ext H (H2.set (H.length + 1) o) := fun o => ext_set E (by omega)
  have hr2 := row_ext' hr E
  generalize hck : checkE s = ck at q hcc ⊢
  obtain ⟨c1, c2⟩ := ck
  simp only [] at q hcc ⊢
  simp only [SetL.cells] at q hb4 e1
  by_cases h0 : c2 = 0
  · rw [if_pos h0]
    subst h0
    refine ⟨_, ?_, hfin (.cells ⟨0, true, false⟩ [.int .i64 s.proto, .slice s.ca s.cores.length s.cc, .slice s.ha s.homes.length s.hc, .slice s.ta s.tasks.length s.tc])⟩
    rw [R_code hf]
    simp [m25, SetL.cells, q, hb4, stx, ldnx, hb8, hset]
  rw [if_neg h0]
  by_cases h1 : 0 ≤ c1
  · rw [if_pos h1]
    obtain ⟨j, rfl, hj⟩ : ∃ j : Nat, c1 = (j : Int) ∧ j < s.tasks.length := by
      rcases hcc with h | h
      · omega
      · exact h
    have hja : j < ats.length := by omega
    obtain ⟨b, o, rfl, lj, hjk⟩ := row_get hr2 (k := j) (x := .int .i64 ((ats[j] : Nat) : Int)) (by simp [i64s, List.getElem?_eq_getElem hja])
    have hg : ats.getD (Int.toNat (j : Int)) 0 = ats[j] := by
      rw [Int.toNat_natCast, List.getD_eq_getElem?_getD, List.getElem?_eq_getElem hja]; rfl
    rw [hg]
    generalize ats[j] = m at lj
    have hjI : (j : Int) < (k : Int) := by omega
    simp at lj
    refine ⟨H2, ?_, E⟩
    rw [R_code hf]
    simp [m25, SetL.cells, q, hb4, stx, ldnx, hb8, hzs, h0, hjI, hjk, lj, mdraw_full, errW]
  rw [if_neg h1]
  by_cases h16 : c2 = 16
  · rw [if_pos h16]
    subst h16
    refine ⟨H2, ?_, E⟩
    rw [R_code hf]
    simp [m25, SetL.cells, q, hb4, stx, ldnx, hb8, hzs, h1, errW]
  rw [if_neg h16]
  refine ⟨H2, ?_, E⟩
  rw [R_code hf]
  simp [m25, SetL.cells, q, hb4, stx, ldnx, hb8, hzs, h0, h1, h16, errW]
end
end Go.Mod
/- The document's Parse. -/
set_option linter.unusedVariables false
set_option linter.unusedSimpArgs false
namespace Go.Mod
open Go.Lib

section
variable {mp : FuncId → Option MDef} {H : MH}
def ParsedD (H : MH) (x : Option (Value × MH)) (l : Bs) : Prop :=
  match parseD l with
  | .inl e => ∃ H', x = some (errW e.1 e.2, H') ∧ Ext H H'
  | .inr s => ∃ s' H', x = some (.tuple #[.agg s'.cells.toArray, .int .i64 (s.2 : Int), .int .i64 0], H') ∧ Ext H H' ∧ SetAt H' s' ∧ s'.plain = s.1
theorem R_parseR {rn rp ro rq rk : FuncId} (D : DxP mp) (h8 : mp 8 = some (.code m8)) (h13 : mp 13 = some (.code m13)) (h21 : mp 21 = some (.code m21)) (h37 : mp 37 = some (.code m37)) (h25 : mp 25 = some (.code m25)) (hc : ChkR mp rn rp ro rq 36 rk) (l : Bs) :
    ParsedD H (R mp 8 [.string (B l)] H) l := by
  unfold ParsedD parseD
  have e0 : Ext H (H ++ [zSet]) := ⟨_, rfl⟩
  by_cases hbig : 2000 < l.length
  · rw [if_pos hbig]
    have hbig' : (2000 : Int) < (l.length : Int) := by omega
    refine ⟨_, ?_, e0⟩
    rw [R_code h8]
    simp [m8, hbig, hbig', stx, ldnx, zSet, errW]
  rw [if_neg hbig]
  have hbig' : ¬ (2000 : Int) < (l.length : Int) := by omega
  obtain ⟨a1, n1, c1, H1, q1, r1, x1⟩ := R_linesR (mp := mp) (H := H ++ [zSet]) h13 h37 (l := l) (by omega)
  have hlt : (trimE (cutAt 10 l)).length ≤ 2001 := by have h1 := trimE_len (cutAt 10 l); have h2 := cutAt_len 10 l; omega
  have hlm : ∀ w ∈ trimE (cutAt 10 l), w.length ≤ 2000 := fun w hw => by have := cutAt_mem_len 10 l w (trimE_mem hw); omega
  have hn1 := r1.svn
  generalize trimE (cutAt 10 l) = lines at r1 hlt hlm hn1 ⊢
  have e2 : Ext H1 (H1 ++ [zSet]) := ⟨_, rfl⟩
  have E2 : Ext H (H1 ++ [zSet]) := (e0.trans x1).trans e2
  have hz1 : (H ++ [zSet])[H.length]? = some zSet := by simp
  have hz2 := e2.get (x1.get hz1)
  have hlt1 : H.length < H1.length := (List.getElem?_eq_some_iff.1 (x1.get hz1)).1
  have hA : DA H1.length 0 (.slice none 0 0) (.slice none 0 0) (.slice none 0 0) [] (.slice none 0 0) [] (H1 ++ [zSet]) [H1.length] :=
    ⟨[H1.length], [], ⟨[H1.length], [], ⟨rfl, by simp [zSet]⟩, .inl ⟨rfl, rfl, rfl⟩, by simp, by simp⟩, .inl ⟨rfl, rfl, rfl⟩, by simp, by simp⟩
  have q1' : R mp 13 [.string (B l)] (H ++ [.cells ⟨0, true, false⟩ [.int .i64 0, .slice none 0 0, .slice none 0 0, .slice none 0 0]]) = some (.slice a1 n1 c1, H1) := q1
  have hloop := dparse_loop D h21 h37 (ls := lines) hlm (by omega) (sa := a1) (sn := n1) (sc := c1) (b2 := H.length) (b6 := H1.length) lines.length 0 (H1 ++ [zSet]) [H1.length] st0 [] (.slice none 0 0) (.slice none 0 0) (.slice none 0 0) (.slice none 0 0) (by omega) (by simp) rfl (by simp [st0]) (by simp [st0]) (by simp [st0])
    (stay_ext r1 e2 (by simp)) ⟨.inl ⟨rfl, rfl⟩, fun b o n c e _ => by cases e⟩ ⟨.inl ⟨rfl, rfl⟩, fun b o n c e _ => by cases e⟩ hA rfl (fun t ht => by cases ht) hz2 (by simp; omega)
  rw [List.drop_zero] at hloop
  have ext_of : ∀ {H' : MH} {G' : List Nat}, Upd (H1 ++ [zSet]) [H1.length] H' G' → Ext H1 H' := fun {H' G'} u => by
    have u' : Upd H1 [] H' G' := ⟨Nat.le_trans (by simp) u.len, fun id hid _ => by
      have := u.same id (by simp; omega) (by simp; omega)
      rw [this, List.getElem?_append_left hid], fun id hid => by
      rcases u.new id hid with h | h
      · simp at h; exact .inr (by omega)
      · simp at h; exact .inr (by omega)⟩
    exact u'.toExt.1
  generalize goD (rowsL 0 lines) st0 = gr at hloop ⊢
  cases gr with
  | inr e =>
    obtain ⟨H', G', g1, g2⟩ := hloop
    have e5 := ext_of g2
    have hz5 := g2.get hz2 (by simp; omega)
    unfold zSet at hz5 g1
    refine ⟨H', ?_, (e0.trans x1).trans e5⟩
    simp [st0] at g1
    rw [R_code h8]
    simp [m8, hbig, hbig', q1', stx, ldnx, g1, hz5, errW]
  | inl s =>
    obtain ⟨H', G', y1, y2, v, av, out, g1, s1, s2, gA, hts, hP, g2, hat, hol, hcl, hhl⟩ := hloop
    simp only []
    have e5 := ext_of g2
    have E5 : Ext H H' := (e0.trans x1).trans e5
    have hz5 := g2.get hz2 (by simp; omega)
    have hzs5 := set_id hz5
    unfold zSet at hz5 hzs5 g1
    simp [st0] at g1
    by_cases hst : s.st < 2
    · rw [if_pos hst]
      have hst' : (s.st : Int) < 2 := by omega
      refine ⟨H', ?_, E5⟩
      rw [← hn1]
      rw [R_code h8]
      simp [m8, hbig, hbig', q1', stx, ldnx, g1, hst, hst', hz5, hzs5, errW]
    rw [if_neg hst]
    have hst' : ¬ (s.st : Int) < 2 := by omega
    obtain ⟨st, p, cores, ci, homes, tasks, ats⟩ := s
    simp only [] at s1 s2 gA hts hat hcl hhl g1 hst hst' ⊢
    have hbox : H'[H1.length]? = some (.cells ⟨0, true, false⟩ [.int .i64 p, y1, y2, v]) := star_at2 gA
    obtain ⟨ca, cn, cc, rfl, hcn⟩ := s1.1.slice
    obtain ⟨ha, hn', hc', rfl, hhn⟩ := s2.1.slice
    rw [i64s_len] at hcn hhn
    obtain ⟨A, C, ⟨A1, A2, hA1, hA2, _, _⟩, hC, _, _⟩ := gA
    have hrow6 := Own.row hA2
    obtain ⟨ta, tn, tc, rfl, htl⟩ := hrow6.slice
    rw [tasks_len] at htl
    have htc : tn ≤ tc := by
      rcases hA2 with ⟨e, _⟩ | ⟨b, n', c', cs', e, h1, _⟩
      · cases e; omega
      · cases e; exact h1
    have hrow1 := Own.row hC
    obtain ⟨aa, an, ac, rfl, hal⟩ := hrow1.slice
    have htn : tn = out.length := by omega
    have hcn : cn = cores.length := by omega
    have hhn : hn' = homes.length := by omega
    subst htn hcn hhn
    have hgc := RowG.of (w := 1) (g := intC) (l := cores) (by rw [intC_flat]; exact s1.1) (by omega) (fun x hx => ⟨rfl, rfl⟩)
    have hgh := RowG.of (w := 1) (g := intC) (l := homes) (by rw [intC_flat]; exact s2.1) (by omega) (fun x hx => ⟨rfl, rfl⟩)
    have hgt := RowG.of hrow6 (by omega) (fun x hx => ⟨rfl, rfl⟩)
    have hAt : SetAt H' ⟨p, cores, ca, cc, homes, ha, hc', out, ta, tc⟩ := by
      refine ⟨hgc.1, hgh.1, hgt.1, fun t ht => (hP t ht).1, by show cores.length ≤ _; omega, by show homes.length ≤ _; omega, by show out.length ≤ _; omega, htc, fun t ht => ?_⟩
      have h1 := (hP t ht).2.1
      have h2 := (hP t ht).2.2
      exact ⟨by omega, by omega⟩
    have hpl : (⟨p, cores, ca, cc, homes, ha, hc', out, ta, tc⟩ : SetL).plain = plainSet p cores homes tasks := by
      show plainSet p cores homes (out.map TaskL.plain) = _
      rw [hts]
    have hce := checkE_plain ⟨p, cores, ca, cc, homes, ha, hc', out, ta, tc⟩
    rw [hpl] at hce
    have hq := R_checkedR h25 hc hAt (ats := ats) hat hrow1 ci lines.length
    unfold CheckedD at hq
    rw [← hce] at hq
    simp only [SetL.cells] at hq
    have hfin : ∀ (H5 : MH), Ext H' H5 → H5[H.length]? = some zSet ∧ (∀ o, (H5.set H.length o)[H.length]? = some o) ∧ H5.set H.length zSet = H5 := fun H5 e => by
      have h := e.get hz5
      exact ⟨h, fun o => List.getElem?_set_self (List.getElem?_eq_some_iff.1 h).1, set_id h⟩
    rw [← hn1]
    rw [← hn1] at hq
    generalize checkE (plainSet p cores homes tasks) = ck at hq ⊢
    obtain ⟨k1, k2⟩ := ck
    simp only [] at hq ⊢
    by_cases h0 : k2 = 0
    · rw [if_pos h0]
      rw [if_pos h0] at hq
      obtain ⟨H5, q5, e6⟩ := hq
      obtain ⟨hz6, hset6, _⟩ := hfin H5 e6
      have kS : KeepP P13 H5 (H5.set H.length (.cells ⟨0, true, false⟩ [.int .i64 p, .slice ca cores.length cc, .slice ha homes.length hc', .slice ta out.length tc])) := keep_set hz6 (by unfold P13; simp)
      have kS6 : KeepP (fun e => e = 6) H5 (H5.set H.length (.cells ⟨0, true, false⟩ [.int .i64 p, .slice ca cores.length cc, .slice ha homes.length hc', .slice ta out.length tc])) := keep_set hz6 (by simp)
      have hA5 := hAt.ext e6
      unfold zSet at hz6
      refine ⟨⟨p, cores, ca, cc, homes, ha, hc', out, ta, tc⟩, H5.set H.length (.cells ⟨0, true, false⟩ [.int .i64 p, .slice ca cores.length cc, .slice ha homes.length hc', .slice ta out.length tc]), ?_, ext_set (E5.trans e6) (Nat.le_refl _),
        ⟨hA5.cores.keepP kS (by unfold P13; omega), hA5.homes.keepP kS (by unfold P13; omega), hA5.tasks.keepP kS6 rfl, fun t ht => (hA5.parts t ht).keepP kS (by unfold P13; omega), hA5.few⟩, hpl⟩
      rw [R_code h8]
      simp [m8, hbig, hbig', q1', stx, ldx, ldnx, g1, hst, hst', hbox, q5, hz6, hset6, SetL.cells]
    rw [if_neg h0]
    rw [if_neg h0] at hq
    have bad : ∀ (m e : Int) (H5 : MH), R mp 25 [.agg #[.int .i64 p, .slice ca cores.length cc, .slice ha homes.length hc', .slice ta out.length tc], .slice aa an ac, .int .i64 (ci : Int), .int .i64 (n1 : Int)] H' = some (errW m e, H5) → Ext H' H5 →
        ∃ H6, R mp 8 [.string (B l)] H = some (errW m e, H6) ∧ Ext H H6 := fun m e H5 q5 e6 => by
      obtain ⟨hz6, hset6, hzs6⟩ := hfin H5 e6
      unfold zSet at hz6 hzs6
      unfold errW at q5
      refine ⟨H5, ?_, E5.trans e6⟩
      rw [R_code h8]
      simp [m8, hbig, hbig', q1', stx, ldx, ldnx, g1, hst, hst', hbox, q5, hz6, hzs6, errW]
    by_cases h1 : 0 ≤ k1
    · rw [if_pos h1]
      rw [if_pos h1] at hq
      obtain ⟨H5, q5, e6⟩ := hq
      exact bad _ _ H5 q5 e6
    rw [if_neg h1]
    rw [if_neg h1] at hq
    by_cases h16 : k2 = 16
    · rw [if_pos h16]
      rw [if_pos h16] at hq
      obtain ⟨H5, q5, e6⟩ := hq
      exact bad _ _ H5 q5 e6
    rw [if_neg h16]
    rw [if_neg h16] at hq
    obtain ⟨H5, q5, e6⟩ := hq
    exact bad _ _ H5 q5 e6
end
end Go.Mod

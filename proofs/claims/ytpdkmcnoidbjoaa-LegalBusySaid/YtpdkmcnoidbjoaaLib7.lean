/- Rows of pairs: fields that hold them, the first one of an id. -/
import Derived.Test.YtpdkmcnoidbjoaaLib6
set_option linter.unusedVariables false
set_option linter.unusedSimpArgs false
namespace Go.Mod

/-! ### rows of pairs -/
def prs (ps : List (Int × Int)) : List (List Int) := ps.map fun p => [p.1, p.2]
def prv (ps : List (Int × Int)) : List Value := recs (prs ps)
theorem prs_w (ps : List (Int × Int)) : ∀ p ∈ prs ps, p.length = 2 := by
  intro p hp
  obtain ⟨q, _, rfl⟩ := List.mem_map.1 hp
  rfl
theorem prs_get {ps : List (Int × Int)} {k : Nat} {p : Int × Int} (h : ps[k]? = some p) : (prs ps)[k]? = some [p.1, p.2] := by simp [prs, h]
theorem prv_len (ps : List (Int × Int)) : (prv ps).length = ps.length * 2 := by rw [prv, recs_len (prs_w ps)]; simp [prs]
theorem prv_one (ps : List (Int × Int)) : (prv ps).all one = true := recs_one _
theorem prv_nil : prv [] = [] := rfl
theorem prv_cons (p : Int × Int) (ps : List (Int × Int)) : prv (p :: ps) = [.int .i64 p.1, .int .i64 p.2] ++ prv ps := by simp [prv, prs, recs, i64s]
theorem prv_app (ps qs : List (Int × Int)) : prv (ps ++ qs) = prv ps ++ prv qs := by simp [prv, prs, recs]
theorem prv_take : ∀ (ps : List (Int × Int)) (k : Nat), (prv ps).take (k * 2) = prv (ps.take k)
  | [], k => by simp [prv_nil]
  | p :: ps, 0 => by simp [prv_nil]
  | p :: ps, k + 1 => by
    rw [prv_cons, List.take_succ_cons, prv_cons, show (k + 1) * 2 = [Value.int .i64 p.1, Value.int .i64 p.2].length + k * 2 by simp; omega, List.take_length_add_append, prv_take ps k]
theorem prv_drop : ∀ (ps : List (Int × Int)) (k : Nat), (prv ps).drop (k * 2) = prv (ps.drop k)
  | [], k => by simp [prv_nil]
  | p :: ps, 0 => by simp
  | p :: ps, k + 1 => by
    rw [prv_cons, List.drop_succ_cons, show (k + 1) * 2 = [Value.int .i64 p.1, .int .i64 p.2].length + k * 2 by simp; omega, ← List.drop_drop, List.drop_left', prv_drop ps k]
    rfl
/-- One more, in its place. -/
def putAt (ps : List (Int × Int)) (j : Nat) (p : Int × Int) : List (Int × Int) := ps.take j ++ p :: ps.drop j
theorem putAt_len {ps : List (Int × Int)} {j : Nat} (h : j ≤ ps.length) (p : Int × Int) : (putAt ps j p).length = ps.length + 1 := by simp [putAt]; omega
theorem prv_ins (ps : List (Int × Int)) (j : Nat) (p : Int × Int) : insAt (prv ps) (j * 2) [.int .i64 p.1, .int .i64 p.2] = prv (putAt ps j p) := by
  rw [putAt, prv_app, prv_cons, insAt, prv_take, prv_drop, List.append_assoc]
theorem prv_cut (ps : List (Int × Int)) (i j : Nat) : (prv ps).take (i * 2) ++ (prv ps).drop (j * 2) = prv (ps.take i ++ ps.drop j) := by rw [prv_app, prv_take, prv_drop]

section
variable {mp : FuncId → Option MDef} {H H1 : MH} {F : List Nat} {t k : Nat} {i : Info} {cs : List Value} {v : Value} {l : List Value}
/-- A pair of a row. -/
theorem Row.pr {a : Option Addr} {n c k : Nat} {ps : List (Int × Int)} {p : Int × Int} (h : Row 2 H (.slice a n c) (prv ps)) (hk : ps[k]? = some p) :
    n = ps.length ∧ ∃ b o j cs, a = some ⟨b, o, none⟩ ∧ H[b]? = some (.cells j cs) ∧ cs[o + k * 2]? = some (.int .i64 p.1) ∧ cs[o + k * 2 + 1]? = some (.int .i64 p.2) ∧ mread (.ld (some 2)) [.pointer (some ⟨b, o + k * 2, none⟩)] H = some (.agg #[.int .i64 p.1, .int .i64 p.2]) := by
  obtain ⟨hn, b, o, j, cs, rfl, hB, _, hlen, htk, hx⟩ := h.rec_ (prs_w ps) (by omega) (prs_get hk)
  have hld := ldn_at hB (o + k * 2) 2 hlen (by rw [htk]; exact i64s_one _)
  rw [htk] at hld
  exact ⟨by simpa [prs] using hn, b, o, j, cs, rfl, hB, hx 0 _ rfl, hx 1 _ rfl, hld⟩
theorem Row.prn {a : Option Addr} {n c : Nat} {ps : List (Int × Int)} (h : Row 2 H (.slice a n c) (prv ps)) : n = ps.length := by
  have := h.recn (prs_w ps) (by omega)
  simpa [prs] using this

/-! ### a field's slice -/
theorem ins_fld {f : FuncId} (hf : mp f = some (.intr (insertS 2))) {ps : List (Int × Int)} {S : HP} (s : Good S) (h : ((Pt t i cs * OwnP 2 v (prv ps)) * S) H F) (hrw : i.rw = true) (hk : k < cs.length) {j : Nat} (hj : j ≤ ps.length) (hb : ps.length ≤ 1000000) (p : Int × Int) :
    ∃ v' H1 H' F', R mp f [v, .int .i64 (j : Int), .slice (some ⟨H.length, 0, none⟩) 1 1] (H ++ [.cells ⟨2, true, true⟩ [.int .i64 p.1, .int .i64 p.2]]) = some (v', H1) ∧ meff (.st 1) [.pointer (some ⟨t, k, none⟩), v'] H1 = some (.tuple #[], H') ∧
      ((Pt t i (cs.set k v') * OwnP 2 v' (prv (putAt ps j p))) * S) H' F' ∧ Upd H F H' F' := by
  have g1 := Pt.good (t := t) (i := i) (cs := cs)
  have g2 := OwnP.good (es := 2) (v := v) (l := prv ps)
  have h1 := ((g1.star g2).star s).ext h (H1 := H ++ [.cells ⟨2, true, true⟩ [.int .i64 p.1, .int .i64 p.2]]) ⟨_, rfl⟩
  have hlt := ((g1.star g2).star s).lt h
  have hV : (H ++ [MObj.cells ⟨2, true, true⟩ [.int .i64 p.1, .int .i64 p.2]])[H.length]? = some (.cells ⟨2, true, true⟩ [.int .i64 p.1, .int .i64 p.2]) := by simp
  obtain ⟨v', H1, F1, q, u, ha⟩ := star_upd (P' := fun v' => OwnP 2 v' (prv (putAt ps j p))) (C := fun v' H' => R mp f [v, .int .i64 (j : Int), .slice (some ⟨H.length, 0, none⟩) 1 1] (H ++ [.cells ⟨2, true, true⟩ [.int .i64 p.1, .int .i64 p.2]]) = some (v', H')) (s.star g1) (fun _ => OwnP.good) (star_assoc (star_comm (star_assoc h1))) (fun A hA hAF => by
    obtain ⟨v', H', F', a1, a2, a3⟩ := R_insert (mp := mp) hf hA (prv_one ps) (prv_len ps) hj (by omega) hb (bv := H.length) (cv := 1) (iv := ⟨2, true, true⟩) (xs := [.int .i64 p.1, .int .i64 p.2]) hV (fun hh => by have := hlt _ (hAF _ hh); omega) rfl rfl rfl rfl (by omega)
    rw [prv_ins] at a2
    exact ⟨v', H', F', a2, a3, a1⟩)
  have q' : ((Pt t i cs * OwnP 2 v' (prv (putAt ps j p))) * S) H1 F1 := star_assoc' (star_comm (star_assoc' q))
  obtain ⟨B, hB, _⟩ := star_l q
  obtain ⟨H', e, q2, u2⟩ := fld_put2 (v := v') OwnP.good s q' hrw hk hB.one
  exact ⟨v', H1, H', F1, ha, e, q2, ((Upd.push (G := F) fun _ h => .inl h).trans u).trans u2⟩
theorem del_fldp {f : FuncId} (hf : mp f = some (.code (cDelete 2 16 [.int .i64 0, .int .i64 0]))) {ps : List (Int × Int)} {S : HP} (s : Good S) (h : ((Pt t i cs * OwnP 2 v (prv ps)) * S) H F) (hrw : i.rw = true) (hk : k < cs.length) {x y : Nat} (hxy : x ≤ y) (hy : y ≤ ps.length) (hb : ps.length ≤ 1000000) :
    ∃ v' H1 H' F', R mp f [v, .int .i64 (x : Int), .int .i64 (y : Int)] H = some (v', H1) ∧ meff (.st 1) [.pointer (some ⟨t, k, none⟩), v'] H1 = some (.tuple #[], H') ∧
      ((Pt t i (cs.set k v') * OwnP 2 v' (prv (ps.take x ++ ps.drop y))) * S) H' F' ∧ Upd H F H' F' := by
  have g1 := Pt.good (t := t) (i := i) (cs := cs)
  obtain ⟨v', H1, F1, q, u, ha⟩ := star_upd (P' := fun v' => OwnP 2 v' (prv (ps.take x ++ ps.drop y))) (C := fun v' H' => R mp f [v, .int .i64 (x : Int), .int .i64 (y : Int)] H = some (v', H')) (s.star g1) (fun _ => OwnP.good) (star_assoc (star_comm (star_assoc h))) (fun A hA _ => by
    obtain ⟨v', H', a1, a2, a3⟩ := R_delete (mp := mp) hf rfl rfl (by omega) hA (prv_one ps) (prv_len ps) hb (by omega) hxy hy
    rw [prv_cut] at a2
    exact ⟨v', H', A, a2, Upd.of_fp a3 (fun _ _ h => h) fun _ h => .inl h, a1⟩)
  have q' : ((Pt t i cs * OwnP 2 v' (prv (ps.take x ++ ps.drop y))) * S) H1 F1 := star_assoc' (star_comm (star_assoc' q))
  obtain ⟨B, hB, _⟩ := star_l q
  obtain ⟨H', e, q2, u2⟩ := fld_put2 (v := v') OwnP.good s q' hrw hk hB.one
  exact ⟨v', H1, H', F1, ha, e, q2, u.trans u2⟩
end

theorem own_push1 {H : MH} {F : List Nat} {v : Value} {l : List Value} {es bytes : Nat} (h : OwnA es v l H F) (hl : l.all one = true) {xs : List Value} (hx : xs.all one = true) (hxl : xs.length = es) (hes : 0 < es) (hb : l.length + es ≤ 1000000) (hbytes : bytes ≤ 4096) :
    ∃ a n c H' F', meff (.app es bytes) [v, .slice (some ⟨H.length, 0, none⟩) 1 1] (H ++ [.cells ⟨es, true, true⟩ xs]) = some (.slice a n c, H') ∧ OwnA es (.slice a n c) (l ++ xs) H' F' ∧ Upd H F H' F' := by
  have e : Ext H (H ++ [.cells ⟨es, true, true⟩ xs]) := ⟨_, rfl⟩
  have h1 := OwnA.good.ext h e
  obtain ⟨v', H', F', a1, a2, a3⟩ := own_appU (bytes := bytes) h1 hl (row_new (n := 1) (by omega)) hx hes (by omega) hbytes
  obtain ⟨a, n, c, rfl, _⟩ := (Own.row a2).slice
  exact ⟨a, n, c, H', F', a1, a2, (Upd.ext e).trans a3⟩
theorem Upd.toExt {H H' : MH} {G : List Nat} (u : Upd H [] H' G) : Ext H H' ∧ ∀ id ∈ G, H.length ≤ id :=
  ⟨Ext.of_fp (S := fun _ => False) (Ext.refl H) ⟨u.len, fun id h1 _ => u.same id h1 (by simp)⟩ fun _ h => h.elim, fun id h => (u.new id h).resolve_left (by simp)⟩

/-! ### the first one of an id -/
def cIxf_0 : MCode := .seq (.ops [⟨(some 9), .bin .lss, [.r 8, .r 7], none, []⟩]) <|
    .seq (.cond (.r 9)
      (.skip)
      (.exit 0)) <|
    .seq (.block 1 (.seq (.ops [⟨(some 10), .mov, [.r 8], none, [9]⟩,
        ⟨(some 5), .mov, [.r 10], none, [10]⟩]) <|
      .seq (.ops [⟨(some 11), .mov, [.r 1], none, []⟩,
        ⟨(some 12), .mov, [.r 0], none, []⟩,
        ⟨(some 13), .mov, [.r 5], none, []⟩,
        ⟨(some 14), .ia 2, [.r 12, .r 13], none, [12, 13]⟩,
        ⟨(some 15), .ld (some 2), [.r 14], none, [14]⟩,
        ⟨(some 16), .callv, [.r 11, .r 15], none, [11, 15]⟩]) <|
      .cond (.r 16)
        (.seq (.ops [⟨(some 17), .mov, [.r 5], none, [0, 1, 5, 7, 8, 16]⟩,
          ⟨(some 4), .mov, [.r 17], none, [17]⟩]) <|
        .ret)
        (.skip))) <|
    .ops [⟨(some 18), .bin .add, [.r 8, .k (.int .i64 1)], none, [5, 8, 16]⟩,
      ⟨(some 8), .mov, [.r 18], none, [18]⟩]
def cIxf : MFn := ⟨[.tmp 4], .seq (.ops [⟨(some 4), .mov, [.k (.int .i64 0)], none, [4]⟩]) <|
.seq (.seq (.ops [⟨(some 6), .mov, [.r 0], none, []⟩,
  ⟨(some 7), .len, [.r 6], none, [6]⟩,
  ⟨(some 8), .mov, [.k (.int .i64 0)], none, []⟩]) <|
.block 0 (.loop cIxf_0)) <|
.seq (.ops [⟨(some 4), .mov, [.k (.int .i64 (-1))], none, [0, 1, 7, 8, 9]⟩]) <|
.ret⟩
def cIsID : MFn := ⟨[.tmp 3], .seq (.ops [⟨(some 2), .box, [.r 0], none, [0]⟩,
  ⟨(some 3), .mov, [.k (.bool false)], none, [3]⟩]) <|
.seq (.ops [⟨(some 4), .fa 1, [.r 2], none, [2]⟩,
  ⟨(some 5), .ld none, [.r 4], none, [4]⟩,
  ⟨(some 6), .ld none, [.r 1], none, []⟩,
  ⟨(some 7), .bin .eql, [.r 5, .r 6], none, [5, 6]⟩,
  ⟨(some 3), .mov, [.r 7], none, [7]⟩]) <|
.ret⟩
theorem ids_get {ps : List (Int × Int)} {k : Nat} {p : Int × Int} (h : ps[k]? = some p) : (ps.map (·.2))[k]? = some p.2 := by simp [h]
section
variable {mp : FuncId → Option MDef} {f g : FuncId} {x : Int} {a : Option Addr} {n c bx : Nat} {ps : List (Int × Int)} {ix : Info}
theorem ixf_loop (hg : mp g = some (.code cIsID)) (hl : ps.length ≤ 1000000) : ∀ (k i : Nat) (H : MH), ps.length - i = k → i ≤ ps.length → Row 2 H (.slice a n c) (prv ps) → H[bx]? = some (.cells ix [.int .i64 x]) → (∀ j, j < i → (ps.map (·.2))[j]? ≠ some x) →
    (∃ (q : Nat) (X : MH), (ps.map (·.2))[q]? = some x ∧ (∀ j, j < q → (ps.map (·.2))[j]? ≠ some x) ∧ Rc mp (.loop cIxf_0) [(0, .slice a n c), (1, .func (.func g) #[] #[.pointer (some ⟨bx, 0, none⟩)]), (7, .int .i64 (n : Int)), (8, .int .i64 (i : Int))] H = some (.ret, [(4, .int .i64 (q : Int))], H ++ X)) ∨
    ((∀ j : Nat, (ps.map (·.2))[j]? ≠ some x) ∧ ∃ X : MH, Rc mp (.loop cIxf_0) [(0, .slice a n c), (1, .func (.func g) #[] #[.pointer (some ⟨bx, 0, none⟩)]), (7, .int .i64 (n : Int)), (8, .int .i64 (i : Int))] H = some (.exit 0, [(0, .slice a n c), (1, .func (.func g) #[] #[.pointer (some ⟨bx, 0, none⟩)]), (7, .int .i64 (n : Int)), (8, .int .i64 (n : Int)), (9, .bool false)], H ++ X)) := by
  intro k
  induction k with
  | zero =>
    intro i H hk hi hr hx hb
    have hn := hr.prn
    have hin : i = n := by omega
    subst hin
    refine .inr ⟨fun j => ?_, [], ?_⟩
    · rcases Nat.lt_or_ge j ps.length with h | h
      · exact hb j (by omega)
      · rw [List.getElem?_eq_none (by simpa using h)]; simp
    · rw [Rc_loop]
      simp [cIxf_0]
  | succ k ih =>
    intro i H hk hi hr hx hb
    have hn := hr.prn
    have hil : i < n := by omega
    obtain ⟨p, hp⟩ : ∃ p, ps[i]? = some p := ⟨_, List.getElem?_eq_getElem (by omega)⟩
    obtain ⟨_, b, o, j, cs, rfl, hB, h1, h2, h3⟩ := hr.pr hp
    have hbx := (List.getElem?_eq_some_iff.1 hx).1
    have hx1 : (H ++ [MObj.cells ⟨0, true, false⟩ [.int .i64 p.1, .int .i64 p.2]])[bx]? = some (.cells ix [.int .i64 x]) := get_app hx
    have hcall : R mp g [.agg #[.int .i64 p.1, .int .i64 p.2], .pointer (some ⟨bx, 0, none⟩)] H = some (.bool (p.2 == x), H ++ [.cells ⟨0, true, false⟩ [.int .i64 p.1, .int .i64 p.2]]) := by
      rw [R_code hg]
      simp [cIsID, ldx, hx1, hx]
    by_cases hxy : p.2 = x
    · refine .inl ⟨i, [.cells ⟨0, true, false⟩ [.int .i64 p.1, .int .i64 p.2]], by rw [ids_get hp, hxy], hb, ?_⟩
      have e : (p.2 == x) = true := by simpa using hxy
      rw [e] at hcall
      rw [Rc_loop]
      simp [cIxf_0, hil, h3, hcall]
    · have w : IntKind.i64.wrap ((i : Int) + 1) = (i : Int) + 1 := wrap_i64 (by omega) (by omega)
      have step : Rc mp (.loop cIxf_0) [(0, .slice (some ⟨b, o, none⟩) n c), (1, .func (.func g) #[] #[.pointer (some ⟨bx, 0, none⟩)]), (7, .int .i64 (n : Int)), (8, .int .i64 (i : Int))] H = Rc mp (.loop cIxf_0) [(0, .slice (some ⟨b, o, none⟩) n c), (1, .func (.func g) #[] #[.pointer (some ⟨bx, 0, none⟩)]), (7, .int .i64 (n : Int)), (8, .int .i64 ((i + 1 : Nat) : Int))] (H ++ [.cells ⟨0, true, false⟩ [.int .i64 p.1, .int .i64 p.2]]) := by
        have e : (p.2 == x) = false := by simpa using hxy
        rw [e] at hcall
        rw [Rc_loop]
        simp [cIxf_0, hil, h3, hcall, w]
      rw [step]
      rcases ih (i + 1) _ (by omega) (by omega) (Ext.row ⟨_, rfl⟩ hr) hx1 (fun j hj => by
        rcases Nat.lt_or_ge j i with h | h
        · exact hb j h
        · have : j = i := by omega
          subst this
          rw [ids_get hp]; simp; exact hxy) with ⟨q, X, e1, e2, e3⟩ | ⟨e1, X, e2⟩
      · exact .inl ⟨q, [.cells ⟨0, true, false⟩ [.int .i64 p.1, .int .i64 p.2]] ++ X, e1, e2, by rw [e3, List.append_assoc]⟩
      · exact .inr ⟨e1, [.cells ⟨0, true, false⟩ [.int .i64 p.1, .int .i64 p.2]] ++ X, by rw [e2, List.append_assoc]⟩
theorem R_ixf {H : MH} (hf : mp f = some (.code cIxf)) (hg : mp g = some (.code cIsID)) (hr : Row 2 H (.slice a n c) (prv ps)) (hl : ps.length ≤ 1000000) (hx : H[bx]? = some (.cells ix [.int .i64 x])) :
    ∃ X, R mp f [.slice a n c, .func (.func g) #[] #[.pointer (some ⟨bx, 0, none⟩)]] H = some (.int .i64 (ixOf x (ps.map (·.2))), H ++ X) := by
  rcases ixf_loop (mp := mp) hg hl ps.length 0 H rfl (Nat.zero_le _) hr hx (fun j hj => by omega) with ⟨q, X, h1, h2, h3⟩ | ⟨h1, X, h2⟩
  · refine ⟨X, ?_⟩
    rw [R_code hf, ixOf_some h1 h2]
    simp at h3
    simp [cIxf, h3]
  · refine ⟨X, ?_⟩
    rw [R_code hf, ixOf_none h1]
    simp at h2
    simp [cIxf, h2]
end
end Go.Mod

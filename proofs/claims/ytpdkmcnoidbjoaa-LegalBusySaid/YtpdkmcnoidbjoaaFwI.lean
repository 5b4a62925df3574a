/- The model's heap and the machine's memory; operations that read. -/
import Derived.Test.YtpdkmcnoidbjoaaFwH
set_option linter.unusedVariables false
set_option linter.unusedSimpArgs false
namespace Go.Mod

/-- What a model's object has to do with the block where it lies. -/
def ORel (φ : Ren) (w : World) (pl : Place) : MObj → Prop
  | .cells i c => i.es = pl.es ∧ i.ex = pl.ex ∧ ∃ rc elem lo hi, w.heap[pl.block]? = some (.cells rc elem (lo, hi)) ∧ c.length ≤ pl.room ∧ pl.base + pl.room ≤ rc.size ∧
      (∀ (j : Nat) (x : Value), c[j]? = some x → ∃ y, rc[pl.base + j]? = some y ∧ CRel φ x y) ∧ (i.rw = true → hi ≤ lo)
  | .map es => ∃ entries clock, w.heap[pl.block]? = some (.map entries clock) ∧ entries.size = es.length ∧ ∀ (j : Nat) (p : Int × Value) (e : MapEntry), es[j]? = some p → entries[j]? = some e → e.key = .int .i64 p.1 ∧ VRel φ p.2 e.val
  | .chan cap buf => ∃ rb s r, w.heap[pl.block]? = some (.chan cap rb false s r false) ∧ Rels (VRel φ) buf rb.toList
  | .dead => True

structure HRel (φ : Ren) (h : Nat → Option MObj) (w : World) : Prop where
  obj : ∀ id pl, φ id = some pl → ∃ o, h id = some o ∧ ORel φ w pl o
  lt : ∀ id pl, φ id = some pl → pl.block < w.heap.size
  sep : ∀ i j pi pj oi oj, φ i = some pi → φ j = some pj → h i = some oi → h j = some oj → oi.mut = true → oj.live = true → pi.block = pj.block → i = j

def hp (H : MH) : Nat → Option MObj := fun i => H[i]?

theorem ORel.mono {φ ψ : Ren} {w w' : World} {pl : Place} {o : MObj} (hle : φ.le ψ) (hb : w'.heap[pl.block]? = w.heap[pl.block]?) (h : ORel φ w pl o) : ORel ψ w' pl o := by
  cases o with
  | cells i c =>
    obtain ⟨h1, h2, rc, elem, lo, hi, h3, h4, h5, h6, h7⟩ := h
    exact ⟨h1, h2, rc, elem, lo, hi, by rw [hb]; exact h3, h4, h5, fun j x hx => by obtain ⟨y, hy, hr⟩ := h6 j x hx; exact ⟨y, hy, hr.mono hle⟩, h7⟩
  | map es =>
    obtain ⟨en, cl, h1, h2, h3⟩ := h
    exact ⟨en, cl, by rw [hb]; exact h1, h2, fun j p e hp he => ⟨(h3 j p e hp he).1, (h3 j p e hp he).2.mono hle⟩⟩
  | chan cap buf =>
    obtain ⟨rb, s, r, h1, h2⟩ := h
    exact ⟨rb, s, r, by rw [hb]; exact h1, h2.imp fun _ _ => VRel.mono hle⟩
  | dead => trivial

section
variable {P : Program} {o : Oper} {ρ : Operand → Value} {w : World} {φ : Ren} {vs : List Value} {v : Value} {op : MOp} {xs : List Operand} {H : MH}

theorem HRel.cells (h : HRel φ (hp H) w) {id : Nat} {pl : Place} (hφ : φ id = some pl) {i : Info} {c : List Value} (hH : H[id]? = some (.cells i c)) : ORel φ w pl (.cells i c) := by
  obtain ⟨ob, h1, h2⟩ := h.obj id pl hφ
  unfold hp at h1
  rw [hH] at h1; cases h1; exact h2
theorem HRel.at (h : HRel φ (hp H) w) {id : Nat} {pl : Place} (hφ : φ id = some pl) {ob : MObj} (hH : H[id]? = some ob) : ORel φ w pl ob := by
  obtain ⟨ob', h1, h2⟩ := h.obj id pl hφ
  unfold hp at h1
  rw [hH] at h1; cases h1; exact h2

/-- A cell of a block. -/
theorem cell_of {rc : Array Value} {elem : TypeId} {lo hi b i : Nat} {y : Value} (hb : w.heap[b]? = some (.cells rc elem (lo, hi))) (hy : rc[i]? = some y) : w.cell? ⟨b, i, none⟩ = some y := by
  simp [World.cell?, hb, hy]

theorem ORel.cell {pl : Place} {i : Info} {c : List Value} (h : ORel φ w pl (.cells i c)) {j : Nat} {x : Value} (hx : c[j]? = some x) : ∃ y, w.cell? ⟨pl.block, pl.base + j, none⟩ = some y ∧ CRel φ x y := by
  obtain ⟨_, _, rc, elem, lo, hi, h3, h4, h5, h6, h7⟩ := h
  obtain ⟨y, hy, hr⟩ := h6 j x hx
  exact ⟨y, cell_of h3 hy, hr⟩

/-- A row of cells that is loaded. -/
theorem ORel.row {pl : Place} {i : Info} {c : List Value} (h : ORel φ w pl (.cells i c)) (o n : Nat) (hn : o + n ≤ c.length) :
    ∃ ys, (loadCells ⟨pl.block, pl.base + o, none⟩ n).run P w = .ok ys.toArray w ∧ Rels (CRel φ) ((c.drop o).take n) ys := by
  have key : ∀ j, j < n → ∃ y, w.cell? ⟨pl.block, pl.base + o + j, none⟩ = some y ∧ CRel φ (c.getD (o + j) undef) y := by
    intro j hj
    obtain ⟨y, hy, hr⟩ := h.cell (j := o + j) (x := c.getD (o + j) undef) (by simp [List.getElem?_eq_getElem (show o + j < c.length by omega)])
    exact ⟨y, by rw [← hy, Nat.add_assoc], hr⟩
  let f : Nat → Value := fun j => (w.cell? ⟨pl.block, pl.base + o + j, none⟩).getD undef
  refine ⟨(List.range n).map f, ?_, ?_⟩
  · rw [run_loadCells w _ n f]
    intro j hj
    obtain ⟨y, hy, _⟩ := key j hj
    rw [Addr.add_eq, hy]
    simp [f, hy]
  · refine Rels.of_get (by simp; omega) fun j x y hx hy => ?_
    have hj : j < n := by
      have := (List.getElem?_eq_some_iff.1 hy).1
      simpa using this
    obtain ⟨y', hy', hr⟩ := key j hj
    simp only [List.getElem?_map, List.getElem?_range hj, Option.map_some, Option.some.injEq] at hy
    rw [List.getElem?_take_of_lt hj, List.getElem?_drop] at hx
    have hx' : c.getD (o + j) undef = x := by simp [List.getD, hx]
    subst hy
    rw [← hx']
    simpa [f, hy'] using hr

theorem Rels.toV {xs ys : List Value} (h : Rels (CRel φ) xs ys) (hu : xs.all (fun v => !isUnk v) = true) : Rels (VRel φ) xs ys := by
  induction h with
  | nil => exact .nil
  | cons h t ih =>
    simp only [List.all_cons, Bool.and_eq_true] at hu
    refine .cons ?_ (ih hu.2)
    rcases h with h | h
    · simp [h] at hu
    · exact h

theorem ld_sim {t : TypeId} {a : Operand} {l : Option Nat} (ho : o.op = .load t a) (hl : ldOf P t = some l) (hh : HRel φ (hp H) w) (hr : Rels (VRel φ) vs ([a].map ρ)) (hm : mread (.ld l) vs H = some v) : Yields P o ρ w φ v := by
  obtain ⟨x, rfl, hx⟩ := rels1 hr
  unfold mread at hm
  split at hm <;> first | contradiction | skip
  · rename_i heq hv; cases heq; cases hv
    split at hm <;> first | contradiction | skip
    rename_i i c hH
    split at hm <;> first | contradiction | skip
    rename_i y hy
    split at hm <;> first | contradiction | skip
    rename_i hu
    cases hm
    generalize hva : ρ a = a' at hx
    cases hx with
    | ptr hφ =>
    obtain ⟨y', hy', hrel⟩ := (hh.cells hφ hH).cell hy
    rcases ldOf_cases hl with ⟨_, ha⟩ | ⟨n, h, _⟩
    · refine ⟨y', ?_, hrel.resolve_left hu⟩
      simp [execOp, ho, hva, Instr.loadAt, Instr.sureAddr, loadVar, aggOf_sim ha, hy']
    · cases h
  · rename_i heq hv; cases heq; cases hv
    split at hm <;> first | contradiction | skip
    rename_i i c hH
    split at hm <;> first | contradiction | skip
    rename_i hc
    cases hm
    generalize hva : ρ a = a' at hx
    cases hx with
    | ptr hφ =>
    rcases ldOf_cases hl with ⟨h, _⟩ | ⟨m, h, ha, hs⟩
    · cases h
    · cases h
      obtain ⟨ys, hrun, hrel⟩ := (hh.cells hφ hH).row (P := P) _ _ hc.1
      refine ⟨.agg ys.toArray, ?_, VRel.agg_of (hrel.toV hc.2)⟩
      simp [execOp, ho, hva, Instr.loadAt, Instr.sureAddr, loadVar, aggOf_sim ha, szOf_sim hs, hrun]

theorem slBounds_sim {lo hi mx : Option Operand} {bs : List Value} {len cap cap' l h m : Nat} (hr : Rels (VRel φ) bs ((lo.toList ++ hi.toList ++ mx.toList).map ρ)) (hcap : cap ≤ cap') (hlen : len ≤ cap)
    (hb : slBound lo.isSome hi.isSome mx.isSome len cap bs = some (l, h, m)) :
    ∃ m', (Instr.sliceBounds true len cap' (lo.map ρ) (hi.map ρ) (mx.map ρ)).run P w = .ok (l, h, m') w ∧ l ≤ h ∧ h ≤ m ∧ m ≤ cap ∧ m ≤ m' ∧ m' ≤ cap' ∧ (cap' = cap → m' = m) := by
  unfold slBound at hb
  split at hb <;> first | contradiction | skip
  · rename_i hlo hhi hmx
    split at hb <;> first | contradiction | skip
    rename_i hc
    cases hb
    obtain ⟨x, rfl⟩ := Option.isSome_iff_exists.1 hlo
    obtain ⟨y, rfl⟩ := Option.isSome_iff_exists.1 hhi
    obtain ⟨z, rfl⟩ := Option.isSome_iff_exists.1 hmx
    simp at hr
    obtain ⟨_, _, _, heq, r1, r2, r3⟩ := rels3 hr
    cases heq
    generalize ho1 : ρ x = x' at r1; generalize ho2 : ρ y = y' at r2; generalize ho3 : ρ z = z' at r3
    cases r1; cases r2; cases r3
    refine ⟨_, ?_, by omega, by omega, by omega, Nat.le_refl _, by omega, fun _ => rfl⟩
    simp only [Option.map_some, ho1, ho2, ho3, Instr.sliceBounds, Instr.sliceBound, asIntOf, Sem.run_bind, Sem.run_pure, Result.andThen_ok]
    rw [if_pos (by omega)]
    simp only [Sem.run_pure, Result.andThen_ok]
    rw [if_pos (by omega)]
    simp only [Sem.run_pure, Result.andThen_ok]
    rw [if_pos (by omega)]
    rfl
  · rename_i hlo hhi hmx
    split at hb <;> first | contradiction | skip
    rename_i hc
    cases hb
    obtain ⟨x, rfl⟩ := Option.isSome_iff_exists.1 hlo
    obtain ⟨y, rfl⟩ := Option.isSome_iff_exists.1 hhi
    have hz : mx = none := by cases mx <;> simp_all
    subst hz
    simp at hr
    obtain ⟨_, _, heq, r1, r2⟩ := rels2 hr
    cases heq
    generalize ho1 : ρ x = x' at r1; generalize ho2 : ρ y = y' at r2
    cases r1; cases r2
    refine ⟨cap', ?_, by omega, by omega, Nat.le_refl _, hcap, Nat.le_refl _, fun h => h⟩
    simp only [Option.map_some, Option.map_none, ho1, ho2, Instr.sliceBounds, Instr.sliceBound, asIntOf, Sem.run_bind, Sem.run_pure, Result.andThen_ok]
    rw [if_pos (by omega)]
    simp only [Sem.run_pure, Result.andThen_ok]
    rw [if_pos (by omega)]
    rfl
  · rename_i hlo hhi hmx
    split at hb <;> first | contradiction | skip
    rename_i hc
    cases hb
    obtain ⟨x, rfl⟩ := Option.isSome_iff_exists.1 hlo
    have hy : hi = none := by cases hi <;> simp_all
    have hz : mx = none := by cases mx <;> simp_all
    subst hy; subst hz
    simp at hr
    obtain ⟨_, heq, r1⟩ := rels1 hr
    cases heq
    generalize ho1 : ρ x = x' at r1
    cases r1
    refine ⟨cap', ?_, by omega, by omega, Nat.le_refl _, hcap, Nat.le_refl _, fun h => h⟩
    simp only [Option.map_some, Option.map_none, ho1, Instr.sliceBounds, Instr.sliceBound, asIntOf, Sem.run_bind, Sem.run_pure, Result.andThen_ok]
    rw [if_pos (by omega)]
    rfl
  · rename_i hlo hhi hmx
    split at hb <;> first | contradiction | skip
    rename_i hc
    cases hb
    obtain ⟨y, rfl⟩ := Option.isSome_iff_exists.1 hhi
    have hx : lo = none := by cases lo <;> simp_all
    have hz : mx = none := by cases mx <;> simp_all
    subst hx; subst hz
    simp at hr
    obtain ⟨_, heq, r1⟩ := rels1 hr
    cases heq
    generalize ho1 : ρ y = x' at r1
    cases r1
    refine ⟨cap', ?_, by omega, by omega, Nat.le_refl _, hcap, Nat.le_refl _, fun h => h⟩
    simp only [Option.map_some, Option.map_none, ho1, Instr.sliceBounds, Instr.sliceBound, asIntOf, Sem.run_bind, Sem.run_pure, Result.andThen_ok]
    rw [if_pos (by omega)]
    rfl
  · rename_i hlo hhi hmx
    cases hb
    have hx : lo = none := by cases lo <;> simp_all
    have hy : hi = none := by cases hi <;> simp_all
    have hz : mx = none := by cases mx <;> simp_all
    subst hx; subst hy; subst hz
    refine ⟨cap', ?_, by omega, by omega, Nat.le_refl _, hcap, Nat.le_refl _, fun h => h⟩
    simp [Instr.sliceBounds]

theorem sl_sim {t e : TypeId} {x : Operand} {lo hi mx : Option Operand} {n : Nat} (ho : o.op = .slice t x lo hi mx) (ht : P.underlying t = some (.slice e)) (hs : szOf P e = some n)
    (hh : HRel φ (hp H) w) (hr : Rels (VRel φ) vs ((x :: (lo.toList ++ hi.toList ++ mx.toList)).map ρ)) (hm : mread (.sl n lo.isSome hi.isSome mx.isSome) vs H = some v) : Yields P o ρ w φ v := by
  simp only [List.map_cons] at hr
  cases hr with
  | cons hx hr =>
  have run : ∀ a len cap l h m, ρ x = .slice a len cap → (Instr.sliceBounds true len cap (lo.map ρ) (hi.map ρ) (mx.map ρ)).run P w = .ok (l, h, m) w →
      (execOp ρ o).run P w = .ok (.value (.slice (if m = l then a else a.map (·.add (l * n))) (h - l) (m - l))) w := by
    intro a len cap l h m hs' hb
    simp [execOp, ho, hs', Instr.sliceAt, Instr.slice, run_underlying ht, hb, szOf_sim hs]
  unfold mread at hm
  split at hm <;> first | contradiction | skip
  · rename_i h1 h2; cases h1; cases h2
    split at hm <;> first | contradiction | skip
    rename_i q hb
    obtain ⟨l, h, m⟩ := q
    cases hm
    obtain ⟨m', hrun, hl1, hl2, hl3, hl4, hl5, hl6⟩ := slBounds_sim (P := P) (w := w) hr (Nat.le_refl 0) (Nat.le_refl 0) hb
    generalize hva : ρ x = a' at hx
    cases hx
    refine ⟨_, run none 0 0 l h m' hva hrun, ?_⟩
    have : l = 0 := by omega
    have : h = 0 := by omega
    have : m' = 0 := by omega
    subst_vars
    exact .slice0
  · rename_i h1 h2; cases h1; cases h2
    split at hm <;> first | contradiction | skip
    rename_i i c hH
    split at hm <;> first | contradiction | skip
    rename_i hes
    split at hm <;> first | contradiction | skip
    rename_i l h m hb
    cases hm
    generalize hva : ρ x = a' at hx
    cases hx with
    | slicee =>
      obtain ⟨m', hrun, hl1, hl2, hl3, hl4, hl5, hl6⟩ := slBounds_sim (P := P) (w := w) hr (Nat.le_refl 0) (Nat.le_refl 0) hb
      refine ⟨_, run _ _ _ l h m' hva hrun, ?_⟩
      have : l = 0 := by omega
      have : h = 0 := by omega
      have : m' = 0 := by omega
      have : m = 0 := by omega
      subst_vars
      simp only [if_true, Nat.sub_self, Nat.zero_mul, Nat.add_zero]
      exact .slicee
    | slice hφ hn hc hex hroom ha =>
    obtain ⟨m', hrun, hl1, hl2, hl3, hl4, hl5, hl6⟩ := slBounds_sim (P := P) (w := w) hr hc hn hb
    have hrow := hh.cells hφ hH
    have he1 := hrow.1
    clear hrow
    refine ⟨_, run _ _ _ l h m' hva hrun, ?_⟩
    rename_i pl
    have hpe : pl.es = n := by rw [← he1, hes]
    by_cases hml : m' = l
    · rw [if_pos hml]
      subst hml
      refine .slice hφ (by omega) (by omega) (fun hx => by have := hl6 (hex hx); omega) ?_ (fun h => by omega)
      simp only [Nat.sub_self, Nat.zero_mul, Nat.add_zero]
      refine Nat.le_trans ?_ hroom
      rw [hpe]
      exact Nat.add_le_add_left (Nat.mul_le_mul_right _ (by omega)) _
    · rw [if_neg hml]
      simp only [Option.map_some, Addr.add_eq]
      have hb' := ha (by omega)
      subst hb'
      rw [Nat.add_assoc]
      refine .slice hφ (by omega) (by omega) (fun hx => by have := hl6 (hex hx); omega) ?_ (fun h => rfl)
      refine Nat.le_trans ?_ hroom
      rw [hpe, Nat.add_assoc, ← Nat.add_mul]
      exact Nat.add_le_add_left (Nat.mul_le_mul_right _ (by omega)) _

/-- Entries of a map, pairwise. -/
def Ents (φ : Ren) (es : List (Int × Value)) (en : List MapEntry) : Prop := en.length = es.length ∧ ∀ (j : Nat) (p : Int × Value) (e : MapEntry), es[j]? = some p → en[j]? = some e → e.key = .int .i64 p.1 ∧ VRel φ p.2 e.val
theorem Ents.tail {p : Int × Value} {es : List (Int × Value)} {e : MapEntry} {en : List MapEntry} (h : Ents φ (p :: es) (e :: en)) : e.key = .int .i64 p.1 ∧ VRel φ p.2 e.val ∧ Ents φ es en :=
  ⟨(h.2 0 p e (by simp) (by simp)).1, (h.2 0 p e (by simp) (by simp)).2, by have := h.1; simpa using this, fun j q f hq hf => h.2 (j + 1) q f (by simpa using hq) (by simpa using hf)⟩

/-- Where a key stands. -/
def mpos (k : Int) : List (Int × Value) → Option Nat
  | [] => none
  | (j, _) :: l => if k = j then some 0 else (mpos k l).map (· + 1)

theorem findNow_sim {k0 : IntKind} (k : Int) : ∀ (es : List (Int × Value)) (en : List MapEntry) (i : Nat), Ents φ es en →
    (mpos k es = none ∧ mlook k es = none ∧ Instr.findNow (.int k0) (.int .i64 k) en i = some none) ∨
    (∃ j v v', mpos k es = some j ∧ mlook k es = some v ∧ VRel φ v v' ∧ Instr.findNow (.int k0) (.int .i64 k) en i = some (some (i + j, v')))
  | [], en, i, h => by
    have : en = [] := List.eq_nil_of_length_eq_zero (by simpa using h.1)
    subst this
    exact .inl ⟨rfl, rfl, rfl⟩
  | (q, x) :: es, [], i, h => by have := h.1; simp at this
  | (q, x) :: es, e :: en, i, h => by
    obtain ⟨hk, hv, ht⟩ := h.tail
    by_cases hkq : k = q
    · subst hkq
      refine .inr ⟨0, x, e.val, by simp [mpos], by simp [mlook], hv, ?_⟩
      simp [Instr.findNow, hk, Instr.sameNow]
    · rcases findNow_sim (k0 := k0) k es en (i + 1) ht with ⟨h1, h2, h3⟩ | ⟨j, v, v', h1, h2, h3, h4⟩
      · refine .inl ⟨by simp [mpos, hkq, h1], by simp [mlook, hkq, h2], ?_⟩
        simp only [Instr.findNow, hk, Instr.sameNow, if_true, show (k == q) = false from by simpa using hkq]
        exact h3
      · refine .inr ⟨j + 1, v, v', by simp [mpos, hkq, h1], by simp [mlook, hkq, h2], h3, ?_⟩
        simp only [Instr.findNow, hk, Instr.sameNow, if_true, show (k == q) = false from by simpa using hkq]
        rw [h4, show i + 1 + j = i + (j + 1) by omega]

theorem run_checkKey {kt : TypeId} (hk : P.underlying kt = some (.int .i64)) (b : Bool) (n : Nat) (x : Int) : (Instr.checkKey b (n + 1) kt (.int .i64 x)).run P w = .ok () w := by
  unfold Instr.checkKey
  rw [Sem.run_bind, run_underlying hk]
  rfl

theorem run_getObj_map {b : Nat} {en : Array MapEntry} {cl : Nat} (h : w.heap[b]? = some (.map en cl)) : (getObj b).run P w = .ok (.map en cl) w := by
  simp [getObj, Sem.run, h]

theorem ents_of {pl : Place} {es : List (Int × Value)} (h : ORel φ w pl (.map es)) : ∃ en cl, w.heap[pl.block]? = some (.map en cl) ∧ Ents φ es en.toList := by
  obtain ⟨en, cl, h1, h2, h3⟩ := h
  exact ⟨en, cl, h1, by simpa using h2, fun j p e hp he => h3 j p e hp (by simpa using he)⟩

theorem look_sim {t kt e : TypeId} {m k : Operand} {ok : Bool} {z : Value} (ho : o.op = .lookup t m k ok) (ht : P.underlying t = some (.map kt e)) (hk : P.underlying kt = some (.int .i64)) (hz : zeroOf P e = some z)
    (hh : HRel φ (hp H) w) (hr : Rels (VRel φ) vs ([m, k].map ρ)) (hm : mread (.look z ok) vs H = some v) : Yields P o ρ w φ v := by
  obtain ⟨x, y, rfl, hx, hy⟩ := rels2 hr
  obtain ⟨hz1, hz2⟩ := zeroOf_sim (w := w) (φ := φ) hz
  have fin : ∀ (a a' : Value) (b : Bool), VRel φ a a' → VRel φ (if ok then .tuple #[a, .bool b] else a) (if ok then .tuple #[a', .bool b] else a') := by
    intro a a' b h
    cases ok
    · simpa using h
    · simp only [if_true]
      have := VRel.tuple_of (Rels.cons h (Rels.cons (VRel.bool b) .nil))
      simpa using this
  unfold mread at hm
  split at hm <;> first | contradiction | skip
  · rename_i h1 h2; cases h1; cases h2; cases hm
    generalize hX : ρ m = x' at hx; generalize hY : ρ k = y' at hy
    cases hx; cases hy
    refine ⟨_, ?_, fin z z false hz2⟩
    simp only [execOp, ho, hX, hY, Instr.lookup, Sem.run_bind, run_underlying ht, Result.andThen_ok, Sem.run_pure, run_checkKey hk _ 9999, Instr.findKey, run_underlying hk]
    simp only [Instr.findNow, Sem.run_bind, Sem.run_pure, Result.andThen_ok, hz1]
  · rename_i h1 h2; cases h1; cases h2
    split at hm <;> first | contradiction | skip
    rename_i es hH
    generalize hX : ρ m = x' at hx; generalize hY : ρ k = y' at hy
    cases hx with
    | map hφ =>
    cases hy
    obtain ⟨en, cl, hb, hen⟩ := ents_of (hh.at hφ hH)
    rcases findNow_sim (k0 := .i64) _ es en.toList 0 hen with ⟨h1, h2, h3⟩ | ⟨j, u, u', h1, h2, h3, h4⟩
    · rw [h2] at hm; cases hm
      refine ⟨_, ?_, fin z z false hz2⟩
      simp only [execOp, ho, hX, hY, Instr.lookup, Sem.run_bind, run_underlying ht, Result.andThen_ok, Sem.run_pure, run_getObj_map hb, run_checkKey hk _ 9999, Instr.findKey, run_underlying hk, h3, hz1]
    · rw [h2] at hm; cases hm
      refine ⟨_, ?_, fin u u' true h3⟩
      simp only [execOp, ho, hX, hY, Instr.lookup, Sem.run_bind, run_underlying ht, Result.andThen_ok, Sem.run_pure, run_getObj_map hb, run_checkKey hk _ 9999, Instr.findKey, run_underlying hk, h4]

theorem lenm_sim {c : Call} {kt e : TypeId} (ho : o.op = .call c) (hc : c.callee = .builtin .len) (hd : (c.argTypes[0]?).bind P.underlying = some (.map kt e))
    (hh : HRel φ (hp H) w) (hr : Rels (VRel φ) vs (c.args.toList.map ρ)) (hm : mread .lenm vs H = some v) : Yields P o ρ w φ v := by
  obtain ⟨t, ht, hu⟩ := type_arg hd
  rw [show c.args.toList.map ρ = (c.args.map ρ).toList by simp] at hr
  generalize hA : (c.args.map ρ).toList = A at hr
  unfold mread at hm
  split at hm <;> first | contradiction | skip
  · rename_i h2; cases hm
    cases hr with
    | cons hx tl =>
    cases tl
    have h0 := one_arg hA
    cases hx
    refine ⟨_, run_builtin ho hc ?_, .int ..⟩
    simp only [builtin, Builtin.len_, ht, h0, Sem.run_bind, run_underlying hu, Result.andThen_ok]
    rfl
  · rename_i h2
    split at hm <;> first | contradiction | skip
    rename_i es hH
    cases hm
    cases hr with
    | cons hx tl =>
    cases tl
    have h0 := one_arg hA
    cases hx with
    | map hφ =>
    obtain ⟨en, cl, hb, hen⟩ := ents_of (hh.at hφ hH)
    refine ⟨_, run_builtin ho hc ?_, .int ..⟩
    simp only [builtin, Builtin.len_, ht, h0, Sem.run_bind, run_underlying hu, Result.andThen_ok, run_getObj_map hb, Sem.run_pure]
    rw [show en.size = es.length by simpa using hen.1]
    rfl

theorem cap_sim {c : Call} {e : TypeId} (ho : o.op = .call c) (hc : c.callee = .builtin .cap) (hd : (c.argTypes[0]?).bind P.underlying = some (.slice e))
    (hh : HRel φ (hp H) w) (hr : Rels (VRel φ) vs (c.args.toList.map ρ)) (hm : mread .cap vs H = some v) : Yields P o ρ w φ v := by
  obtain ⟨t, ht, hu⟩ := type_arg hd
  rw [show c.args.toList.map ρ = (c.args.map ρ).toList by simp] at hr
  generalize hA : (c.args.map ρ).toList = A at hr
  unfold mread at hm
  split at hm <;> first | contradiction | skip
  · rename_i h2; cases hm
    cases hr with
    | cons hx tl =>
    cases tl
    have h0 := one_arg hA
    cases hx
    refine ⟨_, run_builtin ho hc ?_, .int ..⟩
    simp only [builtin, Builtin.cap_, ht, h0, Sem.run_bind, run_underlying hu, Result.andThen_ok]
    rfl
  · rename_i h2
    split at hm <;> first | contradiction | skip
    rename_i i cs hH
    split at hm <;> first | contradiction | skip
    rename_i hex
    cases hm
    cases hr with
    | cons hx tl =>
    cases tl
    have h0 := one_arg hA
    cases hx with
    | slicee =>
      refine ⟨_, run_builtin ho hc ?_, .int ..⟩
      simp only [builtin, Builtin.cap_, ht, h0, Sem.run_bind, run_underlying hu, Result.andThen_ok]
      rfl
    | slice hφ hn hcc hpx hroom ha =>
      have hrow := hh.cells hφ hH
      have := hpx (by rw [← hrow.2.1]; exact hex)
      subst this
      refine ⟨_, run_builtin ho hc ?_, .int ..⟩
      simp only [builtin, Builtin.cap_, ht, h0, Sem.run_bind, run_underlying hu, Result.andThen_ok]
      rfl

/-- What the compiler's answer says, but of operations that hang on their operands alone. -/
inductive COp (P : Program) : Op → MOp → List Operand → Prop
  | pure {op : Op} {m : MOp} {xs : List Operand} (hk : m.kind = .pure) : COp P op m xs
  | new0 {e : TypeId} {z : Value} (hz : zeroOf P e = some z) (n : Nat) : COp P (.alloc e) (.new n z.cells.toList) []
  | box {e : TypeId} {x : Operand} : COp P (.box e x) .box [x]
  | bslice {t e : TypeId} {len n : Nat} {parts : Array (Nat × Operand)} {z : Value} (hu : P.underlying t = some (.slice e)) (hs : szOf P e = some n) (hz : zeroOf P e = some z) :
      COp P (.buildSlice t len parts) (.bslice n len z.cells.toList (rowPlaces n parts.toList)) (parts.toList.map (·.2))
  | ld {t : TypeId} {a : Operand} {l : Option Nat} (hl : ldOf P t = some l) : COp P (.load t a) (.ld l) [a]
  | st {t : TypeId} {a x : Operand} {n : Nat} (hs : szOf P t = some n) : COp P (.store t a x) (.st n) [a, x]
  | mkmap {t : TypeId} : COp P (.makeMap t none) .mkmap []
  | mkchan {t e : TypeId} {d : ChanDir} {s : Operand} {n : Nat} (hu : P.underlying t = some (.chan d e)) (hb : bytesOf' P e = some n) : COp P (.makeChan t s) (.mkchan n) [s]
  | mslice {t e : TypeId} {l c : Operand} {n b : Nat} {z : Value} (hu : P.underlying t = some (.slice e)) (hs : szOf P e = some n) (hb : bytesOf' P e = some b) (hz : zeroOf P e = some z) (hn : n ≠ 0) :
      COp P (.makeSlice t l c) (.mslice n b z.cells.toList) [l, c]
  | sl {t e : TypeId} {x : Operand} {lo hi mx : Option Operand} {n : Nat} (hu : P.underlying t = some (.slice e)) (hs : szOf P e = some n) :
      COp P (.slice t x lo hi mx) (.sl n lo.isSome hi.isSome mx.isSome) (x :: (lo.toList ++ hi.toList ++ mx.toList))
  | look {t kt e : TypeId} {m k : Operand} {ok : Bool} {z : Value} (hu : P.underlying t = some (.map kt e)) (hk : P.underlying kt = some (.int .i64)) (hz : zeroOf P e = some z) : COp P (.lookup t m k ok) (.look z ok) [m, k]
  | mset {t kt e : TypeId} {m k v : Operand} (hu : P.underlying t = some (.map kt e)) (hk : P.underlying kt = some (.int .i64)) : COp P (.mapUpdate t m k v) .mset [m, k, v]
  | lenm {c : Call} {kt e : TypeId} (hc : c.callee = .builtin .len) (hd : (c.argTypes[0]?).bind P.underlying = some (.map kt e)) : COp P (.call c) .lenm c.args.toList
  | cap {c : Call} {e : TypeId} (hc : c.callee = .builtin .cap) (hd : (c.argTypes[0]?).bind P.underlying = some (.slice e)) : COp P (.call c) .cap c.args.toList
  | app {c : Call} {e : TypeId} {u : TypeDesc} {n b : Nat} {z : Value} (hc : c.callee = .builtin .append) (hd : (c.argTypes[0]?).bind P.underlying = some (.slice e)) (hu : (c.argTypes[1]?).bind P.underlying = some u)
      (hi : isIntD u = false) (hs : szOf P e = some n) (hb : bytesOf' P e = some b) (hz : zeroOf P e = some z) (hl : c.args.toList.length = 2) (hzl : z.cells.toList.length = n) : COp P (.call c) (.app n b) c.args.toList
  | appz {c : Call} {e : TypeId} {u : TypeDesc} {n b : Nat} {z : Value} (hc : c.callee = .builtin .append) (hd : (c.argTypes[0]?).bind P.underlying = some (.slice e)) (hu : (c.argTypes[1]?).bind P.underlying = some u)
      (hi : isIntD u = true) (hs : szOf P e = some n) (hb : bytesOf' P e = some b) (hz : zeroOf P e = some z) (hl : c.args.toList.length = 2) (hzl : z.cells.toList.length = n) : COp P (.call c) (.appz n b z.cells.toList) c.args.toList
  | copy {c : Call} {e : TypeId} {n : Nat} (hc : c.callee = .builtin .copy) (hd : (c.argTypes[0]?).bind P.underlying = some (.slice e)) (hs : szOf P e = some n) (hl : c.args.toList.length = 2) : COp P (.call c) (.copy n) c.args.toList
  | clear {c : Call} {e : TypeId} {n : Nat} {z : Value} (hc : c.callee = .builtin .clear) (hd : (c.argTypes[0]?).bind P.underlying = some (.slice e)) (hs : szOf P e = some n) (hz : zeroOf P e = some z) (hl : c.args.toList.length = 1) :
      COp P (.call c) (.clear n z.cells.toList) c.args.toList
  | mdel {c : Call} {kt e : TypeId} (hc : c.callee = .builtin .delete) (hd : (c.argTypes[0]?).bind P.underlying = some (.map kt e)) (hk : P.underlying kt = some (.int .i64)) (hl : c.args.toList.length = 2) : COp P (.call c) .mdel c.args.toList
  | call {c : Call} {f : FuncId} (hc : c.callee = .value (.func f)) : COp P (.call c) (.call f) c.args.toList
  | callv {c : Call} {x : Operand} (hc : c.callee = .value x) : COp P (.call c) .callv (x :: c.args.toList)
  | snd {ch x : Operand} : COp P (.send ch x) .snd [ch, x]
  | rcv {t e : TypeId} {d : ChanDir} {ch : Operand} {ok : Bool} {z : Value} (hu : P.underlying t = some (.chan d e)) (hz : zeroOf P e = some z) : COp P (.recv t ch ok) (.rcv z ok) [ch]
  | sel1 {cases : Array SelectCase} {b : Bool} {c : SelectCase} {x : Operand} {z : Value} (hc : cases.toList = [c]) (hs : c.send = some x) (hz : zeroOf P c.elem = some z) : COp P (.select cases b) (.sel1 true z b) [c.chan, x]

theorem cOp_inv {op : Op} {m : MOp} {xs : List Operand} (hc : cOp P op = some (m, xs)) : COp P op m xs := by
  unfold cOp at hc
  split at hc
  · cases hc; exact .pure rfl
  · cases hc; exact .pure rfl
  · cases hc; exact .pure rfl
  · split at hc <;> first | contradiction | skip
    · rename_i z k el hz hu
      cases hs : szOf P el with
      | none => simp [hs] at hc
      | some n => simp [hs] at hc; obtain ⟨rfl, rfl⟩ := hc; exact .new0 hz n
    · rename_i z _ hz hu; cases hc; exact .new0 hz 0
  · cases hc; exact .box
  · split at hc <;> first | contradiction | skip
    · rename_i z fs hz hu
      split at hc <;> first | contradiction | skip
      obtain ⟨l, _, hc⟩ := Option.map_eq_some_iff.1 hc
      cases hc; exact .pure rfl
    · obtain ⟨l, _, hc⟩ := Option.map_eq_some_iff.1 hc
      cases hc; exact .pure rfl
  · split at hc <;> first | contradiction | skip
    rename_i hu
    split at hc <;> first | contradiction | skip
    rename_i hs hz
    cases hc; exact .bslice hu hs hz
  · obtain ⟨l, hl, hc⟩ := Option.map_eq_some_iff.1 hc
    cases hc; exact .ld hl
  · obtain ⟨l, hl, hc⟩ := Option.map_eq_some_iff.1 hc
    cases hc; exact .st hl
  · cases hc; exact .pure rfl
  · split at hc
    · split at hc
      · cases hc; exact .pure rfl
      · obtain ⟨l, hl, hc⟩ := Option.map_eq_some_iff.1 hc
        cases hc; exact .pure rfl
    · split at hc
      · cases hc; exact .pure rfl
      · obtain ⟨l, hl, hc⟩ := Option.map_eq_some_iff.1 hc
        cases hc; exact .pure rfl
    · cases hc; exact .pure rfl
  · cases hc; exact .pure rfl
  · split at hc <;> first | contradiction | skip
    cases hc; exact .pure rfl
  · split at hc <;> first | contradiction | skip
    cases hc; exact .pure rfl
  · cases hc; exact .mkmap
  · split at hc <;> first | contradiction | skip
    rename_i hu
    obtain ⟨l, hl, hc⟩ := Option.map_eq_some_iff.1 hc
    cases hc; exact .mkchan hu hl
  · split at hc <;> first | contradiction | skip
    rename_i hu
    split at hc <;> first | contradiction | skip
    rename_i hs hb hz
    split at hc <;> first | contradiction | skip
    rename_i hn
    cases hc; exact .mslice hu hs hb hz hn
  · split at hc <;> first | contradiction | skip
    · rename_i hu
      obtain ⟨l, hl, hc⟩ := Option.map_eq_some_iff.1 hc
      cases hc; exact .sl hu hl
    · split at hc <;> first | contradiction | skip
      cases hc; exact .pure rfl
  · split at hc <;> first | contradiction | skip
    split at hc <;> first | contradiction | skip
    split at hc <;> first | contradiction | skip
    cases hc; exact .pure rfl
  · split at hc <;> first | contradiction | skip
    split at hc <;> first | contradiction | skip
    obtain ⟨l, hl, hc⟩ := Option.map_eq_some_iff.1 hc
    cases hc; cases l <;> exact .pure rfl
  · split at hc <;> first | contradiction | skip
    all_goals
      obtain ⟨l, hl, hc⟩ := Option.map_eq_some_iff.1 hc
      cases hc; exact .pure rfl
  · split at hc <;> first | contradiction | skip
    · cases hc; exact .pure rfl
    · split at hc <;> first | contradiction | skip
      rename_i l _ _
      cases hc; cases l <;> exact .pure rfl
  · split at hc <;> first | contradiction | skip
    rename_i hu
    split at hc <;> first | contradiction | skip
    rename_i hk' hz
    cases hc; exact .look hu hk' hz
  · split at hc <;> first | contradiction | skip
    rename_i hu
    split at hc <;> first | contradiction | skip
    rename_i hk'
    cases hc; exact .mset hu hk'
  · cases hc; exact .pure rfl
  · split at hc <;> first | contradiction | skip
    · rename_i b hcal
      unfold cBuiltin at hc
      simp only [] at hc
      split at hc <;> first | contradiction | skip
      · split at hc <;> first | contradiction | skip
        · cases hc; exact .pure rfl
        · cases hc; exact .pure rfl
        · rename_i hd; cases hc; exact .lenm hcal hd
      · split at hc <;> first | contradiction | skip
        rename_i hd; cases hc; exact .cap hcal hd
      · split at hc <;> first | contradiction | skip
        rename_i hd hu
        split at hc <;> first | contradiction | skip
        · rename_i hi hs hb hz
          split at hc <;> first | contradiction | skip
          rename_i hl
          cases hc; exact .app hcal hd hu hi hs hb hz hl.1 hl.2
        · rename_i hi hs hb hz
          split at hc <;> first | contradiction | skip
          rename_i hl
          cases hc; exact .appz hcal hd hu hi hs hb hz hl.1 hl.2
      · split at hc <;> first | contradiction | skip
        rename_i hd
        split at hc <;> first | contradiction | skip
        rename_i hs
        split at hc <;> first | contradiction | skip
        rename_i hl
        cases hc; exact .copy hcal hd hs hl
      · split at hc <;> first | contradiction | skip
        rename_i hd
        split at hc <;> first | contradiction | skip
        rename_i hs hz
        split at hc <;> first | contradiction | skip
        rename_i hl
        cases hc; exact .clear hcal hd hs hz hl
      · cases hc; exact .pure rfl
      · cases hc; exact .pure rfl
      · split at hc <;> first | contradiction | skip
        rename_i hd
        split at hc <;> first | contradiction | skip
        rename_i hk
        split at hc <;> first | contradiction | skip
        rename_i hl
        cases hc; exact .mdel hcal hd hk hl
    · rename_i hcal; cases hc; exact .call hcal
    · rename_i hcal; cases hc; exact .callv hcal
  · cases hc; exact .snd
  · split at hc <;> first | contradiction | skip
    rename_i hu
    obtain ⟨l, hl, hc⟩ := Option.map_eq_some_iff.1 hc
    cases hc; exact .rcv hu hl
  · split at hc <;> first | contradiction | skip
    rename_i hcs
    split at hc <;> first | contradiction | skip
    rename_i hs hz
    cases hc; exact .sel1 hcs hs hz
  · cases hc

theorem read_sim (hc : cOp P o.op = some (op, xs)) (hk : op.kind = .read) (hh : HRel φ (hp H) w) (hr : Rels (VRel φ) vs (xs.map ρ)) (hm : mread op vs H = some v) : Yields P o ρ w φ v := by
  have hi := cOp_inv hc
  generalize ho : o.op = oo at hi
  cases hi <;> first | (cases hk; done) | skip
  case pure h => rw [h] at hk; cases hk
  case ld hl => exact ld_sim ho hl hh hr hm
  case sl hu hs => exact sl_sim ho hu hs hh hr hm
  case look hu hk' hz => exact look_sim ho hu hk' hz hh hr hm
  case lenm hc' hd => exact lenm_sim ho hc' hd hh hr hm
  case cap hc' hd => exact cap_sim ho hc' hd hh hr hm
end
end Go.Mod

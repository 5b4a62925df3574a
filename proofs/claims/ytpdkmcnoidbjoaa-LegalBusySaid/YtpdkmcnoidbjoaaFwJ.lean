/- Operations that make one new object. -/
import Derived.Test.YtpdkmcnoidbjoaaFwI
set_option linter.unusedVariables false
set_option linter.unusedSimpArgs false
namespace Go.Mod

def Ren.set (φ : Ren) (b : Nat) (pl : Place) : Ren := fun i => if i = b then some pl else φ i
theorem Ren.set_self (φ : Ren) (b : Nat) (pl : Place) : φ.set b pl b = some pl := by simp [Ren.set]
theorem Ren.set_ne (φ : Ren) {b i : Nat} (pl : Place) (h : i ≠ b) : φ.set b pl i = φ i := by simp [Ren.set, h]
theorem Ren.le_set {φ : Ren} {b : Nat} (pl : Place) (h : φ b = none) : φ.le (φ.set b pl) := fun i p hi => by
  by_cases e : i = b
  · subst e; rw [h] at hi; cases hi
  · rw [Ren.set_ne _ _ e]; exact hi

theorem range_mod (z : List Value) (n : Nat) (hn : z.length = n) : ∀ len : Nat, (List.range (len * n)).map (fun i => z[i % n]!) = (List.replicate len z).flatten
  | 0 => by simp
  | len + 1 => by
    rw [List.replicate_succ', List.flatten_append, ← range_mod z n hn len, Nat.succ_mul, List.range_add, List.map_append]
    congr 1
    simp only [List.map_map, List.flatten_cons, List.flatten_nil, List.append_nil]
    apply List.ext_getElem?
    intro i
    by_cases hi : i < n
    · simp only [List.getElem?_map, List.getElem?_range hi, Option.map_some, Function.comp_apply]
      rw [show (len * n + i) % n = i by rw [Nat.mul_comm, Nat.mul_add_mod, Nat.mod_eq_of_lt hi]]
      simp [List.getElem?_eq_getElem (show i < z.length by omega), List.getElem!_eq_getElem?_getD]
    · rw [List.getElem?_eq_none (by simp; omega), List.getElem?_eq_none (by omega)]

theorem zeros_row (z : Array Value) (n len : Nat) (hn : z.toList.length = n) : ((Array.range (len * n)).map (fun i => z[i % z.size]!)).toList = (List.replicate len z.toList).flatten := by
  rw [← range_mod z.toList n hn len]
  simp only [Array.toList_map, Array.toList_range]
  apply List.map_congr_left
  intro i _
  have : z.size = n := by simpa using hn
  rw [this]
  simp [Array.getElem!_eq_getD, Array.getD_eq_getD_getElem?]

theorem rels_flatten {R : Value → Value → Prop} {xs ys : List Value} (h : Rels R xs ys) : ∀ n : Nat, Rels R (List.replicate n xs).flatten (List.replicate n ys).flatten
  | 0 => .nil
  | n + 1 => by simp only [List.replicate_succ, List.flatten_cons]; exact h.append (rels_flatten h n)

theorem wrap_small {n : Int} (h0 : 0 ≤ n) (h1 : n ≤ 1073741824) : IntKind.i64.wrap n = n := by
  simp only [IntKind.wrap, IntKind.bits, IntKind.signed]
  simp
  omega

section
variable {P : Program} {o : Oper} {ρ : Operand → Value} {w : World} {φ : Ren} {vs : List Value} {v : Value} {op : MOp} {xs : List Operand} {H : MH}

theorem heap_new (w : World) (ob : Obj) : (w.alloc ob).heap[w.heap.size]? = some ob := by
  show (w.heap.push ob)[w.heap.size]? = some ob
  simp

/-- A new row of cells. -/
theorem ORel.new {c : List Value} {rc : Array Value} {elem : TypeId} (i : Info) (hr : Rels (CRel φ) c rc.toList) :
    ORel φ (w.alloc (.cells rc elem)) ⟨w.heap.size, 0, rc.size, i.es, i.ex⟩ (.cells i c) := by
  refine ⟨rfl, rfl, rc, elem, 0, 0, heap_new .., ?_, by simp, fun j x hx => ?_, fun _ => Nat.le_refl _⟩
  · have := hr.length; simp at this; simp [this]
  · obtain ⟨y, hy, hrel⟩ := hr.get j x hx
    exact ⟨y, by simpa using hy, hrel⟩

theorem malloc_bslice (es len : Nat) (zero : List Value) (l : List (Nat × Nat)) (vs : List Value) (b : Nat) : malloc (.bslice es len zero l) vs b =
    match fillAll (List.replicate len zero).flatten l vs with
    | some c => if zero.length = es ∧ len * es ≤ 16777216 then some (.cells ⟨es, true, true⟩ c, .slice (some ⟨b, 0, none⟩) len len) else none
    | none => none := by
  rcases vs with _ | ⟨a, _ | ⟨c, _ | ⟨d, _⟩⟩⟩ <;> rfl
theorem fillAll_length : ∀ (ps : List (Nat × Nat)) (us cells c : List Value), fillAll cells ps us = some c → c.length = cells.length := by
  intro ps
  induction ps with
  | nil => intro us cells c h; cases us <;> simp [fillAll] at h; rw [h]
  | cons p ps ih =>
    intro us cells c h
    cases us with
    | nil => simp [fillAll] at h
    | cons u us =>
      obtain ⟨off, sz⟩ := p
      simp only [fillAll] at h
      split at h <;> first | contradiction | skip
      rename_i hcc
      rw [ih _ _ _ h]
      simp only [fillAt, List.length_append, List.length_take, List.length_drop]
      omega
theorem flat_length (z : List Value) : ∀ n : Nat, (List.replicate n z).flatten.length = n * z.length
  | 0 => by simp
  | n + 1 => by simp only [List.replicate_succ, List.flatten_cons, List.length_append, flat_length z n, Nat.succ_mul]; omega

def Allocs (P : Program) (o : Oper) (ρ : Operand → Value) (w : World) (φ : Ren) (b : Nat) (ob : MObj) (v : Value) : Prop :=
  ∃ v' blk pl, (execOp ρ o).run P w = .ok (.value v') (w.alloc blk) ∧ pl.block = w.heap.size ∧ ORel φ (w.alloc blk) pl ob ∧ VRel (φ.set b pl) v v'

theorem alloc_sim {b : Nat} {ob : MObj} (hc : cOp P o.op = some (op, xs)) (hk : op.kind = .alloc) (hr : Rels (VRel φ) vs (xs.map ρ)) (hm : malloc op vs b = some (ob, v)) : Allocs P o ρ w φ b ob v := by
  have hi := cOp_inv hc
  generalize ho : o.op = oo at hi
  cases hi <;> first | (cases hk; done) | skip
  case pure h => rw [h] at hk; cases hk
  case new0 e z hz n =>
    cases hr
    simp only [malloc] at hm
    cases hm
    obtain ⟨hz1, hz2⟩ := zeroOf_sim (w := w) (φ := φ) hz
    refine ⟨.pointer (some ⟨w.heap.size, 0, none⟩), .cells z.cells e, ⟨w.heap.size, 0, z.cells.size, n, false⟩, ?_, rfl, ORel.new ⟨n, true, false⟩ (hz2.cells.imp fun _ _ => .inr), ?_⟩
    · simp only [execOp, ho, Instr.alloc, Sem.run_bind, hz1, Result.andThen_ok, newVar, newRow, run_newObj, Sem.run_pure]
      rfl
    · exact .ptr (pl := ⟨w.heap.size, 0, z.cells.size, n, false⟩) (o := 0) (Ren.set_self ..)
  case box e x =>
    obtain ⟨y, rfl, hy⟩ := rels1 hr
    simp only [malloc] at hm
    split at hm <;> first | contradiction | skip
    cases hm
    refine ⟨.pointer (some ⟨w.heap.size, 0, none⟩), .cells (ρ x).cells e, ⟨w.heap.size, 0, (ρ x).cells.size, 0, false⟩, ?_, rfl, ORel.new ⟨0, true, false⟩ (hy.cells.imp fun _ _ => .inr), ?_⟩
    · simp only [execOp, ho, Instr.box, Sem.run_bind, Result.andThen_ok, newVar, newRow, run_newObj, Sem.run_pure]
      rfl
    · exact .ptr (pl := ⟨w.heap.size, 0, (ρ x).cells.size, 0, false⟩) (o := 0) (Ren.set_self ..)
  case bslice t e len n parts z hu hs hz =>
    rw [List.map_map] at hr
    rw [malloc_bslice] at hm
    split at hm <;> first | contradiction | skip
    rename_i c hf
    split at hm <;> first | contradiction | skip
    rename_i hcond
    cases hm
    obtain ⟨hz1, hz2⟩ := zeroOf_sim (w := w) (φ := φ) hz
    obtain ⟨hlen, hq⟩ := rowPlaces_sim n parts.toList
    have hparts : (parts.map fun (x : Nat × Operand) => (x.1, ρ x.2)).toList = parts.toList.map fun p => (p.1, ρ p.2) := by simp
    -- the zero row
    let Z : Array Value := if len * n = 0 then #[] else z.cells
    have hZ : ((Array.range (len * n)).map (fun i => Z[i % Z.size]!)).toList = (List.replicate len z.cells.toList).flatten := by
      by_cases h0 : len * n = 0
      · have : (List.replicate len z.cells.toList).flatten = [] := by
          rcases Nat.mul_eq_zero.1 h0 with h | h
          · subst h; rfl
          · have hz0 : z.cells.toList = [] := List.eq_nil_of_length_eq_zero (by rw [hcond.1, h])
            rw [hz0]; simp
        rw [this, h0]; simp
      · simp only [Z, if_neg h0]
        exact zeros_row z.cells n len hcond.1
    have hrel : Rels (VRel φ) (List.replicate len z.cells.toList).flatten ((Array.range (len * n)).map (fun i => Z[i % Z.size]!)).toList := by
      rw [hZ]; exact rels_flatten hz2.cells len
    obtain ⟨c', h1, h2⟩ := fill_sim (place := fun i => some (i * n, n)) parts.toList _ vs _ c _ hlen
      (fun i p q hpi hqi => hq i p q hpi hqi) hr hrel hf
    refine ⟨.slice (some ⟨w.heap.size, 0, none⟩) len len, .cells c' e, ⟨w.heap.size, 0, c'.size, n, true⟩, ?_, rfl, ORel.new ⟨n, true, true⟩ (h2.imp fun _ _ => .inr), ?_⟩
    · simp only [execOp, ho, Instr.buildSlice, Sem.run_bind, run_underlying hu, Result.andThen_ok, szOf_sim hs]
      rw [if_neg (by omega)]
      by_cases h0 : len * n = 0
      · simp only [Z, if_pos h0] at h1
        rw [if_pos h0]
        simp only [Sem.run_bind, Sem.run_pure, Result.andThen_ok]
        rw [hparts, h1]
        simp only [newRow, Sem.run_bind, run_newObj, Result.andThen_ok, Sem.run_pure]
        rfl
      · simp only [Z, if_neg h0] at h1
        rw [if_neg h0]
        simp only [Sem.run_bind, hz1, Sem.run_pure, Result.andThen_ok]
        rw [hparts, h1]
        simp only [newRow, Sem.run_bind, run_newObj, Result.andThen_ok, Sem.run_pure]
        rfl
    · refine .slice (pl := ⟨w.heap.size, 0, c'.size, n, true⟩) (o := 0) (Ren.set_self ..) (Nat.le_refl _) (Nat.le_refl _) (fun _ => rfl) ?_ (fun _ => rfl)
      have hl := h2.length
      have hlc : c.length = len * n := by
        rw [fillAll_length _ _ _ _ hf, flat_length, hcond.1]
      simp only [Nat.zero_add]
      simp at hl
      omega
  case mslice t e l cc n bb z hu hs hb hz hn =>
    obtain ⟨x, y, rfl, hx, hy⟩ := rels2 hr
    unfold malloc at hm
    split at hm <;> first | contradiction | skip
    rename_i h1 h2; cases h1; cases h2
    split at hm <;> first | contradiction | skip
    rename_i hcond
    cases hm
    obtain ⟨hz1, hz2⟩ := zeroOf_sim (w := w) (φ := φ) hz
    obtain ⟨inf, hinf, hbytes⟩ := bytesOf_sim (w := w) hb
    generalize hX : ρ l = x' at hx; generalize hY : ρ cc = y' at hy
    cases hx; cases hy
    rename_i _ m _ k'
    obtain ⟨c1, c2, c3, c4, c5⟩ := hcond
    obtain ⟨m, rfl⟩ := Int.eq_ofNat_of_zero_le c1
    obtain ⟨q, rfl⟩ := Int.eq_ofNat_of_zero_le (show 0 ≤ k' by omega)
    have hbq : bb * q ≤ 4096 * 1073741824 := Nat.mul_le_mul c4 (by omega)
    have hl1 : ¬ (m : Int) < 0 := by omega
    have hbig : ∀ r : Nat, r ≤ q → (decide ((r : Int) < 0) || decide (((inf.bytes : Nat) : Int) * (r : Int) > 2 ^ 48)) = false := by
      intro r hr
      have h1 : bb * r ≤ 4096 * 1073741824 := Nat.le_trans (Nat.mul_le_mul_left _ hr) hbq
      rw [hbytes]
      simp only [Bool.or_eq_false_iff, decide_eq_false_iff_not]
      refine ⟨by omega, ?_⟩
      have : ((bb : Int) * (r : Int)) = ((bb * r : Nat) : Int) := by simp
      rw [this]
      omega
    refine ⟨.slice (some ⟨w.heap.size, 0, none⟩) m q, .cells ((Array.range (q * n)).map (fun i => z.cells[i % z.cells.size]!)) e, ⟨w.heap.size, 0, ((Array.range (q * n)).map (fun i => z.cells[i % z.cells.size]!)).size, n, true⟩, ?_, rfl, ?_, ?_⟩
    · simp only [execOp, ho, hX, hY, Instr.makeSlice, Sem.run_bind, run_underlying hu, Result.andThen_ok, asInt, asIntOf, Sem.run_pure, hinf, wrap_small c1 (by omega), wrap_small (show (0 : Int) ≤ (q : Int) by omega) (by omega)]
      have e1 := hbig q (Nat.le_refl _)
      simp only [e1, Bool.false_or]
      rw [if_neg (by simp only [Bool.or_eq_true, decide_eq_true_eq]; omega)]
      simp only [Sem.run_bind, run_askRoom, szOf_sim hs, Result.andThen_ok, Int.toNat_natCast]
      by_cases h0 : q * n = 0
      · rw [if_pos h0]
        have hq0 : q = 0 := by
          rcases Nat.mul_eq_zero.1 h0 with h | h
          · exact h
          · exact absurd h hn
        subst hq0
        simp only [Sem.run_bind, Sem.run_pure, Result.andThen_ok, newRow, run_newObj, Nat.zero_mul]
        simp [Array.range]
      · rw [if_neg h0]
        simp only [Sem.run_bind, hz1, Sem.run_pure, Result.andThen_ok, newRow, run_newObj]
        rfl
    · refine ORel.new ⟨n, true, true⟩ ?_
      rw [zeros_row z.cells n q c5]
      simp only [Int.toNat_natCast]
      exact (rels_flatten hz2.cells q).imp fun _ _ => .inr
    · refine .slice (pl := ⟨w.heap.size, 0, _, n, true⟩) (o := 0) (Ren.set_self ..) (by omega) (by omega) (fun _ => by simp) ?_ (fun _ => rfl)
      simp
  case mkmap t =>
    cases hr
    simp only [malloc] at hm
    cases hm
    refine ⟨.map (some w.heap.size), .map #[] 0, ⟨w.heap.size, 0, 0, 0, false⟩, ?_, rfl, ⟨#[], 0, heap_new .., rfl, fun j p e hp => by simp at hp⟩, ?_⟩
    · simp only [execOp, ho, Instr.makeMap, Option.map_none, Sem.run_bind, run_newObj, Sem.run_pure, Result.andThen_ok]; rfl
    · exact .map (pl := ⟨w.heap.size, 0, 0, 0, false⟩) (Ren.set_self ..)
  case mkchan t e d s n hu hb =>
    obtain ⟨x, rfl, hx⟩ := rels1 hr
    unfold malloc at hm
    split at hm <;> first | contradiction | skip
    rename_i h1 h2; cases h1; cases h2
    split at hm <;> first | contradiction | skip
    rename_i hcond
    cases hm
    obtain ⟨inf, hinf, hbytes⟩ := bytesOf_sim (w := w) hb
    generalize hX : ρ s = x' at hx
    cases hx
    rename_i m _
    obtain ⟨c1, c2, c3⟩ := hcond
    obtain ⟨m, rfl⟩ := Int.eq_ofNat_of_zero_le c1
    have hbq : n * m ≤ 4096 * 1048576 := Nat.mul_le_mul c3 (by omega)
    refine ⟨.chan (some w.heap.size), .chan m #[] false 0 0 false, ⟨w.heap.size, 0, 0, 0, false⟩, ?_, rfl, ⟨#[], 0, 0, heap_new .., .nil⟩, ?_⟩
    · simp only [execOp, ho, hX, Instr.makeChan, Sem.run_bind, run_underlying hu, Result.andThen_ok, asInt, asIntOf, Sem.run_pure, hinf]
      have hmul : ((inf.bytes : Nat) : Int) * (m : Int) = ((n * m : Nat) : Int) := by rw [hbytes]; simp
      rw [if_neg (by rw [hmul]; simp only [show IntKind.i64.max = 9223372036854775807 from by decide]; omega)]
      simp only [Sem.run_bind, run_newObj, Sem.run_pure, Result.andThen_ok, Int.toNat_natCast]
      rfl
    · exact .chan (pl := ⟨w.heap.size, 0, 0, 0, false⟩) (Ren.set_self ..)
end
end Go.Mod

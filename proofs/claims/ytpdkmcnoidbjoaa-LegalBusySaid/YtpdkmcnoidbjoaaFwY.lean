/- From the model's answer to the statement: the arguments read into a model's heap; what the row's 'post' asks. -/
import Derived.Test.YtpdkmcnoidbjoaaFwX
import Derived.Carry
import Derived.OpenShut
import Derived.ProofKit
import Derived.Deep.Slices
set_option linter.unusedVariables false
set_option linter.unusedSimpArgs false
namespace Go.Mod
open Go.ChangeShapes Go.WideShapes Go.ChangeAt Go.RowKit

/-- A model's heap that is read alone. -/
structure Init (φ : Ren) (H : MH) (w : World) : Prop where
  rel : HRel φ (hp H) w
  ro : ∀ (id : Nat) o, H[id]? = some o → o.mut = false
  dom : ∀ id pl, φ id = some pl → id < H.length

theorem Init.empty (w : World) : Init (fun _ => none) [] w := ⟨⟨fun id pl h => (by cases h), fun id pl h => (by cases h), fun i j pi pj oi oj h => (by cases h)⟩, fun id o h => (by simp at h), fun id pl h => (by cases h)⟩

theorem Init.none {φ : Ren} {H : MH} {w : World} (I : Init φ H w) : φ H.length = none := by
  cases h : φ H.length with
  | none => rfl
  | some pl => have := I.dom _ pl h; omega

theorem Init.row {φ : Ren} {H : MH} {w : World} (I : Init φ H w) {b off room es : Nat} {rc : Array Value} {elem : TypeId} {fr : Nat × Nat} (hb : w.heap[b]? = some (.cells rc elem fr)) (ms : List Value) (hl : ms.length ≤ room) (hr : off + room ≤ rc.size)
    (hrel : ∀ (j : Nat) x, ms[j]? = some x → ∃ y, rc[off + j]? = some y ∧ CRel φ x y) :
    Init (φ.set H.length ⟨b, off, room, es, false⟩) (H ++ [.cells ⟨es, false, false⟩ ms]) w ∧ φ.le (φ.set H.length ⟨b, off, room, es, false⟩) := by
  obtain ⟨lo, hi⟩ := fr
  have hle := Ren.le_set (φ := φ) ⟨b, off, room, es, false⟩ I.none
  have hlt : b < w.heap.size := (Array.getElem?_eq_some_iff.1 hb).1
  have hro : ∀ (id : Nat) o, (H ++ [MObj.cells ⟨es, false, false⟩ ms])[id]? = some o → o.mut = false := by
    intro id o h
    rcases Nat.lt_or_ge id H.length with hi | hi
    · rw [List.getElem?_append_left hi] at h; exact I.ro id o h
    · rw [List.getElem?_append_right hi] at h
      cases hd : id - H.length with
      | zero => rw [hd] at h; simp at h; subst h; rfl
      | succ n => rw [hd] at h; simp at h
  refine ⟨⟨⟨fun id pl h => ?_, fun id pl h => ?_, fun i j pi pj oi oj hi hj hoi hoj hm => ?_⟩, hro, fun id pl h => ?_⟩, hle⟩
  · by_cases e : id = H.length
    · subst e
      rw [Ren.set_self] at h; cases h
      refine ⟨.cells ⟨es, false, false⟩ ms, by simp [hp], rfl, rfl, rc, elem, lo, hi, hb, hl, hr, fun j x hx => ?_, fun h => by cases h⟩
      obtain ⟨y, h1, h2⟩ := hrel j x hx
      exact ⟨y, h1, h2.mono hle⟩
    · rw [Ren.set_ne _ _ e] at h
      obtain ⟨o, h1, h2⟩ := I.rel.obj id pl h
      refine ⟨o, ?_, h2.mono hle rfl⟩
      have := I.dom id pl h
      unfold hp at h1 ⊢
      rw [List.getElem?_append_left this]; exact h1
  · by_cases e : id = H.length
    · subst e; rw [Ren.set_self] at h; cases h; exact hlt
    · rw [Ren.set_ne _ _ e] at h; exact I.rel.lt id pl h
  · have := hro i oi hoi
    rw [this] at hm; cases hm
  · by_cases e : id = H.length
    · subst e; simp
    · rw [Ren.set_ne _ _ e] at h
      have := I.dom id pl h
      simp; omega

section
variable {P : Program} {A : Type} {enc : TypeId × Value → A} {φ : Ren} {H : MH} {W : World} {base : Nat}

theorem cell_add {b o : Nat} {rc : Array Value} {elem : TypeId} {fr : Nat × Nat} (hb : W.heap[b]? = some (.cells rc elem fr)) {i : Nat} : W.cell? ((⟨b, o, none⟩ : Addr).add i) = rc[o + i]? := by
  unfold Addr.add
  by_cases h : i = 0
  · subst h; simp [World.cell?, hb]
  · simp [World.cell?, hb, h]

/-- A slice of whole numbers. -/
theorem arg_ints (I : Init φ H W) {t e : TypeId} {k : IntKind} {v : Value} {d : DataW A} {ps : List MemPlace} (ht : P.underlying t = some (.slice e)) (he : P.underlying e = some (.int k)) (hc : P.cellsOf e = 1)
    (hok : Value.okWide P W .any base t v) (hd : DataW.Trod enc P W 0 (fun _ => true) true t v d ps) :
    ∃ φ' H' vm, ∃ xs : List Int, Init φ' H' W ∧ φ.le φ' ∧ Ext H H' ∧ VRel φ' vm v ∧ Row 1 H' vm (xs.map fun n => .int k n) ∧ ∀ x ∈ xs, (Lit.int k x).wf = true := by
  have hcell : Cell.ok P W .any base t v := by
    unfold Value.okWide at hok; rw [ht] at hok; simp only [] at hok
    unfold Cell.okWide at hok; rw [ht] at hok; exact hok
  unfold Cell.ok at hcell
  rw [ht] at hcell
  obtain ⟨fuel, hd⟩ := hd
  split at hcell <;> first | contradiction | skip
  · rename_i h; cases h
  · rename_i h; cases h
  · rename_i h; cases h
  · rename_i h; cases h
  · rename_i h; cases h
  · rename_i h; cases h
  · exact ⟨φ, H, .slice none 0 0, [], I, Ren.le.refl φ, Ext.refl H, .slice0, .inl ⟨rfl, rfl⟩, fun x hx => by cases hx⟩
  · rename_i h; cases h
  · rename_i e' a len cap h
    cases h
    obtain ⟨hlc, _, hhas⟩ := hcell
    obtain ⟨_, hspot, row, cells, hshape, _⟩ := hhas
    have hb : ∃ rc elem fr, W.heap[a.block]? = some (.cells rc elem fr) := by
      unfold World.shape? at hshape
      split at hshape <;> first | contradiction | skip
      rename_i c el fr hx
      exact ⟨c, el, fr, hx⟩
    obtain ⟨rc, elem, fr, hb⟩ := hb
    rcases Deep.open_slice1 ht hc hd with ⟨h0, _⟩ | ⟨a', len', cap', m, n, V, D, Pl, hcs, _, hl, _, hm, _, hV⟩
    · simp [Value.cells] at h0
    · simp only [Value.cells] at hcs
      simp at hcs
      obtain ⟨rfl, rfl, rfl⟩ := hcs
      simp only [if_true] at hm
      subst hm
      obtain ⟨ab, ao, asp⟩ := a
      simp only [] at hspot hb
      subst hspot
      have hcell : ∀ i, i < m → rc[ao + i]? = some (V i) := fun i hi => by
        have h1 := (hV i hi).1
        rw [cell_add hb] at h1
        exact h1
      have hint : ∀ i, i < m → ∃ x, V i = .int k x ∧ (Lit.int k x).wf = true := fun i hi => by
        obtain ⟨x, hx, _, hw⟩ := DataW.trod_int he (hV i hi).2
        exact ⟨x, by simpa using hx, hw⟩
      have hroom : m = 0 ∨ ao + m ≤ rc.size := by
        cases m with
        | zero => exact .inl rfl
        | succ j =>
          have := (Array.getElem?_eq_some_iff.1 (hcell j (by omega))).1
          exact .inr (by omega)
      obtain ⟨X, hX⟩ := Deep.choose_lt (α := Int) (p := fun i x => V i = .int k x ∧ (Lit.int k x).wf = true) hint
      obtain ⟨I', hle⟩ := I.row (b := ab) (off := if m = 0 then 0 else ao) (room := m) (es := 1) hb ((List.range len).map fun i => .int k (X i)) (by simpa using hl) (by split <;> omega) (fun j x hx => by
        have hj : j < len := by have := (List.getElem?_eq_some_iff.1 hx).1; simpa using this
        have hx' : x = .int k (X j) := by
          rw [List.getElem?_map, List.getElem?_range hj] at hx
          simpa using hx.symm
        rw [if_neg (by omega)]
        refine ⟨V j, hcell j (by omega), ?_⟩
        rw [hx', (hX j (by omega)).1]
        exact .inr (.int k _))
      refine ⟨_, _, .slice (some ⟨H.length, 0, none⟩) len len, (List.range len).map X, I', hle, ⟨_, rfl⟩, .slice (Ren.set_self _ _ _) (Nat.le_refl _) hl (fun h => by cases h) (by simp) (fun h => by simp only []; rw [if_neg (by omega)]; simp), .inr ⟨H.length, 0, len, len, ⟨1, false, false⟩, (List.range len).map (fun i => .int k (X i)), rfl, Nat.le_refl _, by simp, rfl, by simp, ?_⟩, ?_⟩
      · simp [Function.comp_def]
        rw [List.take_of_length_le (by simp)]
      · intro x hx
        obtain ⟨i, hi, rfl⟩ := List.mem_map.1 hx
        have := List.mem_range.1 hi
        exact (hX i (by omega)).2

/-- A whole number, a bool: read as they are. -/
theorem arg_int {t : TypeId} {k : IntKind} {v : Value} {d : DataW A} {ps : List MemPlace} (ht : P.underlying t = some (.int k)) (hok : Value.okWide P W .any base t v) (hd : DataW.Trod enc P W 0 (fun _ => true) true t v d ps) :
    ∃ n, v = .int k n ∧ (Lit.int k n).wf = true := by
  obtain ⟨n, h1, _, _, h2⟩ := ChangeShapes.open_int ht hok hd
  exact ⟨n, h1, h2⟩
theorem arg_bool {t : TypeId} {v : Value} {d : DataW A} {ps : List MemPlace} (ht : P.underlying t = some .bool) (hok : Value.okWide P W .any base t v) (hd : DataW.Trod enc P W 0 (fun _ => true) true t v d ps) :
    ∃ b, v = .bool b := by
  obtain ⟨b, h1, _⟩ := RowKit.open_bool ht hok hd
  exact ⟨b, h1⟩

/-! ### behind the call -/
theorem below_of_step {n : Nat} {φ' : Ren} {H' : MH} {W' : World} (I : Init φ H W) (st : Step n φ (hp H) W φ' (hp H') W') : RowKit.Below W.heap.size W W' :=
  ⟨st.fr.os, st.fr.tape, st.fr.output, st.fr.size, fun k hk => st.fr.block k hk fun id pl o hφ ho hm => by
    have := I.ro id o ho
    rw [this] at hm; cases hm⟩

theorem callable_of {mp : FuncId → Option MDef} {f : FuncId} {fn : MFn} (hc : cFn P f = some fn) : Callable P f := by
  unfold cFn at hc
  split at hc <;> first | contradiction | skip
  rename_i gf hf
  split at hc <;> first | contradiction | skip
  rename_i c hb
  split at hc
  · contradiction
  rename_i hname
  exact ⟨gf, hf, by rw [hb]; rfl, by simpa using hname⟩

/-- The model's answer 'true' is the program's. -/
theorem calls_true {mp : FuncId → Option MDef} (hm : MapOk P mp) {f : FuncId} {fn : MFn} (hf : cFn P f = some fn) (I : Init φ H W) {vs : List Value} {H' : MH} (hr : R mp f vs H = some (.bool true, H')) {args : Array Value} (hv : Rels (VRel φ) vs args.toList) :
    Calls P f args W fun e W' => e = .returned (.bool true) ∧ RowKit.Below W.heap.size W W' := by
  have hi := R_ok hm f vs H _ H' hr φ W args.toList I.rel hv
  have ha : args.toList.toArray = args := by simp
  rw [ha] at hi
  rcases hi with ⟨_, hc⟩ | ⟨v, W', h1, _⟩
  · refine hc.mono fun e W' ⟨v, he, φ', h1, h2⟩ => ⟨?_, below_of_step I h2⟩
    rw [he, plain_eq (v := .bool true) rfl h1]
  · rw [run_callFunc (callable_of (mp := mp) hf)] at h1
    cases h1

theorem trodAll_below {W' : World} (hl : laidOutB P = true) : ∀ {ts : List TypeId} {vs : List Value} {ds : List (DataW A)} {ps : List MemPlace}, (∀ t ∈ ts, P.readableRec t = true ∧ t < P.types.size) → DataW.TrodAll enc P W 0 (fun _ => true) true ts vs ds ps →
    RowKit.Below W.heap.size W W' → (∀ x ∈ ps, x.block < W.heap.size) → ∀ sp : Nat → Bool, (∀ p ∈ ps, sp p.block = true) → DataW.TrodAll enc P W' 0 sp true ts vs ds ps
  | [], [], [], ps, _, h, _, _, _, _ => h
  | t :: ts, v :: vs, d :: ds, ps, ht, h, hb, hlt, sp, hs => by
    obtain ⟨p, q, h1, h2, rfl⟩ := h
    have hx := ht t (by simp)
    exact ⟨p, q, WideElems.Trod_stays hl hx.1 hx.2 h1 (fun x hx => hb.same (hlt x (by simp [hx]))) (fun x hx => hs x (by simp [hx])), trodAll_below hl (fun t h => ht t (List.mem_cons_of_mem _ h)) h2 hb (fun x hx => hlt x (by simp [hx])) sp (fun x hx => hs x (by simp [hx])), rfl⟩
  | [], _ :: _, _, _, _, h, _, _, _, _ => h.elim
  | [], [], _ :: _, _, _, h, _, _, _, _ => h.elim
  | _ :: _, [], _, _, _, h, _, _, _, _ => h.elim
  | _ :: _, _ :: _, [], _, _, h, _, _, _, _ => h.elim

/-- What the row's 'post' asks, where the function hands back true and nothing that was there has turned. -/
theorem post_true {f : Func} {s : ChangeSpec} {apart fresh handsOn again : Bool} {W' : World} {args : Array Value} {ds gs : List (DataW A)} {before : List MemPlace} {tb : TypeId}
    (hW : DataW.Whole enc P f.params.toList s.vars apart W args.toList ds gs before) (hl : laidOutB P = true) (hrec : ∀ t ∈ f.params.toList, P.readableRec t = true ∧ t < P.types.size) (hres : f.resultTypes = #[tb]) (ht : P.underlying tb = some .bool)
    (hvars : s.vars = []) (hs1 : (s.fn A (ds ++ gs)).results = [.lit (.bool true)]) (hs2 : (s.fn A (ds ++ gs)).args = ds) (hs3 : (s.fn A (ds ++ gs)).vars = []) (hb : RowKit.Below W.heap.size W W') : s.post enc P f apart fresh handsOn again W args (.bool true) W' := by
  have hlt := hW.lt
  have hW0 := hW
  obtain ⟨p, q, hA, hV, rfl, hfz, hnd⟩ := hW
  rw [hvars] at hV
  obtain ⟨rfl, rfl⟩ := ChangeShapes.trodVars_none hV
  have hold : ∀ x ∈ p, (fun b => decide (b < W.heap.size)) x.block = true := fun x hx => by simpa using hlt x (by simpa using hx)
  have hargs : ∀ sp : Nat → Bool, (∀ x ∈ p, sp x.block = true) → DataW.TrodAll enc P W' 0 sp true f.params.toList args.toList (s.fn A (ds ++ [])).args p := fun sp hsp => by
    rw [hs2]
    exact trodAll_below hl hrec hA hb (fun x hx => hlt x (by simpa using hx)) sp hsp
  have hres' : ∀ (b : Nat) (sp : Nat → Bool) (hd : Bool), DataW.TrodAll enc P W' b sp hd f.resultTypes.toList ((Value.bool true).resultList f.resultTypes.size) (s.fn A (ds ++ [])).results [] := fun b sp hd => by
    rw [hs1, hres]
    exact trodAll_cons_mk (shut_bool ht _) trodAll_mk0
  have hfrz : ∀ a : Addr, a.block < W.heap.size → W'.frozen? a = W.frozen? a := fun a ha => hb.frozen ha
  refine ⟨ds, [], p ++ [], [], p, [], hW0, hres' _ _ _, hargs _ hold, by rw [hs3, hvars]; rfl, World.keptBut_mono (fun x hx => hx.elim) (hb.frame fun _ => False), fun _ => ⟨ok_one hres rfl (okWide_bool_mk ht _), _, [], ([] ++ p) ++ [], ⟨[] ++ p, [], trodAll_append (hargs _ (fun _ _ => rfl)) (hres' _ _ _), by rw [hvars]; rfl, rfl, ?_, ?_⟩, ?_⟩⟩
  · intro b off hp
    have hp' : MemPlace.cell b off ∈ p := by simpa using hp
    rw [hfrz ⟨b, off, none⟩ (hlt (.cell b off) (by simpa using hp'))]
    exact hfz b off (by simpa using hp')
  · intro ha
    have := hnd ha
    simpa using this
  · intro x hx _
    simpa using hx
end

/-! ### what fits a kind -/
section
variable {n : Int}
theorem wf_u8 (h : (Lit.int .u8 n).wf = true) : 0 ≤ n ∧ n < 256 := by
  simp [Lit.wf, IntKind.min, IntKind.max, IntKind.signed, IntKind.bits] at h; omega
theorem wf_u16 (h : (Lit.int .u16 n).wf = true) : 0 ≤ n ∧ n < 65536 := by
  simp [Lit.wf, IntKind.min, IntKind.max, IntKind.signed, IntKind.bits] at h; omega
theorem wf_u32 (h : (Lit.int .u32 n).wf = true) : 0 ≤ n ∧ n < 4294967296 := by
  simp [Lit.wf, IntKind.min, IntKind.max, IntKind.signed, IntKind.bits] at h; omega
theorem wf_i16 (h : (Lit.int .i16 n).wf = true) : -32768 ≤ n ∧ n < 32768 := by
  simp [Lit.wf, IntKind.min, IntKind.max, IntKind.signed, IntKind.bits] at h; omega
theorem wf_i64 (h : (Lit.int .i64 n).wf = true) : -9223372036854775808 ≤ n ∧ n < 9223372036854775808 := by
  simp [Lit.wf, IntKind.min, IntKind.max, IntKind.signed, IntKind.bits] at h; omega
end
end Go.Mod

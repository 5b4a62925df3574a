/- Arguments of any shape (whole numbers, bools, strings, structs, slices of them) read into a model's heap. -/
import Derived.Test.YtpdkmcnoidbjoaaFwY
import Derived.ChangeArms
set_option linter.unusedVariables false
set_option linter.unusedSimpArgs false
namespace Go.Mod
open Go.ChangeShapes Go.WideShapes Go.ChangeAt Go.RowKit

/-- What lies in a cell. -/
inductive Sh where
  | int (k : IntKind)
  | bool
  | str
  | row (fs : List Sh)
inductive D where
  | int (n : Int)
  | bool (b : Bool)
  | str (s : ByteArray)
  | row (l : List (List D))

inductive Rep (H : MH) : Sh → Value → D → Prop
  | int {k : IntKind} {n : Int} (h : (Lit.int k n).wf = true) : Rep H (.int k) (.int k n) (.int n)
  | bool {b : Bool} : Rep H .bool (.bool b) (.bool b)
  | str {s : ByteArray} (h : s.size ≤ maxLen) : Rep H .str (.string s) (.str s)
  | nil {fs : List Sh} : Rep H (.row fs) (.slice none 0 0) (.row [])
  | row {fs : List Sh} {b n : Nat} {cs : List Value} {ds : List (List D)} (hB : H[b]? = some (.cells ⟨fs.length, false, false⟩ cs)) (hn : ds.length = n) (hm : n ≤ maxLen) (hl : cs.length = n * fs.length)
      (hw : ∀ d ∈ ds, d.length = fs.length)
      (h : ∀ (i j : Nat) d f x v, ds[i]? = some d → fs[j]? = some f → d[j]? = some x → cs[i * fs.length + j]? = some v → Rep H f v x) : Rep H (.row fs) (.slice (some ⟨b, 0, none⟩) n n) (.row ds)

theorem Rep.ext {H H' : MH} (e : Ext H H') {s : Sh} {v : Value} {d : D} (h : Rep H s v d) : Rep H' s v d := by
  induction h with
  | int h => exact .int h
  | bool => exact .bool
  | str h => exact .str h
  | nil => exact .nil
  | row hB hn hm hl hw h ih => exact .row (e.get hB) hn hm hl hw ih

/-- Cells side by side. -/
structure RepL (H : MH) (fs : List Sh) (ms : List Value) (ds : List D) : Prop where
  ml : ms.length = fs.length
  dl : ds.length = fs.length
  at_ : ∀ (j : Nat) f v x, fs[j]? = some f → ms[j]? = some v → ds[j]? = some x → Rep H f v x
theorem RepL.ext {H H' : MH} (e : Ext H H') {fs : List Sh} {ms : List Value} {ds : List D} (h : RepL H fs ms ds) : RepL H' fs ms ds := ⟨h.ml, h.dl, fun j f v x a b c => (h.at_ j f v x a b c).ext e⟩
theorem RepL.nil {H : MH} : RepL H [] [] [] := ⟨rfl, rfl, fun j f v x a => by simp at a⟩
theorem RepL.one {H : MH} {f : Sh} {v : Value} {x : D} (h : Rep H f v x) : RepL H [f] [v] [x] := ⟨rfl, rfl, fun j g u y a b c => by
  cases j with
  | zero => simp at a b c; subst a; subst b; subst c; exact h
  | succ j => simp at a⟩
theorem RepL.append {H : MH} {fs fs' : List Sh} {ms ms' : List Value} {ds ds' : List D} (h : RepL H fs ms ds) (g : RepL H fs' ms' ds') : RepL H (fs ++ fs') (ms ++ ms') (ds ++ ds') :=
  ⟨by simp [h.ml, g.ml], by simp [h.dl, g.dl], fun j f v x a b c => by
    have h1 := h.ml; have h2 := h.dl
    rcases Nat.lt_or_ge j fs.length with hj | hj
    · rw [List.getElem?_append_left hj] at a
      rw [List.getElem?_append_left (by omega)] at b c
      exact h.at_ j f v x a b c
    · rw [List.getElem?_append_right hj] at a
      rw [List.getElem?_append_right (by omega)] at b c
      rw [h1] at b; rw [h2] at c
      exact g.at_ _ f v x a b c⟩

/-! ### of which shape a type is -/
def shFields (g : TypeId → Option (List Sh)) (P : Program) : Nat → List Field → Option (List Sh)
  | _, [] => some []
  | off, f :: fs => match g f.type with
    | some l => if f.offset = off ∧ P.cellsOf f.type = l.length then (shFields g P (off + l.length) fs).map (l ++ ·) else none
    | none => none
def shOf (P : Program) : Nat → TypeId → Option (List Sh)
  | 0, _ => none
  | k + 1, t => match P.underlying t with
    | some .bool => some [.bool]
    | some (.int i) => some [.int i]
    | some .string => some [.str]
    | some (.slice e) => match shOf P k e with
      | some fs => if P.cellsOf e = fs.length ∧ 0 < fs.length then some [.row fs] else none
      | none => none
    | some (.struct fs) => match shFields (shOf P k) P 0 fs.toList with
      | some l => if P.cellsOf t = l.length then some l else none
      | none => none
    | _ => none

theorem Rels.single {R : Value → Value → Prop} {x y : Value} (h : R x y) : Rels R [x] [y] := .cons h .nil
theorem Init.pad {φ : Ren} {H : MH} {w : World} (I : Init φ H w) (i : Info) (cs : List Value) (hi : i.rw = false) : Init φ (H ++ [.cells i cs]) w := by
  have hro : ∀ (id : Nat) o, (H ++ [MObj.cells i cs])[id]? = some o → o.mut = false := by
    intro id o h
    rcases Nat.lt_or_ge id H.length with hi' | hi'
    · rw [List.getElem?_append_left hi'] at h; exact I.ro id o h
    · rw [List.getElem?_append_right hi'] at h
      cases hd : id - H.length with
      | zero => rw [hd] at h; simp at h; subst h; exact hi
      | succ n => rw [hd] at h; simp at h
  refine ⟨⟨fun id pl h => ?_, I.rel.lt, fun a b pi pj oi oj hi hj hoi hoj hm => ?_⟩, hro, fun id pl h => ?_⟩
  · obtain ⟨o, h1, h2⟩ := I.rel.obj id pl h
    refine ⟨o, ?_, h2⟩
    have := I.dom id pl h
    unfold hp at h1 ⊢
    rw [List.getElem?_append_left this]; exact h1
  · have := hro a oi hoi
    rw [this] at hm; cases hm
  · have := I.dom id pl h
    simp; omega

section
variable {P : Program} {A : Type} {enc : TypeId × Value → A} {W : World}

/-- What reading cells yields. -/
def Got (φ : Ren) (H : MH) (W : World) (fs : List Sh) (cs : List Value) : Prop :=
  ∃ φ' H' ms ds, Init φ' H' W ∧ φ.le φ' ∧ Ext H H' ∧ Rels (VRel φ') ms cs ∧ RepL H' fs ms ds

theorem read_fields {n k : Nat} (ih : ∀ (t : TypeId) (cs : List Value) x (fs : List Sh) (φ : Ren) (H : MH), DataW.trod enc P W 0 (fun _ => true) true n t cs = some x → shOf P k t = some fs → Init φ H W → Got φ H W fs cs) {cs : List Value} :
    ∀ (l : List Field) (off : Nat) (fs : List Sh) (φ : Ren) (H : MH), (∀ f ∈ l, ∃ x, DataW.trod enc P W 0 (fun _ => true) true n f.type ((cs.drop f.offset).take (P.cellsOf f.type)) = some x) → shFields (shOf P k) P off l = some fs → Init φ H W → Got φ H W fs ((cs.drop off).take fs.length)
  | [], off, fs, φ, H, _, h, I => by
    simp only [shFields] at h; cases h
    exact ⟨φ, H, [], [], I, Ren.le.refl φ, Ext.refl H, by simp; exact .nil, RepL.nil⟩
  | f :: l, off, fs, φ, H, hx, h, I => by
    simp only [shFields] at h
    split at h <;> first | contradiction | skip
    rename_i l1 h1
    split at h <;> first | contradiction | skip
    rename_i hc
    obtain ⟨l2, h2, rfl⟩ := Option.map_eq_some_iff.1 h
    obtain ⟨x, hx0⟩ := hx f (by simp)
    obtain ⟨φ1, H1, m1, d1, I1, le1, e1, r1, p1⟩ := ih _ _ _ _ φ H hx0 h1 I
    obtain ⟨φ2, H2, m2, d2, I2, le2, e2, r2, p2⟩ := read_fields ih l (off + l1.length) l2 φ1 H1 (fun g hg => hx g (by simp [hg])) h2 I1
    refine ⟨φ2, H2, m1 ++ m2, d1 ++ d2, I2, le1.trans le2, e1.trans e2, ?_, (p1.ext e2).append p2⟩
    rw [List.length_append, List.take_add, List.drop_drop]
    rw [hc.1, hc.2] at r1
    exact (r1.imp fun _ _ h => h.mono le2).append r2

theorem read_elems {n k : Nat} (ih : ∀ (t : TypeId) (cs : List Value) x (fs : List Sh) (φ : Ren) (H : MH), DataW.trod enc P W 0 (fun _ => true) true n t cs = some x → shOf P k t = some fs → Init φ H W → Got φ H W fs cs)
    {e : TypeId} {fs : List Sh} (hsh : shOf P k e = some fs) (hce : P.cellsOf e = fs.length) (h0 : 0 < fs.length) {b o : Nat} {rc : Array Value} {elem : TypeId} {fr : Nat × Nat} (hb : W.heap[b]? = some (.cells rc elem fr)) :
    ∀ (m : Nat), (∀ i, i < m → ∃ cs' x, W.cells? 0 ((⟨b, o, none⟩ : Addr).add (i * P.cellsOf e)) (P.cellsOf e) = some cs' ∧ DataW.trod enc P W 0 (fun _ => true) true n e cs' = some x) → ∀ (φ : Ren) (H : MH), Init φ H W →
    ∃ (φ' : Ren) (H' : MH) (ms : List Value) (ds : List (List D)), Init φ' H' W ∧ φ.le φ' ∧ Ext H H' ∧ ms.length = m * fs.length ∧ ds.length = m ∧ (∀ d ∈ ds, d.length = fs.length) ∧
      (∀ (i j : Nat) d f x v, ds[i]? = some d → fs[j]? = some f → d[j]? = some x → ms[i * fs.length + j]? = some v → Rep H' f v x) ∧
      ∀ (j : Nat) x, ms[j]? = some x → ∃ y, rc[o + j]? = some y ∧ VRel φ' x y
  | 0, _, φ, H, I => by
    refine ⟨φ, H, [], [], I, Ren.le.refl φ, Ext.refl H, by simp, rfl, ?_, ?_, ?_⟩
    · intro d h; cases h
    · intro i j d f x v h; simp at h
    · intro j x h; simp at h
  | m + 1, hx, φ, H, I => by
    obtain ⟨φ1, H1, ms, ds, I1, le1, e1, l1, l2, w1, p1, q1⟩ := read_elems ih hsh hce h0 hb m (fun i hi => hx i (by omega)) φ H I
    obtain ⟨cs', x, hcs, htr⟩ := hx m (by omega)
    obtain ⟨φ2, H2, m2, d2, I2, le2, e2, r2, p2⟩ := ih _ _ _ _ φ1 H1 htr hsh I1
    obtain ⟨_, hcl, hcat⟩ := World.cells?_some hcs
    refine ⟨φ2, H2, ms ++ m2, ds ++ [d2], I2, le1.trans le2, e1.trans e2, by simp [l1, p2.ml, Nat.add_mul], by simp [l2], fun d hd => ?_, fun i j d f x v a1 a2 a3 a4 => ?_, fun j x hj => ?_⟩
    · rcases List.mem_append.1 hd with h | h
      · exact w1 d h
      · simp at h; subst h; exact p2.dl
    · have hjl : j < fs.length := (List.getElem?_eq_some_iff.1 a2).1
      rcases Nat.lt_or_ge i m with hi | hi
      · rw [List.getElem?_append_left (by omega)] at a1
        have : i * fs.length + j < ms.length := by
          rw [l1]
          have := Nat.mul_le_mul_right fs.length (show i + 1 ≤ m by omega)
          rw [Nat.add_mul] at this; omega
        rw [List.getElem?_append_left this] at a4
        exact (p1 i j d f x v a1 a2 a3 a4).ext e2
      · have hi' : i = m := by
          have := (List.getElem?_eq_some_iff.1 a1).1
          simp [l2] at this; omega
        subst hi'
        rw [List.getElem?_append_right (by omega), l2, Nat.sub_self] at a1
        simp at a1; subst a1
        rw [List.getElem?_append_right (by omega), l1, Nat.add_sub_cancel_left] at a4
        exact p2.at_ j f v x a2 a4 a3
    · rcases Nat.lt_or_ge j ms.length with hl | hl
      · rw [List.getElem?_append_left hl] at hj
        obtain ⟨y, h1, h2⟩ := q1 j x hj
        exact ⟨y, h1, h2.mono le2⟩
      · rw [List.getElem?_append_right hl] at hj
        obtain ⟨y, h1, h2⟩ := r2.get _ x hj
        refine ⟨y, ?_, h2⟩
        have hlt := (List.getElem?_eq_some_iff.1 hj).1
        have := hcat (j - ms.length) (by rw [hce, ← p2.ml]; exact hlt)
        rw [Deep.add_add, cell_add hb] at this
        rw [← h1, ← this, hce, l1]
        congr 1
        omega

theorem read_cells : ∀ (fuel : Nat) (k : Nat) (t : TypeId) (cs : List Value) x (fs : List Sh) (φ : Ren) (H : MH), DataW.trod enc P W 0 (fun _ => true) true fuel t cs = some x → shOf P k t = some fs → Init φ H W → Got φ H W fs cs
  | 0, k, t, cs, x, fs, φ, H, h, _, _ => by simp [DataW.trod] at h
  | fuel + 1, 0, t, cs, x, fs, φ, H, _, h, _ => by simp [shOf] at h
  | fuel + 1, k + 1, t, cs, x, fs, φ, H, h, hs, I => by
    simp only [shOf] at hs
    split at hs <;> first | contradiction | skip
    · rename_i ht; cases hs
      obtain ⟨b, rfl, _⟩ := DataW.trod_bool ht h
      exact ⟨φ, H, [.bool b], [.bool b], I, Ren.le.refl φ, Ext.refl H, .single (.bool b), .one .bool⟩
    · rename_i ki ht; cases hs
      obtain ⟨n, rfl, _, hw⟩ := DataW.trod_int ht h
      exact ⟨φ, H, [.int ki n], [.int n], I, Ren.le.refl φ, Ext.refl H, .single (.int _ _), .one (.int hw)⟩
    · rename_i ht; cases hs
      unfold DataW.trod at h
      rw [ht] at h
      have : ∃ s : ByteArray, cs = [.string s] ∧ s.size ≤ maxLen := by
        split at h <;> simp_all
      obtain ⟨s, rfl, hw⟩ := this
      exact ⟨φ, H, [.string s], [.str s], I, Ren.le.refl φ, Ext.refl H, .single (.string s), .one (.str hw)⟩
    · rename_i e ht
      split at hs <;> first | contradiction | skip
      rename_i gs hg
      split at hs <;> first | contradiction | skip
      rename_i hc
      cases hs
      obtain ⟨hce, h0⟩ := hc
      rcases DataW.trod_slice ht h with ⟨rfl, _⟩ | ⟨a, len, cap, elems, rest, n, hfu, rfl, _, _, hl, hm, hel, hE, hR, _⟩
      · exact ⟨φ, H, [.slice none 0 0], [.row []], I, Ren.le.refl φ, Ext.refl H, .single .slice0, .one .nil⟩
      · have hfu' : n = fuel := by omega
        subst hfu'
        obtain ⟨hrl, hR⟩ := hR rfl
        have all : ∀ i, i < cap → ∃ cs' x, W.cells? 0 (a.add (i * P.cellsOf e)) (P.cellsOf e) = some cs' ∧ DataW.trod enc P W 0 (fun _ => true) true n e cs' = some x := by
          intro i hi
          by_cases hil : i < len
          · have := hE i hil
            rw [List.getElem?_eq_getElem (by omega)] at this
            obtain ⟨cs', h1, h2⟩ := Option.bind_eq_some_iff.1 this
            exact ⟨cs', _, h1, h2⟩
          · have := hR (i - len) (by omega)
            rw [show len + (i - len) = i by omega, List.getElem?_eq_getElem (by omega)] at this
            obtain ⟨cs', h1, h2⟩ := Option.bind_eq_some_iff.1 this
            exact ⟨cs', _, h1, h2⟩
        by_cases hcap : cap = 0
        · subst hcap
          have : len = 0 := by omega
          subst this
          refine ⟨φ, H ++ [.cells ⟨gs.length, false, false⟩ []], [.slice (some ⟨H.length, 0, none⟩) 0 0], [.row []], I.pad _ _ rfl, Ren.le.refl φ, ⟨_, rfl⟩, .single .slicee, .one (.row (cs := []) (by simp) rfl (by omega) (by simp) (fun d hd => by cases hd) fun i j d f x v h => by simp at h)⟩
        · obtain ⟨ab, ao, asp⟩ := a
          have hcellAt : ∀ i j, i < cap → j < gs.length → ∃ y, W.cell? ((⟨ab, ao, asp⟩ : Addr).add (i * P.cellsOf e + j)) = some y := by
            intro i j hi hj
            obtain ⟨cs', _, h1, _⟩ := all i hi
            obtain ⟨_, hcl, hcat⟩ := World.cells?_some h1
            have := hcat j (by omega)
            rw [Deep.add_add] at this
            rw [this]
            exact ⟨_, List.getElem?_eq_getElem (by omega)⟩
          obtain ⟨y0, hy0⟩ := hcellAt 0 0 (by omega) h0
          have hsp : asp = none := by
            simp [Addr.add, World.cell?] at hy0
            split at hy0 <;> first | contradiction | skip
            cases asp with
            | none => rfl
            | some s => simp at hy0
          subst hsp
          have hb : ∃ rc elem fr, W.heap[ab]? = some (.cells rc elem fr) := by
            simp [Addr.add, World.cell?] at hy0
            split at hy0 <;> first | contradiction | skip
            rename_i c el fr hx
            exact ⟨c, el, fr, hx⟩
          obtain ⟨rc, elem, fr, hb⟩ := hb
          have hroom : ao + cap * gs.length ≤ rc.size := by
            obtain ⟨y, hy⟩ := hcellAt (cap - 1) (gs.length - 1) (by omega) (by omega)
            rw [cell_add hb] at hy
            have := (Array.getElem?_eq_some_iff.1 hy).1
            rw [hce, Nat.sub_mul] at this
            have h2 := Nat.mul_le_mul_right gs.length (show 1 ≤ cap by omega)
            omega
          obtain ⟨φ1, H1, ms, ds, I1, le1, e1, l1, l2, w1, p1, q1⟩ := read_elems (fun t cs x fs φ H => read_cells n k t cs x fs φ H) hg hce h0 hb len (fun i hi => all i (by omega)) φ H I
          have hmul : len * gs.length ≤ cap * gs.length := Nat.mul_le_mul_right _ hl
          obtain ⟨I2, le2⟩ := I1.row (b := ab) (off := ao) (room := cap * gs.length) (es := gs.length) hb ms (by omega) hroom (fun j x hx => by
            obtain ⟨y, h1, h2⟩ := q1 j x hx
            exact ⟨y, h1, .inr h2⟩)
          have e2 : Ext H1 (H1 ++ [.cells ⟨gs.length, false, false⟩ ms]) := ⟨_, rfl⟩
          refine ⟨_, _, [.slice (some ⟨H1.length, 0, none⟩) len len], [.row ds], I2, le1.trans le2, e1.trans e2, .single (.slice (pl := ⟨ab, ao, cap * gs.length, gs.length, false⟩) (Ren.set_self _ _ _) (Nat.le_refl _) hl (fun h => by cases h) (by simp) (fun _ => by simp)), .one (.row (cs := ms) (by simp) l2 (by omega) l1 w1 fun i j d f x v a1 a2 a3 a4 => (p1 i j d f x v a1 a2 a3 a4).ext e2)⟩
    · rename_i gs ht
      split at hs <;> first | contradiction | skip
      rename_i l hl
      split at hs <;> first | contradiction | skip
      rename_i hc
      cases hs
      obtain ⟨xs, n, hfu, _, hlen, hxs, hf⟩ := DataW.trod_struct ht h
      have hfu' : n = fuel := by omega
      subst hfu'
      have := read_fields (fun t cs x fs φ H => read_cells n k t cs x fs φ H) (cs := cs) gs.toList 0 fs φ H (fun f hf' => by
        obtain ⟨i, hi⟩ := List.mem_iff_getElem?.1 hf'
        have hi' : gs[i]? = some f := by simpa using hi
        have hlt : i < gs.size := (Array.getElem?_eq_some_iff.1 hi').1
        have := hf i f hi'
        rw [List.getElem?_eq_getElem (by omega)] at this
        exact ⟨_, this⟩) hl I
      rw [List.drop_zero, List.take_of_length_le (by omega)] at this
      exact this

/-- May a type lie in one cell? -/
def cellTy (P : Program) (t : TypeId) : Bool := match P.underlying t with
  | some .bool | some (.int _) | some .string | some (.slice _) => true
  | _ => false
def structTy (P : Program) (t : TypeId) : Bool := match P.underlying t with
  | some (.struct _) => true
  | _ => false
/-- An argument of one cell. -/
theorem arg_cell {φ : Ren} {H : MH} (I : Init φ H W) {base k : Nat} {t : TypeId} {s : Sh} {v : Value} {d : DataW A} {ps : List MemPlace} (ht : cellTy P t = true) (hs : shOf P k t = some [s])
    (hok : Value.okWide P W .any base t v) (hd : DataW.Trod enc P W 0 (fun _ => true) true t v d ps) :
    ∃ φ' H' m x, Init φ' H' W ∧ φ.le φ' ∧ Ext H H' ∧ VRel φ' m v ∧ Rep H' s m x := by
  have hfl : v.cells.toList = [v] := by
    unfold Value.okWide at hok
    unfold cellTy at ht
    split at ht <;> first | contradiction | skip
    all_goals
      rename_i hu
      rw [hu] at hok
      simp only [Cell.okWide, hu, Cell.ok] at hok
      cases v <;> first | rfl | (simp at hok; done)
  obtain ⟨fuel, hd⟩ := hd
  rw [hfl] at hd
  obtain ⟨φ', H', ms, ds, I', le, e, r, p⟩ := read_cells fuel k t _ _ _ φ H hd hs I
  have h1 := p.ml
  have h2 := p.dl
  match ms, ds, h1, h2 with
  | [m], [x], _, _ =>
    obtain ⟨y, hy, hx⟩ := rels1' r
    cases hy
    exact ⟨φ', H', m, x, I', le, e, hx, p.at_ 0 _ _ _ rfl rfl rfl⟩
/-- An argument that is a struct. -/
theorem arg_struct {φ : Ren} {H : MH} (I : Init φ H W) {base k : Nat} {t : TypeId} {fs : List Sh} {v : Value} {d : DataW A} {ps : List MemPlace} (ht : structTy P t = true) (hs : shOf P k t = some fs)
    (hok : Value.okWide P W .any base t v) (hd : DataW.Trod enc P W 0 (fun _ => true) true t v d ps) :
    ∃ φ' H' ms ds, Init φ' H' W ∧ φ.le φ' ∧ Ext H H' ∧ VRel φ' (.agg ms.toArray) v ∧ RepL H' fs ms ds := by
  have hfl : ∃ cs, v = .agg cs := by
    unfold Value.okWide at hok
    unfold structTy at ht
    split at ht <;> first | contradiction | skip
    rename_i hu
    rw [hu] at hok
    obtain ⟨cs, rfl, _⟩ := hok
    exact ⟨cs, rfl⟩
  obtain ⟨cs, rfl⟩ := hfl
  obtain ⟨fuel, hd⟩ := hd
  obtain ⟨φ', H', ms, ds, I', le, e, r, p⟩ := read_cells fuel k t _ _ _ φ H hd hs I
  refine ⟨φ', H', ms, ds, I', le, e, ?_, p⟩
  have := VRel.agg_of r
  simpa using this
end
end Go.Mod

/- What a model's value, object and heap have to do with the machine's; operations that hang on their operands alone. -/
import Derived.Test.YtpdkmcnoidbjoaaFwB
import Derived.Laws.Sem
import Derived.Laws.Append
import Derived.KernelRfl
set_option linter.unusedVariables false
set_option linter.unusedSimpArgs false
namespace Go.Mod

/-- Where a model's object lies: block, first cell, how many cells may be used, the size of an element, is each slice's capacity told. -/
structure Place where
  block : Nat
  base : Nat
  room : Nat
  es : Nat
  ex : Bool

abbrev Ren := Nat → Option Place

inductive VRel (φ : Ren) : Value → Value → Prop
  | bool (b : Bool) : VRel φ (.bool b) (.bool b)
  | int (k : IntKind) (n : Int) : VRel φ (.int k n) (.int k n)
  | string (s : ByteArray) : VRel φ (.string s) (.string s)
  | ptr0 : VRel φ (.pointer none) (.pointer none)
  | ptr {id o : Nat} {pl : Place} (h : φ id = some pl) : VRel φ (.pointer (some ⟨id, o, none⟩)) (.pointer (some ⟨pl.block, pl.base + o, none⟩))
  | slice0 : VRel φ (.slice none 0 0) (.slice none 0 0)
  | slice {id o n c c' b' : Nat} {pl : Place} (h : φ id = some pl) (hn : n ≤ c) (hc : c ≤ c') (hex : pl.ex = true → c' = c) (hroom : o + c' * pl.es ≤ pl.room) (ha : 0 < c' → b' = pl.base + o) :
      VRel φ (.slice (some ⟨id, o, none⟩) n c) (.slice (some ⟨pl.block, b', none⟩) n c')
  | slicee {id o : Nat} {a : Addr} : VRel φ (.slice (some ⟨id, o, none⟩) 0 0) (.slice (some a) 0 0)
  | map0 : VRel φ (.map none) (.map none)
  | map {id : Nat} {pl : Place} (h : φ id = some pl) : VRel φ (.map (some id)) (.map (some pl.block))
  | chan0 : VRel φ (.chan none) (.chan none)
  | chan {id : Nat} {pl : Place} (h : φ id = some pl) : VRel φ (.chan (some id)) (.chan (some pl.block))
  | func (fn : Fn) {a a' c c' : Array Value} (ha : a.size = a'.size) (hc : c.size = c'.size)
      (h : ∀ (i : Nat) (x x' : Value), a[i]? = some x → a'[i]? = some x' → VRel φ x x') (g : ∀ (i : Nat) (x x' : Value), c[i]? = some x → c'[i]? = some x' → VRel φ x x') : VRel φ (.func fn a c) (.func fn a' c')
  | nilFunc : VRel φ .nilFunc .nilFunc
  | nilIface : VRel φ .nilIface .nilIface
  | iface (t : TypeId) {v v' : Value} (h : VRel φ v v') : VRel φ (.iface t v) (.iface t v')
  | agg {a a' : Array Value} (ha : a.size = a'.size) (h : ∀ (i : Nat) (x x' : Value), a[i]? = some x → a'[i]? = some x' → VRel φ x x') : VRel φ (.agg a) (.agg a')
  | tuple {a a' : Array Value} (ha : a.size = a'.size) (h : ∀ (i : Nat) (x x' : Value), a[i]? = some x → a'[i]? = some x' → VRel φ x x') : VRel φ (.tuple a) (.tuple a')

def Ren.le (φ ψ : Ren) : Prop := ∀ id pl, φ id = some pl → ψ id = some pl
theorem Ren.le.refl (φ : Ren) : φ.le φ := fun _ _ h => h
theorem Ren.le.trans {φ ψ χ : Ren} (h : φ.le ψ) (g : ψ.le χ) : φ.le χ := fun i p e => g i p (h i p e)

theorem VRel.mono {φ ψ : Ren} (hle : φ.le ψ) {v v' : Value} (h : VRel φ v v') : VRel ψ v v' := by
  induction h with
  | bool b => exact .bool b
  | int k n => exact .int k n
  | string s => exact .string s
  | ptr0 => exact .ptr0
  | ptr h => exact .ptr (hle _ _ h)
  | slice0 => exact .slice0
  | slice h hn hc hex hroom ha => exact .slice (hle _ _ h) hn hc hex hroom ha
  | slicee => exact .slicee
  | map0 => exact .map0
  | map h => exact .map (hle _ _ h)
  | chan0 => exact .chan0
  | chan h => exact .chan (hle _ _ h)
  | func fn ha hc h g ih ig => exact .func fn ha hc ih ig
  | nilFunc => exact .nilFunc
  | nilIface => exact .nilIface
  | iface t h ih => exact .iface t ih
  | agg ha h ih => exact .agg ha ih
  | tuple ha h ih => exact .tuple ha ih

theorem VRel.notUnk {φ : Ren} {v v' : Value} (h : VRel φ v v') : isUnk v = false := by cases h <;> rfl
theorem VRel.flat {φ : Ren} {v v' : Value} (h : VRel φ v v') : flat v' = flat v := by cases h <;> rfl

/-- Rows of values, pairwise. -/
inductive Rels (R : Value → Value → Prop) : List Value → List Value → Prop
  | nil : Rels R [] []
  | cons {x y : Value} {xs ys : List Value} (h : R x y) (t : Rels R xs ys) : Rels R (x :: xs) (y :: ys)

theorem Rels.imp {R S : Value → Value → Prop} (f : ∀ x y, R x y → S x y) {xs ys : List Value} (h : Rels R xs ys) : Rels S xs ys := by
  induction h with
  | nil => exact .nil
  | cons h t ih => exact .cons (f _ _ h) ih
theorem Rels.length {R : Value → Value → Prop} {xs ys : List Value} (h : Rels R xs ys) : ys.length = xs.length := by
  induction h with
  | nil => rfl
  | cons h t ih => simp [ih]
theorem Rels.get {R : Value → Value → Prop} {xs ys : List Value} (h : Rels R xs ys) : ∀ (i : Nat) (x : Value), xs[i]? = some x → ∃ y, ys[i]? = some y ∧ R x y := by
  induction h with
  | nil => intro i x hx; simp at hx
  | cons h t ih =>
    intro i x hx
    cases i with
    | zero => simp at hx; subst hx; exact ⟨_, by simp, h⟩
    | succ i => simp at hx; obtain ⟨y, hy, hr⟩ := ih i x hx; exact ⟨y, by simpa using hy, hr⟩
theorem Rels.of_get {R : Value → Value → Prop} : ∀ {xs ys : List Value}, ys.length = xs.length → (∀ (i : Nat) (x y : Value), xs[i]? = some x → ys[i]? = some y → R x y) → Rels R xs ys
  | [], [], _, _ => .nil
  | [], _ :: _, h, _ => by simp at h
  | _ :: _, [], h, _ => by simp at h
  | x :: xs, y :: ys, h, g => .cons (g 0 x y (by simp) (by simp)) (Rels.of_get (by simpa using h) fun i a b ha hb => g (i + 1) a b (by simpa using ha) (by simpa using hb))
theorem Rels.append {R : Value → Value → Prop} {xs ys xs' ys' : List Value} (h : Rels R xs ys) (g : Rels R xs' ys') : Rels R (xs ++ xs') (ys ++ ys') := by
  induction h with
  | nil => exact g
  | cons h t ih => exact .cons h ih
theorem Rels.take {R : Value → Value → Prop} (n : Nat) {xs ys : List Value} (h : Rels R xs ys) : Rels R (xs.take n) (ys.take n) := by
  induction h generalizing n with
  | nil => simp; exact .nil
  | cons h t ih => cases n with
    | zero => exact .nil
    | succ n => exact .cons h (ih n)
theorem Rels.drop {R : Value → Value → Prop} (n : Nat) {xs ys : List Value} (h : Rels R xs ys) : Rels R (xs.drop n) (ys.drop n) := by
  induction h generalizing n with
  | nil => simp; exact .nil
  | cons h t ih => cases n with
    | zero => exact .cons h t
    | succ n => exact ih n
theorem Rels.refl {R : Value → Value → Prop} : ∀ {xs : List Value}, (∀ x ∈ xs, R x x) → Rels R xs xs
  | [], _ => .nil
  | x :: xs, h => .cons (h x (by simp)) (Rels.refl fun y hy => h y (by simp [hy]))

theorem VRel.rels {φ : Ren} {a a' : Array Value} (hs : a.size = a'.size) (h : ∀ (i : Nat) (x x' : Value), a[i]? = some x → a'[i]? = some x' → VRel φ x x') : Rels (VRel φ) a.toList a'.toList :=
  Rels.of_get (by simp [hs]) fun i x y hx hy => h i x y (by simpa using hx) (by simpa using hy)
theorem VRel.agg_of {φ : Ren} {xs ys : List Value} (h : Rels (VRel φ) xs ys) : VRel φ (.agg xs.toArray) (.agg ys.toArray) :=
  .agg (by simp [h.length]) fun i x x' hx hx' => by
    simp at hx hx'
    obtain ⟨y, hy, hr⟩ := h.get i x hx
    rw [hy] at hx'; cases hx'; exact hr
theorem VRel.tuple_of {φ : Ren} {xs ys : List Value} (h : Rels (VRel φ) xs ys) : VRel φ (.tuple xs.toArray) (.tuple ys.toArray) :=
  .tuple (by simp [h.length]) fun i x x' hx hx' => by
    simp at hx hx'
    obtain ⟨y, hy, hr⟩ := h.get i x hx
    rw [hy] at hx'; cases hx'; exact hr
/-- The cells of related values are related. -/
theorem VRel.cells {φ : Ren} {v v' : Value} (h : VRel φ v v') : Rels (VRel φ) v.cells.toList v'.cells.toList := by
  cases h with
  | agg ha h => exact VRel.rels ha h
  | tuple ha h => exact .cons (.tuple ha h) .nil
  | bool b => exact .cons (.bool b) .nil
  | int k n => exact .cons (.int k n) .nil
  | string s => exact .cons (.string s) .nil
  | ptr0 => exact .cons .ptr0 .nil
  | ptr h => exact .cons (.ptr h) .nil
  | slice0 => exact .cons .slice0 .nil
  | slice h hn hc hex hroom ha => exact .cons (.slice h hn hc hex hroom ha) .nil
  | slicee => exact .cons .slicee .nil
  | map0 => exact .cons .map0 .nil
  | map h => exact .cons (.map h) .nil
  | chan0 => exact .cons .chan0 .nil
  | chan h => exact .cons (.chan h) .nil
  | func fn ha hc h g => exact .cons (.func fn ha hc h g) .nil
  | nilFunc => exact .cons .nilFunc .nil
  | nilIface => exact .cons .nilIface .nil
  | iface t h => exact .cons (.iface t h) .nil

theorem VRel.scalar {φ : Ren} {v : Value} (h : scalarV v = true) : VRel φ v v := by
  unfold scalarV at h
  split at h <;> first | (constructor; done) | exact VRel.bool _ | exact VRel.int _ _ | exact VRel.string _ | simp at h
theorem VRel.plain {φ : Ren} {v : Value} (h : plainV v = true) : VRel φ v v := by
  unfold plainV at h
  split at h
  · rename_i cs
    refine .agg rfl fun i x x' hx hx' => ?_
    rw [hx] at hx'; cases hx'
    exact VRel.scalar (List.all_eq_true.1 h x (by rw [Array.mem_toList_iff]; exact Array.mem_of_getElem? hx))
  · exact VRel.scalar h
theorem VRel.undef {φ : Ren} : VRel φ (.tuple #[]) undef := .tuple rfl fun i x x' hx _ => by simp at hx

/-- A cell's content, where something is known of it. -/
def CRel (φ : Ren) (c v : Value) : Prop := isUnk c = true ∨ VRel φ c v
theorem CRel.mono {φ ψ : Ren} (hle : φ.le ψ) {c v : Value} (h : CRel φ c v) : CRel ψ c v := h.imp id (VRel.mono hle)

/-- The operands. -/
theorem cArgs_length : ∀ {xs : List Operand} {as : List Arg}, cArgs xs = some as → as.length = xs.length
  | [], as, h => by simp [cArgs] at h; subst h; rfl
  | x :: xs, as, h => by
    simp only [cArgs] at h
    split at h
    · rename_i a as' ha has
      cases h
      simp [cArgs_length has]
    · cases h

end Go.Mod

/- Strings as lists of bytes; library functions as intrinsics: what their contracts say, in the model. -/
import Derived.Test.YthpeamllfledkaaGreatDoorGrC
import Derived.Below
import Derived.Deep.Draws
import Derived.Lib.SplitLaws
import Derived.Lib.IndexLaws
import Derived.Lib.IndexBytes
import Derived.Lib.CutLaws
import Derived.Lib.AtoiAll
import Derived.Lib.ItoaMem
import Derived.LaidMore
import Derived.Lay
import Derived.SevenTiedAt
import Derived.Lib.LaidTab
import Derived.Shelf.Vars
import Derived.Shelf.Strings.BuilderF
set_option linter.unusedVariables false
set_option linter.unusedSimpArgs false
set_option linter.unusedSectionVars false
namespace Go.Mod
open Go.Lib Go.RowKit

/-- The string of a list of bytes. -/
def B (l : List UInt8) : ByteArray := ⟨l.toArray⟩
theorem B_eta (s : ByteArray) : ∃ l, s = B l := ⟨s.data.toList, by cases s; simp [B]⟩
@[simp] theorem B_data (l : List UInt8) : (B l).data.toList = l := by simp [B]
@[simp] theorem B_size (l : List UInt8) : (B l).size = l.length := by simp [B, ByteArray.size]
theorem ba_loop' (s : ByteArray) : ∀ (k i : Nat) (r : List UInt8), s.size - i = k → ByteArray.toList.loop s i r = r.reverse ++ s.data.toList.drop i
  | 0, i, r, h => by
    rw [ByteArray.toList.loop]
    have : ¬ i < s.size := by omega
    rw [if_neg this, List.drop_of_length_le (by simpa using (by omega : s.size ≤ i)), List.append_nil]
  | k + 1, i, r, h => by
    rw [ByteArray.toList.loop]
    have hi : i < s.size := by omega
    rw [if_pos hi, ba_loop' s k (i + 1) _ (by omega)]
    have hi' : i < s.data.toList.length := by simpa using hi
    rw [List.drop_eq_getElem_cons hi', List.reverse_cons, List.append_assoc]
    have : s.get! i = s.data.toList[i] := by
      rw [Array.getElem_toList]
      show s.data[i]! = _
      rw [getElem!_pos]
    rw [this]; rfl
theorem ba_toList' (s : ByteArray) : s.toList = s.data.toList := by
  rw [ByteArray.toList, ba_loop' s s.size 0 [] (by omega)]; simp
@[simp] theorem B_toList (l : List UInt8) : (B l).toList = l := by rw [ba_toList']; simp
theorem B_inj {l m : List UInt8} (h : B l = B m) : l = m := by rw [← B_data l, ← B_data m, h]
@[simp] theorem B_get (l : List UInt8) (i : Nat) : (B l)[i]? = l[i]? := by
  by_cases h : i < l.length
  · rw [getElem?_pos (B l) i (by simpa using h), List.getElem?_eq_getElem h]
    rfl
  · rw [getElem?_neg (B l) i (by simpa using h), List.getElem?_eq_none (by omega)]
@[simp] theorem B_append (l m : List UInt8) : B l ++ B m = B (l ++ m) := by
  cases h : B l ++ B m with
  | mk d =>
    have : d.toList = l ++ m := by
      have h2 : (B l ++ B m).data.toList = l ++ m := by simp [ByteArray.toList_data_append]
      rw [h] at h2; exact h2
    unfold B; congr 1; rw [← this]
@[simp] theorem B_extract (l : List UInt8) (a b : Nat) : (B l).extract a b = B ((l.drop a).take (b - a)) := by
  cases h : (B l).extract a b with
  | mk d =>
    have : d.toList = (l.drop a).take (b - a) := by
      have h2 : ((B l).extract a b).data.toList = (l.drop a).take (b - a) := by
        rw [ByteArray.data_extract]; simp [List.extract_eq_take_drop]
      rw [h] at h2; exact h2
    unfold B; congr 1; rw [← this]
theorem B_nil : (⟨#[]⟩ : ByteArray) = B [] := rfl

/-- The pieces between the bytes 'c'. -/
def cutAt (c : UInt8) : List UInt8 → List (List UInt8)
  | [] => [[]]
  | b :: l => if b = c then [] :: cutAt c l else match cutAt c l with
    | [] => [[b]]
    | h :: t => (b :: h) :: t
theorem cutAt_ne (c : UInt8) (l : List UInt8) : cutAt c l ≠ [] := by
  cases l with
  | nil => simp [cutAt]
  | cons b l => unfold cutAt; split; simp; split <;> simp
theorem cutAt_no {c : UInt8} : ∀ {l : List UInt8}, c ∉ l → cutAt c l = [l]
  | [], _ => rfl
  | b :: l, h => by
    simp only [List.mem_cons, not_or] at h
    unfold cutAt
    rw [if_neg (fun e => h.1 e.symm), cutAt_no h.2]
theorem cutAt_app {c : UInt8} {b : List UInt8} : ∀ {a : List UInt8}, c ∉ a → cutAt c (a ++ c :: b) = a :: cutAt c b
  | [], _ => by simp [cutAt]
  | x :: a, h => by
    simp only [List.mem_cons, not_or] at h
    rw [List.cons_append]
    conv => lhs; unfold cutAt
    rw [if_neg (fun e => h.1 e.symm), cutAt_app h.2]
theorem indexByte_split (c : UInt8) (l : List UInt8) : (indexByte l c = -1 ∧ c ∉ l) ∨ ∃ a b, l = a ++ c :: b ∧ c ∉ a ∧ indexByte l c = a.length := by
  have hge := indexByte_ge l c
  by_cases h : indexByte l c = -1
  · refine .inl ⟨h, fun hm => ?_⟩
    obtain ⟨k, hk⟩ := List.mem_iff_getElem?.1 hm
    exact indexByte_none h k hk
  · obtain ⟨o, ho⟩ : ∃ o : Nat, indexByte l c = o := ⟨(indexByte l c).toNat, by omega⟩
    obtain ⟨h1, h2⟩ := indexByte_some ho
    obtain ⟨hlt, hget⟩ := List.getElem?_eq_some_iff.1 h1
    refine .inr ⟨l.take o, l.drop (o + 1), ?_, fun hm => ?_, ?_⟩
    · conv => lhs; rw [← List.take_append_drop o l, List.drop_eq_getElem_cons hlt, hget]
    · obtain ⟨k, hk⟩ := List.mem_iff_getElem?.1 hm
      have hk' : k < o := by
        have := (List.getElem?_eq_some_iff.1 hk).1
        simp at this; omega
      rw [List.getElem?_take_of_lt hk'] at hk
      exact h2 k hk' hk
    · rw [ho]; simp; omega
theorem splitK_cutAt (c : UInt8) : ∀ (n : Nat) (l : List UInt8), l.length ≤ n → splitK [c] 0 (l.count c) l = cutAt c l := by
  intro n
  induction n with
  | zero =>
    intro l hl
    have : l = [] := List.length_eq_zero_iff.1 (by omega)
    subst this; rfl
  | succ n ih =>
    intro l hl
    rcases indexByte_split c l with ⟨h1, h2⟩ | ⟨a, b, rfl, h2, h3⟩
    · rw [List.count_eq_zero_of_not_mem h2, cutAt_no h2]; rfl
    · have hc : (a ++ c :: b).count c = b.count c + 1 := by
        rw [List.count_append, List.count_eq_zero_of_not_mem h2, List.count_cons_self]; omega
      rw [hc, cutAt_app h2]
      unfold splitK
      rw [index_one, h3]
      have : ((a.length : Int) == -1) = false := by simp
      rw [this]
      simp only [Bool.false_eq_true, if_false, Int.toNat_natCast, Nat.add_zero, List.length_singleton]
      rw [List.take_left, show (a ++ c :: b).drop (a.length + 1) = b by rw [← List.drop_drop]; simp]
      rw [ih b (by simp at hl; omega)]
theorem splitB_cutAt (s : ByteArray) (c : UInt8) : splitB (B [c]) 0 (countB s (B [c])) s = (cutAt c s.data.toList).map B := by
  have h : (splitB (B [c]) 0 (countB s (B [c])) s).map (·.data.toList) = cutAt c s.data.toList := by
    rw [splitB_data]
    show splitK (B [c]).data.toList 0 (count s.data.toList (B [c]).data.toList) s.data.toList = _
    rw [B_data, count_one]
    exact splitK_cutAt c _ _ (Nat.le_refl _)
  rw [← h, List.map_map]
  conv => lhs; rw [← List.map_id (splitB _ _ _ _)]
  refine List.map_congr_left fun x _ => ?_
  cases x; simp [B]
theorem cut_at (l : List UInt8) (c : UInt8) : Lib.cut l [c] = (l.takeWhile (· ≠ c), (l.dropWhile (· ≠ c)).drop 1, l.contains c) := by
  unfold Lib.cut
  rw [index_one]
  rcases indexByte_split c l with ⟨h1, h2⟩ | ⟨a, b, rfl, h2, h3⟩
  · rw [h1, if_neg (by decide)]
    have hall : ∀ x ∈ l, (decide (x ≠ c)) = true := fun x hx => by simp; rintro rfl; exact h2 hx
    rw [show l.takeWhile (· ≠ c) = l by have := List.takeWhile_append_of_pos hall (l₂ := []); simpa using this, show l.dropWhile (· ≠ c) = [] by have := List.dropWhile_append_of_pos hall (l₂ := []); simpa using this]
    simp [h2]
  · rw [h3, if_pos (by omega)]
    have hall : ∀ x ∈ a, (decide (x ≠ c)) = true := fun x hx => by simp; rintro rfl; exact h2 hx
    rw [List.takeWhile_append_of_pos hall, List.dropWhile_append_of_pos hall]
    simp
section
variable [Glob]
variable {P : Program} {φ : Ren} {H : MH} {w w' : World} {f : FuncId}

/-- What is fixed stands in the world. -/
def GlobAt (w : World) : Prop := ∀ b o, Glob.G b = some o → w.heap[b]? = some o
theorem HRel.globAt {h : Nat → Option MObj} (hr : HRel φ h w) : GlobAt w := fun b o hG => (hr.glob b o hG).1
theorem glob_cell (hw : GlobAt w) {b : Nat} {rc : Array Value} {e : TypeId} {r : Nat × Nat} (h : Glob.G b = some (.cells rc e r)) {i : Nat} {v : Value} (hv : rc[i]? = some v) : w.cell? ⟨b, i, none⟩ = some v := by
  simp [World.cell?, hw b _ h, hv]

/-- Of what was there nothing has turned. -/
theorem Step.below (hr : HRel φ (hp H) w) (hB : Below w.heap.size w w') : Step H.length φ (hp H) w φ (hp H) w' :=
  ⟨hr.world hB.size (fun id pl h => hB.block _ (hr.lt id pl h)) (fun b o hG => hB.block _ (Array.getElem?_eq_some_iff.1 (hr.glob b o hG).1).1), Ren.le.refl φ, ⟨hB.os, hB.tape, hB.output, hB.size, fun b hb _ => hB.block b hb⟩,
   fun id pl o h1 h2 h3 _ => ⟨id, pl, o, h1, h2, h3, rfl⟩, fun id pl h1 h2 => (by rw [h2] at h1; cases h1), fun id pl h => .inl h⟩
/-- .. but for one new object, wherever behind the heap's end. -/
theorem Step.pushAt {n : Nat} {pl : Place} {ob : MObj} (hr : HRel φ (hp H) w) (hn : n ≤ H.length) (hpl : w.heap.size ≤ pl.block) (hplt : pl.block < w'.heap.size) (hB : Below w.heap.size w w') (ho : ORel φ w' pl ob) :
    Step n φ (hp H) w (φ.set H.length pl) (hp (H ++ [ob])) w' := by
  have hbl : ∀ b, b < w.heap.size → w'.heap[b]? = w.heap[b]? := hB.block
  have hsz := hB.size
  have hno : φ H.length = none := by
    cases h : φ H.length with
    | none => rfl
    | some p => obtain ⟨o, h1, _⟩ := hr.obj _ p h; unfold hp at h1; simp at h1
  have hle := Ren.le_set pl hno
  have get : ∀ j o, (H ++ [ob])[j]? = some o → (j = H.length ∧ o = ob) ∨ (j ≠ H.length ∧ H[j]? = some o) := by
    intro j o hj
    by_cases e : j = H.length
    · subst e; simp at hj; exact .inl ⟨rfl, hj.symm⟩
    · refine .inr ⟨e, ?_⟩
      by_cases hlt : j < H.length
      · rwa [List.getElem?_append_left hlt] at hj
      · have : (H ++ [ob])[j]? = none := List.getElem?_eq_none (by simp; omega)
        rw [this] at hj; cases hj
  have old : ∀ j pj, j ≠ H.length → (φ.set H.length pl) j = some pj → φ j = some pj := fun j pj e h => by rwa [Ren.set_ne _ _ e] at h
  have self : ∀ pj, (φ.set H.length pl) H.length = some pj → pj = pl := fun pj h => by rw [Ren.set_self] at h; cases h; rfl
  have hglt : ∀ b o, Glob.G b = some o → b < w.heap.size := fun b o hG => (Array.getElem?_eq_some_iff.1 (hr.glob b o hG).1).1
  refine ⟨⟨?_, ?_, ?_, fun b o hG => ⟨(hbl b (hglt b o hG)).trans (hr.glob b o hG).1, fun j pj oj hj hoj hmj => by
    rcases get j oj hoj with ⟨rfl, rfl⟩ | ⟨hj', hoj'⟩
    · obtain rfl := self pj hj; have := hglt b o hG; omega
    · exact (hr.glob b o hG).2 j pj oj (old j pj hj' hj) hoj' hmj⟩⟩, hle, ⟨hB.os, hB.tape, hB.output, hsz, fun b hb _ => hbl b hb⟩, ?_, ?_, ?_⟩
  · intro j pj hj
    by_cases e : j = H.length
    · subst e
      obtain rfl := self pj hj
      exact ⟨ob, by show (H ++ [ob])[H.length]? = _; simp, ho.mono hle rfl⟩
    · have hj' := old j pj e hj
      obtain ⟨o, h1, h2⟩ := hr.obj j pj hj'
      have hlt := (List.getElem?_eq_some_iff.1 (show H[j]? = some o from h1)).1
      exact ⟨o, by show (H ++ [ob])[j]? = _; rw [List.getElem?_append_left hlt]; exact h1, h2.mono hle (hbl _ (hr.lt j pj hj'))⟩
  · intro j pj hj
    by_cases e : j = H.length
    · subst e; obtain rfl := self pj hj; omega
    · have := hr.lt j pj (old j pj e hj); omega
  · intro i j pi pj oi oj hi hj hoi hoj hmi hlj hb
    rcases get i oi hoi with ⟨rfl, rfl⟩ | ⟨hi', hoi'⟩ <;> rcases get j oj hoj with ⟨rfl, rfl⟩ | ⟨hj', hoj'⟩
    · rfl
    · obtain rfl := self pi hi
      have := hr.lt j pj (old j pj hj' hj); omega
    · obtain rfl := self pj hj
      have := hr.lt i pi (old i pi hi' hi); omega
    · exact hr.sep i j pi pj oi oj (old i pi hi' hi) (old j pj hj' hj) hoi' hoj' hmi hlj hb
  · intro j pj o' hj ho' hmo hlt
    rcases get j o' ho' with ⟨rfl, rfl⟩ | ⟨hj', hoj'⟩
    · obtain rfl := self pj hj; omega
    · exact ⟨j, pj, o', old j pj hj' hj, hoj', hmo, rfl⟩
  · intro j pj hj hnj hlt
    by_cases e : j = H.length
    · subst e; obtain rfl := self pj hj; omega
    · have := old j pj e hj; rw [hnj] at this; cases this
  · intro j pj hj
    by_cases e : j = H.length
    · subst e; exact .inr ⟨hno, hn⟩
    · exact .inl (old j pj e hj)

theorem scalars_eq : ∀ {vs args : List Value}, Rels (VRel φ) vs args → vs.all scalarV = true → args = vs
  | _, _, .nil, _ => rfl
  | _, _, .cons h t, ha => by
    simp only [List.all_cons, Bool.and_eq_true] at ha
    rw [scalar_eq ha.1 h, scalars_eq t ha.2]
theorem keeps_app (H : MH) (X : MH) : Keeps H (H ++ X) := ⟨by simp, fun id hd => by
  rw [List.getElem?_append_left (List.getElem?_eq_some_iff.1 hd).1]; exact hd⟩

/-- A function of scalars that leaves what was there. -/
def scalS (g : List Value → Option Value) (vs : List Value) (H : MH) : Option (Value × MH) := (g vs).map fun v => (v, H)
theorem scal_ok {g : List Value → Option Value} (hc : Callable P f) (ha : ∀ vs v, g vs = some v → vs.all scalarV = true ∧ ∀ φ, VRel φ v v)
    (h : ∀ vs v w, g vs = some v → GlobAt w → Calls P f vs.toArray w fun e w' => e = .returned v ∧ Below w.heap.size w w') : IntrOk P f (scalS g) := by
  refine ⟨fun vs H r H' hm φ w args hh hr => ?_, fun vs H r H' hm => ?_⟩
  · obtain ⟨v, hv, he⟩ := Option.map_eq_some_iff.1 hm
    cases he
    obtain rfl := scalars_eq hr (ha _ _ hv).1
    exact .inl ⟨hc, (h _ _ w hv hh.globAt).mono fun e w' ⟨he, hB⟩ => ⟨r, he, φ, (ha _ _ hv).2 φ, Step.below hh hB⟩⟩
  · obtain ⟨v, hv, he⟩ := Option.map_eq_some_iff.1 hm
    cases he; exact Keeps.refl _

/-- strings.Split at one byte. -/
def splitS : List Value → MH → Option (Value × MH)
  | [.string s, .string t], H =>
    match t.data.toList with
    | [c] => if s.size ≤ 1000000 then
        some (.slice (some ⟨H.length, 0, none⟩) (cutAt c s.data.toList).length (cutAt c s.data.toList).length, H ++ [.cells ⟨1, true, true⟩ ((cutAt c s.data.toList).map fun l => .string (B l))]) else none
    | _ => none
  | _, _ => none
theorem split_ok {T : TypeId} (hc : Callable P f) (h : ∀ s sep w, s.size < 4294967281 → 1 ≤ sep.size → GlobAt w → Calls P f #[.string s, .string sep] w fun e w' =>
      e = .returned (.slice (some ⟨w.heap.size, 0, none⟩) (countB s sep + 1) (countB s sep + 1)) ∧ w' = w.alloc (.cells ((splitB sep 0 (countB s sep) s).map Value.string).toArray T)) : IntrOk P f splitS := by
  refine ⟨fun vs H r H' hm φ w args hh hr => ?_, fun vs H r H' hm => ?_⟩
  · unfold splitS at hm
    split at hm <;> first | contradiction | skip
    rename_i s t
    split at hm <;> first | contradiction | skip
    rename_i c hc'
    split at hm <;> first | contradiction | skip
    rename_i hs
    cases hm
    have ht : t = B [c] := by cases t; simp at hc'; simp [B, ← hc']
    subst ht
    obtain rfl := scalars_eq hr rfl
    refine .inl ⟨hc, (h s (B [c]) w (by omega) (by simp) hh.globAt).mono fun e w' ⟨he, hw⟩ => ?_⟩
    have hlen : countB s (B [c]) + 1 = (cutAt c s.data.toList).length := by
      have := splitB_all (B [c]) (by simp) 0 _ s rfl
      rw [splitB_cutAt] at this; simpa using this.symm
    rw [splitB_cutAt] at hw
    rw [hlen] at he
    refine ⟨_, he, φ.set H.length ⟨w.heap.size, 0, (cutAt c s.data.toList).length, 1, true⟩, ?_, ?_⟩
    · refine VRel.slice (pl := ⟨w.heap.size, 0, (cutAt c s.data.toList).length, 1, true⟩) (Ren.set_self ..) (Nat.le_refl _) (Nat.le_refl _) (fun _ => rfl) (by simp) (fun _ => rfl)
    · subst hw
      have hsz : (w.alloc (.cells (((cutAt c s.data.toList).map B).map Value.string).toArray T)).heap.size = w.heap.size + 1 := by
        show (w.heap.push _).size = _; simp
      refine Step.push hh (Nat.le_refl _) rfl rfl rfl rfl hsz (fun b hb => ?_) ⟨rfl, rfl, _, T, 0, 0, by show (w.heap.push _)[w.heap.size]? = _; simp; rfl, by simp, by simp, ?_, fun _ => .inl (Nat.le_refl _), fun t h => by cases h⟩
      · show (w.heap.push _)[b]? = _
        rw [Array.getElem?_push_lt hb, Array.getElem?_eq_getElem hb]
      · intro j x hx
        simp only [List.getElem?_map, Option.map_eq_some_iff] at hx
        obtain ⟨l, hl, rfl⟩ := hx
        exact ⟨.string (B l), by simp [hl], .inr (.string _)⟩
  · unfold splitS at hm
    split at hm <;> first | contradiction | skip
    split at hm <;> first | contradiction | skip
    split at hm <;> first | contradiction | skip
    cases hm; exact keeps_app _ _

/-- strings.Cut at one byte. -/
def cutG : List Value → Option Value
  | [.string s, .string t] =>
    match t.data.toList with
    | [c] => if s.size ≤ 1000000 then some (.tuple #[.string (B (s.data.toList.takeWhile (· ≠ c))), .string (B ((s.data.toList.dropWhile (· ≠ c)).drop 1)), .bool (s.data.toList.contains c)]) else none
    | _ => none
  | _ => none
theorem cut_ok (hc : Callable P f) (h : ∀ s sep w, s.size < 4294967281 → GlobAt w → Calls P f #[.string s, .string sep] w fun e w' =>
      e = .returned (.tuple #[.string ⟨(Lib.cut s.data.toList sep.data.toList).1.toArray⟩, .string ⟨(Lib.cut s.data.toList sep.data.toList).2.1.toArray⟩, .bool (Lib.cut s.data.toList sep.data.toList).2.2]) ∧ ∃ n, w' = w.drewN n) : IntrOk P f (scalS cutG) := by
  refine scal_ok hc (fun vs v hv => ?_) (fun vs v w hv hG => ?_)
  all_goals
    unfold cutG at hv
    split at hv <;> first | contradiction | skip
    rename_i s t
    split at hv <;> first | contradiction | skip
    rename_i c hc'
    split at hv <;> first | contradiction | skip
    rename_i hs
    cases hv
  · exact ⟨rfl, fun φ => VRel.tuple_of (.cons (.string _) (.cons (.string _) (.cons (.bool _) .nil)))⟩
  · refine (h s t w (by omega) hG).mono fun e w' ⟨he, n, hw⟩ => ⟨?_, ?_⟩
    · rw [he, hc', cut_at]; rfl
    · subst hw; exact ⟨rfl, rfl, rfl, Nat.le_refl _, fun _ _ => rfl⟩

/-- strconv.Atoi. -/
def atoiS (t : TypeId) : List Value → MH → Option (Value × MH)
  | [.string s], H => if s.size ≤ 1000000 then
      match atoiAll s.data.toList with
      | .ok v => some (.tuple #[.int .i64 v, .nilIface], H)
      | .range => some (.tuple #[.int .i64 (atoiSat s.data.toList), .iface t (.pointer (some ⟨H.length, 0, none⟩))], H ++ [.dead])
      | _ => some (.tuple #[.int .i64 0, .iface t (.pointer (some ⟨H.length, 0, none⟩))], H ++ [.dead])
    else none
  | _, _ => none
theorem atoi_ok {t : TypeId} (hc : Callable P f)
    (h1 : ∀ s v w, s.size ≤ 1000000 → atoiAll s.data.toList = .ok v → Calls P f #[.string s] w fun e w' => e = .returned (.tuple #[.int .i64 v, .nilIface]) ∧ Below w.heap.size w w')
    (h2 : ∀ s w, s.size ≤ 1000000 → (∀ v, atoiAll s.data.toList ≠ .ok v) → atoiAll s.data.toList ≠ .range → GlobAt w → Calls P f #[.string s] w fun e w' => ∃ N, e = .returned (.tuple #[.int .i64 0, .iface t (.pointer (some ⟨N, 0, none⟩))]) ∧ w.heap.size ≤ N ∧ N < w'.heap.size ∧ Below w.heap.size w w')
    (h3 : ∀ s w, s.size ≤ 1000000 → atoiAll s.data.toList = .range → GlobAt w → Calls P f #[.string s] w fun e w' => ∃ N, e = .returned (.tuple #[.int .i64 (atoiSat s.data.toList), .iface t (.pointer (some ⟨N, 0, none⟩))]) ∧ w.heap.size ≤ N ∧ N < w'.heap.size ∧ Below w.heap.size w w') :
    IntrOk P f (atoiS t) := by
  have err : ∀ {s : ByteArray} {x : Int} {φ : Ren} {w : World} {H : MH}, HRel φ (hp H) w → (Calls P f #[.string s] w fun e w' => ∃ N, e = .returned (.tuple #[.int .i64 x, .iface t (.pointer (some ⟨N, 0, none⟩))]) ∧ w.heap.size ≤ N ∧ N < w'.heap.size ∧ Below w.heap.size w w') →
      Calls P f #[.string s] w fun e w' => ∃ v, e = .returned v ∧ ∃ φ', VRel φ' (.tuple #[.int .i64 x, .iface t (.pointer (some ⟨H.length, 0, none⟩))]) v ∧ Step H.length φ (hp H) w φ' (hp (H ++ [.dead])) w' := by
    intro s x φ w H hh hC
    refine hC.mono fun e w' ⟨N, he, hN, hlt, hB⟩ => ⟨_, he, φ.set H.length ⟨N, 0, 0, 0, false⟩, ?_, ?_⟩
    · exact VRel.tuple_of (.cons (.int _ _) (.cons (.iface _ (VRel.ptr (pl := ⟨N, 0, 0, 0, false⟩) (o := 0) (Ren.set_self ..))) .nil))
    · exact Step.pushAt hh (Nat.le_refl _) hN hlt hB trivial
  refine ⟨fun vs H r H' hm φ w args hh hr => ?_, fun vs H r H' hm => ?_⟩
  · unfold atoiS at hm
    split at hm <;> first | contradiction | skip
    rename_i s
    split at hm <;> first | contradiction | skip
    rename_i hs
    obtain rfl := scalars_eq hr rfl
    split at hm
    · rename_i v hv
      cases hm
      exact .inl ⟨hc, (h1 s v w hs hv).mono fun e w' ⟨he, hB⟩ => ⟨_, he, φ, VRel.tuple_of (.cons (.int _ _) (.cons .nilIface .nil)), Step.below hh hB⟩⟩
    · rename_i hv
      cases hm
      exact .inl ⟨hc, err hh (h3 s w hs hv hh.globAt)⟩
    · rename_i g1 g2
      cases hm
      exact .inl ⟨hc, err hh (h2 s w hs (fun v e => g1 v e) (fun e => g2 e) hh.globAt)⟩
  · unfold atoiS at hm
    split at hm <;> first | contradiction | skip
    split at hm <;> first | contradiction | skip
    split at hm <;> cases hm
    · exact Keeps.refl _
    · exact keeps_app _ _
    · exact keeps_app _ _

/-- The digits of a number below 10 to the fuel. -/
def decD : Nat → Nat → List UInt8
  | 0, _ => []
  | k + 1, n => if n < 10 then [UInt8.ofNat (48 + n)] else decD k (n / 10) ++ [UInt8.ofNat (48 + n % 10)]
theorem decD_eq : ∀ (k n : Nat), n < 10 ^ k → 0 < k → decD k n = decDigits n
  | 0, n, _, h => by omega
  | k + 1, n, h, _ => by
    unfold decD
    rw [decDigits]
    by_cases hn : n < 10
    · rw [if_pos hn, dif_pos hn]
    · rw [if_neg hn, dif_neg hn]
      have hk : 0 < k := by
        cases k with
        | zero => simp at h; omega
        | succ k => omega
      rw [decD_eq k (n / 10) (by rw [Nat.pow_succ] at h; omega) hk]
/-- strconv.Itoa of at most seven digits. -/
def itoaG : List Value → Option Value
  | [.int .i64 n] => if 0 ≤ n ∧ n ≤ 9999999 then some (.string (B (decD 7 n.toNat))) else none
  | _ => none
theorem itoa_ok (hc : Callable P f) (h : ∀ n w, 0 ≤ n → n ≤ 9999999 → GlobAt w → Calls P f #[.int .i64 n] w fun e w' => e = .returned (.string ⟨(itoa n).toArray⟩) ∧ Below w.heap.size w w') : IntrOk P f (scalS itoaG) := by
  refine scal_ok hc (fun vs v hv => ?_) (fun vs v w hv hG => ?_)
  all_goals
    unfold itoaG at hv
    split at hv <;> first | contradiction | skip
    rename_i n
    split at hv <;> first | contradiction | skip
    rename_i hn
    cases hv
  · exact ⟨rfl, fun φ => .string _⟩
  · refine (h n w hn.1 hn.2 hG).mono fun e w' ⟨he, hB⟩ => ⟨?_, hB⟩
    rw [he, decD_eq 7 n.toNat (by omega) (by omega)]
    obtain ⟨m, rfl⟩ : ∃ m : Nat, n = m := ⟨n.toNat, by omega⟩
    rw [itoa_nonneg]; rfl
end
end Go.Mod
/- Rows that list package variables: the world's shape and the listed variables together. -/
set_option linter.unusedVariables false
namespace Go.Mod
open Go

theorem returnsInHanded_of_change_and_shaped {A : Type} {enc : TypeId × Value → A} {a : Assume} {C : Checked} {os : Os} {f : FuncId} {fn : Func} {s : ChangeSpec} {conds : List PathCond} {apart fresh handsOn again : Bool} {X : World → Array Value → Prop}
    (hX : ∀ (w w' : World) (args : Array Value), w.heap = w'.heap → X w args → X w' args)
    (own : ownKnob C.prog.godebug = none) (started : os.Started) (noInit : C.prog.inits.idxOf? f = none) (hfn : C.prog.funcs[f]? = some fn)
    (witness : ∃ (w : World) (tape : Tape) (i : Input), w.os = os ∧ (w.forCall tape i).Shaped C.prog ∧ i.vars = [] ∧ Input.okWide C.prog (w.forCall tape i) .any w.heap.size f i ∧
      ((s.pre enc C.prog fn conds apart (w.forCall tape i).memory i.args ∧ X (w.forCall tape i).memory i.args) ∧ sizedMet enc C.prog fn (OpenSpec.ofChange s) apart (w.forCall tape i).memory i.args) ∧ a.holds C.prog (lone (Frame.enter C.prog f i.args .normal) [] (w.forCall tape i)))
    (contract : ∀ (W : World) (base : Nat) (args : Array Value) (ds gs : List (DataW A)) (before : List MemPlace),
      (∀ (j : Nat) t v, fn.params[j]? = some t → args[j]? = some v → Value.okWide C.prog W .any base t v) →
      DataW.Whole enc C.prog fn.params.toList s.vars apart W args.toList ds gs before →
      conds.all (PathCond.test C.prog ⟨fn.params.toList, ds, s.plain.varTypes C.prog, gs⟩) = true →
      W.ShapedOpen C.prog → X W args →
      Calls C.prog f args W fun e W' => ∃ v, e = .returned v ∧ s.post enc C.prog fn apart fresh handsOn again W args v W') :
    ReturnsInHanded a C os f .any (fun w args => (s.pre enc C.prog fn conds apart w args ∧ X w args) ∧ sizedMet enc C.prog fn (OpenSpec.ofChange s) apart w args) (s.post enc C.prog fn apart fresh handsOn again) := by
  refine returnsInHanded_of_calls own started noInit witness ?_
  intro w tape i _ hsh _ hok hpre hholds
  obtain ⟨_, _, _, fn', hfn', _, _, _, _, hval⟩ := hok
  have e : fn' = fn := Option.some.inj (hfn'.symm.trans hfn)
  subst e
  obtain ⟨⟨⟨ds, gs, before, hw, hc⟩, hx⟩, hz⟩ := hpre
  have hw' := DataW.Whole.of_heap (w' := w.forCall tape i) (by rfl) hw
  refine (contract (w.forCall tape i) w.heap.size i.args ds gs before hval hw' hc hsh (hX _ _ _ (by rfl) hx)).mono fun e W' ⟨v, he, hp⟩ => ?_
  subst he
  exact ChangeSpec.post_blind hp

/-- One listed variable of many. -/
theorem laidVars_mem {P : Program} {w : World} {name : String} {d : DataW Unit} : ∀ {laid : List (String × DataW Unit)} {ps : List MemPlace}, DataW.LaidVars P w laid ps → (name, d) ∈ laid →
    ∃ g t cs fuel p, P.globalNamed name = some g ∧ (P.globals[g]?).map (·.type) = some t ∧ w.var? P name = some cs ∧ DataW.trod (fun _ => ()) P w 0 (fun _ => true) false fuel t cs.toList = some (d, p)
  | [], _, _, h => by cases h
  | x :: l, _, ⟨g, t, cs, fuel, p, q, hg, ht, hv, hd, hr, he⟩, h => by
    rcases List.mem_cons.1 h with h | h
    · subst h
      exact ⟨g, t, cs, fuel, p, hg, ht, hv, hd⟩
    · exact laidVars_mem hr h
theorem tabIs_of_mem {P : Program} {W : World} {name : String} {k : IntKind} {zs : List Int} {laid : List (String × DataW Unit)} {g : Nat} {t e : TypeId} {n : Nat}
    (hg : P.globalNamed name = some g) (hty : (P.globals[g]?).map (·.type) = some t) (ht : P.underlying t = some (.array n e)) (he : P.underlying e = some (.int k)) (hce : P.cellsOf e = 1) (hct : P.cellsOf t = n)
    (h : laidMet P laid W) (hm : (name, Lib.tabData k zs) ∈ laid) : Lib.TabIs P W name k zs := by
  obtain ⟨ps, hl, _⟩ := h
  obtain ⟨g', t', cs, fuel, p, hg', ht', hvar, hd⟩ := laidVars_mem hl hm
  obtain rfl := Option.some.inj (hg.symm.trans hg')
  obtain rfl := Option.some.inj (hty.symm.trans ht')
  unfold Lib.TabIs
  rw [hvar, ← Lib.cells_of_tab ht he hce hct hd]
theorem iface_of_mem {P : Program} {W : World} {name : String} {d : DataW Unit} {laid : List (String × DataW Unit)} {g : Nat} {t : TypeId}
    (hg : P.globalNamed name = some g) (hty : (P.globals[g]?).map (·.type) = some t) (ht : ∃ m, P.underlying t = some (.interface m))
    (h : laidMet P laid W) (hm : (name, d) ∈ laid) : ∃ ev, W.cell? ⟨g, 0, none⟩ = some ev ∧ (ev = .nilIface ∨ ∃ te pe, ev = .iface te pe) := by
  obtain ⟨ps, hl, _⟩ := h
  obtain ⟨g', t', cs, fuel, p, hg', ht', hvar, hd⟩ := laidVars_mem hl hm
  obtain rfl := Option.some.inj (hg.symm.trans hg')
  obtain rfl := Option.some.inj (hty.symm.trans ht')
  obtain ⟨m, ht⟩ := ht
  have key : cs.toList = [.nilIface] ∨ ∃ u v, cs.toList = [.iface u v] := by
    cases fuel with
    | zero => simp [DataW.trod] at hd
    | succ fuel =>
      unfold DataW.trod at hd
      rw [ht] at hd
      generalize cs.toList = l at hd ⊢
      simp only at hd
      split at hd <;> first | (cases hd; done) | (rename_i h; cases h; done) | skip
      all_goals first | exact .inl rfl | exact .inr ⟨_, _, rfl⟩ | simp_all
  have h0 := World.var?_cell hg hvar 0
  rcases key with k | ⟨u, v, k⟩
  · refine ⟨.nilIface, ?_, .inl rfl⟩
    rw [h0, ← Array.getElem?_toList, k]; rfl
  · refine ⟨.iface u v, ?_, .inr ⟨_, _, rfl⟩⟩
    rw [h0, ← Array.getElem?_toList, k]; rfl
end Go.Mod
/- strings.Builder's String, over whatever row of bytes; strings.HasPrefix, strings.Contains: intrinsics. -/
set_option linter.unusedVariables false
set_option linter.unusedSimpArgs false
namespace Go.Mod
open Go.Lib Go.RowKit Go.Shelf Go.Proofs

section
variable {P : Program} (w : World)
theorem liesAt_off {e : TypeId} (hc : P.cellsOf e = 1) (count off n : Nat) (hn : off + n ≤ count) : liesAt P P.depth e count off e n = true := by
  have hd : P.depth = (2 * (P.types.size + Made.depth) + 1) + 1 := rfl
  rw [hd]
  simp only [liesAt, Bool.or_eq_true]
  left
  rw [hd]
  simp [rowAt, hc, hn, sameLayout, Nat.mod_one]
theorem run_unsafeString_at (pt it ty e : TypeId) (hp : P.underlying pt = some (.pointer e)) (hc : P.cellsOf e = 1) (g off cells : Nat) (hsh : w.shape? g = some (e, cells)) (l : List UInt8) (h0 : l ≠ []) (hn : off + l.length ≤ cells) (h63 : l.length ≤ 9223372036854775807)
    (hcell : ∀ j x, l[j]? = some x → w.cell? ((⟨g, off, none⟩ : Addr).add j) = some (.int .u8 x.toNat)) :
    (Builtin.unsafeString_ #[pt, it] ty #[.pointer (some ⟨g, off, none⟩), .int .i64 l.length]).run P w = .ok (.string ⟨l.toArray⟩) (w.freeze ⟨g, off, none⟩ l.length) := by
  have hl : l.length ≠ 0 := by simpa using h0
  have hlb := run_loadBytes (P := P) w l ⟨g, off, none⟩ .empty hcell
  have hlies := liesAt_off (P := P) hc (cells / P.cellsOf e) off l.length (by rw [hc]; simpa using hn)
  have h63' : ¬ (9223372036854775807 : Int) < (l.length : Int) := by omega
  obtain ⟨m1, m2, m3, hdef⟩ : ∃ (m1 m2 m3 : String), Builtin.unsafeString_ #[pt, it] ty #[.pointer (some ⟨g, off, none⟩), .int .i64 l.length] =
      (do
        let n ← asInt (.int .i64 l.length)
        if n < 0 then runtimePanic (.error m1)
        if n > IntKind.i64.max then unsupported (.unsafePointer m2)
        if n = 0 then pure (.string .empty)
        else if ← variablesAt ⟨g, off, none⟩ (← elemOf pt) n.toNat then do
          let s ← loadBytes ⟨g, off, none⟩ .empty n.toNat
          freeze ⟨g, off, none⟩ n.toNat
          pure (.string s)
        else unsupported (.unsafePointer m3)) := ⟨_, _, _, rfl⟩
  rw [hdef]
  have hmax : IntKind.i64.max = 9223372036854775807 := rfl
  have hneg : ¬ (l.length : Int) < 0 := by omega
  simp [asInt, asIntOf, hmax, h63', hneg, hl, variablesAt, hsh, elemOf, run_underlying hp, hlies, hlb]
end

set_option maxHeartbeats 1000000 in
set_option maxRecDepth 100000 in
theorem builder_String_at {P : Program} {ρ : Go.Shelf.Ren} (L : Lays.n169 P ρ) (X : Builder.Extra P ρ) (b bo g off cap size : Nat) (l : List UInt8) (w : World) (hb : w.cell? ⟨b, bo + 1, none⟩ = some (.slice (some ⟨g, off, none⟩) l.length cap)) (h0 : l ≠ [])
    (hsh : w.shape? g = some (ρ.t 5, size)) (hn : off + l.length ≤ size) (h63 : l.length ≤ 4294967296) (hcap : l.length ≤ cap) (hcell : ∀ j x, l[j]? = some x → w.cell? ((⟨g, off, none⟩ : Addr).add j) = some (.int .u8 x.toNat)) :
    Calls P (ρ.f 169) #[.pointer (some ⟨b, bo, none⟩)] w fun e w' => e = .returned (.string ⟨l.toArray⟩) ∧ w' = w.drew.freeze ⟨g, off, none⟩ l.length := by
  have hl0 : l.length ≠ 0 := by simpa using h0
  have c1 : w.drew.cell? ⟨b, bo + 1, none⟩ = some (.slice (some ⟨g, off, none⟩) l.length cap) := hb
  have hSD : (Builtin.unsafeSliceData_ #[(ρ.t 37)] (ρ.t 127) #[.slice (some ⟨g, off, none⟩) l.length cap]).run P w.drew = .ok (.pointer (some ⟨g, off, none⟩)) w.drew :=
    Lib.run_unsafeSliceData_row _ _ _ _ _ _ (by omega)
  have hUS : (Builtin.unsafeString_ #[(ρ.t 127), (ρ.t 3)] (ρ.t 9) #[.pointer (some ⟨g, off, none⟩), .int .i64 l.length]).run P w.drew = .ok (.string ⟨l.toArray⟩) (w.drew.freeze ⟨g, off, none⟩ l.length) :=
    run_unsafeString_at w.drew (ρ.t 127) (ρ.t 3) (ρ.t 9) (ρ.t 5) L.t127 X.cellsByte g off size hsh l h0 hn (by omega) hcell
  have mixed := L.mixed
  have t72 := L.t72; have a72 := L.a72; have z72 := L.z72; have v72 := L.v72; have u72 := run_underlying L.t72
  have t70 := L.t70; have a70 := L.a70; have z70 := L.z70; have v70 := L.v70; have u70 := run_underlying L.t70
  have t37 := L.t37; have a37 := L.a37; have z37 := L.z37; have v37 := L.v37; have u37 := run_underlying L.t37
  have t127 := L.t127; have a127 := L.a127; have z127 := L.z127; have v127 := L.v127; have u127 := run_underlying L.t127
  have t3 := L.t3; have a3 := L.a3; have z3 := L.z3; have v3 := L.v3; have u3 := run_underlying L.t3
  have t9 := L.t9; have a9 := L.a9; have z9 := L.z9; have v9 := L.v9; have u9 := run_underlying L.t9
  have t5 := X.t5; have a5 := X.a5; have z5 := X.z5; have v5 := X.v5; have u5 := run_underlying X.t5
  go_enter L.f169, Body.n169_ntmps ρ
  go_wp2
  go_region_o
  all_goals (go_wp2; go_ret; exact ⟨rfl, rfl⟩)

def asB : List Value → Option (List UInt8)
  | [] => some []
  | .int .u8 n :: l => if n = ((UInt8.ofNat n.toNat).toNat : Int) then (asB l).map (UInt8.ofNat n.toNat :: ·) else none
  | _ => none
theorem asB_get : ∀ {c : List Value} {l : List UInt8}, asB c = some l → c = l.map fun b => .int .u8 (b.toNat : Int)
  | [], l, h => by cases h; rfl
  | v :: c, l, h => by
    unfold asB at h
    split at h <;> first | contradiction | skip
    rename_i n l0 e
    cases e
    split at h <;> first | contradiction | skip
    rename_i hn
    obtain ⟨m, hm, rfl⟩ := Option.map_eq_some_iff.1 h
    rw [asB_get hm, List.map_cons, ← hn]
/-- (*strings.Builder).String: the bytes; they are not written any more. -/
def strS (t : Nat) : List Value → MH → Option (Value × MH)
  | [.pointer (some ⟨b, o, none⟩)], H =>
    match H[b]? with
    | some (.cells _ c) => match c[o + 1]? with
      | some (.slice (some ⟨g, go, none⟩) n cap) => match H[g]? with
        | some (.cells j d) => match asB ((d.drop go).take n) with
          | some l => if l.length = n ∧ n ≠ 0 ∧ j.es = 1 ∧ j.rw = true ∧ n ≤ 16777216 ∧ n ≤ cap ∧ j.ex.el = some t then some (.string (B l), H.set g (.cells ⟨j.es, false, j.ex⟩ d)) else none
          | none => none
        | _ => none
      | _ => none
    | _ => none
  | _, _ => none
theorem str_ok [Glob] {P : Program} {f t : Nat} (hc : Callable P f) (h : ∀ b bo g off cap size (l : List UInt8) (w : World), w.cell? ⟨b, bo + 1, none⟩ = some (.slice (some ⟨g, off, none⟩) l.length cap) → l ≠ [] → w.shape? g = some (t, size) → off + l.length ≤ size →
      l.length ≤ 4294967296 → l.length ≤ cap → (∀ j x, l[j]? = some x → w.cell? ((⟨g, off, none⟩ : Addr).add j) = some (.int .u8 x.toNat)) → Calls P f #[.pointer (some ⟨b, bo, none⟩)] w fun e w' => e = .returned (.string ⟨l.toArray⟩) ∧ w' = w.drew.freeze ⟨g, off, none⟩ l.length) :
    IntrOk P f (strS t) := by
  refine ⟨fun vs H r H' hm φ w args hh hr => ?_, fun vs H r H' hm => ?_⟩
  · unfold strS at hm
    split at hm <;> first | contradiction | skip
    rename_i b o
    split at hm <;> first | contradiction | skip
    rename_i ib c hB
    split at hm <;> first | contradiction | skip
    rename_i g go n cap hsl
    split at hm <;> first | contradiction | skip
    rename_i j d hG
    split at hm <;> first | contradiction | skip
    rename_i l hl
    split at hm <;> first | contradiction | skip
    rename_i hcond
    obtain ⟨hln, hn0, hes, hrw, hbig, hncap, hel⟩ := hcond
    cases hm
    obtain ⟨x, rfl, hx⟩ := rels1' hr
    cases hx with
    | ptr hφ =>
    rename_i pl
    obtain ⟨_, _, rc, e1, lo, hi, q3, q4, q5, q6, _⟩ := hh.cells hφ hB
    obtain ⟨y, hy, hyr⟩ := q6 _ _ hsl
    have hcell : w.cell? ⟨pl.block, pl.base + o + 1, none⟩ = some y := by
      simp [World.cell?, q3]; rw [← hy]; rfl
    rcases hyr with hyr | hyr
    · cases hyr
    cases hyr with
    | slicee => omega
    | slice hψ hn1 hc1 hex1 hroom1 ha1 =>
    rename_i cap' b' pg
    have ha := ha1 (by omega)
    subst ha
    obtain ⟨p1, p2, rd, e2, lo2, hi2, p3, p4, p5, p6, p7, p8⟩ := hh.cells hψ hG
    have he2 : e2 = t := (p8 t hel).1
    subst he2
    have hd : ∀ k x, l[k]? = some x → d[go + k]? = some (.int .u8 (x.toNat : Int)) := fun k x hx => by
      have h2 := asB_get hl
      have h3 : ((d.drop go).take n)[k]? = some (.int .u8 (x.toNat : Int)) := by rw [h2, List.getElem?_map, hx]; rfl
      have hk := (List.getElem?_eq_some_iff.1 hx).1
      rw [List.getElem?_take_of_lt (by omega), List.getElem?_drop] at h3
      exact h3
    have hlast := hd (l.length - 1) _ (List.getElem?_eq_getElem (by omega))
    have hdl := (List.getElem?_eq_some_iff.1 hlast).1
    have hC := h pl.block (pl.base + o) pg.block (pg.base + go) cap' rd.size l w (by rw [hcell, hln]) (by intro e; rw [e] at hln; simp at hln; omega) (by simp [World.shape?, p3]) (by omega) (by omega) (by omega) (fun k x hx => by
      obtain ⟨y, hy, hyr⟩ := p6 _ _ (hd k x hx)
      rcases hyr with hyr | hyr
      · cases hyr
      cases hyr
      rw [Addr.add_eq]
      simp [World.cell?, p3]
      rw [← hy]; congr 1; omega)
    have hlt := (Array.getElem?_eq_some_iff.1 p3).1
    refine .inl ⟨hc, hC.mono fun e w' ⟨he, hw⟩ => ⟨_, he, φ, .string _, ?_⟩⟩
    subst hw
    have hnz : ¬ l.length = 0 := by omega
    refine Step.write hh hψ hG (by simpa [MObj.mut] using hrw) rfl ?_ ?_ ?_ ?_ ?_ ?_
    all_goals (unfold World.freeze; rw [if_neg hnz])
    · rfl
    · rfl
    · rfl
    · show (w.heap.modify _ _).size = _; simp
    · intro k hk
      show (w.heap.modify _ _)[k]? = _
      rw [Array.getElem?_modify, if_neg (fun e => hk e.symm)]
    · generalize hq : (if lo2 == hi2 then (pg.base + go, pg.base + go + l.length) else (min lo2 (pg.base + go), max hi2 (pg.base + go + l.length))) = q
      refine ⟨p1, p2, rd, e2, q.1, q.2, ?_, p4, p5, p6, fun h => (by cases h), p8⟩
      show (w.heap.modify _ _)[pg.block]? = _
      rw [Array.getElem?_modify, if_pos rfl, p3]
      simp only [Option.map_some, hq]
  · unfold strS at hm
    split at hm <;> first | contradiction | skip
    split at hm <;> first | contradiction | skip
    split at hm <;> first | contradiction | skip
    split at hm <;> first | contradiction | skip
    rename_i hG
    split at hm <;> first | contradiction | skip
    split at hm <;> first | contradiction | skip
    cases hm
    refine ⟨by simp, fun id hd => ?_⟩
    rw [List.getElem?_set]
    split
    · rename_i e; subst e; rw [hG] at hd; cases hd
    · exact hd

/-- (*strings.Builder).copyCheck: it stores its own address. -/
def ckS (t : Nat) : List Value → MH → Option (Value × MH)
  | [.pointer (some ⟨b, 0, none⟩)], H =>
    match H[b]? with
    | some (.cells i [p, q]) => if i.es = 0 ∧ i.rw = true ∧ i.ex.el = some t then
        match p with
        | .pointer none => some (.tuple #[], H.set b (.cells i [.pointer (some ⟨b, 0, none⟩), q]))
        | .pointer (some a) => if a = ⟨b, 0, none⟩ then some (.tuple #[], H) else none
        | _ => none
      else none
    | _ => none
  | _, _ => none
theorem ck_ok [Glob] {P : Program} {f t : Nat} (hc : Callable P f) (h1 : ∀ b (w : World), w.cell? ⟨b, 0, none⟩ = some (.pointer (some ⟨b, 0, none⟩)) → Calls P f #[.pointer (some ⟨b, 0, none⟩)] w fun e w' => e = .returned (.tuple #[]) ∧ w' = w)
    (h2 : ∀ b (w : World), w.cell? ⟨b, 0, none⟩ = some (.pointer none) → w.shape? b = some (t, 2) → w.frozen? ⟨b, 0, none⟩ = false → Calls P f #[.pointer (some ⟨b, 0, none⟩)] w fun e w' => e = .returned (.tuple #[]) ∧ w' = w.setCell ⟨b, 0, none⟩ (.pointer (some ⟨b, 0, none⟩))) :
    IntrOk P f (ckS t) := by
  refine ⟨fun vs H r H' hm φ w args hh hr => ?_, fun vs H r H' hm => ?_⟩
  · unfold ckS at hm
    split at hm <;> first | contradiction | skip
    rename_i b
    split at hm <;> first | contradiction | skip
    rename_i i p q hB
    split at hm <;> first | contradiction | skip
    rename_i hcond
    obtain ⟨hes, hrw, hel⟩ := hcond
    obtain ⟨x, rfl, hx⟩ := rels1' hr
    cases hx with
    | ptr hφ =>
    rename_i pl
    obtain ⟨g1, g2, rc, e1, lo, hi, q3, q4, q5, q6, q7, q8⟩ := hh.cells hφ hB
    obtain ⟨he1, hz⟩ := q8 t hel
    subst he1
    obtain ⟨hbase, hsz⟩ := hz hes
    rw [hbase, Nat.zero_add]
    obtain ⟨y, hy, hyr⟩ := q6 0 p rfl
    rw [hbase] at hy
    have hcell : w.cell? ⟨pl.block, 0, none⟩ = some y := by
      simp [World.cell?, q3]; rw [← hy]
    have hlt := (Array.getElem?_eq_some_iff.1 q3).1
    have hs2 : rc.size = 2 := hsz
    split at hm
    · cases hm
      rcases hyr with hyr | hyr
      · cases hyr
      cases hyr
      have hC := h2 pl.block w hcell (by simp [World.shape?, q3, hs2]) (by simp [World.frozen?, q3]; have := q7 hrw; omega)
      refine .inl ⟨hc, hC.mono fun e w' ⟨he, hw⟩ => ⟨_, he, φ, VRel.tuple_of .nil, ?_⟩⟩
      subst hw
      refine Step.write hh hφ hB (by simpa [MObj.mut] using hrw) rfl rfl rfl rfl ?_ ?_ ?_
      · show (w.heap.modify _ _).size = _; simp
      · intro k hk
        show (w.heap.modify _ _)[k]? = _
        rw [Array.getElem?_modify, if_neg (fun e => hk e.symm)]
      · refine ⟨g1, g2, rc.setIfInBounds 0 (.pointer (some ⟨pl.block, 0, none⟩)), e1, lo, hi, ?_, q4, by simpa using q5, fun j x hx => ?_, q7, fun t' ht' => ⟨(q8 t' ht').1, fun _ => ⟨hbase, by simp [hs2]⟩⟩⟩
        · show (w.heap.modify _ _)[pl.block]? = _
          rw [Array.getElem?_modify, if_pos rfl, q3]
          rfl
        · rw [hbase, Nat.zero_add]
          cases j with
          | zero =>
            simp at hx; subst hx
            exact ⟨_, by rw [Array.getElem?_setIfInBounds_self_of_lt (by omega)], .inr (by have := VRel.ptr (o := 0) hφ; rwa [hbase, Nat.zero_add] at this)⟩
          | succ j =>
            obtain ⟨y', hy', hr'⟩ := q6 (j + 1) x (by simpa using hx)
            rw [hbase, Nat.zero_add] at hy'
            exact ⟨y', by rw [Array.getElem?_setIfInBounds_ne (by omega)]; exact hy', hr'⟩
    · rename_i a
      split at hm <;> first | contradiction | skip
      rename_i ha
      subst ha
      cases hm
      rcases hyr with hyr | hyr
      · cases hyr
      cases hyr with
      | ptr hψ =>
      rw [hφ] at hψ; cases hψ
      rw [hbase, Nat.zero_add] at hcell
      exact .inl ⟨hc, (h1 pl.block w hcell).mono fun e w' ⟨he, hw⟩ => ⟨_, he, φ, VRel.tuple_of .nil, by rw [hw]; exact Step.refl hh⟩⟩
    · contradiction
  · unfold ckS at hm
    split at hm <;> first | contradiction | skip
    split at hm <;> first | contradiction | skip
    rename_i hB
    split at hm <;> first | contradiction | skip
    split at hm
    · cases hm
      refine ⟨by simp, fun id hd => ?_⟩
      rw [List.getElem?_set]
      split
      · rename_i e; subst e; rw [hB] at hd; cases hd
      · exact hd
    · split at hm <;> first | contradiction | skip
      cases hm; exact Keeps.refl _
    · contradiction

/-- strings.HasPrefix. -/
def preG : List Value → Option Value
  | [.string s, .string t] => some (.bool (Lib.hasPrefix s.data.toList t.data.toList))
  | _ => none
theorem pre_ok [Glob] {P : Program} {f : Nat} (hc : Callable P f) (h : ∀ (s p : ByteArray) (w : World), Calls P f #[.string s, .string p] w fun e w' => e = .returned (.bool (Lib.hasPrefix s.data.toList p.data.toList)) ∧ w' = w) : IntrOk P f (scalS preG) := by
  refine scal_ok hc (fun vs v hv => ?_) (fun vs v w hv hG => ?_)
  all_goals
    unfold preG at hv
    split at hv <;> first | contradiction | skip
    rename_i s t
    cases hv
  · exact ⟨rfl, fun φ => .bool _⟩
  · exact (h s t w).mono fun e w' ⟨he, hw⟩ => ⟨he, hw ▸ Below.refl _ _⟩
/-- strings.Contains. -/
def conG : List Value → Option Value
  | [.string s, .string t] => if s.size ≤ 1000000 then some (.bool (Lib.contains s.data.toList t.data.toList)) else none
  | _ => none
theorem con_ok [Glob] {P : Program} {f : Nat} (hc : Callable P f) (h : ∀ (s p : ByteArray) (w : World), s.size < 4294967281 → GlobAt w → Calls P f #[.string s, .string p] w fun e w' => e = .returned (.bool (Lib.contains s.data.toList p.data.toList)) ∧ w' = w) : IntrOk P f (scalS conG) := by
  refine scal_ok hc (fun vs v hv => ?_) (fun vs v w hv hG => ?_)
  all_goals
    unfold conG at hv
    split at hv <;> first | contradiction | skip
    rename_i s t
    split at hv <;> first | contradiction | skip
    rename_i hs
    cases hv
  · exact ⟨rfl, fun φ => .bool _⟩
  · exact (h s t w (by omega) hG).mono fun e w' ⟨he, hw⟩ => ⟨he, hw ▸ Below.refl _ _⟩
end Go.Mod

/- The document's locks: rows of records of one's own; one asks, one leaves. -/
import Derived.Test.YthpeamllfledkaaRfB
set_option linter.unusedVariables false
set_option linter.unusedSimpArgs false
namespace Go.Mod
open Classical

section
variable {α : Type} {g : α → List Value} {w : Nat}
theorem flat_take : ∀ {l : List α} (k : Nat), (∀ x ∈ l, (g x).length = w) → (l.flatMap g).take (k * w) = (l.take k).flatMap g
  | [], k, _ => by simp
  | x :: l, 0, _ => by simp
  | x :: l, k + 1, h => by
    have hx := h x (by simp)
    rw [List.flatMap_cons, List.take_succ_cons, List.flatMap_cons, show (k + 1) * w = (g x).length + k * w by rw [hx, Nat.succ_mul]; omega, List.take_length_add_append, flat_take k fun y hy => h y (by simp [hy])]
theorem flat_drop : ∀ {l : List α} (k : Nat), (∀ x ∈ l, (g x).length = w) → (l.flatMap g).drop (k * w) = (l.drop k).flatMap g
  | [], k, _ => by simp
  | x :: l, 0, _ => by simp
  | x :: l, k + 1, h => by
    have hx := h x (by simp)
    rw [List.flatMap_cons, List.drop_succ_cons, show (k + 1) * w = (g x).length + k * w by rw [hx, Nat.succ_mul]; omega, ← List.drop_drop, List.drop_left', flat_drop k fun y hy => h y (by simp [hy])]
    rfl
end
theorem all_flat {α : Type} {g : α → List Value} (h : ∀ x, (g x).all one = true) (l : List α) : (l.flatMap g).all one = true := by
  induction l with
  | nil => rfl
  | cons x l ih => rw [List.flatMap_cons, List.all_append, h x, ih]; rfl
theorem Row.partG {H : MH} {es b o n c : Nat} {i : Info} {cs l : List Value} (hB : H[b]? = some (.cells i cs)) (hes : i.es = es) (hlc : o + n * es ≤ cs.length) (hnc : n ≤ c) (htk : (cs.drop o).take (n * es) = l) : Row es H (.slice (some ⟨b, o, none⟩) n c) l :=
  .inr ⟨b, o, n, c, i, cs, rfl, hnc, hB, hes, hlc, htk⟩
/-- One record more: a row of one's own, a record made ahead. -/
theorem own_snocD {es bytes : Nat} {H : MH} {y : Value} {l xs : List Value} (hr : Row es H y l) (hl : l.all one = true) (hx : xs.all one = true) (hxl : xs.length = es) (hes : 0 < es) (hb : l.length + es ≤ 400000) (hbytes : bytes ≤ 4096) :
    ∃ (v1 : Value) (H1 : MH) (a2 : Option Addr) (n2 c2 : Nat) (H2 : MH) (G : List Nat), meff (.app es bytes) [.slice none 0 0, y] (H ++ [.dead]) = some (v1, H1) ∧ Ext (H ++ [.dead]) H1 ∧ one v1 = true ∧ H1[H.length]? = some .dead ∧
      meff (.app es bytes) [v1, .slice (some ⟨H.length, 0, none⟩) 1 1] (H1.set H.length (.cells ⟨es, true, true⟩ xs)) = some (.slice a2 n2 c2, H2) ∧ OwnA es (.slice a2 n2 c2) (l ++ xs) H2 G ∧ Ext H H2 ∧ ∀ id ∈ G, H.length ≤ id := by
  have e0 : Ext H (H ++ [.dead]) := ⟨_, rfl⟩
  obtain ⟨v1, H1, G1, q1, q2, q3, q4⟩ := own_new (bytes := bytes) (e0.row hr) hl hes (by omega) hbytes
  have hlen := q3.len
  simp at hlen
  have hd : H1[H.length]? = some .dead := q3.get (by simp)
  have hG : ∀ id ∈ G1, H.length < id := fun id hid => by have := q4 id hid; simp at this; omega
  have hone : one v1 = true := by rcases q2 with ⟨rfl, _⟩ | ⟨b, n, c, cs, rfl, _⟩ <;> rfl
  have o1 : Own es (H1.set H.length (.cells ⟨es, true, true⟩ xs)) v1 l G1 := q2.frame fun id hid => by
    rw [List.getElem?_set_ne (by have := hG id hid; omega)]
  have hB : (H1.set H.length (.cells ⟨es, true, true⟩ xs))[H.length]? = some (.cells ⟨es, true, true⟩ xs) := by rw [List.getElem?_set_self (by omega)]
  have r2 : Row es (H1.set H.length (.cells ⟨es, true, true⟩ xs)) (.slice (some ⟨H.length, 0, none⟩) 1 1) xs := Row.partG hB rfl (by simp; omega) (by omega) (by rw [List.drop_zero, Nat.one_mul, ← hxl, List.take_length])
  obtain ⟨v2, H2, G2, p1, p2, p3, p4⟩ := own_app (bytes := bytes) o1 hl r2 hx hes (by omega) hbytes
  obtain ⟨a2, n2, c2, rfl, _⟩ := (Own.row p2).slice
  refine ⟨v1, H1, a2, n2, c2, H2, G2, q1, q3, hone, hd, p1, p2, ?_, fun id hid => ?_⟩
  · refine ext_iff'.2 ⟨by have := p3.len; simp at this; omega, fun id hid => ?_⟩
    rw [p3.same id (by simp; omega) fun hm => by have := hG id hm; omega, List.getElem?_set_ne (by omega), ext_get q3 (by simp; omega), List.getElem?_append_left hid]
  · rcases p4 id hid with h | h
    · have := hG id h; omega
    · simp at h; omega
/-- One record less. -/
theorem own_cutG {es : Nat} {H : MH} {v : Value} {l : List Value} {F : List Nat} {bytes : Nat} (h : OwnA es v l H F) (hl : l.all one = true) (hes : 0 < es) (hbytes : bytes ≤ 4096) {n : Nat} (hn : l.length = n * es) (hb : l.length ≤ 10000) {k : Nat} (hk : k < n) :
    ∃ (a : Option Addr) (c : Nat) (s1 s2 v1 : Value) (H1 H2 : MH) (a2 : Option Addr) (n2 c2 : Nat) (G : List Nat), v = .slice a n c ∧ mread (.sl es false true false) [v, .int .i64 (k : Int)] H = some s1 ∧ meff (.app es bytes) [.slice none 0 0, s1] H = some (v1, H1) ∧
      mread (.sl es true false false) [v, .int .i64 ((k : Int) + 1)] H = some s2 ∧ mread (.sl es true false false) [v, .int .i64 ((k : Int) + 1)] H1 = some s2 ∧ meff (.app es bytes) [v1, s2] H1 = some (.slice a2 n2 c2, H2) ∧
      OwnA es (.slice a2 n2 c2) (l.take (k * es) ++ l.drop ((k + 1) * es)) H2 G ∧ Ext H H2 ∧ Ext H H1 ∧ (∀ id ∈ G, H.length ≤ id) ∧ one s1 = true ∧ one s2 = true ∧ one v1 = true ∧ (∃ b o n c, s2 = .slice (some ⟨b, o, none⟩) n c) := by
  rcases h with ⟨_, h2, _⟩ | ⟨b, n', c, cs, rfl, hnc, hB, hcs, htk, rfl⟩
  · rw [h2] at hn
    have : es ≤ n * es := Nat.le_mul_of_pos_left es (by omega)
    simp only [List.length_nil] at hn
    omega
  · have hm1 : n' * es ≤ c * es := Nat.mul_le_mul_right es hnc
    have hln : l.length = n' * es := by rw [← htk, List.length_take]; omega
    have hnn : n' = n := Nat.eq_of_mul_eq_mul_right hes (hln.symm.trans hn)
    subst hnn
    have m1 : k * es ≤ n' * es := Nat.mul_le_mul_right es (by omega)
    have m2 : (k + 1) * es ≤ n' * es := Nat.mul_le_mul_right es hk
    have m3 : (n' - (k + 1)) * es = n' * es - (k + 1) * es := Nat.sub_mul ..
    have t1 : cs.take (k * es) = l.take (k * es) := by
      have := congrArg (List.take (k * es)) htk
      rw [List.take_take, Nat.min_eq_left m1] at this
      exact this
    have t2 : (cs.drop ((k + 1) * es)).take ((n' - (k + 1)) * es) = l.drop ((k + 1) * es) := by
      have := congrArg (List.drop ((k + 1) * es)) htk
      rw [List.drop_take] at this
      rw [m3]; exact this
    have r1 : Row es H (.slice (some ⟨b, 0, none⟩) k c) (l.take (k * es)) := Row.partG hB rfl (by omega) (by omega) (by rw [List.drop_zero]; exact t1)
    obtain ⟨v1, H1, fp1, a1, o1, x1, n1⟩ := own_new (bytes := bytes) r1 (all_take hl _) hes (by simp; omega) hbytes
    have hB1 := x1.get hB
    have r2 : Row es H1 (.slice (some ⟨b, 0 + (k + 1) * es, none⟩) (n' - (k + 1)) (c - (k + 1))) (l.drop ((k + 1) * es)) := Row.partG hB1 rfl (by omega) (by omega) (by rw [Nat.zero_add]; exact t2)
    obtain ⟨v2, H2, fp2, a2, o2, f2, n2⟩ := own_app (bytes := bytes) o1 (all_take hl _) r2 (all_drop hl _) hes (by simp; omega) hbytes
    obtain ⟨aa, nn, cc, rfl, _⟩ := (Own.row o2).slice
    have hone1 : one v1 = true := by rcases o1 with ⟨rfl, _⟩ | ⟨b, n, c, cs, rfl, _⟩ <;> rfl
    refine ⟨some ⟨b, 0, none⟩, c, .slice (some ⟨b, 0, none⟩) k c, .slice (some ⟨b, 0 + (k + 1) * es, none⟩) (n' - (k + 1)) (c - (k + 1)), v1, H1, H2, aa, nn, cc, fp2, rfl, ?_, a1, ?_, ?_, a2, o2, x1.of_fp f2 n1, x1, fun id hid => ?_, rfl, rfl, hone1, _, _, _, _, rfl⟩
    · rw [sl_at hB rfl]; simp [slBound]; omega
    · rw [sl_at hB rfl]; simp [slBound]; omega
    · rw [sl_at hB1 rfl]; simp [slBound]; omega
    · rcases n2 id hid with h | h
      · exact n1 id h
      · have := x1.len; omega
/-- A field of a record of one's own. -/
theorem own_set {es : Nat} {H : MH} {a : Option Addr} {n c : Nat} {l : List Value} {F : List Nat} (h : OwnA es (.slice a n c) l H F) {p : Nat} (hp : p < l.length) {v : Value} (hv : one v = true) :
    ∃ H', meff (.st 1) [.pointer (some ⟨adB a, adO a + p, none⟩), v] H = some (.tuple #[], H') ∧ OwnA es (.slice a n c) (l.set p v) H' F ∧ Upd H F H' F := by
  rcases h with ⟨_, h2, _⟩ | ⟨b, n', c', cs, e, hnc, hB, hcs, htk, rfl⟩
  · rw [h2] at hp; cases hp
  · cases e
    have hln : l.length ≤ cs.length := by rw [← htk, List.length_take]; omega
    have hb := (List.getElem?_eq_some_iff.1 hB).1
    refine ⟨_, st_at hB rfl (0 + p) v hv (by omega), .inr ⟨b, n, c, cs.set (0 + p) v, rfl, hnc, by rw [List.getElem?_set_self hb], by rw [List.length_set]; exact hcs, ?_, rfl⟩, ⟨by simp, fun id hid hn => ?_, fun id hid => .inl hid⟩⟩
    · rw [List.take_set, htk, Nat.zero_add]
    · have : b ≠ id := fun e => hn (by simp [e])
      rw [List.getElem?_set_ne this]

/-! ### the document's locks as a thing of one's own -/
def RfA (r : Nat) (s : SetL) (ak : List Ask) (cnt : Int) : HP := fun H F => ∃ a c, (Pt r ⟨0, true, false⟩ (rfC s a ak.length c cnt) * OwnA 4 (.slice a ak.length c) (ak.flatMap askR)) H F
theorem RfA.good {r : Nat} {s : SetL} {ak : List Ask} {cnt : Int} : Good (RfA r s ak cnt) := Good.ex fun a => Good.ex fun c => Pt.good.star OwnA.good
theorem askR_flat (ak : List Ask) : (ak.flatMap askR).all one = true := all_flat (fun _ => rfl) ak
theorem askR_flen (ak : List Ask) : (ak.flatMap askR).length = ak.length * 4 := flat_len fun x _ => rfl
section
variable {mp : FuncId → Option MDef} {H H0 : MH} {F : List Nat} {r : Nat} {s : SetL} {cnt : Int} {ak : List Ask}
theorem RfV.of {a : Option Addr} {c : Nat} (h : (Pt r ⟨0, true, false⟩ (rfC s a ak.length c cnt) * OwnA 4 (.slice a ak.length c) (ak.flatMap askR)) H F) (hs : SetAt H s) : RfV H r s cnt ak a c := by
  obtain ⟨A, hA, _⟩ := star_l h
  obtain ⟨B, hB, _⟩ := star_r h
  exact ⟨hA.2, (RowG.of (Own.row hB) (by omega) fun x _ => ⟨rfl, rfl⟩).1, hs⟩
theorem RfA.v (h : RfA r s ak cnt H F) (hs : SetAt H s) : ∃ a c, RfV H r s cnt ak a c := by
  obtain ⟨a, c, h⟩ := h
  exact ⟨a, c, RfV.of h hs⟩
theorem R_askR_no (hf : mp 13 = some (.code m13)) (h32 : mp 32 = some (.code m32)) {a : Option Addr} {c : Nat} (V : RfV H r s cnt ak a c) (hu : uniqA ak) (hl : ak.length ≤ 1000) {n res : Int} :
    ((n < 0 ∨ (s.tasks.length : Int) ≤ n) → R mp 13 [.pointer (some ⟨r, 0, none⟩), .int .i64 n, .int .i64 res] H = some (.int .i64 14, H)) ∧
    (¬ (n < 0 ∨ (s.tasks.length : Int) ≤ n) → (res < 0 ∨ (s.homes.length : Int) ≤ res) → R mp 13 [.pointer (some ⟨r, 0, none⟩), .int .i64 n, .int .i64 res] H = some (.int .i64 16, H)) ∧
    (¬ (n < 0 ∨ (s.tasks.length : Int) ≤ n) → ¬ (res < 0 ∨ (s.homes.length : Int) ≤ res) → (findA ak n).isSome = true → R mp 13 [.pointer (some ⟨r, 0, none⟩), .int .i64 n, .int .i64 res] H = some (.int .i64 17, H)) := by
  have hd := ld_at V.loc
  simp only [rfC] at hd
  refine ⟨fun h => ?_, fun h1 h2 => ?_, fun h1 h2 h3 => ?_⟩
  · rw [R_code hf]
    by_cases g : n < 0
    · simp [m13, g]
    · have g2 : (s.tasks.length : Int) ≤ n := by omega
      simp [m13, hd, g, g2]
  · have g : ¬ n < 0 := by omega
    have g2 : ¬ (s.tasks.length : Int) ≤ n := by omega
    rw [R_code hf]
    by_cases k : res < 0
    · simp [m13, hd, g, g2, k]
    · have k2 : (s.homes.length : Int) ≤ res := by omega
      simp [m13, hd, g, g2, k, k2]
  · have g : ¬ n < 0 := by omega
    have g2 : ¬ (s.tasks.length : Int) ≤ n := by omega
    have k : ¬ res < 0 := by omega
    have k2 : ¬ (s.homes.length : Int) ≤ res := by omega
    rcases R_atR (mp := mp) h32 V hl n with ⟨q, d, q1, q2, q3⟩ | ⟨q1, q2⟩
    · rw [R_code hf]
      simp [m13, hd, g, g2, k, k2, q3]
    · rw [find_no q1] at h3; cases h3
theorem R_askR_ok (hf : mp 13 = some (.code m13)) (h32 : mp 32 = some (.code m32)) (h : RfA r s ak cnt H F) (hs : SetAt H s) (hl : ak.length ≤ 64) {n : Nat} {res : Int} (hn : n < s.tasks.length) (hr0 : 0 ≤ res) (hr : res < (s.homes.length : Int)) (hx : findA ak (n : Int) = none) (hc0 : 0 ≤ cnt) (hc : cnt < 1000000) (p : Nat) :
    ∃ H' F', R mp 13 [.pointer (some ⟨r, 0, none⟩), .int .i64 (n : Int), .int .i64 res] H = some (.int .i64 0, H') ∧ RfA r s (ak ++ [newA s cnt n res p]) (newCnt s cnt) H' F' ∧ Upd H F H' F' := by
  obtain ⟨a, c, h⟩ := h
  have V := RfV.of h hs
  have hd := ld_at V.loc
  simp only [rfC] at hd
  have g : ¬ (n : Int) < 0 := by omega
  have g2 : ¬ (s.tasks.length : Int) ≤ (n : Int) := by omega
  have g2' : ¬ s.tasks.length ≤ n := by omega
  have k : ¬ res < 0 := by omega
  have k2 : ¬ (s.homes.length : Int) ≤ res := by omega
  have h32' : R mp 32 [.pointer (some ⟨r, 0, none⟩), .int .i64 (n : Int)] H = some (.int .i64 (-1), H) := by
    rcases R_atR (mp := mp) h32 V (by omega) (n : Int) with ⟨q, d, q1, q2, q3⟩ | ⟨q1, q2⟩
    · exact absurd q2 (find_none hx d (List.mem_of_getElem? q1))
    · exact q2
  have hrl := (List.getElem?_eq_some_iff.1 V.loc).1
  obtain ⟨A, B, hA, hB, hAB, hF⟩ := h
  obtain ⟨rfl, hA⟩ := hA
  have hBl := OwnA.good.lt hB
  -- the record, the count
  have hrec : askR (newA s cnt n res p) = [.int .i64 n, .int .i64 res, .int .i64 (if s.proto = 3 then 0 else cnt + 1), .bool false] := by unfold newA askR; split <;> rfl
  have wc : IntKind.i64.wrap (cnt + 1) = cnt + 1 := wrap_i64 (by omega) (by omega)
  -- ahead of the appends
  obtain ⟨Ha, hHa⟩ : ∃ Ha, (if s.proto = 3 then H ++ [MObj.cells ⟨0, true, false⟩ [.int .i64 n, .int .i64 res, .int .i64 0, .bool false]] else (H.set r (.cells ⟨0, true, false⟩ (rfC s a ak.length c (cnt + 1)))) ++ [MObj.cells ⟨0, true, false⟩ [.int .i64 n, .int .i64 res, .int .i64 (cnt + 1), .bool false]]) = Ha := ⟨_, rfl⟩
  have hHal : Ha.length = H.length + 1 := by rw [← hHa]; split <;> simp
  have hrB : ∀ id ∈ B, id ≠ r := fun id hid e => hAB r (by simp) (e ▸ hid)
  have hHas : ∀ id, id < H.length → id ≠ r → Ha[id]? = H[id]? := fun id h1 h2 => by
    rw [← hHa]
    split
    · rw [List.getElem?_append_left h1]
    · rw [List.getElem?_append_left (by simpa using h1), List.getElem?_set_ne fun e => h2 e.symm]
  have hBa : OwnA 4 (.slice a ak.length c) (ak.flatMap askR) Ha B := OwnA.good.frame hB fun id hid => hHas id (hBl id hid) (hrB id hid)
  have hra : Ha[r]? = some (.cells ⟨0, true, false⟩ (rfC s a ak.length c (newCnt s cnt))) := by
    rw [← hHa]
    unfold newCnt
    split
    · rw [List.getElem?_append_left hrl]; exact hA
    · rw [List.getElem?_append_left (by simpa using hrl), List.getElem?_set_self hrl]
  have h7 : Ha[H.length]? = some (.cells ⟨0, true, false⟩ (askR (newA s cnt n res p))) := by
    rw [← hHa, hrec]
    split <;> simp
  obtain ⟨v1, H1, a2, n2, c2, H2, G, q1, q2, q3, q4, q5, q6, q7, q8⟩ := own_snocD (bytes := 32) (xs := askR (newA s cnt n res p)) (Own.row hBa) (askR_flat _) rfl rfl (by omega) (by rw [askR_flen]; omega) (by omega)
  have hn2 : n2 = ak.length + 1 := by
    obtain ⟨a', n', c', e, hh⟩ := (Own.row q6).slice
    cases e
    rw [List.length_append, askR_flen] at hh
    have : (askR (newA s cnt n res p)).length = 4 := rfl
    omega
  have h71 : H1[H.length]? = some (.cells ⟨0, true, false⟩ (askR (newA s cnt n res p))) := q2.get (get_app h7)
  have hr2 : H2[r]? = some (.cells ⟨0, true, false⟩ (rfC s a ak.length c (newCnt s cnt))) := q7.get hra
  have hrl2 := (List.getElem?_eq_some_iff.1 hr2).1
  refine ⟨H2.set r (.cells ⟨0, true, false⟩ (rfC s a2 (ak.length + 1) c2 (newCnt s cnt))), r :: G, ?_, ⟨a2, c2, [r], G, ⟨rfl, ?_⟩, ?_, fun x hx hm => ?_, fun x => by simp⟩, ⟨?_, fun id hid hn => ?_, fun id hid => ?_⟩⟩
  · rw [R_code hf]
    rw [hrec] at h71
    rw [hrec] at q5
    rw [hrec] at h7
    have hA' := hA
    have hr2' := hr2
    have hgA : ∀ X : MH, (H ++ X)[r]? = H[r]? := fun X => List.getElem?_append_left hrl
    have hsA : ∀ (X : MH) o, (H ++ X).set r o = H.set r o ++ X := fun X o => List.set_append_left _ _ hrl
    have hgs : ∀ (X : MH) o, (H.set r o ++ X)[r]? = some o := fun X o => by rw [List.getElem?_append_left (by simpa using hrl), List.getElem?_set_self hrl]
    simp only [rfC] at hA' hr2' ⊢
    rw [hHal] at q4 q5
    subst hn2
    by_cases hp : s.proto = 3
    · rw [if_pos hp] at hHa
      have hcn : newCnt s cnt = cnt := by simp [newCnt, hp]
      rw [hcn] at hr2' ⊢
      simp [hp] at h71 q5 hA' hr2' ⊢
      subst hHa
      simp at q1
      simp (maxDischargeDepth := 12) [m13, hA', hgA, hsA, hgs, g, g2', k, k2, h32', ldx, ldnx, stx, hp, mdraw_full, q1, h71, q4, q5, hr2']
    · rw [if_neg hp] at hHa
      have hcn : newCnt s cnt = cnt + 1 := by simp [newCnt, hp]
      rw [hcn] at hr2' ⊢
      simp [hp] at h71 q5
      subst hHa
      simp [rfC] at q1
      simp (maxDischargeDepth := 12) [m13, hA', hgA, hsA, hgs, g, g2', k, k2, h32', ldx, ldnx, stx, hp, mdraw_full, q1, h71, q4, q5, hr2', wc]
  · rw [List.getElem?_set_self hrl2]; simp
  · rw [List.flatMap_append]
    have : OwnA 4 (.slice a2 n2 c2) (ak.flatMap askR ++ askR (newA s cnt n res p)) (H2.set r (.cells ⟨0, true, false⟩ (rfC s a2 (ak.length + 1) c2 (newCnt s cnt)))) G := OwnA.good.frame q6 fun id hid => by
      rw [List.getElem?_set_ne (by have := q8 id hid; omega)]
    rw [hn2] at this
    simpa using this
  · simp at hx; subst hx; have := q8 x hm; omega
  · have := q7.len; simp; omega
  · have h1 : id ≠ r := fun e => hn ((hF id).2 (.inl (by simp [e])))
    rw [List.getElem?_set_ne fun e => h1 e.symm, ext_get q7 (by omega)]
    exact hHas id hid h1
  · rcases List.mem_cons.1 hid with rfl | h
    · exact .inl ((hF id).2 (.inl (by simp)))
    · have := q8 id h; exact .inr (by omega)
end
end Go.Mod

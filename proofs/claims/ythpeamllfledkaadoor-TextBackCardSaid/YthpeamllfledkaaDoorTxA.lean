/- Package text: numbers, parts read. -/
import Derived.Test.YthpeamllfledkaaDoorTdK
import Derived.Test.YthpeamllfledkaaDoorWdN
import Derived.Test.YthpeamllfledkaaDoorGrF
set_option linter.unusedVariables false
set_option linter.unusedSimpArgs false
namespace Go.Mod
open Go.Lib

abbrev Bs := List UInt8
def kRun : Bs := [114, 117, 110]
def kSleep : Bs := [115, 108, 101, 101, 112]
def kLock : Bs := [108, 111, 99, 107]
def kLockC : Bs := [108, 111, 99, 107, 58]
/-- The numbers of words, if all are. -/
def numsL : List Bs → Option (List Int)
  | [] => some []
  | x :: l => match numL x, numsL l with
    | some n, some m => some (n :: m)
    | _, _ => none

section
variable {mp : FuncId → Option MDef} {H : MH}
theorem nums_loop {t : TypeId} (h13 : mp 13 = some (.code m13)) (h30 : mp 30 = some (.intr (atoiS t))) (h31 : mp 31 = some (.intr (scalS itoaG))) {ws : List Bs} (hws : ∀ w ∈ ws, w.length ≤ 100000) (hlen : ws.length ≤ 100001) {sa : Option Addr} {sn sc : Nat} :
    ∀ (k i : Nat) (H : MH) (G : List Nat) (out : List Int) (a : Option Addr) (n c : Nat), i + k = ws.length → out.length ≤ i → Stay 1 (.slice sa sn sc) (sv ws) H G → OwnA 1 (.slice a n c) (i64s out) H G →
    (∃ ns, numsL (ws.drop i) = some ns ∧ ∃ (H' : MH) (G' : List Nat) (a' : Option Addr) (n' c' : Nat), Rc mp (.loop m59_0) [(4, .slice a n c), (9, .slice sa sn sc), (10, .int .i64 (sn : Int)), (11, .int .i64 (i : Int))] H =
        some (.exit 0, [(4, .slice a' n' c'), (9, .slice sa sn sc), (10, .int .i64 (sn : Int)), (11, .int .i64 (sn : Int)), (12, .bool false)], H') ∧ OwnA 1 (.slice a' n' c') (i64s (out ++ ns)) H' G' ∧ Upd H G H' G') ∨
    (numsL (ws.drop i) = none ∧ ∃ (H' : MH) (G' : List Nat), Rc mp (.loop m59_0) [(4, .slice a n c), (9, .slice sa sn sc), (10, .int .i64 (sn : Int)), (11, .int .i64 (i : Int))] H = some (.ret, [(2, .slice none 0 0), (3, .bool false)], H') ∧ Upd H G H' G') := by
  intro k
  induction k with
  | zero =>
    intro i H G out a n c hi ho hS hO
    have hn := hS.1.svn
    have : i = ws.length := by omega
    subst this
    refine .inl ⟨[], by rw [List.drop_length]; rfl, H, G, a, n, c, ?_, by simpa using hO, Upd.refl _ _⟩
    rw [Rc_loop]
    simp [m59_0, hn]
  | succ k ih =>
    intro i H G out a n c hi ho hS hO
    have hn := hS.1.svn
    have hil : i < ws.length := by omega
    have hil' : i < sn := by omega
    have hdrop : ws.drop i = ws[i] :: ws.drop (i + 1) := List.drop_eq_getElem_cons hil
    obtain ⟨b, o, j, cs, rfl, hB, hat⟩ := hS.1.sv (List.getElem?_eq_getElem hil)
    have hld := ld_at hB (o + i)
    rw [hat] at hld
    have hxl : ws[i].length ≤ 100000 := hws _ (List.getElem_mem hil)
    have w : IntKind.i64.wrap ((i : Int) + 1) = (i : Int) + 1 := wrap_i64 (by omega) (by omega)
    generalize ws[i] = x at hat hdrop hld hxl
    obtain ⟨H1, q1, x1⟩ := R_num (H := H) h13 h30 h31 (l := x) hxl
    have u0 := Upd.ext (F := G) x1
    rw [hdrop]
    unfold numsL
    cases hq : numL x with
    | none =>
      rw [hq] at q1
      refine .inr ⟨rfl, H1, G, ?_, u0⟩
      rw [Rc_loop]
      simp [m59_0, hil', hld, w, q1]
    | some v =>
      rw [hq] at q1
      obtain ⟨a1, n1, c1, H2, G2, e2, o2, u2⟩ := own_push1 (bytes := 8) (OwnA.good.ext hO x1) (i64s_one out) (xs := [.int .i64 v]) rfl rfl (by omega) (by rw [i64s_len]; omega) (by omega)
      rw [i64s_snoc] at o2
      rcases ih (i + 1) H2 G2 (out ++ [v]) a1 n1 c1 (by omega) (by simp; omega) ((hS.upd u0).upd u2) o2 with ⟨ns, h1, H', G', a', n', c', h2, h3, h4⟩ | ⟨h1, H', G', h2, h4⟩
      · rw [h1]
        refine .inl ⟨v :: ns, rfl, H', G', a', n', c', ?_, by simpa using h3, u0.trans (u2.trans h4)⟩
        rw [Rc_loop]
        simp [m59_0, hil', hld, w, q1, e2]
        exact h2
      · rw [h1]
        refine .inr ⟨rfl, H', G', ?_, u0.trans (u2.trans h4)⟩
        rw [Rc_loop]
        simp [m59_0, hil', hld, w, q1, e2]
        exact h2
theorem R_nums {t : TypeId} (hf : mp 59 = some (.code m59)) (h13 : mp 13 = some (.code m13)) (h30 : mp 30 = some (.intr (atoiS t))) (h31 : mp 31 = some (.intr (scalS itoaG))) {ws : List Bs} (hws : ∀ w ∈ ws, w.length ≤ 100000) (hlen : ws.length ≤ 100001) {sa : Option Addr} {sn sc : Nat}
    (hr : Row 1 H (.slice sa sn sc) (sv ws)) : ∃ a n c H', R mp 59 [.slice sa sn sc] H = some (.tuple #[.slice a n c, .bool (numsL ws).isSome], H') ∧ Ext H H' ∧ Row 1 H' (.slice a n c) (i64s ((numsL ws).getD [])) := by
  rcases nums_loop h13 h30 h31 hws hlen ws.length 0 H [] [] none 0 0 (by omega) (by simp) ⟨hr, by simp⟩ (.inl ⟨rfl, rfl, rfl⟩) with ⟨ns, h1, H', G', a', n', c', h2, h3, h4⟩ | ⟨h1, H', G', h2, h4⟩
  · rw [List.drop_zero] at h1
    rw [h1]
    simp at h2
    refine ⟨a', n', c', H', ?_, h4.toExt.1, by simpa using Own.row h3⟩
    rw [R_code hf]
    simp [m59, h2]
  · rw [List.drop_zero] at h1
    rw [h1]
    simp at h2
    refine ⟨none, 0, 0, H', ?_, h4.toExt.1, .inl ⟨rfl, rfl⟩⟩
    rw [R_code hf]
    simp [m59, h2]

theorem R_preB (h80 : mp 80 = some (.intr (scalS preG))) {l p : Bs} : R mp 80 [.string (B l), .string (B p)] H = some (.bool (hasPrefix l p), H) := by
  rw [R_intr h80]
  simp only [scalS, preG, B_data]; rfl
theorem R_conB (h81 : mp 81 = some (.intr (scalS conG))) {l p : Bs} (hl : l.length ≤ 100000) : R mp 81 [.string (B l), .string (B p)] H = some (.bool (Lib.contains l p), H) := by
  rw [R_intr h81]
  simp only [scalS, conG, B_data, B_size]
  rw [if_pos (by omega)]; rfl
end
/-- A lock within a lock. -/
def nestL (w : Bs) : Bool := hasPrefix w kLockC && Lib.contains (w.drop 5) kLockC
/-- A part, if it is one. -/
def partL (w : Bs) : Option PartL :=
  match cutAt 58 w with
  | [] => none
  | h :: t => match numsL t with
    | none => none
    | some n => if h = kRun ∧ n.length = 1 then some ⟨1, n.getD 0 0, 0⟩ else if h = kSleep ∧ n.length = 1 then some ⟨2, n.getD 0 0, 0⟩ else if h = kLock ∧ n.length = 2 then some ⟨3, n.getD 1 0, n.getD 0 0⟩ else none
def readsL (w : Bs) : PartL × Int := if nestL w = true then (⟨0, 0, 0⟩, 18) else match partL w with
  | some p => (p, 0)
  | none => (⟨0, 0, 0⟩, 10)
theorem cutAt_mem_len (c : UInt8) : ∀ (l : Bs), ∀ x ∈ cutAt c l, x.length ≤ l.length
  | [], x, h => by simp [cutAt] at h; subst h; simp
  | b :: l, x, h => by
    have ih := cutAt_mem_len c l
    unfold cutAt at h
    split at h
    · rcases List.mem_cons.1 h with rfl | h
      · simp
      · have := ih x h; simp; omega
    · split at h
      · simp at h; subst h; simp
      · rename_i y t hy
        rcases List.mem_cons.1 h with rfl | h
        · have := ih y (by rw [hy]; simp); simp; omega
        · have := ih x (by rw [hy]; simp [h]); simp; omega
section
variable {mp : FuncId → Option MDef} {H : MH}
theorem row_drop {ws : List Value} {a : Option Addr} {n c : Nat} (h : Row 1 H (.slice a n c) ws) {k : Nat} (hk : k ≤ n) : ∃ a' n' c', mread (.sl 1 true false false) [.slice a n c, .int .i64 (k : Int)] H = some (.slice a' n' c') ∧ Row 1 H (.slice a' n' c') (ws.drop k) := by
  rcases h with ⟨h1, h2⟩ | ⟨b, o, m, d, i, cs, h1, h2, h3, h4, h5, h6⟩
  · cases h1
    have : k = 0 := by omega
    subst this
    exact ⟨none, 0, 0, rfl, .inl ⟨rfl, by rw [h2]; rfl⟩⟩
  · cases h1
    have hs := sl_at h3 h4 true false false o n c [.int .i64 (k : Int)]
    refine ⟨some ⟨b, o + k, none⟩, n - k, c - k, ?_, .inr ⟨b, o + k, n - k, c - k, i, cs, rfl, by omega, h3, h4, by omega, ?_⟩⟩
    · rw [hs]
      have e1 : (0 : Int) ≤ (k : Int) := by omega
      have e2 : (k : Int) ≤ (n : Int) := by omega
      simp [e1, e2, hk]
    · rw [← h6, List.drop_take, List.drop_drop]
      congr 1; omega
end
end Go.Mod

/- Package words and the document's words: Lines, Words. -/
import Derived.Test.YthpeamllfledkaaDoorWdP
set_option linter.unusedVariables false
set_option linter.unusedSimpArgs false
namespace Go.Mod

@[simp] theorem nil_toList : (⟨#[]⟩ : ByteArray).toList = [] := by rw [ba_toList']
/-- What a function hands back that makes a row of strings. -/
def GivesS (H : MH) (x : Option (Value × MH)) (ls : List (List UInt8)) : Prop := ∃ a n c H', x = some (.slice a n c, H') ∧ Row 1 H' (.slice a n c) (sv ls) ∧ Ext H H'
theorem drop_eq {l : List UInt8} {i : Nat} : (l.drop i).take (l.length - i) = l.drop i := List.take_of_length_le (by simp)
theorem trimE_one (x : List UInt8) : trimE [x] = if x = [] then [] else [x] := rfl
theorem trimE_eq : ∀ {p : List (List UInt8)}, p ≠ [] → trimE p = if p[p.length - 1]? = some [] then p.take (p.length - 1) else p
  | [], h => absurd rfl h
  | [x], _ => by simp [trimE]
  | x :: y :: t, _ => by
    have := trimE_eq (p := y :: t) (by simp)
    rw [trimE_cons (by simp), this]
    simp only [List.length_cons, Nat.add_sub_cancel]
    have e : (x :: y :: t)[t.length + 1]? = (y :: t)[t.length]? := by simp
    rw [e]
    split <;> simp

section
variable {mp : FuncId → Option MDef} {H : MH}
theorem R_cutR (hf : mp 33 = some (.code m33)) {l : List UInt8} {b : UInt8} (hl : l.length ≤ 100000) {q : Int} (hq : q = b.toNat) : GivesS H (R mp 33 [.string (B l), .int .u8 q] H) (trimE (cutAt b l)) := by
  subst hq
  obtain ⟨fr, H1, G1, out, a1, n1, c1, h1, h2, h3, h4, h5, h6⟩ := cut_loop (mp := mp) (b := b) hl l.length 0 0 H [] [] none 0 0 (by omega) (by omega) (by simp) (by simp) (.inl ⟨rfl, rfl, rfl⟩)
  simp at h6 h1
  by_cases hlt : fr < l.length
  · have hne : l.drop fr ≠ [] := by simp; omega
    obtain ⟨a2, n2, c2, H2, G2, e2, o2, u2⟩ := own_push1 (bytes := 16) h4 (sv_one out) (xs := [.string (B (l.drop fr))]) rfl rfl (by omega) (by simp; omega) (by omega)
    rw [sv_snoc] at o2
    rw [trimE_one, if_neg hne] at h6
    rw [← h6]
    refine ⟨a2, n2, c2, H2, ?_, Own.row o2, (h5.trans u2).toExt.1⟩
    rw [R_code hf]
    have hle : fr ≤ l.length := by omega
    simp [m33, h1, hlt, hle, drop_eq, e2]
  · have : l.drop fr = [] := List.drop_eq_nil_of_le (by omega)
    rw [this, trimE_one, if_pos rfl, List.append_nil] at h6
    rw [← h6]
    refine ⟨a1, n1, c1, H1, ?_, Own.row h4, h5.toExt.1⟩
    rw [R_code hf]
    simp [m33, h1, hlt]
theorem R_linesR (hf : mp 17 = some (.code m17)) (h33 : mp 33 = some (.code m33)) {l : List UInt8} (hl : l.length ≤ 100000) : GivesS H (R mp 17 [.string (B l)] H) (trimE (cutAt 10 l)) := by
  obtain ⟨a, n, c, H1, h1, h2, h3⟩ := R_cutR (H := H) h33 (b := 10) hl (q := 10) rfl
  refine ⟨a, n, c, H1, ?_, h2, h3⟩
  rw [R_code hf]
  simp [m17, h1]
theorem cutAt_len (c : UInt8) : ∀ l : List UInt8, (cutAt c l).length ≤ l.length + 1
  | [] => by simp [cutAt]
  | b :: l => by
    have := cutAt_len c l
    unfold cutAt
    split
    · simp; omega
    · split <;> simp_all <;> omega
theorem R_splitB (h32 : mp 32 = some (.intr splitS)) {l : List UInt8} {c : UInt8} (hl : l.length ≤ 100000) :
    R mp 32 [.string (B l), .string (B [c])] H = some (.slice (some ⟨H.length, 0, none⟩) (cutAt c l).length (cutAt c l).length, H ++ [.cells ⟨1, true, true⟩ (sv (cutAt c l))]) := by
  rw [R_intr h32]
  simp only [splitS, B_data, B_size]
  rw [if_pos (by omega)]
  rfl
theorem R_lines (hf : mp 16 = some (.code m16)) (h32 : mp 32 = some (.intr splitS)) {l : List UInt8} (hl : l.length ≤ 100000) : GivesS H (R mp 16 [.string (B l)] H) (trimE (cutAt 10 l)) := by
  have hs : R mp 32 [.string (B l), .string ⟨#[10]⟩] H = _ := R_splitB (H := H) h32 (c := 10) hl
  have hne := cutAt_ne 10 l
  have hlen := cutAt_len 10 l
  generalize cutAt 10 l = p at hs hne hlen ⊢
  have hp : 0 < p.length := List.length_pos_iff.2 hne
  have e0 : Ext H (H ++ [.cells ⟨1, true, true⟩ (sv p)]) := ⟨_, rfl⟩
  have hB : (H ++ [MObj.cells ⟨1, true, true⟩ (sv p)])[H.length]? = some (.cells ⟨1, true, true⟩ (sv p)) := by simp
  have w : IntKind.i64.wrap ((p.length : Int) - 1) = ((p.length - 1 : Nat) : Int) := by rw [wrap_i64 (by omega) (by omega)]; omega
  have w1 : (0 : Int) ≤ ((p.length - 1 : Nat) : Int) := by omega
  have w2 : ((p.length - 1 : Nat) : Int) < (p.length : Int) := by omega
  have w3 : ((p.length - 1 : Nat) : Int) ≤ (p.length : Int) := by omega
  obtain ⟨x, hx⟩ : ∃ x, p[p.length - 1]? = some x := ⟨_, List.getElem?_eq_getElem (by omega)⟩
  have hcell : (sv p)[p.length - 1]? = some (.string (B x)) := by simp [sv, hx]
  have hld := ld_at hB (p.length - 1)
  rw [hcell] at hld
  rw [trimE_eq hne, hx]
  by_cases hxe : x = []
  · subst hxe
    rw [if_pos rfl]
    refine ⟨some ⟨H.length, 0, none⟩, p.length - 1, p.length, _, ?_, .inr ⟨H.length, 0, p.length - 1, p.length, _, _, rfl, by omega, hB, rfl, by simp, ?_⟩, e0⟩
    · rw [R_code hf]
      simp [m16, hs, w, w1, w2, w3, hld, sl_at hB]
    · simp [sv, List.map_take]
  · rw [if_neg (by simpa using hxe)]
    refine ⟨some ⟨H.length, 0, none⟩, p.length, p.length, _, ?_, .inr ⟨H.length, 0, p.length, p.length, _, _, rfl, by omega, hB, rfl, by simp, by rw [List.drop_zero]; exact List.take_of_length_le (by simp)⟩, e0⟩
    rw [R_code hf]
    simp [m16, hs, w, w1, w2, w3, hld, hxe]

/-- The words among pieces. -/
def noE (p : List (List UInt8)) : List (List UInt8) := p.filter (· ≠ [])
theorem words_loop {p : List (List UInt8)} (hp : p.length ≤ 100001) {pa : Option Addr} {pn pc : Nat} : ∀ (k i : Nat) (H : MH) (G : List Nat) (out : List (List UInt8)) (a : Option Addr) (n c : Nat), i + k = p.length → out.length ≤ i → Stay 1 (.slice pa pn pc) (sv p) H G → OwnA 1 (.slice a n c) (sv out) H G →
    ∃ (H' : MH) (G' : List Nat) (a' : Option Addr) (n' c' : Nat), Rc mp (.loop m18_0) [(3, .slice a n c), (13, .slice pa pn pc), (14, .int .i64 (pn : Int)), (15, .int .i64 (i : Int))] H =
        some (.exit 0, [(3, .slice a' n' c'), (13, .slice pa pn pc), (14, .int .i64 (pn : Int)), (15, .int .i64 (pn : Int)), (16, .bool false)], H') ∧ OwnA 1 (.slice a' n' c') (sv (out ++ noE (p.drop i))) H' G' ∧ Upd H G H' G' := by
  intro k
  induction k with
  | zero =>
    intro i H G out a n c hi ho hS hO
    have hn := hS.1.svn
    have : i = p.length := by omega
    subst this
    refine ⟨H, G, a, n, c, ?_, by simpa [noE] using hO, Upd.refl _ _⟩
    rw [Rc_loop]
    simp [m18_0, hn]
  | succ k ih =>
    intro i H G out a n c hi ho hS hO
    have hn := hS.1.svn
    have hil : i < p.length := by omega
    have hil' : i < pn := by omega
    have hdrop : p.drop i = p[i] :: p.drop (i + 1) := List.drop_eq_getElem_cons hil
    obtain ⟨b, o, j, cs, rfl, hB, hat⟩ := hS.1.sv (List.getElem?_eq_getElem hil)
    have hld := ld_at hB (o + i)
    rw [hat] at hld
    have w : IntKind.i64.wrap ((i : Int) + 1) = (i : Int) + 1 := wrap_i64 (by omega) (by omega)
    generalize p[i] = x at hat hdrop hld
    by_cases hx : x = []
    · subst hx
      obtain ⟨H', G', a', n', c', h1, h2, h3⟩ := ih (i + 1) H G out a n c (by omega) (by omega) hS hO
      refine ⟨H', G', a', n', c', ?_, by rw [hdrop]; simpa [noE] using h2, h3⟩
      rw [Rc_loop]
      simp [m18_0, hil', hld, w]
      exact h1
    · obtain ⟨a1, n1, c1, H1, G1, e1, o1, u1⟩ := own_push1 (bytes := 16) hO (sv_one out) (xs := [.string (B x)]) rfl rfl (by omega) (by simp; omega) (by omega)
      rw [sv_snoc] at o1
      obtain ⟨H', G', a', n', c', h1, h2, h3⟩ := ih (i + 1) H1 G1 (out ++ [x]) a1 n1 c1 (by omega) (by simp; omega) (hS.upd u1) o1
      refine ⟨H', G', a', n', c', ?_, by rw [hdrop]; simpa [noE, hx] using h2, u1.trans h3⟩
      rw [Rc_loop]
      simp [m18_0, hil', hld, w, hx, e1]
      exact h1
theorem wordsR_loop {p : List (List UInt8)} (hp : p.length ≤ 100001) {pa : Option Addr} {pn pc : Nat} : ∀ (k i : Nat) (H : MH) (G : List Nat) (out : List (List UInt8)) (a : Option Addr) (n c : Nat), i + k = p.length → out.length ≤ i → Stay 1 (.slice pa pn pc) (sv p) H G → OwnA 1 (.slice a n c) (sv out) H G →
    ∃ (H' : MH) (G' : List Nat) (a' : Option Addr) (n' c' : Nat), Rc mp (.loop m19_0) [(4, .slice pa pn pc), (5, .slice a n c), (6, .int .i64 (i : Int))] H =
        some (.exit 2, [(4, .slice pa pn pc), (5, .slice a' n' c'), (6, .int .i64 (pn : Int)), (26, .bool false)], H') ∧ OwnA 1 (.slice a' n' c') (sv (out ++ noE (p.drop i))) H' G' ∧ Upd H G H' G' := by
  intro k
  induction k with
  | zero =>
    intro i H G out a n c hi ho hS hO
    have hn := hS.1.svn
    have : i = p.length := by omega
    subst this
    refine ⟨H, G, a, n, c, ?_, by simpa [noE] using hO, Upd.refl _ _⟩
    rw [Rc_loop]
    simp [m19_0, hn]
  | succ k ih =>
    intro i H G out a n c hi ho hS hO
    have hn := hS.1.svn
    have hil : i < p.length := by omega
    have hil' : i < pn := by omega
    have hdrop : p.drop i = p[i] :: p.drop (i + 1) := List.drop_eq_getElem_cons hil
    obtain ⟨b, o, j, cs, rfl, hB, hat⟩ := hS.1.sv (List.getElem?_eq_getElem hil)
    have hld := ld_at hB (o + i)
    rw [hat] at hld
    have w : IntKind.i64.wrap ((i : Int) + 1) = (i : Int) + 1 := wrap_i64 (by omega) (by omega)
    generalize p[i] = x at hat hdrop hld
    by_cases hx : x = []
    · subst hx
      obtain ⟨H', G', a', n', c', h1, h2, h3⟩ := ih (i + 1) H G out a n c (by omega) (by omega) hS hO
      refine ⟨H', G', a', n', c', ?_, by rw [hdrop]; simpa [noE] using h2, h3⟩
      rw [Rc_loop]
      simp [m19_0, hil', hld, w]
      exact h1
    · obtain ⟨a1, n1, c1, H1, G1, e1, o1, u1⟩ := own_push1 (bytes := 16) hO (sv_one out) (xs := [.string (B x)]) rfl rfl (by omega) (by simp; omega) (by omega)
      rw [sv_snoc] at o1
      obtain ⟨H', G', a', n', c', h1, h2, h3⟩ := ih (i + 1) H1 G1 (out ++ [x]) a1 n1 c1 (by omega) (by simp; omega) (hS.upd u1) o1
      refine ⟨H', G', a', n', c', ?_, by rw [hdrop]; simpa [noE, hx] using h2, u1.trans h3⟩
      rw [Rc_loop]
      simp [m19_0, hil', hld, w, hx, e1]
      exact h1
end
end Go.Mod

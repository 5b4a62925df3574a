/- Package words and the document's words: strings cut into lines and words. -/
import Derived.Test.YthpeamllfledkaaDoorWdK
import Derived.Test.YthpeamllfledkaaDoorGrE
set_option linter.unusedVariables false
set_option linter.unusedSimpArgs false
namespace Go.Mod

theorem B_mk (a : Array UInt8) : (⟨a⟩ : ByteArray) = B a.toList := by simp [B]
@[simp] theorem B_getE (l : List UInt8) (i : Nat) (h : i < (B l).size) : (B l)[i] = l[i]'(by simpa using h) := Eq.trans rfl rfl
/-- Cells of a row of strings. -/
def sv (ls : List (List UInt8)) : List Value := ls.map fun l => .string (B l)
@[simp] theorem sv_len (ls : List (List UInt8)) : (sv ls).length = ls.length := by simp [sv]
theorem sv_one (ls : List (List UInt8)) : (sv ls).all one = true := by simp [sv]
theorem sv_snoc (ls : List (List UInt8)) (x : List UInt8) : sv ls ++ [.string (B x)] = sv (ls ++ [x]) := by simp [sv]
section
variable {mp : FuncId → Option MDef} {H : MH} {a : Option Addr} {n c k : Nat} {ls : List (List UInt8)} {x : List UInt8}
theorem Row.svn (h : Row 1 H (.slice a n c) (sv ls)) : n = ls.length := by
  obtain ⟨a', n', c', e, hl⟩ := h.slice
  cases e
  rw [sv_len] at hl; omega
theorem Row.sv (h : Row 1 H (.slice a n c) (sv ls)) (hx : ls[k]? = some x) : ∃ b o j cs, a = some ⟨b, o, none⟩ ∧ H[b]? = some (.cells j cs) ∧ cs[o + k]? = some (.string (B x)) := by
  have hk := (List.getElem?_eq_some_iff.1 hx).1
  have hn := h.svn
  obtain ⟨b, o, j, cs, rfl, hB, _, hat⟩ := h.at (k := k) (by omega)
  exact ⟨b, o, j, cs, rfl, hB, by rw [hat]; simp [Mod.sv, hx]⟩

/-- Without an empty last piece. -/
def trimE : List (List UInt8) → List (List UInt8)
  | [] => []
  | [x] => if x = [] then [] else [x]
  | x :: y :: t => x :: trimE (y :: t)
theorem trimE_cons {x : List UInt8} {t : List (List UInt8)} (h : t ≠ []) : trimE (x :: t) = x :: trimE t := by
  cases t with
  | nil => exact absurd rfl h
  | cons y t => rfl

theorem cut_loop {l : List UInt8} {b : UInt8} (hl : l.length ≤ 100000) : ∀ (k i fr : Nat) (H : MH) (G : List Nat) (out : List (List UInt8)) (a : Option Addr) (n c : Nat), i + k = l.length → fr ≤ i → b ∉ (l.take i).drop fr → out.length ≤ i → OwnA 1 (.slice a n c) (sv out) H G →
    ∃ (fr' : Nat) (H' : MH) (G' : List Nat) (out' : List (List UInt8)) (a' : Option Addr) (n' c' : Nat), Rc mp (.loop m33_0) [(0, .string (B l)), (1, .int .u8 b.toNat), (5, .slice a n c), (6, .int .i64 (fr : Int)), (7, .int .i64 (i : Int))] H =
        some (.exit 0, [(0, .string (B l)), (1, .int .u8 b.toNat), (5, .slice a' n' c'), (6, .int .i64 (fr' : Int)), (7, .int .i64 (l.length : Int)), (11, .bool false)], H') ∧ fr' ≤ l.length ∧ out'.length ≤ l.length ∧ OwnA 1 (.slice a' n' c') (sv out') H' G' ∧ Upd H G H' G' ∧
      out' ++ trimE [l.drop fr'] = out ++ trimE (cutAt b ((l.take i).drop fr ++ l.drop i)) := by
  intro k
  induction k with
  | zero =>
    intro i fr H G out a n c hi hfr hb ho hO
    have : i = l.length := by omega
    subst this
    refine ⟨fr, H, G, out, a, n, c, ?_, hfr, ho, hO, Upd.refl _ _, ?_⟩
    · rw [Rc_loop]
      simp [m33_0]
    · rw [List.take_length] at hb ⊢
      rw [List.drop_length, List.append_nil, cutAt_no hb]
  | succ k ih =>
    intro i fr H G out a n c hi hfr hb ho hO
    have hil : i < l.length := by omega
    have hg := List.getElem?_eq_getElem hil
    have w : IntKind.i64.wrap ((i : Int) + 1) = (i : Int) + 1 := wrap_i64 (by omega) (by omega)
    have hdrop : l.drop i = l[i] :: l.drop (i + 1) := List.drop_eq_getElem_cons hil
    have htk : l.take (i + 1) = l.take i ++ [l[i]] := by rw [List.take_add_one, hg]; rfl
    by_cases hc : l[i] = b
    · have hpl : ((l.drop fr).take (i - fr)) = (l.take i).drop fr := by rw [List.drop_take]
      obtain ⟨a1, n1, c1, H1, G1, e1, o1, u1⟩ := own_push1 (bytes := 16) hO (sv_one out) (xs := [.string (B ((l.take i).drop fr))]) rfl rfl (by omega) (by simp; omega) (by omega)
      rw [sv_snoc] at o1
      obtain ⟨fr', H', G', out', a', n', c', h1, h2, h3, h4, h5, h6⟩ := ih (i + 1) (i + 1) H1 G1 (out ++ [(l.take i).drop fr]) a1 n1 c1 (by omega) (Nat.le_refl _) (by rw [List.drop_eq_nil_of_le (by simp; omega)]; simp) (by simp; omega) o1
      refine ⟨fr', H', G', out', a', n', c', ?_, h2, h3, h4, u1.trans h5, ?_⟩
      · rw [Rc_loop]
        simp [m33_0, hg, hil, hc, w, hpl, e1, hfr, Nat.le_of_lt hil]
        exact h1
      · have e0 : (l.take (i + 1)).drop (i + 1) = [] := List.drop_eq_nil_of_le (by simp; omega)
        rw [h6, e0, hdrop, hc, cutAt_app hb, trimE_cons (cutAt_ne _ _)]
        simp
    · have hcn : ¬ (l[i].toNat : Int) = b.toNat := fun e => hc (UInt8.toNat_inj.1 (by omega))
      have hsub : (l.take (i + 1)).drop fr = (l.take i).drop fr ++ [l[i]] := by
        rw [htk, List.drop_append_of_le_length (by simp; omega)]
      obtain ⟨fr', H', G', out', a', n', c', h1, h2, h3, h4, h5, h6⟩ := ih (i + 1) fr H G out a n c (by omega) (by omega) (by rw [hsub]; simp; exact ⟨hb, fun e => hc e.symm⟩) (by omega) hO
      refine ⟨fr', H', G', out', a', n', c', ?_, h2, h3, h4, h5, ?_⟩
      · rw [Rc_loop]
        simp [m33_0, hg, hil, hcn, w]
        exact h1
      · rw [h6, hsub, hdrop]; simp
end
end Go.Mod

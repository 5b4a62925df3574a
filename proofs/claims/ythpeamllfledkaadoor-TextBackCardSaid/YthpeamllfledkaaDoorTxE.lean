/- Package text: the lines that have words. -/
import Derived.Test.YthpeamllfledkaaDoorTxD
set_option linter.unusedVariables false
set_option linter.unusedSimpArgs false
namespace Go.Mod
open Go.Lib

/-! ### what stays, by the size of an element -/
def KeepP (p : Nat → Prop) (H H' : MH) : Prop := ∀ (b : Nat) i cs, H[b]? = some (.cells i cs) → p i.es → H'[b]? = some (.cells i cs)
section
variable {p : Nat → Prop} {H H1 H2 : MH} {G G' : List Nat}
theorem KeepP.refl : KeepP p H H := fun _ _ _ h _ => h
theorem KeepP.trans (h : KeepP p H H1) (g : KeepP p H1 H2) : KeepP p H H2 := fun b i cs a c => g b i cs (h b i cs a c) c
theorem KeepP.ext (e : Ext H H1) : KeepP p H H1 := fun b i cs a _ => e.get a
theorem KeepP.upd (u : Upd H G H1 G') (hG : ∀ id ∈ G, ∀ i cs, H[id]? = some (.cells i cs) → ¬ p i.es) : KeepP p H H1 := fun b i cs a c => by
  have : b ∉ G := fun hb => hG b hb i cs a c
  exact u.get a this
theorem Row.keepP {es : Nat} {v : Value} {l : List Value} (h : Row es H v l) (k : KeepP p H H1) (hp : p es) : Row es H1 v l := h.keep fun b i cs a e => k b i cs a (e ▸ hp)
theorem own_es {es : Nat} {v : Value} {l : List Value} (h : OwnA es v l H G) : ∀ id ∈ G, ∀ i cs, H[id]? = some (.cells i cs) → i.es = es := by
  intro id hid i cs hi
  rcases h with ⟨_, _, rfl⟩ | ⟨b, n, c, cs', _, _, h3, _, _, rfl⟩
  · cases hid
  · simp at hid; subst hid; rw [h3] at hi; cases hi; rfl
end

/-- A line that has words, and where they lie. -/
structure RwL where
  at_ : Nat
  w : List Bs
  wa : Option Addr
  wc : Nat
def rwC (r : RwL) : List Value := [.int .i64 (r.at_ : Int), .slice r.wa r.w.length r.wc]
def rowsL : Nat → List Bs → List (Nat × List Bs)
  | _, [] => []
  | i, s :: l => if wordsOf s = [] then rowsL (i + 1) l else (i, wordsOf s) :: rowsL (i + 1) l
def RwL.plain (r : RwL) : Nat × List Bs := (r.at_, r.w)
def WordsAt (H : MH) (rs : List RwL) : Prop := ∀ r ∈ rs, Row 1 H (.slice r.wa r.w.length r.wc) (sv r.w)
theorem rw_len (l : List RwL) : (l.flatMap rwC).length = l.length * 2 := flat_len fun x hx => rfl
theorem rw_one (l : List RwL) : (l.flatMap rwC).all one = true := by
  induction l with
  | nil => rfl
  | cons p l ih => rw [List.flatMap_cons, List.all_append, ih]; rfl

section
variable {mp : FuncId → Option MDef} {H : MH}
theorem rows_loop (h18 : mp 18 = some (.code m18)) (h32 : mp 32 = some (.intr splitS)) (h34 : mp 34 = some (.intr (scalS cutG))) {ls : List Bs} (hls : ∀ w ∈ ls, w.length ≤ 100000) (hlen : ls.length ≤ 100001) {sa : Option Addr} {sn sc : Nat} :
    ∀ (k i : Nat) (H : MH) (G : List Nat) (out : List RwL) (a : Option Addr) (n c : Nat), i + k = ls.length → out.length ≤ i → Row 1 H (.slice sa sn sc) (sv ls) → OwnA 2 (.slice a n c) (out.flatMap rwC) H G → WordsAt H out →
    ∃ (H' : MH) (G' : List Nat) (rs : List RwL) (a' : Option Addr) (n' c' : Nat), Rc mp (.loop m42_0) [(3, .slice a n c), (7, .slice sa sn sc), (8, .int .i64 (sn : Int)), (9, .int .i64 (i : Int))] H =
        some (.exit 0, [(3, .slice a' n' c'), (7, .slice sa sn sc), (8, .int .i64 (sn : Int)), (9, .int .i64 (sn : Int)), (10, .bool false)], H') ∧ rs.map RwL.plain = rowsL i (ls.drop i) ∧ OwnA 2 (.slice a' n' c') ((out ++ rs).flatMap rwC) H' G' ∧ WordsAt H' (out ++ rs) ∧ Upd H G H' G' := by
  intro k
  induction k with
  | zero =>
    intro i H G out a n c hi ho hr hO hW
    have hn := hr.svn
    have : i = ls.length := by omega
    subst this
    refine ⟨H, G, [], a, n, c, ?_, by rw [List.drop_length]; rfl, by simpa using hO, by simpa using hW, Upd.refl _ _⟩
    rw [Rc_loop]
    simp [m42_0, hn]
  | succ k ih =>
    intro i H G out a n c hi ho hr hO hW
    have hn := hr.svn
    have hil : i < ls.length := by omega
    have hil' : i < sn := by omega
    have hdrop : ls.drop i = ls[i] :: ls.drop (i + 1) := List.drop_eq_getElem_cons hil
    obtain ⟨b, o, j, cs, rfl, hB, hat⟩ := hr.sv (List.getElem?_eq_getElem hil)
    have hld := ld_at hB (o + i)
    rw [hat] at hld
    have hxl : ls[i].length ≤ 100000 := hls _ (List.getElem_mem hil)
    have w : IntKind.i64.wrap ((i : Int) + 1) = (i : Int) + 1 := wrap_i64 (by omega) (by omega)
    generalize ls[i] = x at hat hdrop hld hxl
    obtain ⟨a1, n1, c1, H1, q1, r1, x1⟩ := R_words (H := H) h18 h32 h34 (l := x) hxl
    have hn1 := r1.svn
    rw [hdrop]
    unfold rowsL
    generalize wordsOf x = ws at r1 hn1
    by_cases hws : ws = []
    · subst hws
      simp at hn1
      subst hn1
      obtain ⟨H', G', rs, a', n', c', h1, h2, h3, h4, h5⟩ := ih (i + 1) H1 G out a n c (by omega) (by omega) (row_ext' hr x1) (OwnA.good.ext hO x1) (fun r hr => row_ext' (hW r hr) x1)
      refine ⟨H', G', rs, a', n', c', ?_, by rw [if_pos rfl]; exact h2, h3, h4, (Upd.ext x1).trans h5⟩
      rw [Rc_loop]
      simp [m42_0, hil', hld, w, q1]
      exact h1
    · have hn0 : ¬ n1 = 0 := by rw [hn1]; simpa using hws
      subst hn1
      obtain ⟨a2, n2, c2, H2, G2, e2, o2, u2⟩ := own_push1 (bytes := 32) (OwnA.good.ext hO x1) (rw_one out) (xs := [.int .i64 (i : Int), .slice a1 ws.length c1]) rfl rfl (by omega) (by rw [rw_len]; omega) (by omega)
      have k2 : KeepP (fun e => e = 1) H1 H2 := KeepP.upd u2 fun id hid i cs h => by rw [own_es (OwnA.good.ext hO x1) id hid i cs h]; decide
      have o2' : OwnA 2 (.slice a2 n2 c2) ((out ++ [RwL.mk i ws a1 c1]).flatMap rwC) H2 G2 := by
        rw [List.flatMap_append]; simpa [rwC] using o2
      have hW2 : WordsAt H2 (out ++ [RwL.mk i ws a1 c1]) := fun r hr' => by
        rcases List.mem_append.1 hr' with h | h
        · exact Row.keepP (row_ext' (hW r h) x1) k2 rfl
        · simp at h; subst h; exact Row.keepP r1 k2 rfl
      obtain ⟨H', G', rs, a', n', c', h1, h2, h3, h4, h5⟩ := ih (i + 1) H2 G2 (out ++ [RwL.mk i ws a1 c1]) a2 n2 c2 (by omega) (by simp; omega) (Row.keepP (row_ext' hr x1) k2 rfl) o2' hW2
      refine ⟨H', G', RwL.mk i ws a1 c1 :: rs, a', n', c', ?_, by rw [if_neg hws, List.map_cons, h2]; rfl, by simpa using h3, by simpa using h4, (Upd.ext x1).trans (u2.trans h5)⟩
      rw [Rc_loop]
      simp [m42_0, hil', hld, w, q1, hn0, hws, e2]
      exact h1
theorem R_rows (hf : mp 42 = some (.code m42)) (h18 : mp 18 = some (.code m18)) (h32 : mp 32 = some (.intr splitS)) (h34 : mp 34 = some (.intr (scalS cutG))) {ls : List Bs} (hls : ∀ w ∈ ls, w.length ≤ 100000) (hlen : ls.length ≤ 100001) {sa : Option Addr} {sn sc : Nat} (hr : Row 1 H (.slice sa sn sc) (sv ls)) :
    ∃ a n c rs H', R mp 42 [.slice sa sn sc] H = some (.slice a n c, H') ∧ Ext H H' ∧ Row 2 H' (.slice a n c) (rs.flatMap rwC) ∧ WordsAt H' rs ∧ rs.map RwL.plain = rowsL 0 ls := by
  obtain ⟨H', G', rs, a', n', c', h1, h2, h3, h4, h5⟩ := rows_loop h18 h32 h34 hls hlen ls.length 0 H [] [] none 0 0 (by omega) (by simp) hr (.inl ⟨rfl, rfl, rfl⟩) (fun r hr => by cases hr)
  simp at h1
  refine ⟨a', n', c', rs, H', ?_, h5.toExt.1, by simpa using Own.row h3, by simpa using h4, by simpa using h2⟩
  rw [R_code hf]
  simp [m42, h1]
end
end Go.Mod

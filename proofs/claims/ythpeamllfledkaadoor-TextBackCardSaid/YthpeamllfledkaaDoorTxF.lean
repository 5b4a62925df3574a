/- Package text: the lines ahead of tasks: the protocol. -/
import Derived.Test.YthpeamllfledkaaDoorTxE
set_option linter.unusedVariables false
set_option linter.unusedSimpArgs false
namespace Go.Mod
open Go.Lib

def kProtocol : Bs := [112, 114, 111, 116, 111, 99, 111, 108]
def kCores : Bs := [99, 111, 114, 101, 115]
def kHomes : Bs := [104, 111, 109, 101, 115]
def kTask : Bs := [116, 97, 115, 107]
def kFair : Bs := [102, 97, 105, 114]
def kAgent : Bs := [97, 103, 101, 110, 116]
def kToken : Bs := [116, 111, 107, 101, 110]
def wordN : Nat → Bs
  | 1 => kFair
  | 2 => kAgent
  | 3 => kToken
  | _ => []
/-- A protocol's number. -/
def protoN (w : Bs) : Int := if w = kFair then 1 else if w = kAgent then 2 else if w = kToken then 3 else 0
theorem ba_refl (s : ByteArray) : (s == s) = true := by
  cases s with
  | mk d => show (d == d) = true; simp
section
variable {mp : FuncId → Option MDef} {H : MH}
theorem R_proto (hf : mp 38 = some (.code m38)) {n : Nat} (h : 1 ≤ n ∧ n ≤ 3) : R mp 38 [.int .i64 (n : Int)] H = some (.string (B (wordN n)), H) := by
  have e : ∀ k v, (k = 1 ∧ v = B kFair) ∨ (k = 2 ∧ v = B kAgent) ∨ (k = 3 ∧ v = B kToken) → mpure (.idxa 4 1 none) [.agg #[.string ⟨#[]⟩, .string ⟨#[102, 97, 105, 114]⟩, .string ⟨#[97, 103, 101, 110, 116]⟩, .string ⟨#[116, 111, 107, 101, 110]⟩], .int .i64 k] = some (.string v) := by
    rintro k v (⟨rfl, rfl⟩ | ⟨rfl, rfl⟩ | ⟨rfl, rfl⟩) <;> rfl
  obtain rfl | rfl | rfl : n = 1 ∨ n = 2 ∨ n = 3 := by omega
  · rw [R_code hf]
    simp [m38, wordN, e 1 (B kFair) (.inl ⟨rfl, rfl⟩)]
  · rw [R_code hf]
    simp [m38, wordN, e 2 (B kAgent) (.inr (.inl ⟨rfl, rfl⟩))]
  · rw [R_code hf]
    simp [m38, wordN, e 3 (B kToken) (.inr (.inr ⟨rfl, rfl⟩))]
theorem rw_ia {a : Option Addr} {rs : List RwL} (h : RowG 2 H a rs rwC) {k : Nat} (hk : k < rs.length) (c : Nat) : mpure (.ia 2) [.slice a rs.length c, .int .i64 (k : Int)] = some (.pointer (some ⟨adB a, adO a + k * 2, none⟩)) := by
  rw [h.ia, if_pos ⟨by omega, by omega⟩]; simp
theorem rw_ws {a : Option Addr} {rs : List RwL} (h : RowG 2 H a rs rwC) {k : Nat} {r : RwL} (hr : rs[k]? = some r) : mread (.ld none) [.pointer (some ⟨adB a, adO a + k * 2 + 1, none⟩)] H = some (.slice r.wa r.w.length r.wc) := by
  rw [h.rd hr H 1 (Ext.refl H) (by omega)]; rfl
theorem rw_at {a : Option Addr} {rs : List RwL} (h : RowG 2 H a rs rwC) {k : Nat} {r : RwL} (hr : rs[k]? = some r) : mread (.ld none) [.pointer (some ⟨adB a, adO a + k * 2, none⟩)] H = some (.int .i64 (r.at_ : Int)) := by
  have := h.rd hr H 0 (Ext.refl H) (by omega)
  rw [Nat.add_zero] at this
  rw [this]; rfl
def setC (p : Int) (x y : Value) : List Value := [.int .i64 p, x, y, .slice none 0 0]
/-- The loop over protocols. -/
theorem proto_step (h38 : mp 38 = some (.code m38)) {a : Option Addr} {rs : List RwL} {c b2 b5 : Nat} {r : RwL} {w : Bs} {n : Nat} {p : Int} (hr : RowG 2 H a rs rwC) (hrs : rs[0]? = some r) (hW : WordsAt H rs) (hw : r.w[1]? = some w) (hn : 1 ≤ n ∧ n ≤ 3)
    (hb : H[b5]? = some (.cells ⟨0, true, false⟩ (setC p (.slice none 0 0) (.slice none 0 0)))) :
    Rc mp (.loop m43_0) [(0, .slice a rs.length c), (2, .pointer (some ⟨b2, 0, none⟩)), (5, .pointer (some ⟨b5, 0, none⟩)), (6, .int .i64 (n : Int))] H =
    Rc mp (.loop m43_0) [(0, .slice a rs.length c), (2, .pointer (some ⟨b2, 0, none⟩)), (5, .pointer (some ⟨b5, 0, none⟩)), (6, .int .i64 ((n + 1 : Nat) : Int))] (if w = wordN n then H.set b5 (.cells ⟨0, true, false⟩ (setC n (.slice none 0 0) (.slice none 0 0))) else H) := by
  have hlt : 0 < rs.length := (List.getElem?_eq_some_iff.1 hrs).1
  have hlt' : (0 : Int) < (rs.length : Int) := by omega
  have i0 := rw_ia hr hlt c
  have l0 := rw_ws hr hrs
  obtain ⟨b, o, hwa, l1, h1⟩ := row_get (hW r (List.mem_of_getElem? hrs)) (k := 1) (x := .string (B w)) (by simp [sv, hw])
  rw [hwa] at l0
  have h1' : (1 : Int) < (r.w.length : Int) := by omega
  have hq := R_proto (H := H) h38 hn
  simp at i0 l0 l1
  have w1 : IntKind.i64.wrap ((n : Int) + 1) = (n : Int) + 1 := wrap_i64 (by omega) (by omega)
  have hn3 : (n : Int) ≤ 3 := by omega
  conv => lhs; rw [Rc_loop]
  by_cases hc : w = wordN n
  · rw [if_pos hc]
    simp [m43_0, hn3, i0, l0, l1, h1', hq, mdraw_full, ba_refl, hc, stx, hb, w1, setC]
  · rw [if_neg hc]
    simp [m43_0, hn3, i0, l0, l1, h1', hq, mdraw_full, ba_refl, hc, stx, hb, w1, setC]
end
end Go.Mod

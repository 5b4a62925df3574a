/- TextNested: the text that is built. -/
import Derived.Test.YthpeamllfledkaaDoorTxJ
import Derived.Test.YthpeamllfledkaaDoorWtC
set_option linter.unusedVariables false
set_option linter.unusedSimpArgs false
namespace Go.Mod
open Go.Lib

theorem txP : TxP mpX 105 := ⟨rfl, rfl, rfl, rfl, rfl, rfl, rfl, rfl, rfl⟩
theorem txQ : TxQ mpX 105 := ⟨txP, rfl, rfl, rfl, rfl, rfl, rfl, rfl, rfl, rfl, ⟨rfl, rfl, rfl, rfl, rfl, rfl, rfl, rfl, rfl, rfl, rfl, rfl, rfl⟩⟩
/-- So many tasks ahead of the line that is wrong. -/
def headN : Bs := [112, 114, 111, 116, 111, 99, 111, 108, 32, 102, 97, 105, 114, 10, 99, 111, 114, 101, 115, 32, 49, 10, 104, 111, 109, 101, 115, 32, 48, 32, 48, 10]
theorem headN_len : headN.length = 32 := rfl
def nestS : Nat → Bs
  | 0 => headN
  | n + 1 => nestS n ++ ([116, 97, 115, 107, 32] ++ ([UInt8.ofNat (97 + n)] ++ ([32, 53, 48, 32, 53, 48, 32] ++ (textL ((n : Int) + 1) ++ [32, 48, 32, 114, 117, 110, 58, 49, 10]))))
theorem textL_len (n : Int) : (textL n).length ≤ 7 := by
  unfold textL
  split
  · exact dec_len 7 _
  · simp
theorem nestS_succ (n : Nat) : nestS (n + 1) = nestS n ++ ([116, 97, 115, 107, 32] ++ ([UInt8.ofNat (97 + n)] ++ ([32, 53, 48, 32, 53, 48, 32] ++ (textL ((n : Int) + 1) ++ [32, 48, 32, 114, 117, 110, 58, 49, 10])))) := by rw [nestS]
theorem nestS_len : ∀ n, (nestS n).length ≤ 32 + 40 * n
  | 0 => by show headN.length ≤ _; rw [headN_len]; omega
  | n + 1 => by
    have h1 := nestS_len n
    have h2 := textL_len ((n : Int) + 1)
    show (nestS n ++ _).length ≤ _
    simp only [List.length_append, List.length_cons, List.length_nil]; omega
theorem ba_sz (a : Array UInt8) : (⟨a⟩ : ByteArray).size = a.size := rfl
theorem s_addL {l m : Bs} (h : l.length ≤ 100000) (h2 : m.length ≤ 100000) : mbin .add (.string (B l)) (.string (B m)) = some (.string (B (l ++ m))) := by
  rw [ev_s_add, if_pos (by rw [B_size, B_size]; omega), B_append]
theorem nest_loop {mp : FuncId → Option MDef} (h23 : mp 23 = some (.code m23)) {n : Nat} (hn : n ≤ 4) {v0 v1 v3 : Value} : ∀ (k i : Nat) (H : MH), i + k = n →
    ∃ H', Rc mp (.loop m11_0) [(0, v0), (1, v1), (3, v3), (9, .string (B (nestS i))), (10, .int .i64 (n : Int)), (11, .int .i64 (i : Int))] H =
      some (.exit 0, [(0, v0), (1, v1), (3, v3), (9, .string (B (nestS n))), (10, .int .i64 (n : Int)), (11, .int .i64 (n : Int)), (22, .bool false)], H') := by
  intro k
  induction k with
  | zero =>
    intro i H hi
    have : i = n := by omega
    subst this
    refine ⟨H, ?_⟩
    rw [Rc_loop]
    simp [m11_0]
  | succ k ih =>
    intro i H hi
    have hin : (i : Int) < (n : Int) := by omega
    have hinN : i < n := by omega
    have w1 : IntKind.i64.wrap ((i : Int) + 1) = (i : Int) + 1 := wrap_i64 (by omega) (by omega)
    have w2 : IntKind.i64.wrap (97 + (i : Int)) = 97 + (i : Int) := wrap_i64 (by omega) (by omega)
    have w3 : IntKind.u8.wrap (97 + (i : Int)) = ((UInt8.ofNat (97 + i)).toNat : Int) := by
      rw [IntKind.wrap_u8]
      have : (UInt8.ofNat (97 + i)).toNat = 97 + i := by rw [UInt8.toNat_ofNat']; omega
      rw [this]; omega
    have hl := nestS_len i
    have hl2 := textL_len ((i : Int) + 1)
    have hnext : nestS (i + 1) = nestS i ++ ([116, 97, 115, 107, 32] ++ ([UInt8.ofNat (97 + i)] ++ ([32, 53, 48, 32, 53, 48, 32] ++ (textL ((i : Int) + 1) ++ [32, 48, 32, 114, 117, 110, 58, 49, 10])))) := nestS_succ i
    generalize UInt8.ofNat (97 + i) = d at w3 hnext
    obtain ⟨H1, q1, x1⟩ := R_textR (mp := mp) (H := H ++ [.cells ⟨1, true, true⟩ [.int .u8 (d.toNat : Int)]]) h23 ((i : Int) + 1)
    have hb : (H ++ [MObj.cells ⟨1, true, true⟩ [.int .u8 (d.toNat : Int)]])[H.length]? = some (.cells ⟨1, true, true⟩ (u8v [d])) := by simp [u8v]
    have hb1 := x1.get hb
    have s1 := strb_u8 hb (n := 1) rfl 1
    have s2 := strb_u8 hb1 (n := 1) rfl 1
    have hb1' : H1[H.length]? = some (.cells ⟨1, true, true⟩ [.int .u8 (d.toNat : Int)]) := hb1
    obtain ⟨H', h'⟩ := ih (i + 1) H1 (by omega)
    refine ⟨H', ?_⟩
    rw [hnext] at h'
    generalize textL ((i : Int) + 1) = tx at q1 h' hl2
    generalize nestS i = ns at hl h'
    obtain ⟨t1, ht1, f1⟩ : ∃ t1 : Bs, t1 = ns ++ [116, 97, 115, 107, 32] ∧ mbin .add (.string (B ns)) (.string ⟨#[116, 97, 115, 107, 32]⟩) = some (.string (B t1)) := ⟨_, rfl, s_addL (m := [116, 97, 115, 107, 32]) (by omega) (by simp)⟩
    have l1 : t1.length = ns.length + 5 := by rw [ht1]; simp
    obtain ⟨t2, ht2, f2⟩ : ∃ t2 : Bs, t2 = t1 ++ [d] ∧ mbin .add (.string (B t1)) (.string (B [d])) = some (.string (B t2)) := ⟨_, rfl, s_addL (by omega) (by simp)⟩
    have l2 : t2.length = t1.length + 1 := by rw [ht2]; simp
    obtain ⟨t3, ht3, f3⟩ : ∃ t3 : Bs, t3 = t2 ++ [32, 53, 48, 32, 53, 48, 32] ∧ mbin .add (.string (B t2)) (.string ⟨#[32, 53, 48, 32, 53, 48, 32]⟩) = some (.string (B t3)) := ⟨_, rfl, s_addL (m := [32, 53, 48, 32, 53, 48, 32]) (by omega) (by simp)⟩
    have l3 : t3.length = t2.length + 7 := by rw [ht3]; simp
    obtain ⟨t4, ht4, f4⟩ : ∃ t4 : Bs, t4 = t3 ++ tx ∧ mbin .add (.string (B t3)) (.string (B tx)) = some (.string (B t4)) := ⟨_, rfl, s_addL (by omega) (by omega)⟩
    have l4 : t4.length = t3.length + tx.length := by rw [ht4]; simp
    obtain ⟨t5, ht5, f5⟩ : ∃ t5 : Bs, t5 = t4 ++ [32, 48, 32, 114, 117, 110, 58, 49, 10] ∧ mbin .add (.string (B t4)) (.string ⟨#[32, 48, 32, 114, 117, 110, 58, 49, 10]⟩) = some (.string (B t5)) := ⟨_, rfl, s_addL (m := [32, 48, 32, 114, 117, 110, 58, 49, 10]) (by omega) (by simp)⟩
    have e5 : ns ++ ([116, 97, 115, 107, 32] ++ ([d] ++ ([32, 53, 48, 32, 53, 48, 32] ++ (tx ++ [32, 48, 32, 114, 117, 110, 58, 49, 10])))) = t5 := by
      rw [ht5, ht4, ht3, ht2, ht1]; simp only [List.append_assoc]
    rw [e5] at h'
    clear ht1 ht2 ht3 ht4 ht5 e5 hnext
    rw [Rc_loop]
    simp [-ev_s_add, m11_0, hin, hinN, w1, w2, w3, mdraw_full, s1, s2, q1, hb1', ba_refl, f1, f2, f3, f4, f5]
    exact h'
end Go.Mod

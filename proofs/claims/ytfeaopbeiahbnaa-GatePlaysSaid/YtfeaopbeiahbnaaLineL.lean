/- What is said of lines: by hand. -/
import Derived.Test.YtfeaopbeiahbnaaLineP
set_option linter.unusedVariables false
set_option linter.unusedSimpArgs false
namespace Go.Mod
open Go.Proofs

theorem known_ok : ∃ H0, R mp 22 [] [] = some (.bool true, H0) := known_of (k := 40) (by kernel_rfl)
def mpk (f : FuncId) : Option MDef := if f = 22 then some (.intr (constS (.bool true))) else mp f
theorem mpk_ok : MapOk Try.prog mpk := by
  obtain ⟨H0, h⟩ := known_ok
  refine ⟨mp_ok.mixed, fun f fn hf => ?_, fun f s hf => ?_⟩
  · unfold mpk at hf
    split at hf
    · cases hf
    · exact mp_code f fn hf
  · unfold mpk at hf
    split at hf
    · rename_i e; subst e
      cases hf
      exact closed_intr mp_ok h rfl
    · exact mp_ok.intr f s hf
theorem known_R {H : MH} : R mpk 22 [] H = some (.bool true, H) := by rw [R_intr (s := constS (.bool true)) rfl]; simp

def upto (n : Nat) : List Int := (List.range n).map fun (i : Nat) => (i : Int)
theorem upto_succ (n : Nat) : upto (n + 1) = upto n ++ [(n : Int)] := by simp [upto, List.range_succ]
theorem upto_len (n : Nat) : (upto n).length = n := by simp [upto]
theorem mem_upto {n : Nat} {x : Int} : x ∈ upto n ↔ 0 ≤ x ∧ x < n := by
  simp only [upto, List.mem_map, List.mem_range]
  constructor
  · rintro ⟨i, hi, rfl⟩; omega
  · intro h; exact ⟨x.toNat, by omega, by omega⟩

theorem full_loop {t M : Nat} {id : Value} (hM : M ≤ 64) : ∀ (k i : Nat) (H : MH) (v : Value) (fp : List Nat), i + k = M → LineAt H t (upto i) M v fp →
    ∃ H' v' fp', Rc mpk (.loop m8_0) [(1, id), (5, .pointer (some ⟨t, 0, none⟩)), (6, .int .i64 (M : Int)), (7, .int .i64 (i : Int))] H = some (.exit 0, [(1, id), (5, .pointer (some ⟨t, 0, none⟩)), (6, .int .i64 (M : Int)), (7, .int .i64 (M : Int)), (19, .bool false)], H') ∧ LineAt H' t (upto M) M v' fp'
  | 0, i, H, v, fp, hik, h => by
    have hi : i = M := by omega
    subst hi
    refine ⟨H, v, fp, ?_, h⟩
    rw [Rc_loop]
    simp [m8_0]
  | k + 1, i, H, v, fp, hik, h => by
    obtain ⟨v1, H1, fp1, h1, l1, _, _⟩ := R_lput (mp := mpk) rfl h (by rw [upto_len]; omega) (by omega) (i : Int)
    rw [← upto_succ] at l1
    obtain ⟨H', v', fp', h2, l2⟩ := full_loop (id := id) hM k (i + 1) H1 v1 fp1 (by omega) l1
    refine ⟨H', v', fp', ?_, l2⟩
    have hlt : (i : Int) < (M : Int) := by omega
    have hlt' : i < M := by omega
    have w : IntKind.i64.wrap ((i : Int) + 1) = (i : Int) + 1 := wrap_i64 (by omega) (by omega)
    rw [Rc_loop]
    simp at h2
    simp [m8_0, hlt', h1, w]
    exact h2

theorem lineFull {H : MH} {room id : Int} (hr : 0 ≤ room ∧ room < 256) (hi : 0 ≤ id ∧ id < 256) : ∃ H', R mpk 8 [.int .u8 room, .int .u8 id] H = some (.bool true, H') := by
  refine isTrue_ex ?_
  obtain ⟨M, hM⟩ : ∃ M : Nat, (M : Int) = min room 64 := ⟨(min room 64).toNat, by omega⟩
  have hM64 : M ≤ 64 := by omega
  obtain ⟨H1, e1, x1, l1⟩ := R_lnew (mp := mpk) rfl (H := H) (room := room)
  have hmm : min (max room 0) 64 = (M : Int) := by omega
  rw [hmm] at l1
  obtain ⟨H2, v2, fp2, h2, l2⟩ := full_loop (t := H.length) (id := .int .u8 id) hM64 M 0 H1 _ _ (by omega) l1
  have full := R_lput_full (mp := mpk) rfl l2 (by rw [upto_len]; omega) 99
  have hlen := R_llen (mp := mpk) rfl l2
  rw [upto_len] at hlen
  obtain ⟨v3, H3, h3, l3, _⟩ := R_ldrop (mp := mpk) rfl rfl l2 id
  have hhas := R_lhas (mp := mpk) rfl rfl rfl l3 id
  have w1 : IntKind.i64.wrap room = room := wrap_i64 (by omega) (by omega)
  have w2 : IntKind.i64.wrap id = id := wrap_i64 (by omega) (by omega)
  have hnd : (upto M).Nodup := by
    unfold upto
    refine List.Pairwise.map _ (fun a b h => ?_) List.nodup_range
    intro e
    exact h (by omega)
  have hne : id ∉ (upto M).erase id := fun h => by
    have := List.Nodup.not_mem_erase hnd h
    exact this
  rw [R_code (fn := m8) rfl]
  simp only [hne, decide_false] at hhas
  by_cases hin : id < (M : Int)
  · have hmem : id ∈ upto M := mem_upto.2 ⟨hi.1, hin⟩
    have hle : ((upto M).erase id).length + 1 = M := by
      rw [List.length_erase_of_mem hmem, upto_len]; omega
    obtain ⟨v4, H4, fp4, h4, l4, _, _⟩ := R_lput (mp := mpk) rfl l3 (by omega) (by omega) 99
    have hhas2 := R_lhas (mp := mpk) rfl rfl rfl l4 99
    simp only [hmem, decide_true] at h3
    simp at h2 hhas2
    simp [m8, known_R, w1, w2, e1, ← hM, h2, full, hlen, h3, hin, hhas, h4, hhas2]
  · have hmem : id ∉ upto M := fun h => hin (mem_upto.1 h).2
    have her : (upto M).erase id = upto M := List.erase_of_not_mem hmem
    rw [her] at l3
    have full2 := R_lput_full (mp := mpk) rfl l3 (by rw [upto_len]; omega) 99
    have hhas2 := R_lhas (mp := mpk) rfl rfl rfl l3 99
    have h99 : (99 : Int) ∉ upto M := fun h => by have := (mem_upto.1 h).2; omega
    simp only [hmem, decide_false] at h3
    simp only [h99, decide_false] at hhas2
    have hm99 : ¬ (99 : Int) < (M : Int) := by omega
    have hm99' : ¬ 99 < M := by omega
    simp at h2
    simp [m8, known_R, w1, w2, e1, ← hM, h2, full, hlen, h3, hin, hhas, full2, hhas2, hm99, hm99']
end Go.Mod

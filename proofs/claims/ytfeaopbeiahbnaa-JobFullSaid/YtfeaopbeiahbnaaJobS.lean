/- New jobs, copies, which tasks fit; the closed run. -/
import Derived.Test.YtfeaopbeiahbnaaJobR
set_option linter.unusedVariables false
set_option linter.unusedSimpArgs false
namespace Go.Mod
open Go.Proofs

theorem knownJ_ok : ∃ H0, R mpJ 37 [] [] = some (.bool true, H0) := known_of (k := 40) (by kernel_rfl)
def mpJk (f : FuncId) : Option MDef := if f = 37 then some (.intr (constS (.bool true))) else mpJ f
theorem mpJk_ok : MapOk Try.prog mpJk := by
  obtain ⟨H0, h⟩ := knownJ_ok
  refine ⟨mpJ_ok.mixed, fun f fn hf => ?_, fun f s hf => ?_⟩
  · unfold mpJk at hf
    split at hf
    · cases hf
    · exact mpJ_code f fn hf
  · unfold mpJk at hf
    split at hf
    · rename_i e; subst e
      cases hf
      exact closed_intr mpJ_ok h rfl
    · exact mpJ_ok.intr f s hf
theorem knownJ_R {H : MH} : R mpJk 37 [] H = some (.bool true, H) := by rw [R_intr (s := constS (.bool true)) rfl]; simp

variable {mp : FuncId → Option MDef}
section
variable {H : MH} {F : List Nat} {j t r y : Nat} {v : Value} {rel : Int} {xs : List Int} {s : JS} {ps : List (List Int)} {nm : ByteArray} {q1 q2 q3 q4 : Int}
/-- A task, as a value. -/
def taskV (nm : ByteArray) (q1 q2 q3 q4 : Int) (v : Value) : Value := .agg #[.string nm, .int .i64 q1, .int .i64 q2, .int .i64 q3, .int .i64 q4, v]
theorem R_jnew (hf : mp 39 = some (.code m39)) (h70 : mp 70 = some (.code m70)) (h71 : mp 71 = some (.code m71)) (h43 : mp 43 = some (.code m43)) (h19 : mp 19 = some (.code m19)) (h64 : mp 64 = some (.code m64)) (h65 : mp 65 = some (.code m65)) (P : Parts ps) (hb : Bytes xs) (hx : xs.length ≤ 1000000)
    (h : TapeA t xs 0 H F) (hr : Row 3 H v (recs ps)) : ∃ j v' H' F', R mp 39 [taskV nm q1 q2 q3 q4 v, .int .i64 rel, .pointer (some ⟨t, 0, none⟩)] H = some (.pointer (some ⟨j, 0, none⟩), H') ∧ JobA j t v' rel xs (jbegin ps xs 0 0) H' F' ∧ Stay 3 v' (recs ps) H' F' ∧ Upd H F H' F' := by
  have e1 : Ext H (H ++ [.cells ⟨0, true, false⟩ [.string nm, .int .i64 q1, .int .i64 q2, .int .i64 q3, .int .i64 q4, v]]) := ⟨_, rfl⟩
  have hlen := recs_len P.w
  have hn := P.n
  obtain ⟨v', H2, G, e2, r2, x2, n2, a, n, c, rfl⟩ := R_cloneF (mp := mp) (f := 70) (es := 3) (bytes := 24) (z := [.int .i64 0, .int .i64 0, .int .i64 0]) h70 rfl (by omega) (by omega) (e1.row hr) (recs_one ps) (by omega)
  have h2 := TapeA.good.ext h (e1.trans x2)
  have p3 := star_comm (star_new TapeA.good h2 ⟨0, true, false⟩ [.slice a n c, .int .i64 0, .int .i64 0, .int .i64 rel, .pointer (some ⟨t, 0, none⟩)])
  have hst : Stay 3 (.slice a n c) (recs ps) (H2 ++ [.cells ⟨0, true, false⟩ [.slice a n c, .int .i64 0, .int .i64 0, .int .i64 rel, .pointer (some ⟨t, 0, none⟩)]]) (F ++ [H2.length]) := by
    refine ⟨Ext.row ⟨_, rfl⟩ r2.1, fun b o n' c' e hb => ?_⟩
    have hg := r2.2.1 b o n' c' e
    have h1 := n2 b hg
    have h2 := (r2.2.2 b hg).1
    simp at hb h1
    rcases hb with hb | hb
    · have := TapeA.good.lt h b hb; omega
    · omega
  obtain ⟨H4, e4, p4, u4⟩ := R_jbegins (mp := mp) (k := 0) (u := 0) h71 h43 h19 h64 h65 P hb hx (by omega) p3 hst
  have uu : Upd H F (H2 ++ [.cells ⟨0, true, false⟩ [.slice a n c, .int .i64 0, .int .i64 0, .int .i64 rel, .pointer (some ⟨t, 0, none⟩)]]) (F ++ [H2.length]) := by
    refine Upd.of_fp (Fp.ext ((e1.trans x2).trans ⟨_, rfl⟩) (fun _ => False)) (fun _ _ h => h.elim) fun id hid => ?_
    rcases List.mem_append.1 hid with h | h
    · exact .inl h
    · have := (e1.trans x2).len
      simp at h; omega
  have hv : (v.cells = #[v]) ∧ isUnk v = false := by
    rcases hr with ⟨rfl, _⟩ | ⟨b, o, n, c, i, cs, rfl, _⟩ <;> exact ⟨rfl, rfl⟩
  obtain ⟨a0, n0, c0, rfl, _⟩ := hr.slice
  refine ⟨H2.length, _, H4, _, ?_, p4, hst.upd u4, uu.trans u4⟩
  rw [R_code hf]
  simp [m39, taskV, ldx, e2, e4]
theorem R_rnew (hf : mp 46 = some (.code m46)) (h73 : mp 73 = some (.code m73)) (h50 : mp 50 = some (.code m50)) (h20 : mp 20 = some (.code m20)) (P : Parts ps) (hb : Bytes xs) (hx : xs.length ≤ 1000000)
    (h : RTapeA y xs 0 H F) (hr : Stay 3 v (recs ps) H F) : ∃ r H' F', R mp 46 [taskV nm q1 q2 q3 q4 v, .int .i64 rel, .pointer (some ⟨y, 0, none⟩)] H = some (.pointer (some ⟨r, 0, none⟩), H') ∧ RJobA r y nm q1 q2 q3 q4 v rel xs (jbegin ps xs 0 0) H' F' ∧ Upd H F H' F' := by
  have e1 : Ext H (H ++ [.cells ⟨0, true, false⟩ [.string nm, .int .i64 q1, .int .i64 q2, .int .i64 q3, .int .i64 q4, v]]) := ⟨_, rfl⟩
  have h1 := RTapeA.good.ext h e1
  have p3 := star_comm (star_new RTapeA.good h1 ⟨0, true, false⟩ [.string nm, .int .i64 q1, .int .i64 q2, .int .i64 q3, .int .i64 q4, v, .int .i64 rel, .int .i64 0, .int .i64 0, .pointer (some ⟨y, 0, none⟩)])
  have uu : Upd H F (H ++ [.cells ⟨0, true, false⟩ [.string nm, .int .i64 q1, .int .i64 q2, .int .i64 q3, .int .i64 q4, v]] ++ [.cells ⟨0, true, false⟩ [.string nm, .int .i64 q1, .int .i64 q2, .int .i64 q3, .int .i64 q4, v, .int .i64 rel, .int .i64 0, .int .i64 0, .pointer (some ⟨y, 0, none⟩)]]) (F ++ [H.length + 1]) := by
    refine Upd.of_fp (Fp.ext (e1.trans ⟨_, rfl⟩) (fun _ => False)) (fun _ _ h => h.elim) fun id hid => ?_
    rcases List.mem_append.1 hid with h | h
    · exact .inl h
    · simp at h; omega
  have hl : (H ++ [MObj.cells ⟨0, true, false⟩ [.string nm, .int .i64 q1, .int .i64 q2, .int .i64 q3, .int .i64 q4, v]]).length = H.length + 1 := by simp
  rw [hl] at p3
  obtain ⟨H4, e4, p4, u4⟩ := R_rbegin (mp := mp) (k := 0) (u := 0) (l0 := 0) h73 h50 h20 P hb hx (by omega) p3 (hr.upd uu)
  obtain ⟨a0, n0, c0, rfl, _⟩ := hr.1.slice
  refine ⟨H.length + 1, H4, _, ?_, p4, uu.trans u4⟩
  simp at e4
  rw [R_code hf]
  simp [m46, taskV, ldnx, e4]
theorem R_jcopy (hf : mp 51 = some (.code m51)) {t2 : Nat} {G : List Nat} (h : JobA j t v rel xs s H F) (h2 : TapeA t2 xs s.used H G) (hv : ∃ a n c, v = .slice a n c) :
    ∃ H' G', R mp 51 [.pointer (some ⟨j, 0, none⟩), .pointer (some ⟨t2, 0, none⟩)] H = some (.pointer (some ⟨H.length, 0, none⟩), H') ∧ JobA H.length t2 v rel xs s H' G' ∧ Ext H H' ∧ ∀ id ∈ G', id ∈ G ∨ H.length ≤ id := by
  have hat := star_at h
  obtain ⟨a, n, c, rfl⟩ := hv
  have p := star_comm (star_new TapeA.good h2 ⟨0, true, false⟩ [.slice a n c, .int .i64 (s.at_ : Int), .int .i64 s.left, .int .i64 rel, .pointer (some ⟨t2, 0, none⟩)])
  refine ⟨_, _, ?_, p, ⟨_, rfl⟩, fun id hid => ?_⟩
  · have hld := ldn_at hat 0 5 (by simp) rfl
    simp at hld
    rw [R_code hf]
    simp [m51, hld, stx]
  · rcases List.mem_append.1 hid with h | h
    · exact .inl h
    · simp at h; omega
end
end Go.Mod

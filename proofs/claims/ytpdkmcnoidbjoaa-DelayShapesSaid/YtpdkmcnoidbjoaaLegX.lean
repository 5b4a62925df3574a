/- Who ran; LegalTells. -/
import Derived.Test.YtpdkmcnoidbjoaaLegW
import Derived.Test.YtpdkmcnoidbjoaaGrG
import Derived.Test.YtpdkmcnoidbjoaaGrE
set_option linter.unusedVariables false
set_option linter.unusedSimpArgs false
namespace Go.Mod
open Classical

def shSlot : List Sh := [.int .i64, .int .i64, .int .i64, .bool]
def shDone : List Sh := [.int .i64, .int .i64, .int .i64]
def shWait : List Sh := [.int .i64, .int .i64, .int .i64, .int .i64, .int .i64]
def shTrace : List Sh := [.int .i64, .row shSlot, .row shDone, .row shWait]
/-- A trace of whatever size. -/
structure TraceRaw (H : MH) (t : TraceL) : Prop where
  slots : RowG 4 H t.sa t.slots slC
  jobs : RowG 3 H t.ja t.jobs dnC
  waits : RowG 5 H t.wa t.waits wtC
  wc : t.waits.length ≤ t.wc
theorem rep_slot {H : MH} {ms : List Value} {ds : List D} (h : RepL H shSlot ms ds) : ∃ x : SlotL, ms = slC x ∧ True ∧ (slC x).all one = true := by
  obtain ⟨m0, m1, m2, m3, d0, d1, d2, d3, rfl, g0, g1, g2, g3⟩ := repL4 h
  cases g0; cases g1; cases g2; cases g3
  exact ⟨⟨_, _, _, _⟩, rfl, trivial, rfl⟩
theorem rep_done {H : MH} {ms : List Value} {ds : List D} (h : RepL H shDone ms ds) : ∃ x : DoneL, ms = dnC x ∧ True ∧ (dnC x).all one = true := by
  obtain ⟨m0, m1, m2, d0, d1, d2, rfl, g0, g1, g2⟩ := repL3 h
  cases g0; cases g1; cases g2
  exact ⟨⟨_, _, _⟩, rfl, trivial, rfl⟩
theorem rep_wait {H : MH} {ms : List Value} {ds : List D} (h : RepL H shWait ms ds) : ∃ x : WaitL, ms = wtC x ∧ True ∧ (wtC x).all one = true := by
  obtain ⟨m0, m1, m2, m3, m4, d0, d1, d2, d3, d4, rfl, g0, g1, g2, g3, g4⟩ := repL5 h
  cases g0; cases g1; cases g2; cases g3; cases g4
  exact ⟨⟨_, _, _, _, _⟩, rfl, trivial, rfl⟩
theorem rep_trace {H : MH} {ms : List Value} {ds : List D} (h : RepL H shTrace ms ds) : ∃ t : TraceL, ms = t.cells ∧ TraceRaw H t := by
  obtain ⟨m0, m1, m2, m3, d0, d1, d2, d3, rfl, g0, g1, g2, g3⟩ := repL4 h
  cases g0
  obtain ⟨a1, l1, rfl, r1, _, _⟩ := rep_rowG g1 fun ms ds h => rep_slot h
  obtain ⟨a2, l2, rfl, r2, _, _⟩ := rep_rowG g2 fun ms ds h => rep_done h
  obtain ⟨a3, l3, rfl, r3, q3, _⟩ := rep_rowG g3 fun ms ds h => rep_wait h
  exact ⟨⟨_, l1, a1, l1.length, l2, a2, l2.length, l3, a3, l3.length⟩, rfl, r1, r2, r3, Nat.le_refl _⟩

section
variable {mp : FuncId → Option MDef} {H0 H H1 : MH} {F F1 : List Nat}
theorem ext_iff {H0 H : MH} : Ext H0 H ↔ H0.length ≤ H.length ∧ ∀ id, id < H0.length → H[id]? = H0[id]? := by
  constructor
  · intro e; exact ⟨e.len, fun id h => ext_get e h⟩
  · rintro ⟨h1, h2⟩
    refine ⟨H.drop H0.length, ?_⟩
    apply List.ext_getElem?
    intro k
    rcases Nat.lt_or_ge k H0.length with h | h
    · rw [List.getElem?_append_left h, h2 k h]
    · rw [List.getElem?_append_right h, List.getElem?_drop]; congr 1; omega
theorem upd_ext (e : Ext H0 H) (hF : ∀ id ∈ F, H0.length ≤ id) (u : Upd H F H1 F1) : Ext H0 H1 ∧ ∀ id ∈ F1, H0.length ≤ id := by
  have hl := e.len
  refine ⟨ext_iff.2 ⟨Nat.le_trans hl u.len, fun id h => ?_⟩, fun id h => ?_⟩
  · rw [u.same id (by omega) fun h' => by have := hF id h'; omega]
    exact ext_get e h
  · rcases u.new id h with h' | h'
    · exact hF id h'
    · omega
/-! ### who ran -/
def busyQ (tm cl : Int) (l : List SlotL) : List Int := (l.filter fun x => x.time == tm && x.cluster == cl).map (·.task)
theorem busyQ_cons {tm cl : Int} {x : SlotL} {l : List SlotL} : busyQ tm cl (x :: l) = if x.time = tm ∧ x.cluster = cl then x.task :: busyQ tm cl l else busyQ tm cl l := by
  unfold busyQ
  rw [List.filter_cons]
  by_cases h : x.time = tm ∧ x.cluster = cl
  · simp [h]
  · have : (x.time == tm && x.cluster == cl) = false := by
      cases hh : (x.time == tm && x.cluster == cl) with
      | false => rfl
      | true => exact absurd (by simpa using hh) h
    simp [this, h]
theorem busyP_loop {a : Option Addr} {c : Nat} {l : List SlotL} (hr : RowG 4 H0 a l slC) (hn : l.length ≤ 100000) (tm cl : Int) : ∀ (k i : Nat) (H : MH) (l0 : List Int) (ao : Option Addr) (no co : Nat) (G : List Nat), i + k = l.length → Ext H0 H → (∀ id ∈ G, H0.length ≤ id) → OwnA 1 (.slice ao no co) (i64s l0) H G → l0.length ≤ i →
    ∃ (a' : Option Addr) (n' c' : Nat) (H' : MH) (G' : List Nat), Rc mp (.loop m60_0) [(1, .int .i64 tm), (2, .int .i64 cl), (7, .slice ao no co), (11, .slice a l.length c), (12, .int .i64 (l.length : Int)), (13, .int .i64 (i : Int))] H =
        some (.exit 0, [(1, .int .i64 tm), (2, .int .i64 cl), (7, .slice a' n' c'), (11, .slice a l.length c), (12, .int .i64 (l.length : Int)), (13, .int .i64 (l.length : Int)), (14, .bool false)], H') ∧ OwnA 1 (.slice a' n' c') (i64s (l0 ++ busyQ tm cl (l.drop i))) H' G' ∧ Ext H0 H' ∧ ∀ id ∈ G', H0.length ≤ id := by
  intro k
  induction k with
  | zero =>
    intro i H l0 ao no co G hk e hG ho hl
    have : i = l.length := by omega
    subst this
    refine ⟨ao, no, co, H, G, ?_, by simpa [busyQ] using ho, e, hG⟩
    rw [Rc_loop]
    simp [m60_0]
  | succ k ih =>
    intro i H l0 ao no co G hk e hG ho hl
    have hin : i < l.length := by omega
    obtain ⟨x, hx⟩ : ∃ y, l[i]? = some y := ⟨_, List.getElem?_eq_getElem hin⟩
    have w : IntKind.i64.wrap ((i : Int) + 1) = (i : Int) + 1 := wrap_i64 (by omega) (by omega)
    have hrd := hr.rdn hx
    simp only [slC] at hrd
    have e1 : Ext H (H ++ [.cells ⟨0, true, false⟩ [.int .i64 x.time, .int .i64 x.cluster, .int .i64 x.task, .bool x.held]]) := ⟨_, rfl⟩
    rw [drop_at hx, busyQ_cons]
    by_cases hk2 : x.time = tm ∧ x.cluster = cl
    · rw [if_pos hk2]
      obtain ⟨a2, n2, c2, H2, G2, q1, q2, q3⟩ := own_push1 (es := 1) (bytes := 8) (xs := [.int .i64 x.task]) (OwnA.good.ext ho e1) (i64s_one _) rfl rfl (by omega) (by rw [i64s_len]; omega) (by omega)
      rw [i64s_snoc] at q2
      obtain ⟨e2, hG2⟩ := upd_ext (e.trans e1) hG q3
      obtain ⟨a', n', c', H', G', f1, f2, f3⟩ := ih (i + 1) H2 (l0 ++ [x.task]) a2 n2 c2 G2 (by omega) e2 hG2 q2 (by simp; omega)
      refine ⟨a', n', c', H', G', ?_, by simpa using f2, f3⟩
      obtain ⟨k1, k2⟩ := hk2
      simp at f1 q1
      rw [k1, k2] at q1 hrd
      rw [Rc_loop]
      simp (maxDischargeDepth := 12) [m60_0, hin, hr.ia, hrd, e, stx, ldx, w, q1]
      exact f1
    · rw [if_neg hk2]
      obtain ⟨a', n', c', H', G', f1, f2, f3⟩ := ih (i + 1) _ l0 ao no co G (by omega) (e.trans e1) hG (OwnA.good.ext ho e1) (by omega)
      refine ⟨a', n', c', H', G', ?_, f2, f3⟩
      simp at f1
      rw [Rc_loop]
      by_cases k1 : x.time = tm
      · have k2 : ¬ x.cluster = cl := fun h => hk2 ⟨k1, h⟩
        rw [k1] at f1 hrd
        simp (maxDischargeDepth := 12) [m60_0, hin, hr.ia, hrd, e, stx, ldx, k2, w]
        exact f1
      · simp (maxDischargeDepth := 12) [m60_0, hin, hr.ia, hrd, e, stx, ldx, k1, w]
        exact f1
theorem G_busyP (hf : mp 60 = some (.code m60)) {t : TraceL} (hr : RowG 4 H0 t.sa t.slots slC) (hn : t.slots.length ≤ 100000) (tm cl : Int) (e : Ext H0 H) :
    ∃ (a' : Option Addr) (n' c' : Nat) (H' : MH) (G' : List Nat), R mp 60 [.agg t.cells.toArray, .int .i64 tm, .int .i64 cl] H = some (.slice a' n' c', H') ∧ OwnA 1 (.slice a' n' c') (i64s (busyQ tm cl t.slots)) H' G' ∧ Ext H H' ∧ ∀ id ∈ G', H.length ≤ id := by
  have e1 : Ext H (H ++ [.cells ⟨0, true, false⟩ t.cells]) := ⟨_, rfl⟩
  obtain ⟨a', n', c', H', G', f1, f2, f3, f4⟩ := busyP_loop (mp := mp) (c := t.sc) (hr.ext (e.trans e1)) hn tm cl t.slots.length 0 _ [] none 0 0 [] (by omega) (Ext.refl _) (by simp) (.inl ⟨rfl, rfl, rfl⟩) (by simp)
  refine ⟨a', n', c', H', G', ?_, by simpa using f2, e1.trans f3, fun id hid => by have := f4 id hid; simp at this; omega⟩
  simp [TraceL.cells] at f1
  rw [R_code hf]
  simp [m60, TraceL.cells, ldx, f1]
theorem busyR_loop {t : TraceL} (hr : RowG 4 H0 t.sa t.slots slC) (hn : t.slots.length ≤ 100000) {bt : Nat} {it : Info} (hxt : H0[bt]? = some (.cells it t.cells)) (tm cl : Int) : ∀ (k i : Nat) (H : MH) (l0 : List Int) (ao : Option Addr) (no co : Nat) (G : List Nat), i + k = t.slots.length → Ext H0 H → (∀ id ∈ G, H0.length ≤ id) → OwnA 1 (.slice ao no co) (i64s l0) H G → l0.length ≤ i →
    ∃ (a' : Option Addr) (n' c' : Nat) (H' : MH) (G' : List Nat), Rc mp (.loop m61_0) [(1, .int .i64 tm), (2, .int .i64 cl), (3, .pointer (some ⟨bt, 0, none⟩)), (7, .slice ao no co), (8, .int .i64 (i : Int))] H =
        some (.exit 0, [(1, .int .i64 tm), (2, .int .i64 cl), (3, .pointer (some ⟨bt, 0, none⟩)), (7, .slice a' n' c'), (8, .int .i64 (t.slots.length : Int)), (13, .bool false)], H') ∧ OwnA 1 (.slice a' n' c') (i64s (l0 ++ busyQ tm cl (t.slots.drop i))) H' G' ∧ Ext H0 H' ∧ ∀ id ∈ G', H0.length ≤ id := by
  have hdt := ldb hxt
  simp only [TraceL.cells] at hdt
  intro k
  induction k with
  | zero =>
    intro i H l0 ao no co G hk e hG ho hl
    have : i = t.slots.length := by omega
    subst this
    refine ⟨ao, no, co, H, G, ?_, by simpa [busyQ] using ho, e, hG⟩
    rw [Rc_loop]
    simp [m61_0, hdt, e]
  | succ k ih =>
    intro i H l0 ao no co G hk e hG ho hl
    have hin : i < t.slots.length := by omega
    obtain ⟨x, hx⟩ : ∃ y, t.slots[i]? = some y := ⟨_, List.getElem?_eq_getElem hin⟩
    have w : IntKind.i64.wrap ((i : Int) + 1) = (i : Int) + 1 := wrap_i64 (by omega) (by omega)
    have hrd := hr.rd hx
    have hrd0 := hr.rd0 hx (by omega)
    rw [drop_at hx, busyQ_cons]
    by_cases hk2 : x.time = tm ∧ x.cluster = cl
    · rw [if_pos hk2]
      obtain ⟨a2, n2, c2, H2, G2, q1, q2, q3⟩ := own_push1 (es := 1) (bytes := 8) (xs := [.int .i64 x.task]) ho (i64s_one _) rfl rfl (by omega) (by rw [i64s_len]; omega) (by omega)
      rw [i64s_snoc] at q2
      obtain ⟨e2, hG2⟩ := upd_ext e hG q3
      obtain ⟨a', n', c', H', G', f1, f2, f3⟩ := ih (i + 1) H2 (l0 ++ [x.task]) a2 n2 c2 G2 (by omega) e2 hG2 q2 (by simp; omega)
      refine ⟨a', n', c', H', G', ?_, by simpa using f2, f3⟩
      obtain ⟨k1, k2⟩ := hk2
      simp at f1 q1
      rw [Rc_loop]
      simp (maxDischargeDepth := 12) [m61_0, hdt, hin, hr.ia, hrd, hrd0, e, slC, k1, k2, w, q1]
      exact f1
    · rw [if_neg hk2]
      obtain ⟨a', n', c', H', G', f1, f2, f3⟩ := ih (i + 1) H l0 ao no co G (by omega) e hG ho (by omega)
      refine ⟨a', n', c', H', G', ?_, f2, f3⟩
      simp at f1
      rw [Rc_loop]
      by_cases k1 : x.time = tm
      · have k2 : ¬ x.cluster = cl := fun h => hk2 ⟨k1, h⟩
        simp (maxDischargeDepth := 12) [m61_0, hdt, hin, hr.ia, hrd, hrd0, e, slC, k1, k2, w]
        exact f1
      · simp (maxDischargeDepth := 12) [m61_0, hdt, hin, hr.ia, hrd, hrd0, e, slC, k1, w]
        exact f1
theorem G_busyR (hf : mp 61 = some (.code m61)) {t : TraceL} (hr : RowG 4 H0 t.sa t.slots slC) (hn : t.slots.length ≤ 100000) (tm cl : Int) (e : Ext H0 H) :
    ∃ (a' : Option Addr) (n' c' : Nat) (H' : MH) (G' : List Nat), R mp 61 [.agg t.cells.toArray, .int .i64 tm, .int .i64 cl] H = some (.slice a' n' c', H') ∧ OwnA 1 (.slice a' n' c') (i64s (busyQ tm cl t.slots)) H' G' ∧ Ext H H' ∧ ∀ id ∈ G', H.length ≤ id := by
  have e1 : Ext H (H ++ [.cells ⟨0, true, false⟩ t.cells]) := ⟨_, rfl⟩
  have hx : (H ++ [MObj.cells ⟨0, true, false⟩ t.cells])[H.length]? = some (.cells ⟨0, true, false⟩ t.cells) := by simp
  obtain ⟨a', n', c', H', G', f1, f2, f3, f4⟩ := busyR_loop (mp := mp) (hr.ext (e.trans e1)) hn hx tm cl t.slots.length 0 _ [] none 0 0 [] (by omega) (Ext.refl _) (by simp) (.inl ⟨rfl, rfl, rfl⟩) (by simp)
  refine ⟨a', n', c', H', G', ?_, by simpa using f2, e1.trans f3, fun id hid => by have := f4 id hid; simp at this; omega⟩
  simp [TraceL.cells] at f1
  rw [R_code hf]
  simp [m61, TraceL.cells, f1]
def fewT (t : TraceL) : Prop := t.slots.length ≤ 60 ∧ t.jobs.length ≤ 30 ∧ t.waits.length ≤ 30
theorem TraceRaw.at {t : TraceL} (h : TraceRaw H t) (f : fewT t) : TraceAt H t := ⟨h.slots, h.jobs, h.waits, by have := f.1; omega, by have := f.2.1; omega, by have := f.2.2; omega, h.wc⟩
theorem TraceRaw.ext {t : TraceL} (h : TraceRaw H t) (e : Ext H H1) : TraceRaw H1 t := ⟨h.slots.ext e, h.jobs.ext e, h.waits.ext e, h.wc⟩
theorem G_fewT (hf : mp 55 = some (.code m55)) {t : TraceL} : GR mp 55 [.agg t.cells.toArray] H (.bool (decide (fewT t))) := by
  unfold GR
  rw [R_code hf]
  by_cases k1 : (t.slots.length : Int) ≤ 60
  case neg =>
    rw [decide_eq_false fun h => by have := h.1; omega]
    simp (maxDischargeDepth := 12) [m55, TraceL.cells, ldx, k1]
  by_cases k2 : (t.jobs.length : Int) ≤ 30
  case neg =>
    rw [decide_eq_false fun h => by have := h.2.1; omega]
    simp (maxDischargeDepth := 12) [m55, TraceL.cells, ldx, k1, k2]
  by_cases k3 : (t.waits.length : Int) ≤ 30
  case neg =>
    rw [decide_eq_false fun h => by have := h.2.2; omega]
    simp (maxDischargeDepth := 12) [m55, TraceL.cells, ldx, k1, k2, k3]
  rw [decide_eq_true ⟨by omega, by omega, by omega⟩]
  simp (maxDischargeDepth := 12) [m55, TraceL.cells, ldx, k1, k2, k3]
end

/-! ### the law -/
theorem mpG_known : ∃ H0, R mpG 53 [] [] = some (.bool true, H0) := known_of (k := 40) (by kernel_rfl)
theorem mpG_known26 : ∃ H0, R mpG 17 [] [] = some (.bool true, H0) := known_of (k := 40) (by kernel_rfl)
def mpGk (f : FuncId) : Option MDef := if f = 53 then some (.intr (constS (.bool true))) else if f = 17 then some (.intr (constS (.bool true))) else mpG f
theorem mpGk_ok : MapOk Go.Proofs.Try.prog mpGk := by
  obtain ⟨H0, h⟩ := mpG_known
  obtain ⟨H1, h'⟩ := mpG_known26
  refine ⟨mpG_ok.mixed, fun f fn hf => ?_, fun f s hf => ?_⟩
  · unfold mpGk at hf
    split at hf
    · cases hf
    · split at hf
      · cases hf
      · exact mpG_ok.code f fn hf
  · unfold mpGk at hf
    split at hf
    · rename_i e; subst e
      cases hf
      exact closed_intr mpG_ok h rfl
    · split at hf
      · rename_i e; subst e
        cases hf
        exact closed_intr mpG_ok h' rfl
      · exact mpG_ok.intr f s hf
theorem knownG_R {H : MH} : R mpGk 53 [] H = some (.bool true, H) := by rw [R_intr (s := constS (.bool true)) rfl]; simp
theorem knownG26_R {H : MH} : R mpGk 17 [] H = some (.bool true, H) := by rw [R_intr (s := constS (.bool true)) rfl]; simp
theorem cpG : CP mpGk := ⟨rfl, rfl, rfl, rfl, rfl, rfl, rfl, rfl, rfl, rfl, rfl, rfl, rfl⟩
theorem crG : CR mpGk := ⟨rfl, rfl, rfl, rfl, rfl, rfl⟩
theorem legG : LegF mpGk := ⟨cpG, rfl, rfl, rfl, rfl, rfl, rfl, rfl, rfl, ⟨rfl, rfl, rfl, rfl, rfl⟩⟩
theorem refG : RefF mpGk := ⟨crG, rfl, rfl, rfl, rfl, rfl, rfl, rfl, rfl⟩
theorem legalTells {H : MH} {ss ts : List Value} {sd td : List D} (rs : RepL H shSet ss sd) (rt : RepL H shTrace ts td) (tm cl res : Int) : ∃ H', R mpGk 13 [.agg ss.toArray, .agg ts.toArray, .int .i64 tm, .int .i64 cl, .int .i64 res] H = some (.bool true, H') := by
  obtain ⟨s, rfl, hs0⟩ := rep_set rs
  obtain ⟨t, rfl, ht0⟩ := rep_trace rt
  refine isTrue_ex ?_
  have hF := fun (H' : MH) (e' : Ext H H') => (G_few (mp := mpGk) (f := 54) (H := H') rfl hs0 e').eq
  have hT := fun (H' : MH) => (G_fewT (mp := mpGk) (H := H') (t := t) rfl).eq
  rw [R_code (fn := m13) rfl]
  by_cases k1 : fewS s
  case neg =>
    rw [decide_eq_false k1] at hF
    simp only [SetL.cells] at hF
    simp (maxDischargeDepth := 12) [m13, SetL.cells, TraceL.cells, ldnx, ldx, knownG_R, hF]
  rw [decide_eq_true k1] at hF
  by_cases k2 : fewT t
  case neg =>
    rw [decide_eq_false k2] at hT
    simp only [SetL.cells] at hF
    simp only [TraceL.cells] at hT
    simp (maxDischargeDepth := 12) [m13, SetL.cells, TraceL.cells, ldnx, ldx, knownG_R, hF, hT]
  rw [decide_eq_true k2] at hT
  have hs := hs0.at k1
  have ht := ht0.at k2
  have n1 : t.slots.length ≤ 100000 := ht.few.1
  have h56 := fun (H' : MH) (e' : Ext H H') => (G_holder (mp := mpGk) (H := H') cpG rfl rfl hs ht e' tm res).eq
  have h57 := fun (H' : MH) (e' : Ext H H') => (G_holderR (mp := mpGk) (H := H') refG hs ht e' tm res).eq
  have h58 := fun (H' : MH) (e' : Ext H H') => (G_legal (mp := mpGk) (H := H') legG hs ht e').eq
  have h59 := fun (H' : MH) (e' : Ext H H') => (G_legalR (mp := mpGk) (H := H') refG hs ht e').eq
  generalize decide (legalB s t) = x1 at h58 h59
  generalize (holderB s t tm res).1 = x2 at h56 h57
  generalize (holderB s t tm res).2 = x3 at h56 h57
  -- the heap ahead of the rows
  obtain ⟨Hb, hHb⟩ : ∃ Hb, aft mpGk 59 [.agg s.cells.toArray, .agg t.cells.toArray] (aft mpGk 58 [.agg s.cells.toArray, .agg t.cells.toArray] (aft mpGk 57 [.agg t.cells.toArray, .agg s.cells.toArray, .int .i64 tm, .int .i64 res] (aft mpGk 56 [.agg t.cells.toArray, .agg s.cells.toArray, .int .i64 tm, .int .i64 res] (aft mpGk 55 [.agg t.cells.toArray] (aft mpGk 54 [.agg s.cells.toArray] (H ++ [.cells ⟨0, true, false⟩ s.cells, .cells ⟨0, true, false⟩ t.cells])))))) = Hb := ⟨_, rfl⟩
  have eb : Ext (H ++ [.cells ⟨0, true, false⟩ s.cells, .cells ⟨0, true, false⟩ t.cells]) Hb := by rw [← hHb]; simp (maxDischargeDepth := 12)
  have eHb : Ext H Hb := Ext.trans ⟨_, rfl⟩ eb
  obtain ⟨a1, n1', c1, H1, G1, p1, p2, p3, p4⟩ := G_busyP (mp := mpGk) rfl ht.slots n1 tm cl eHb
  obtain ⟨a2, n2', c2, H2, G2, q1, q2, q3, q4⟩ := G_busyR (mp := mpGk) rfl ht.slots n1 tm cl (eHb.trans p3)
  have hsame := R_same (mp := mpGk) (f := 38) (by rfl) (q3.row (Own.row p2)) (Own.row q2) (by
    have := List.length_filter_le (fun x : SlotL => x.time == tm && x.cluster == cl) t.slots
    unfold busyQ; simp; omega)
  have hx1 : (H ++ [MObj.cells ⟨0, true, false⟩ s.cells, .cells ⟨0, true, false⟩ t.cells])[H.length]? = some (.cells ⟨0, true, false⟩ s.cells) := by simp
  have hx2 : (H ++ [MObj.cells ⟨0, true, false⟩ s.cells, .cells ⟨0, true, false⟩ t.cells])[H.length + 1]? = some (.cells ⟨0, true, false⟩ t.cells) := by simp
  have d1 := ldbn hx1
  have d2 := ldbn hx2
  have eb1 := eb.trans p3
  have eb2 := eb1.trans q3
  simp only [SetL.cells, TraceL.cells] at hF hT h56 h57 h58 h59 hHb p1 q1 d1 d2 eb eb1 eb2
  simp (maxDischargeDepth := 12) [m13, SetL.cells, TraceL.cells, d1, d2, knownG_R, hF, hT, h56, h57, h58, h59, mdraw_full, hHb, p1, q1, hsame, eb, eb1, eb2]
end Go.Mod

/- Without fuel: what the model's functions come to, by equations. -/
import Derived.Test.YtpdkmcnoidbjoaaFwV
set_option linter.unusedVariables false
set_option linter.unusedSimpArgs false
namespace Go.Mod

/-! ### limits -/
section
variable {α β : Type}
def Mono (f : Nat → Option α) : Prop := ∀ k k' x, k ≤ k' → f k = some x → f k' = some x
open Classical in
noncomputable def lim (f : Nat → Option α) : Option α := if h : ∃ k, (f k).isSome = true then f h.choose else none

theorem lim_iff {f : Nat → Option α} (hm : Mono f) {x : α} : lim f = some x ↔ ∃ k, f k = some x := by
  constructor
  · intro h
    unfold lim at h
    split at h
    · rename_i hx; exact ⟨_, h⟩
    · cases h
  · rintro ⟨k, hk⟩
    have hx : ∃ k, (f k).isSome = true := ⟨k, by rw [hk]; rfl⟩
    unfold lim
    rw [dif_pos hx]
    obtain ⟨y, hy⟩ := Option.isSome_iff_exists.1 hx.choose_spec
    have h1 := hm _ _ y (Nat.le_max_left hx.choose k) hy
    have h2 := hm _ _ x (Nat.le_max_right hx.choose k) hk
    rw [h1] at h2
    rw [hy, h2]
theorem opt_ext {a b : Option α} (h : ∀ x, a = some x ↔ b = some x) : a = b := by
  cases a with
  | none => cases b with
    | none => rfl
    | some y => have := (h y).2 rfl; cases this
  | some x => exact ((h x).1 rfl).symm
theorem mono_const (x : Option α) : Mono (fun _ => x) := fun _ _ _ _ h => h
theorem lim_const {x : Option α} : lim (fun _ => x) = x := opt_ext fun y => by rw [lim_iff (mono_const x)]; simp
theorem lim_bind {f : Nat → Option α} {g : Nat → α → Option β} (hf : Mono f) (hg : ∀ x, Mono fun k => g k x) : lim (fun k => (f k).bind (g k)) = (lim f).bind fun x => lim fun k => g k x := by
  have hm : Mono fun k => (f k).bind (g k) := fun k k' x hk h => by
    obtain ⟨y, h1, h2⟩ := Option.bind_eq_some_iff.1 h
    exact Option.bind_eq_some_iff.2 ⟨y, hf k k' y hk h1, hg y k k' x hk h2⟩
  refine opt_ext fun x => ?_
  rw [lim_iff hm, Option.bind_eq_some_iff]
  constructor
  · rintro ⟨k, h⟩
    obtain ⟨y, h1, h2⟩ := Option.bind_eq_some_iff.1 h
    exact ⟨y, (lim_iff hf).2 ⟨k, h1⟩, (lim_iff (hg y)).2 ⟨k, h2⟩⟩
  · rintro ⟨y, h1, h2⟩
    obtain ⟨k1, h1⟩ := (lim_iff hf).1 h1
    obtain ⟨k2, h2⟩ := (lim_iff (hg y)).1 h2
    exact ⟨max k1 k2, Option.bind_eq_some_iff.2 ⟨y, hf k1 _ y (Nat.le_max_left ..) h1, hg y k2 _ x (Nat.le_max_right ..) h2⟩⟩
theorem lim_map {f : Nat → Option α} {g : α → Option β} (hf : Mono f) : lim (fun k => (f k).bind g) = (lim f).bind g := by
  have := lim_bind (g := fun _ x => g x) hf (fun x => mono_const (g x))
  simp only [lim_const] at this
  exact this
theorem lim_succ {f : Nat → Option α} (hf : Mono f) : lim (fun k => f (k + 1)) = lim f := opt_ext fun x => by
  rw [lim_iff (fun k k' x hk h => hf _ _ x (by omega) h), lim_iff hf]
  exact ⟨fun ⟨k, h⟩ => ⟨k + 1, h⟩, fun ⟨k, h⟩ => ⟨k, hf _ _ x (by omega) h⟩⟩
end

/-! ### more fuel, same answer -/
def CallF.le (c d : CallF) : Prop := ∀ f vs H x, c f vs H = some x → d f vs H = some x

section
variable {c d : CallF}
theorem mop_mono (hcd : c.le d) {op : MOp} {vs : List Value} {H : MH} {b : Option Nat} {x : Value × MH} (h : mop c op vs H b = some x) : mop d op vs H b = some x := by
  unfold mop at h ⊢
  split <;> rename_i hk <;> simp only [hk] at h ⊢ <;> first | exact h | skip
  · split <;> first | exact hcd _ _ _ _ h | (simp at h)
  · split <;> first | exact hcd _ _ _ _ h | (simp at h)
theorem mstep_mono (hcd : c.le d) {m : MOper} {T : Reg} {H : MH} {b : Option Nat} {x : Reg × MH} (h : mstep c m T H b = some x) : mstep d m T H b = some x := by
  unfold mstep at h ⊢
  split at h <;> first | contradiction | exact h | skip
  split at h <;> first | contradiction | skip
  split at h <;> first | contradiction | skip
  rename_i h1
  rw [mop_mono hcd h1]; exact h
theorem mops_mono (hcd : c.le d) : ∀ {l : List MOper} {T : Reg} {H : MH} {x : Reg × MH}, mops c l T H = some x → mops d l T H = some x
  | [], T, H, x, h => h
  | m :: l, T, H, x, h => by
    simp only [mops] at h ⊢
    split at h <;> first | contradiction | skip
    rename_i h1
    rw [mstep_mono hcd h1]; exact mops_mono hcd h
theorem mtrace_mono (hcd : c.le d) : ∀ {l : List MOper} {b : Nat} {T : Reg} {H : MH} {x : List (Reg × MH)}, mtrace c l b T H = some x → mtrace d l b T H = some x
  | [], b, T, H, x, h => h
  | m :: l, b, T, H, x, h => by
    simp only [mtrace] at h ⊢
    split at h <;> first | contradiction | skip
    rename_i h1
    rw [mstep_mono hcd h1]
    simp only []
    split at h <;> first | contradiction | skip
    rename_i h2
    rw [mtrace_mono hcd h2]; exact h
theorem mdraw_mono (hcd : c.le d) {l : List MOper} {ps : List (Nat × Nat)} {T : Reg} {H : MH} {x : Reg × MH} (h : mdraw c l ps T H = some x) : mdraw d l ps T H = some x := by
  unfold mdraw at h ⊢
  split at h <;> first | contradiction | skip
  rename_i h1
  rw [mtrace_mono hcd h1]; exact h
theorem mloop_mono {f g : Reg → MH → Option (MExit × Reg × MH)} (hfg : ∀ T H x, f T H = some x → g T H = some x) : ∀ {k k' : Nat} {T : Reg} {H : MH} {x : MExit × Reg × MH}, k ≤ k' → mloop f k T H = some x → mloop g k' T H = some x
  | 0, k', T, H, x, _, h => by simp [mloop] at h
  | k + 1, 0, T, H, x, hk, h => by omega
  | k + 1, k' + 1, T, H, x, hk, h => by
    simp only [mloop] at h ⊢
    split at h
    · rename_i h1
      rw [hfg _ _ _ h1]
      exact mloop_mono hfg (by omega) h
    · rename_i hne
      rw [hfg _ _ _ h]
      obtain ⟨e, T1, H1⟩ := x
      cases e <;> first | rfl | (exact absurd h (hne _ _))
theorem mcode_mono (hcd : c.le d) {k k' : Nat} (hk : k ≤ k') : ∀ {m : MCode} {T : Reg} {H : MH} {x : MExit × Reg × MH}, mcode c k m T H = some x → mcode d k' m T H = some x
  | .skip, T, H, x, h => h
  | .exit id, T, H, x, h => h
  | .ret, T, H, x, h => h
  | .ops l, T, H, x, h => by
    simp only [mcode] at h ⊢
    split at h <;> first | contradiction | skip
    rename_i h1
    rw [mops_mono hcd h1]; exact h
  | .draw l ps, T, H, x, h => by
    simp only [mcode] at h ⊢
    split at h <;> first | contradiction | skip
    rename_i h1
    rw [mdraw_mono hcd h1]; exact h
  | .seq a b, T, H, x, h => by
    simp only [mcode] at h ⊢
    split at h
    · rename_i h1
      rw [mcode_mono hcd hk h1]; exact mcode_mono hcd hk h
    · rename_i hne
      rw [mcode_mono hcd hk h]
      obtain ⟨e, T1, H1⟩ := x
      cases e <;> first | rfl | (exact absurd h (hne _ _))
  | .cond b y z, T, H, x, h => by
    simp only [mcode] at h ⊢
    split at h <;> first | contradiction | exact mcode_mono hcd hk h
  | .block id a, T, H, x, h => by
    simp only [mcode] at h ⊢
    split at h
    · rename_i h1
      rw [mcode_mono hcd hk h1]; exact h
    · rename_i hne
      rw [mcode_mono hcd hk h]
      obtain ⟨e, T1, H1⟩ := x
      cases e <;> first | rfl | (exact absurd h (hne _ _ _))
  | .loop a, T, H, x, h => by
    simp only [mcode] at h ⊢
    exact mloop_mono (fun T H x h => mcode_mono hcd hk h) hk h
theorem mfn_mono (hcd : c.le d) {k k' : Nat} (hk : k ≤ k') {f : MFn} {vs : List Value} {H : MH} {x : Value × MH} (h : mfn c k f vs H = some x) : mfn d k' f vs H = some x := by
  unfold mfn at h ⊢
  split at h <;> first | contradiction | skip
  · rename_i e T1 H1 hne h1
    rw [mcode_mono hcd hk h1]
    revert h
    generalize hy : (some (_, _, _) : Option (MExit × Reg × MH)) = y
    intro h
    cases e <;> first | exact absurd rfl (hne _) | (subst hy; exact h)
end

theorem mcall_le (mp : FuncId → Option MDef) : ∀ k, (mcall mp k).le (mcall mp (k + 1))
  | 0 => fun f vs H x h => by simp [mcall] at h
  | k + 1 => fun f vs H x h => by
    rw [mcall] at h ⊢
    split
    · rename_i fn hf
      simp only [hf] at h
      exact mfn_mono (mcall_le mp k) (Nat.le_succ k) h
    · rename_i s hf
      simp only [hf] at h
      exact h
    · rename_i hf
      simp [hf] at h
theorem mcall_mono (mp : FuncId → Option MDef) {k k' : Nat} (hk : k ≤ k') : (mcall mp k).le (mcall mp k') := by
  induction hk with
  | refl => exact fun _ _ _ _ h => h
  | step _ ih => exact fun f vs H x h => mcall_le mp _ f vs H x (ih f vs H x h)

/-! ### the limits -/
section
variable (mp : FuncId → Option MDef)
noncomputable def R : CallF := fun f vs H => lim fun k => mcall mp k f vs H
noncomputable def Rc (c : MCode) (T : Reg) (H : MH) : Option (MExit × Reg × MH) := lim fun k => mcode (mcall mp k) k c T H

variable {mp}
theorem mono_call (f : FuncId) (vs : List Value) (H : MH) : Mono fun k => mcall mp k f vs H := fun _ _ x hk h => mcall_mono mp hk _ _ _ _ h
theorem mono_code (c : MCode) (T : Reg) (H : MH) : Mono fun k => mcode (mcall mp k) k c T H := fun _ _ x hk h => mcode_mono (mcall_mono mp hk) hk h
theorem mono_step (m : MOper) (T : Reg) (H : MH) (b : Option Nat) : Mono fun k => mstep (mcall mp k) m T H b := fun _ _ x hk h => mstep_mono (mcall_mono mp hk) h
theorem mono_ops (l : List MOper) (T : Reg) (H : MH) : Mono fun k => mops (mcall mp k) l T H := fun _ _ x hk h => mops_mono (mcall_mono mp hk) h
theorem mono_trace (l : List MOper) (b : Nat) (T : Reg) (H : MH) : Mono fun k => mtrace (mcall mp k) l b T H := fun _ _ x hk h => mtrace_mono (mcall_mono mp hk) h

theorem lim_step (m : MOper) (T : Reg) (H : MH) (b : Option Nat) : lim (fun k => mstep (mcall mp k) m T H b) = mstep (R mp) m T H b := by
  refine opt_ext fun x => ?_
  rw [lim_iff (mono_step m T H b)]
  constructor
  · rintro ⟨k, h⟩
    exact mstep_mono (fun f vs H x h => (lim_iff (mono_call f vs H)).2 ⟨k, h⟩) h
  · intro h
    unfold mstep at h
    split at h
    · rename_i hw
      split at h <;> first | contradiction | skip
      rename_i vs he
      split at h <;> first | contradiction | skip
      rename_i v H' ho
      have : ∃ k, mop (mcall mp k) m.op vs H b = some (v, H') := by
        unfold mop at ho ⊢
        cases hk : m.op.kind <;> simp only [hk] at ho ⊢ <;> first | exact ⟨0, ho⟩ | skip
        · split at ho <;> first | contradiction | skip
          exact (lim_iff (mono_call _ _ _)).1 ho
        · split at ho <;> first | contradiction | skip
          exact (lim_iff (mono_call _ _ _)).1 ho
      obtain ⟨k, hk⟩ := this
      refine ⟨k, ?_⟩
      unfold mstep
      simp only [hw, he, hk]
      exact h
    · rename_i hw
      refine ⟨0, ?_⟩
      unfold mstep
      simp only [hw]
      exact h
    · contradiction

theorem lim_ops : ∀ (l : List MOper) (T : Reg) (H : MH), lim (fun k => mops (mcall mp k) l T H) = mops (R mp) l T H
  | [], T, H => lim_const
  | m :: l, T, H => by
    have h1 : (fun k => mops (mcall mp k) (m :: l) T H) = fun k => (mstep (mcall mp k) m T H none).bind fun x => mops (mcall mp k) l x.1 x.2 := by
      funext k; simp only [mops]; cases mstep (mcall mp k) m T H none <;> rfl
    rw [h1, lim_bind (mono_step m T H none) (fun x => mono_ops l x.1 x.2), lim_step]
    simp only [mops]
    cases mstep (R mp) m T H none with
    | none => rfl
    | some x => exact lim_ops l x.1 x.2
theorem lim_trace : ∀ (l : List MOper) (b : Nat) (T : Reg) (H : MH), lim (fun k => mtrace (mcall mp k) l b T H) = mtrace (R mp) l b T H
  | [], b, T, H => lim_const
  | m :: l, b, T, H => by
    have h1 : (fun k => mtrace (mcall mp k) (m :: l) b T H) = fun k => (mstep (mcall mp k) m T H (if m.op.kind = .alloc then some b else none)).bind fun x => (mtrace (mcall mp k) l (if m.op.kind = .alloc then b + 1 else b) x.1 x.2).bind fun tr => some ((T, H) :: tr) := by
      funext k
      simp only [mtrace]
      cases mstep (mcall mp k) m T H (if m.op.kind = .alloc then some b else none) with
      | none => rfl
      | some x =>
        show (match mtrace (mcall mp k) l (if m.op.kind = .alloc then b + 1 else b) x.1 x.2 with | some tr => some ((T, H) :: tr) | none => none) = _
        simp only [Option.bind_some]
        cases mtrace (mcall mp k) l (if m.op.kind = .alloc then b + 1 else b) x.1 x.2 <;> rfl
    rw [h1, lim_bind (mono_step m T H _) (fun x k k' y hk h => by
      obtain ⟨tr, g1, g2⟩ := Option.bind_eq_some_iff.1 h
      exact Option.bind_eq_some_iff.2 ⟨tr, mono_trace l _ x.1 x.2 k k' tr hk g1, g2⟩), lim_step]
    simp only [mtrace]
    cases mstep (R mp) m T H (if m.op.kind = .alloc then some b else none) with
    | none => rfl
    | some x =>
      show lim (fun k => (mtrace (mcall mp k) l (if m.op.kind = .alloc then b + 1 else b) x.1 x.2).bind fun tr => some ((T, H) :: tr)) = match mtrace (R mp) l (if m.op.kind = .alloc then b + 1 else b) x.1 x.2 with | some tr => some ((T, H) :: tr) | none => none
      rw [lim_map (mono_trace l _ x.1 x.2), lim_trace]
      cases mtrace (R mp) l (if m.op.kind = .alloc then b + 1 else b) x.1 x.2 with
      | none => rfl
      | some tr => rfl
theorem lim_draw (l : List MOper) (ps : List (Nat × Nat)) (T : Reg) (H : MH) : lim (fun k => mdraw (mcall mp k) l ps T H) = mdraw (R mp) l ps T H := by
  have h1 : (fun k => mdraw (mcall mp k) l ps T H) = fun k => (mtrace (mcall mp k) l H.length T (H ++ List.replicate (nalloc l) .dead)).bind fun tr => if ps.all (pairOk l H.length tr) then tr.getLast? else none := by
    funext k; unfold mdraw
    cases mtrace (mcall mp k) l H.length T (H ++ List.replicate (nalloc l) .dead) <;> rfl
  rw [h1, lim_map (mono_trace l _ _ _), lim_trace]
  unfold mdraw
  cases mtrace (R mp) l H.length T (H ++ List.replicate (nalloc l) .dead) with
  | none => rfl
  | some tr => rfl

variable {T : Reg} {H : MH}
theorem Rc_skip : Rc mp .skip T H = some (.normal, T, H) := lim_const
theorem Rc_exit {id : Nat} : Rc mp (.exit id) T H = some (.exit id, T, H) := lim_const
theorem Rc_ret : Rc mp .ret T H = some (.ret, T, H) := lim_const
/-- How a row of operations ends. -/
def thenN (x : Option (Reg × MH)) : Option (MExit × Reg × MH) := match x with
  | some (T', H') => some (.normal, T', H')
  | none => none
theorem Rc_ops {l : List MOper} : Rc mp (.ops l) T H = thenN (mops (R mp) l T H) := by
  unfold Rc
  have h1 : (fun k => mcode (mcall mp k) k (.ops l) T H) = fun k => (mops (mcall mp k) l T H).bind fun x => some (.normal, x.1, x.2) := by
    funext k; simp only [mcode]; cases mops (mcall mp k) l T H <;> rfl
  rw [h1, lim_map (mono_ops l T H), lim_ops]
  cases mops (R mp) l T H with
  | none => rfl
  | some x => rfl
theorem Rc_draw {l : List MOper} {ps : List (Nat × Nat)} : Rc mp (.draw l ps) T H = thenN (mdraw (R mp) l ps T H) := by
  unfold Rc
  have h1 : (fun k => mcode (mcall mp k) k (.draw l ps) T H) = fun k => (mdraw (mcall mp k) l ps T H).bind fun x => some (.normal, x.1, x.2) := by
    funext k; simp only [mcode]; cases mdraw (mcall mp k) l ps T H <;> rfl
  rw [h1, lim_map (fun k k' x hk h => mdraw_mono (mcall_mono mp hk) h), lim_draw]
  cases mdraw (R mp) l ps T H with
  | none => rfl
  | some x => rfl
/-- One piece behind another. -/
def andThen (x : Option (MExit × Reg × MH)) (g : Reg → MH → Option (MExit × Reg × MH)) : Option (MExit × Reg × MH) := match x with
  | some (.normal, T', H') => g T' H'
  | r => r
theorem lim_then {f : Nat → Option (MExit × Reg × MH)} {g : Nat → Reg → MH → Option (MExit × Reg × MH)} (hf : Mono f) (hg : ∀ T H, Mono fun k => g k T H) : lim (fun k => andThen (f k) (g k)) = andThen (lim f) fun T H => lim fun k => g k T H := by
  have h1 : ∀ (x : Option (MExit × Reg × MH)) g, andThen x g = x.bind fun y => match y with | (.normal, T', H') => g T' H' | r => some r := by
    intro x g; cases x with
    | none => rfl
    | some y => obtain ⟨e, T', H'⟩ := y; cases e <;> rfl
  simp only [h1]
  rw [lim_bind hf (fun x k k' y hk h => by obtain ⟨e, T', H'⟩ := x; cases e <;> first | exact hg T' H' k k' y hk h | exact h)]
  congr 1
  funext x
  obtain ⟨e, T', H'⟩ := x
  cases e <;> first | rfl | exact lim_const
theorem then_mono {x x' : Option (MExit × Reg × MH)} {g g' : Reg → MH → Option (MExit × Reg × MH)} {y : MExit × Reg × MH} (h : andThen x g = some y) (hx : ∀ z, x = some z → x' = some z) (hg : ∀ T H z, g T H = some z → g' T H = some z) : andThen x' g' = some y := by
  cases x with
  | none => cases h
  | some z =>
    rw [hx z rfl]
    obtain ⟨e, T1, H1⟩ := z
    cases e <;> first | exact hg _ _ _ h | exact h
theorem Rc_seq {a b : MCode} : Rc mp (.seq a b) T H = andThen (Rc mp a T H) (Rc mp b) := by
  unfold Rc
  exact lim_then (mono_code a T H) (fun T H => mono_code b T H)
theorem Rc_true {c : Arg} {a b : MCode} (h : c.ev T = some (.bool true)) : Rc mp (.cond c a b) T H = Rc mp a T H := by
  unfold Rc; simp only [mcode, h]
theorem Rc_false {c : Arg} {a b : MCode} (h : c.ev T = some (.bool false)) : Rc mp (.cond c a b) T H = Rc mp b T H := by
  unfold Rc; simp only [mcode, h]
theorem Rc_cond {c : Arg} {a b : MCode} {x : Bool} (h : c.ev T = some (.bool x)) : Rc mp (.cond c a b) T H = if x = true then Rc mp a T H else Rc mp b T H := by
  cases x
  · exact Rc_false h
  · exact Rc_true h
/-- At a block's end. -/
def blockEnd (id : Nat) (x : Option (MExit × Reg × MH)) : Option (MExit × Reg × MH) := match x with
  | some (.exit id', T', H') => if id' = id then some (.normal, T', H') else some (.exit id', T', H')
  | r => r
theorem Rc_block {id : Nat} {c : MCode} : Rc mp (.block id c) T H = blockEnd id (Rc mp c T H) := by
  unfold Rc
  have h1 : (fun k => mcode (mcall mp k) k (.block id c) T H) = fun k => (mcode (mcall mp k) k c T H).bind fun y => blockEnd id (some y) := by
    funext k; simp only [mcode]
    generalize mcode (mcall mp k) k c T H = x
    cases x with
    | none => rfl
    | some y => obtain ⟨e, T', H'⟩ := y; cases e <;> rfl
  rw [h1, lim_map (mono_code c T H)]
  generalize lim (fun k => mcode (mcall mp k) k c T H) = x
  cases x with
  | none => rfl
  | some y => rfl
theorem Rc_loop {c : MCode} : Rc mp (.loop c) T H = andThen (Rc mp c T H) (Rc mp (.loop c)) := by
  have key : ∀ x, Rc mp (.loop c) T H = some x ↔ andThen (Rc mp c T H) (Rc mp (.loop c)) = some x := by
    intro x
    unfold Rc
    rw [← lim_then (mono_code c T H) (fun T H => mono_code (.loop c) T H), lim_iff (mono_code _ _ _)]
    have hm : Mono fun k => andThen (mcode (mcall mp k) k c T H) fun T H => mcode (mcall mp k) k (.loop c) T H := by
      intro k k' y hk h
      exact then_mono h (fun z hz => mcode_mono (mcall_mono mp hk) hk hz) fun T H z hz => mcode_mono (mcall_mono mp hk) hk hz
    rw [lim_iff hm]
    constructor
    · rintro ⟨k, h⟩
      refine ⟨k, ?_⟩
      simp only [mcode] at h ⊢
      cases k with
      | zero => simp [mloop] at h
      | succ k =>
        simp only [mloop] at h
        unfold andThen
        split at h
        · rename_i h1
          rw [h1]
          exact mloop_mono (fun _ _ _ h => h) (Nat.le_succ k) h
        · rename_i hne
          rw [h]
          obtain ⟨e, T1, H1⟩ := x
          cases e <;> first | rfl | exact absurd h (hne _ _)
    · rintro ⟨k, h⟩
      refine ⟨k + 1, ?_⟩
      have h2 := then_mono (g' := mloop (mcode (mcall mp (k + 1)) (k + 1) c) k) h (fun z hz => mcode_mono (mcall_mono mp (Nat.le_succ k)) (Nat.le_succ k) hz) fun T H z hz => mloop_mono (fun _ _ _ h => mcode_mono (mcall_mono mp (Nat.le_succ k)) (Nat.le_succ k) h) (Nat.le_refl k) hz
      simp only [mcode, mloop]
      generalize mcode (mcall mp (k + 1)) (k + 1) c T H = z at h2
      cases z with
      | none => cases h2
      | some z => obtain ⟨e, T1, H1⟩ := z; cases e <;> exact h2
  exact opt_ext key

/-- At a function's end. -/
def fnEnd (rs : List MRes) (x : Option (MExit × Reg × MH)) : Option (Value × MH) := match x with
  | some (.exit _, _, _) => none
  | some (_, T, H') => match resOf T H' rs with
    | some v => some (v, H')
    | none => none
  | none => none
theorem R_code {f : FuncId} {fn : MFn} {vs : List Value} (hf : mp f = some (.code fn)) : R mp f vs H = fnEnd fn.results (Rc mp fn.body (initRegs 0 vs) H) := by
  unfold R Rc
  rw [← lim_succ (mono_call f vs H)]
  have h1 : (fun k => mcall mp (k + 1) f vs H) = fun k => (mcode (mcall mp k) k fn.body (initRegs 0 vs) H).bind fun y => fnEnd fn.results (some y) := by
    funext k
    rw [mcall]
    simp only [hf, mfn]
    generalize mcode (mcall mp k) k fn.body (initRegs 0 vs) H = x
    cases x with
    | none => rfl
    | some y => obtain ⟨e, T', H'⟩ := y; cases e <;> rfl
  rw [h1, lim_map (mono_code _ _ _)]
  generalize lim (fun k => mcode (mcall mp k) k fn.body (initRegs 0 vs) H) = x
  cases x with
  | none => rfl
  | some y => rfl
theorem R_intr {f : FuncId} {s : List Value → MH → Option (Value × MH)} {vs : List Value} (hf : mp f = some (.intr s)) : R mp f vs H = s vs H := by
  unfold R
  rw [← lim_succ (mono_call f vs H)]
  have h1 : (fun k => mcall mp (k + 1) f vs H) = fun _ => s vs H := by
    funext k; rw [mcall]; simp only [hf]
  rw [h1]; exact lim_const

theorem R_of_mcall {k : Nat} {f : FuncId} {vs : List Value} {x : Value × MH} (h : mcall mp k f vs H = some x) : R mp f vs H = some x := (lim_iff (mono_call f vs H)).2 ⟨k, h⟩

variable {P : Program}
theorem R_ok (h : MapOk P mp) : CallOk P (R mp) := fun f vs H r H' hr φ w args hh hv => by
  obtain ⟨k, hk⟩ := (lim_iff (mono_call f vs H)).1 hr
  exact (mcall_ok h k).1 f vs H r H' hk φ w args hh hv
theorem R_tame (h : MapOk P mp) : Tame (R mp) := ⟨fun f vs H r H' hr => by
  obtain ⟨k, hk⟩ := (lim_iff (mono_call f vs H)).1 hr
  exact (mcall_ok h k).2.grows f vs H r H' hk, fun f vs H r H' hr => by
  obtain ⟨k, hk⟩ := (lim_iff (mono_call f vs H)).1 hr
  exact (mcall_ok h k).2.dead f vs H r H' hk⟩
end
end Go.Mod

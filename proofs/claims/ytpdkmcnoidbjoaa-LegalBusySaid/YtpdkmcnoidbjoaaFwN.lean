/- One operation as a step of the machine of one goroutine. -/
import Derived.Test.YtpdkmcnoidbjoaaFwM
import Derived.Conc.LoneSelect
import Derived.Orders
set_option linter.unusedVariables false
set_option linter.unusedSimpArgs false
namespace Go.Mod

/-! ### registers -/
structure TRel (n : Nat) (φ : Ren) (T : Reg) (tmps : Array Value) : Prop where
  size : n ≤ tmps.size
  get : ∀ t v, rget T t = some v → VRel φ v (tmps.getD t undef)

theorem rget_rput (T : Reg) (t : Nat) (v : Value) (t' : Nat) : rget (rput T t v) t' = if t' = t then some v else rget T t' := by
  induction T with
  | nil => simp [rput, rget]
  | cons p T ih =>
    obtain ⟨u, x⟩ := p
    unfold rput
    split
    · rename_i e; subst e
      simp only [rget]
      split <;> rfl
    · rename_i e
      split
      · simp only [rget]
      · simp only [rget, ih]
        by_cases h : t' = u
        · rw [if_pos h, if_neg (by omega)]; simp [h]
        · simp [h]
theorem rget_rkill {T : Reg} {ks : List Nat} {t : Nat} {v : Value} (h : rget (rkill T ks) t = some v) : rget T t = some v := by
  induction T with
  | nil => simp [rkill, rget] at h
  | cons p T ih =>
    obtain ⟨u, x⟩ := p
    unfold rkill at h
    simp only [rget]
    split at h
    · rename_i hu
      split
      · rename_i e; subst e
        -- the killed register does not answer
        exfalso
        have key : ∀ T : Reg, rget (rkill T ks) t = none := by
          intro T
          induction T with
          | nil => rfl
          | cons q T ihT =>
            obtain ⟨a, b⟩ := q
            unfold rkill
            split
            · exact ihT
            · rename_i hn
              simp only [rget]
              split
              · rename_i e; subst e; rw [hu] at hn; exact absurd rfl hn
              · exact ihT
        rw [key] at h; cases h
      · exact ih h
    · simp only [rget] at h
      split at h
      · rename_i e; rw [if_pos e]; exact h
      · rename_i e; rw [if_neg e]; exact ih h

theorem TRel.mono {n : Nat} {φ ψ : Ren} {T : Reg} {tmps : Array Value} (hle : φ.le ψ) (h : TRel n φ T tmps) : TRel n ψ T tmps := ⟨h.size, fun t v hv => (h.get t v hv).mono hle⟩

theorem TRel.dst {n : Nat} {φ : Ren} {T : Reg} {a : Act} {o : Oper} {m : MOper} {v v' : Value} (h : TRel n φ T a.tmps) (hd : m.dst = o.dst) (hn : cDst n o.dst = true) (hv : VRel φ v v') : TRel n φ (mdst T m v) (a.put o.dst v').tmps := by
  rcases ho : o.dst with _ | d
  · simp only [mdst, Act.put, hd, ho]
    exact ⟨h.size, fun t u hu => h.get t u (rget_rkill hu)⟩
  · simp only [mdst, Act.put, hd, ho]
    simp only [ho, cDst, decide_eq_true_eq] at hn
    refine ⟨by simpa using h.size, fun t u hu0 => ?_⟩
    have hu := rget_rkill hu0
    clear hu0
    rw [rget_rput] at hu
    simp only [Array.getD_eq_getD_getElem?]
    split at hu
    · rename_i e; subst e; cases hu
      rw [Array.getElem?_setIfInBounds_self_of_lt (by have := h.size; omega)]
      exact hv
    · rename_i e
      rw [Array.getElem?_setIfInBounds_ne (fun h => e h.symm)]
      have := h.get t u hu
      simpa [Array.getD_eq_getD_getElem?] using this

theorem arg_sim {n : Nat} {φ : Ren} {T : Reg} {a : Act} {x : Operand} {r : Arg} {v : Value} (h : TRel n φ T a.tmps) (hc : cArg x = some r) (hv : r.ev T = some v) : VRel φ v (a.eval x) := by
  unfold cArg at hc
  split at hc
  · cases hc; exact h.get _ _ hv
  · split at hc <;> first | contradiction | skip
    rename_i hp
    cases hc
    simp only [Arg.ev] at hv; cases hv
    exact VRel.plain hp
  · cases hc
    simp only [Arg.ev] at hv; cases hv
    exact .func _ rfl rfl (fun i x x' hx _ => by simp at hx) (fun i x x' hx _ => by simp at hx)
  · cases hc

theorem args_sim {n : Nat} {φ : Ren} {T : Reg} {a : Act} (h : TRel n φ T a.tmps) : ∀ {xs : List Operand} {as : List Arg} {vs : List Value}, cArgs xs = some as → evs T as = some vs → Rels (VRel φ) vs (xs.map a.eval)
  | [], as, vs, hc, hv => by simp only [cArgs] at hc; cases hc; simp only [evs] at hv; cases hv; exact .nil
  | x :: xs, as, vs, hc, hv => by
    simp only [cArgs] at hc
    split at hc <;> first | contradiction | skip
    rename_i r rs hr hrs
    cases hc
    simp only [evs] at hv
    split at hv <;> first | contradiction | skip
    rename_i v vs' hv1 hv2
    cases hv
    exact .cons (arg_sim h hr hv1) (args_sim h hrs hv2)

theorem want_sim {n : Nat} {φ : Ren} {T : Reg} {a : Act} {ops : Array Oper} {o : Oper} {g : Option (Nat × Bool)} {b : Bool} (h : TRel n φ T a.tmps) (hc : cGuard ops o.guard = some g) (hm : mwant T g = some b) : Region.wanted o (yielded ops a.tmps) = b := by
  unfold Region.wanted
  cases hg : o.guard with
  | none =>
    simp only [hg, cGuard] at hc; cases hc
    simp only [mwant] at hm; cases hm; rfl
  | some p =>
    obtain ⟨j, want⟩ := p
    simp only [hg, cGuard] at hc
    obtain ⟨r, hr, hc⟩ := Option.map_eq_some_iff.1 hc
    cases hc
    simp only [mwant] at hm
    simp only [yielded, hr, Option.bind_some]
    split at hm <;> first | contradiction | skip
    · rename_i x hx
      cases hm
      have hv := h.get r _ hx
      generalize hy : a.tmps.getD r undef = y at hv
      cases hv
      rw [Array.getD_eq_getD_getElem?] at hy
      cases hq : a.tmps[r]? with
      | none => rw [hq] at hy; cases hy
      | some q =>
        rw [hq] at hy; simp only [Option.getD_some] at hy; subst hy
        simp only []
        cases x <;> cases want <;> rfl
    · rename_i hx
      cases hm
      have hv := h.get r _ hx
      generalize hy : a.tmps.getD r undef = y at hv
      cases hv with
      | tuple hs _ =>
      rw [Array.getD_eq_getD_getElem?] at hy
      cases hq : a.tmps[r]? with
      | none => simp
      | some q =>
        rw [hq] at hy; simp only [Option.getD_some] at hy; subst hy
        simp

/-! ### steps -/
def OpJ (P : Program) (ops : Array Oper) (i : Nat) (a : Act) (w : World) (Q : Act → World → Prop) : Prop :=
  ∀ (b : Frame) (k : List Item) (cs : List Frame) (rest : List Nat), ∃ a' w', Q a' w' ∧ Steps P (lone (b.at a (.inRegion ops (i :: rest) :: k)) cs w) (lone (b.at a' (.inRegion ops rest :: k)) cs w')

section
variable {P : Program} {ops : Array Oper} {i : Nat} {o : Oper} {a : Act} {w w' : World} {Q : Act → World → Prop}

theorem OpJ.mono {Q' : Act → World → Prop} (h : OpJ P ops i a w Q) (hq : ∀ a w, Q a w → Q' a w) : OpJ P ops i a w Q' := fun b k cs rest =>
  let ⟨a', w', q, s⟩ := h b k cs rest; ⟨a', w', hq _ _ q, s⟩

theorem finish_at' (ho : ops[i]? = some o) (b : Frame) (k : List Item) (rest : List Nat) (v : Value) : (b.at a (.inRegion ops (i :: rest) :: k)).finish v = b.at (a.put o.dst v) (.inRegion ops rest :: k) := by
  rw [Frame.finish_at, ho]; rfl

theorem OpJ.skip (ho : ops[i]? = some o) (hw : Region.wanted o (yielded ops a.tmps) = false) (h : Q (a.put o.dst undef) w) : OpJ P ops i a w Q := fun b k cs rest => by
  have hs := step_op_skip (P := P) (b := b) (a := a) (k := k) (cs := cs) (w := w) (ops := ops) (i := i) (rest := rest) (by simp [ho]; simpa using hw)
  simp only [ho, Option.bind_some] at hs
  exact ⟨_, w, h, .one hs⟩

theorem OpJ.value {nx : Next} {v : Value} (ho : ops[i]? = some o) (hw : Region.wanted o (yielded ops a.tmps) = true) (hr : (execOp a.eval o).run P w = .ok nx w') (hn : nx = .value v ∨ (nx = .skip ∧ v = undef)) (h : Q (a.put o.dst v) w') : OpJ P ops i a w Q :=
  fun b k cs rest => by
    refine ⟨_, w', h, .one (step_lone_go ?_)⟩
    have hg := stepG_op (P := P) (b := b) (k := k) (cs := cs) (w := w) (rest := rest) ho hw
    rcases hn with rfl | ⟨rfl, rfl⟩
    · rw [hg, ← finish_at' ho]; simp [stepG.apply, hr]
    · rw [hg, ← finish_at' ho]; simp [stepG.apply, hr]

theorem OpJ.enter {f : FuncId} {args : Array Value} {R : Value → World → Prop} (ho : ops[i]? = some o) (hw : Region.wanted o (yielded ops a.tmps) = true) (hr : (execOp a.eval o).run P w = .ok (.enter f args) w)
    (hc : Calls P f args w fun e w' => ∃ v, e = .returned v ∧ R v w') (h : ∀ v w', R v w' → Q (a.put o.dst v) w') : OpJ P ops i a w Q := fun b k cs rest => by
  have hg := stepG_op (P := P) (b := b) (k := k) (cs := cs) (w := w) (rest := rest) ho hw
  obtain ⟨e, w'', fr, ⟨v, rfl, hR⟩, hsteps, _, hleave⟩ := hc (b.at a (.inRegion ops (i :: rest) :: k) :: cs)
  have henter : step P (lone (b.at a (.inRegion ops (i :: rest) :: k)) cs w) = .next (lone (Frame.enter P f args .normal) (b.at a (.inRegion ops (i :: rest) :: k) :: cs) w) :=
    step_lone_go (by rw [hg]; simp [stepG.apply, hr, Frame.at])
  refine ⟨_, w'', h v w'' hR, .head henter (hsteps.trans (.one ?_))⟩
  rw [← finish_at' ho]; exact step_leave_returned hleave

theorem stepG_comm' {b : Frame} {k : List Item} {cs : List Frame} {rest : List Nat} {cases : Array CommCase} {blocking : Bool} {shape : CommShape} (ho : ops[i]? = some o) (hw : Region.wanted o (yielded ops a.tmps) = true) (hr : (execOp a.eval o).run P w = .ok (.comm cases blocking shape) w') :
    ∃ es, stepG P true (Conc.G (b.at a (.inRegion ops (i :: rest) :: k)) cs) w = .comm (Conc.G (b.at a (.inRegion ops (i :: rest) :: k)) cs) cases blocking shape w' es := by
  have hg := stepG_op (P := P) (b := b) (k := k) (cs := cs) (w := w) (rest := rest) ho hw
  have hb : (stepG P true (Conc.G (b.at a (.inRegion ops (i :: rest) :: k)) cs) w).bare = (GStep.comm (Conc.G (b.at a (.inRegion ops (i :: rest) :: k)) cs) cases blocking shape w' #[]).bare := by
    unfold Conc.G
    rw [hg]
    simp [stepG.apply, hr]
  generalize stepG P true (Conc.G (b.at a (.inRegion ops (i :: rest) :: k)) cs) w = s at hb
  cases s <;> simp [GStep.bare] at hb
  obtain ⟨rfl, rfl, rfl, rfl, rfl⟩ := hb
  exact ⟨_, rfl⟩

theorem OpJ.send {c cap s r : Nat} {buf : Array Value} {v : Value} {z : Value} (ho : ops[i]? = some o) (hw : Region.wanted o (yielded ops a.tmps) = true) (hr : (execOp a.eval o).run P w = .ok (.comm #[Conc.scase c v z] true .send) w)
    (hc : w.heap[c]? = some (.chan cap buf false s r false)) (hroom : buf.size < cap) (h : Q (a.put o.dst undef) (w.setChan c cap (buf.push v) false (s + 1) r false)) : OpJ P ops i a w Q := fun b k cs rest => by
  obtain ⟨es, he⟩ := stepG_comm' (b := b) (k := k) (cs := cs) (rest := rest) ho hw hr
  refine ⟨_, _, h, .one ?_⟩
  have := Conc.step_lone_send_room he hc hroom
  rw [finish_at' ho] at this
  exact this

theorem OpJ.recv {c cap s r : Nat} {buf : Array Value} {z : Value} {ok : Bool} (ho : ops[i]? = some o) (hw : Region.wanted o (yielded ops a.tmps) = true) (hr : (execOp a.eval o).run P w = .ok (.comm #[Conc.rcase c z] true (.recv ok)) w)
    (hc : w.heap[c]? = some (.chan cap buf false s r false)) (hsome : 0 < buf.size) (h : Q (a.put o.dst (Conc.got ok (buf.getD 0 undef) true)) (w.setChan c cap (buf.extract 1 buf.size) false s (r + 1) false)) : OpJ P ops i a w Q := fun b k cs rest => by
  obtain ⟨es, he⟩ := stepG_comm' (b := b) (k := k) (cs := cs) (rest := rest) ho hw hr
  refine ⟨_, _, h, .one ?_⟩
  have := Conc.step_lone_recv_buf ok he hc hsome
  rw [finish_at' ho] at this
  exact this

theorem OpJ.selRoom {c cap s r : Nat} {buf : Array Value} {v : Value} {z : Value} (ho : ops[i]? = some o) (hw : Region.wanted o (yielded ops a.tmps) = true) (hr : (execOp a.eval o).run P w = .ok (.comm #[Conc.scase c v z] false .select) w)
    (hc : w.heap[c]? = some (.chan cap buf false s r false)) (hroom : buf.size < cap) (h : Q (a.put o.dst (.tuple #[goInt 0, .bool false])) (w.setChan c cap (buf.push v) false (s + 1) r false)) : OpJ P ops i a w Q := fun b k cs rest => by
  obtain ⟨es, he⟩ := stepG_comm' (b := b) (k := k) (cs := cs) (rest := rest) ho hw hr
  refine ⟨_, _, h, .one ?_⟩
  have := Conc.step_lone_select_send_room he hc hroom
  rw [finish_at' ho] at this
  exact this

theorem OpJ.selFull {c cap s r : Nat} {buf : Array Value} {v : Value} {z : Value} (ho : ops[i]? = some o) (hw : Region.wanted o (yielded ops a.tmps) = true) (hr : (execOp a.eval o).run P w = .ok (.comm #[Conc.scase c v z] false .select) w)
    (hc : w.heap[c]? = some (.chan cap buf false s r false)) (hfull : cap ≤ buf.size) (h : Q (a.put o.dst (.tuple #[goInt (-1), .bool false])) w) : OpJ P ops i a w Q := fun b k cs rest => by
  obtain ⟨es, he⟩ := stepG_comm' (b := b) (k := k) (cs := cs) (rest := rest) ho hw hr
  refine ⟨_, _, h, .one ?_⟩
  have := Conc.step_lone_select_send_full he hc hfull
  rw [finish_at' ho] at this
  exact this
end
end Go.Mod

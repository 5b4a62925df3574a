/- One operation: the model's step is the machine's. A region in the text's order. -/
import Derived.Test.YtpdkmcnoidbjoaaFwN
set_option linter.unusedVariables false
set_option linter.unusedSimpArgs false
namespace Go.Mod

/-- A function that may be entered. -/
def Callable (P : Program) (f : FuncId) : Prop := ∃ fn, P.funcs[f]? = some fn ∧ fn.body.isNone = false ∧ (fn.name == "runtime.NumGoroutine") = false
/-- What a call comes to. -/
def Invokes (P : Program) (f : FuncId) (args : Array Value) (w : World) (R : Value → World → Prop) : Prop :=
  (Callable P f ∧ Calls P f args w fun e w' => ∃ v, e = .returned v ∧ R v w') ∨ ∃ v w', (callFunc f args).run P w = .ok (.value v) w' ∧ R v w'
/-- The model's answer to a call is the machine's. -/
def CallOk (P : Program) (call : CallF) : Prop :=
  ∀ (f : FuncId) (vs : List Value) (H : MH) (r : Value) (H' : MH), call f vs H = some (r, H') → ∀ (φ : Ren) (w : World) (args : List Value), HRel φ (hp H) w → Rels (VRel φ) vs args →
    Invokes P f args.toArray w fun v w' => ∃ φ', VRel φ' r v ∧ Step H.length φ (hp H) w φ' (hp H') w'

def Post (n : Nat) (φ : Ren) (H : MH) (w : World) (T' : Reg) (H' : MH) (ds : List Deferred) : Act → World → Prop :=
  fun a' w' => a'.defers = ds ∧ ∃ φ', Step H.length φ (hp H) w φ' (hp H') w' ∧ TRel n φ' T' a'.tmps

theorem run_callFunc {P : Program} {f : FuncId} (h : Callable P f) (args : Array Value) (w : World) : (callFunc f args).run P w = .ok (.enter f args) w := by
  obtain ⟨fn, h1, h2, h3⟩ := h
  simp only [callFunc, Sem.run_bind, run_program, Result.andThen_ok, h1, h2, h3, Bool.false_eq_true, if_false, Sem.run_pure]

theorem put_defers (a : Act) (d : Option Tmp) (v : Value) : (a.put d v).defers = a.defers := by cases d <;> rfl

section
variable {P : Program} {call : CallF} {n : Nat} {ops : Array Oper} {i : Nat} {o : Oper} {m m0 : MOper} {a : Act} {w : World} {φ : Ren} {T T' : Reg} {H H' : MH}

/-- What the compiler said of one operation. -/
structure Comp (P : Program) (n : Nat) (ops : Array Oper) (o : Oper) (m : MOper) : Prop where
  ex : ∃ xs, cOp P o.op = some (m.op, xs) ∧ cArgs xs = some m.args
  guard : cGuard ops o.guard = some m.guard
  dst : m.dst = o.dst
  dn : cDst n o.dst = true

theorem comp_of (hc : cOper P n ops o = some m.bare) : Comp P n ops o m := by
  unfold cOper at hc
  split at hc <;> first | contradiction | skip
  rename_i op xs g h1 h2
  split at hc <;> first | contradiction | skip
  rename_i as h3
  split at hc <;> first | contradiction | skip
  rename_i h4
  have hc := Option.some.inj hc
  have e1 : m.op = op := (congrArg MOper.op hc).symm
  have e2 : m.args = as := (congrArg MOper.args hc).symm
  have e3 : m.guard = g := (congrArg MOper.guard hc).symm
  have e4 : m.dst = o.dst := (congrArg MOper.dst hc).symm
  exact ⟨⟨xs, by rw [e1]; exact h1, by rw [e2]; exact h3⟩, by rw [e3]; exact h2, e4, h4⟩

theorem OpJ.invoke {f : FuncId} {args : Array Value} {R : Value → World → Prop} {Q : Act → World → Prop} (ho : ops[i]? = some o) (hw : Region.wanted o (yielded ops a.tmps) = true) (hr : (execOp a.eval o).run P w = (callFunc f args).run P w)
    (hc : Invokes P f args w R) (h : ∀ v w', R v w' → Q (a.put o.dst v) w') : OpJ P ops i a w Q := by
  rcases hc with ⟨hcl, hc⟩ | ⟨v, w', hc, hR⟩
  · exact OpJ.enter ho hw (hr.trans (run_callFunc hcl _ _)) hc h
  · exact OpJ.value ho hw (hr.trans hc) (.inl rfl) (h v w' hR)

theorem step_chan {k id : Nat} {pl : Place} {cap : Nat} {buf buf' : List Value} {rb : Array Value} {s r : Nat} (hh : HRel φ (hp H) w) (hφ : φ id = some pl) (hH : H[id]? = some (.chan cap buf)) (hlt : pl.block < w.heap.size) (hrel : Rels (VRel φ) buf' rb.toList) :
    Step k φ (hp H) w φ (hp (H.set id (.chan cap buf'))) (w.setChan pl.block cap rb false s r false) := by
  refine Step.write hh hφ hH rfl rfl rfl rfl rfl (by simp [World.setChan]) (fun b hne => by simp only [World.setChan]; rw [Array.getElem?_setIfInBounds_ne (fun e => hne e.symm)]) ⟨rb, s, r, by simp [World.setChan, hlt], hrel⟩

theorem op_sim (hcall : CallOk P call) (ho : ops[i]? = some o) (hc : Comp P n ops o m) (hT : TRel n φ T a.tmps) (hh : HRel φ (hp H) w) (hs : mstep call m T H none = some (T', H')) :
    OpJ P ops i a w (Post n φ H w T' H' a.defers) := by
  obtain ⟨⟨xs, hop, hxs⟩, hg, hd, hn⟩ := hc
  unfold mstep at hs
  split at hs <;> first | contradiction | skip
  · -- wanted
    rename_i hwant
    have hw := want_sim hT hg hwant
    split at hs <;> first | contradiction | skip
    rename_i vs hvs
    have hr := args_sim hT hxs hvs
    split at hs <;> first | contradiction | skip
    rename_i v H1 hm
    cases hs
    -- from a renaming to the end
    have fin : ∀ (v' : Value) (w' : World) (φ' : Ren), VRel φ' v v' → Step H.length φ (hp H) w φ' (hp H') w' → Post n φ H w (mdst T m v) H' a.defers (a.put o.dst v') w' :=
      fun v' w' φ' hv st => ⟨put_defers .., φ', st, (hT.mono st.le).dst hd hn hv⟩
    unfold mop at hm
    split at hm
    · rename_i hk
      split at hm <;> first | contradiction | skip
      rename_i v0 hp'
      cases hm
      obtain ⟨v', h1, h2⟩ := pure_sim (w := w) hop hk hr hp'
      exact OpJ.value ho hw h1 (.inl rfl) (fin v' w φ h2 (Step.refl hh))
    · rename_i hk
      split at hm <;> first | contradiction | skip
      rename_i v0 hp'
      cases hm
      obtain ⟨v', h1, h2⟩ := read_sim hop hk hh hr hp'
      exact OpJ.value ho hw h1 (.inl rfl) (fin v' w φ h2 (Step.refl hh))
    · rename_i hk
      simp only [] at hm
      split at hm <;> first | contradiction | skip
      rename_i ob v0 hp'
      cases hm
      obtain ⟨v', blk, pl, h1, h2, h3, h4⟩ := alloc_sim (w := w) hop hk hr hp'
      exact OpJ.value ho hw h1 (.inl rfl) (fin v' _ _ h4 (Step.push hh (Nat.le_refl _) h2 rfl rfl rfl (by show (w.heap.push _).size = _; simp) (fun k hk => by show (w.heap.push _)[k]? = _; rw [Array.getElem?_push_lt hk, Array.getElem?_eq_getElem hk]) h3))
    · rename_i hk
      obtain ⟨nx, v', w', φ', h1, h2, h3, h4⟩ := eff_sim hop hk hh hr hm
      exact OpJ.value ho hw h1 h2 (fin v' w' φ' h3 h4)
    · -- communication
      rename_i hk
      have hi := cOp_inv hop
      generalize hoo : o.op = oo at hi
      generalize hmo : m.op = mo at hi hm hk
      cases hi <;> first | (cases hk; done) | skip
      case pure h => rw [h] at hk; cases hk
      case snd ch x =>
        obtain ⟨p, y, rfl, hx, hy⟩ := rels2 hr
        unfold meff at hm
        split at hm <;> first | contradiction | skip
        rename_i heq; cases heq
        split at hm <;> first | contradiction | skip
        rename_i cap buf hH
        split at hm <;> first | contradiction | skip
        rename_i hroom
        cases hm
        generalize hX : a.eval ch = x' at hx
        cases hx with
        | chan hφ =>
        obtain ⟨rb, s, r, hb, hrb⟩ := hh.at hφ hH
        have hsz := hrb.length
        refine OpJ.send (z := .tuple #[]) (v := a.eval x) ho hw (by simp [execOp, hoo, hX, Conc.scase]) hb (by simp at hsz; omega) (fin _ _ φ VRel.undef (step_chan hh hφ hH (hh.lt _ _ hφ) ?_))
        rw [Array.toList_push]
        exact hrb.append (.cons hy .nil)
      case rcv t e d ch ok z hu hz =>
        obtain ⟨p, rfl, hx⟩ := rels1 hr
        unfold meff at hm
        split at hm <;> first | contradiction | skip
        rename_i h1 h2; cases h1; cases h2
        split at hm <;> first | contradiction | skip
        rename_i cap v0 buf hH
        cases hm
        generalize hX : a.eval ch = x' at hx
        cases hx with
        | chan hφ =>
        obtain ⟨rb, s, r, hb, hrb⟩ := hh.at hφ hH
        obtain ⟨hz1, _⟩ := zeroOf_sim (w := w) (φ := φ) hz
        generalize hR : rb.toList = R at hrb
        cases hrb with
        | cons hv0 tl =>
        rename_i y0 R0
        have hsz : rb.size = R0.length + 1 := by rw [← Array.length_toList, hR]; rfl
        have h0 : rb.getD 0 undef = y0 := by
          have : rb[0]? = some y0 := by rw [← Array.getElem?_toList, hR]; rfl
          simp [Array.getD_eq_getD_getElem?, this]
        refine OpJ.recv (z := z) (ok := ok) ho hw ?_ hb (by omega) (fin _ _ φ ?_ (step_chan hh hφ hH (hh.lt _ _ hφ) ?_))
        · simp only [execOp, hoo, hX, Sem.run_bind, run_underlying hu, Result.andThen_ok, hz1, Sem.run_pure]
          rfl
        · rw [h0]
          cases ok
          · exact hv0
          · exact VRel.tuple_of (.cons hv0 (.cons (VRel.bool true) .nil))
        · rw [Array.toList_extract, hR]
          simp [List.extract, hsz]
          exact tl
      case sel1 cases b c x z hcs hsn hz =>
        have hcs' : cases = #[c] := by apply Array.ext'; simpa using hcs
        subst hcs'
        obtain ⟨p, y, rfl, hx, hy⟩ := rels2 hr
        obtain ⟨hz1, _⟩ := zeroOf_sim (w := w) (φ := φ) hz
        unfold meff at hm
        split at hm <;> first | contradiction | skip
        rename_i h1 h2; cases h1; cases h2
        split at hm <;> first | contradiction | skip
        rename_i cap buf hH
        generalize hX : a.eval c.chan = x' at hx
        cases hx with
        | chan hφ =>
        obtain ⟨rb, s, r, hb, hrb⟩ := hh.at hφ hH
        have hsz := hrb.length
        simp at hsz
        rename_i pl
        have hrun : (execOp a.eval o).run P w = .ok (.comm #[Conc.scase pl.block (a.eval x) z] false .select) w := by
          simp [execOp, hoo, hX, hsn, hz1, Conc.scase]
        split at hm
        · rename_i hroom
          cases hm
          refine OpJ.selRoom ho hw hrun hb (by omega) (fin _ _ φ ?_ (step_chan hh hφ hH (hh.lt _ _ hφ) ?_))
          · exact VRel.tuple_of (.cons (VRel.int .i64 0) (.cons (VRel.bool false) .nil))
          · rw [Array.toList_push]
            exact hrb.append (.cons hy .nil)
        · rename_i hroom
          cases hm
          refine OpJ.selFull ho hw hrun hb (by omega) (fin _ _ φ ?_ (Step.refl hh))
          exact VRel.tuple_of (.cons (VRel.int .i64 (-1)) (.cons (VRel.bool false) .nil))
    · -- a call
      rename_i hk
      split at hm <;> first | contradiction | skip
      rename_i f hmo
      have hi := cOp_inv hop
      generalize hoo : o.op = oo at hi
      rw [hmo] at hi
      cases hi
      case pure h => cases h
      case call c hcal =>
        refine OpJ.invoke (args := (c.args.toList.map a.eval).toArray) (f := f) ho hw ?_ (hcall f vs H v H' hm φ w _ hh hr) (fun v' w' ⟨φ', h1, h2⟩ => fin v' w' φ' h1 h2)
        simp [execOp, hoo, resolve, hcal, Deferred.ofValue, Act.eval, invoke]
        congr 2
        apply Array.ext'; simp
    · rename_i hk
      split at hm <;> first | contradiction | skip
      rename_i f fa fc args
      have hi := cOp_inv hop
      generalize hoo : o.op = oo at hi
      generalize hmo : m.op = mo at hi hk
      cases hi <;> first | (cases hk; done) | skip
      case pure h => rw [h] at hk; cases hk
      case callv c x hcal =>
        simp only [List.map_cons] at hr
        cases hr with
        | cons hx hr =>
        generalize hX : a.eval x = x' at hx
        cases hx with
        | func fn ha hcc h1 h2 =>
        rename_i fa' fc'
        have hr' : Rels (VRel φ) (fa.toList ++ args ++ fc.toList) (fa'.toList ++ c.args.toList.map a.eval ++ fc'.toList) := ((VRel.rels ha h1).append hr).append (VRel.rels hcc h2)
        refine OpJ.invoke (f := f) ho hw ?_ (hcall f _ H v H' hm φ w _ hh hr') (fun v' w' ⟨φ', h1, h2⟩ => fin v' w' φ' h1 h2)
        simp [execOp, hoo, resolve, hcal, Deferred.ofValue, hX, invoke]
        congr 2
        apply Array.ext'; simp
  · -- not wanted
    rename_i hwant
    have hw := want_sim hT hg hwant
    cases hs
    exact OpJ.skip ho hw ⟨put_defers .., φ, Step.refl hh, hT.dst hd hn VRel.undef⟩
end
end Go.Mod

/- copy, clear, maps; all that writes. -/
import Derived.Test.YtpdkmcnoidbjoaaFwL
set_option linter.unusedVariables false
set_option linter.unusedSimpArgs false
namespace Go.Mod

section
variable {P : Program} {o : Oper} {ρ : Operand → Value} {w : World} {φ : Ren} {vs : List Value} {v : Value} {op : MOp} {xs : List Operand} {H : MH}

theorem copy_sim {c : Call} {e : TypeId} {n : Nat} {H' : MH} (ho : o.op = .call c) (hc : c.callee = .builtin .copy) (hd : (c.argTypes[0]?).bind P.underlying = some (.slice e)) (hs : szOf P e = some n)
    (hh : HRel φ (hp H) w) (hr : Rels (VRel φ) vs (c.args.toList.map ρ)) (hm : meff (.copy n) vs H = some (v, H')) : Writes P o ρ w φ H H' v := by
  rw [show c.args.toList.map ρ = (c.args.map ρ).toList by simp] at hr
  generalize hA : (c.args.map ρ).toList = A at hr
  obtain ⟨t0, e0, u0⟩ := bind_some hd
  unfold meff at hm
  split at hm <;> first | contradiction | skip
  rename_i es0 a dl dc y heq; cases heq
  obtain ⟨x', y', rfl, hx, hy⟩ := rels2' hr
  obtain ⟨a0, a1⟩ := two_args hA
  split at hm <;> first | contradiction | skip
  rename_i sn sc hsrc
  obtain ⟨s1, s2, s3⟩ := src_sim (P := P) hh hy hsrc
  simp only [] at hm
  have run : ∀ (base : Option Addr) (cap : Nat) (ys : List Value), x' = .slice base dl cap → (Builtin.firstCells n (min sn dl) y').run P w = .ok ys.toArray w →
      ∀ w', (match base with | some a => (storeCells a ys).run P w | none => .ok () w) = .ok () w' → (execOp ρ o).run P w = .ok (.value (.int .i64 (min sn dl : Nat))) w' := by
    intro base cap ys hx' hf w' hw
    refine run_builtin2 ho hc ?_
    subst hx'
    simp only [builtin, Builtin.copy_, e0, a0, a1, Sem.run_bind, run_underlying u0, Result.andThen_ok, s1, szOf_sim hs, Sem.run_pure]
    rw [show Nat.min sn dl = min sn dl from rfl, hf]
    simp only [Result.andThen_ok]
    cases base with
    | none => simp only [] at hw; cases hw; rfl
    | some a => simp only [] at hw; simp only [Sem.run_bind, hw, Result.andThen_ok, Sem.run_pure]; rfl
  split at hm
  · rename_i h0
    cases hm
    obtain ⟨ys, f1, f2⟩ := s3 (min sn dl) (by omega)
    have hy0 : ys = [] := List.eq_nil_of_length_eq_zero (by have := f2.length; rw [h0] at this; simpa using this)
    subst hy0
    have hrun : (execOp ρ o).run P w = .ok (.value (.int .i64 (min sn dl : Nat))) w := by
      cases hx with
      | slice0 => exact run none 0 [] rfl f1 w rfl
      | slicee => exact run (some _) _ [] rfl f1 w rfl
      | slice hφ hn hcc hex hroom ha => exact run (some _) _ [] rfl f1 w rfl
    rw [h0] at hrun
    exact ⟨_, _, w, φ, hrun, .inl rfl, .int .., Step.refl hh⟩
  · rename_i h0
    split at hm <;> first | contradiction | skip
    rename_i b oo
    split at hm <;> first | contradiction | skip
    rename_i i cc hH
    split at hm <;> first | contradiction | skip
    rename_i hcond
    cases hm
    obtain ⟨hrw, hfit, hok⟩ := hcond
    obtain ⟨ys, f1, f2⟩ := s3 (min sn dl) (by omega)
    cases hx with
    | slicee => omega
    | slice hφ hn hcc hex hroom ha =>
    have hb' := ha (by omega)
    subst hb'
    have hmul : min sn dl * n ≤ sn * n := Nat.mul_le_mul_right _ (by omega)
    obtain ⟨w', hrun, hstep⟩ := rowWrite (P := P) (n := H.length) (off := oo) hh hφ hH hrw (by rw [List.length_take]; omega) f2 (f2.okc hok)
    exact ⟨_, _, w', φ, run (some _) _ ys rfl f1 w' hrun, .inl rfl, .int .., hstep⟩

theorem clear_sim {c : Call} {e : TypeId} {n : Nat} {z : Value} {H' : MH} (ho : o.op = .call c) (hc : c.callee = .builtin .clear) (hd : (c.argTypes[0]?).bind P.underlying = some (.slice e)) (hs : szOf P e = some n) (hz : zeroOf P e = some z)
    (hh : HRel φ (hp H) w) (hr : Rels (VRel φ) vs (c.args.toList.map ρ)) (hm : meff (.clear n z.cells.toList) vs H = some (v, H')) : Writes P o ρ w φ H H' v := by
  rw [show c.args.toList.map ρ = (c.args.map ρ).toList by simp] at hr
  generalize hA : (c.args.map ρ).toList = A at hr
  obtain ⟨t0, e0, u0⟩ := bind_some hd
  obtain ⟨hz1, hz2⟩ := zeroOf_sim (w := w) (φ := φ) hz
  unfold meff at hm
  split at hm <;> first | contradiction | skip
  rename_i es0 z0 a m cp heq; cases heq
  obtain ⟨x', rfl, hx⟩ := rels1' hr
  have a0 := one_arg hA
  split at hm
  · rename_i h0
    cases hm
    subst h0
    refine ⟨.value (.tuple #[]), _, w, φ, run_builtin2 ho hc ?_, .inl rfl, VRel.undef, Step.refl hh⟩
    cases hx with
    | slice0 =>
      simp only [builtin, Builtin.clear_, e0, a0, Sem.run_bind, run_underlying u0, Result.andThen_ok, Sem.run_pure]
    | slicee =>
      simp only [builtin, Builtin.clear_, e0, a0, Sem.run_bind, run_underlying u0, Result.andThen_ok, Sem.run_pure]
    | slice hφ hn hcc hex hroom ha =>
      simp only [builtin, Builtin.clear_, e0, a0, Sem.run_bind, run_underlying u0, Result.andThen_ok, Sem.run_pure]
  · rename_i h0
    split at hm <;> first | contradiction | skip
    rename_i b oo
    split at hm <;> first | contradiction | skip
    rename_i i cc hH
    split at hm <;> first | contradiction | skip
    rename_i hcond
    cases hm
    obtain ⟨hrw, hzl, hfit, hok⟩ := hcond
    cases hx with
    | slicee => omega
    | slice hφ hn hcc hex hroom ha =>
    have hb' := ha (by omega)
    subst hb'
    have hfl : (List.replicate m z.cells.toList).flatten.length = m * n := by rw [flat_length, hzl]
    have hokf : okc (List.replicate m z.cells.toList).flatten = true := by
      unfold okc at hok ⊢
      rw [List.all_eq_true] at hok ⊢
      intro x hx
      rw [List.mem_flatten] at hx
      obtain ⟨l, hl, hxl⟩ := hx
      rw [List.mem_replicate] at hl
      rw [hl.2] at hxl
      exact hok x hxl
    have hrel : Rels (CRel φ) (List.replicate m z.cells.toList).flatten (List.replicate m z.cells.toList).flatten := (rels_flatten hz2.cells m).imp fun _ _ => .inr
    obtain ⟨w', hrun, hstep⟩ := rowWrite (P := P) (n := H.length) (off := oo) hh hφ hH hrw (by rw [hfl]; exact hfit) hrel (okc_flat hokf)
    refine ⟨.value (.tuple #[]), _, w', φ, run_builtin2 ho hc ?_, .inl rfl, VRel.undef, hstep⟩
    obtain ⟨m, rfl⟩ : ∃ k, m = k + 1 := ⟨m - 1, by omega⟩
    have hzc : (Builtin.zeroCells z.cells (m + 1)).toList = (List.replicate (m + 1) z.cells.toList).flatten := by
      have hsz : z.cells.size = n := by simpa using hzl
      have := zeros_row z.cells n (m + 1) hzl
      unfold Builtin.zeroCells
      rw [hsz] at this ⊢
      exact this
    simp only [builtin, Builtin.clear_, e0, a0, Sem.run_bind, run_underlying u0, Result.andThen_ok, Sem.run_pure, hz1, hzc, hrun]

theorem mupd_some {k : Int} {v : Value} : ∀ {es : List (Int × Value)} {j : Nat}, mpos k es = some j → mupd k v es = es.set j (k, v)
  | [], j, h => by simp [mpos] at h
  | (q, x) :: es, j, h => by
    unfold mpos at h
    split at h
    · cases h; rename_i e; subst e; simp [mupd]
    · rename_i e
      obtain ⟨i, hi, rfl⟩ := Option.map_eq_some_iff.1 h
      simp [mupd, e, mupd_some hi]
theorem mupd_none {k : Int} {v : Value} : ∀ {es : List (Int × Value)}, mpos k es = none → mupd k v es = es ++ [(k, v)]
  | [], h => rfl
  | (q, x) :: es, h => by
    unfold mpos at h
    split at h <;> first | contradiction | skip
    rename_i e
    simp at h
    simp [mupd, e, mupd_none h]
theorem mera_some {k : Int} : ∀ {es : List (Int × Value)} {j : Nat}, mpos k es = some j → mera k es = es.eraseIdx j
  | [], j, h => by simp [mpos] at h
  | (q, x) :: es, j, h => by
    unfold mpos at h
    split at h
    · cases h; rename_i e; subst e; simp [mera]
    · rename_i e
      obtain ⟨i, hi, rfl⟩ := Option.map_eq_some_iff.1 h
      simp [mera, e, mera_some hi]
theorem mera_none {k : Int} : ∀ {es : List (Int × Value)}, mpos k es = none → mera k es = es
  | [], h => rfl
  | (q, x) :: es, h => by
    unfold mpos at h
    split at h <;> first | contradiction | skip
    rename_i e
    simp at h
    simp [mera, e, mera_none h]
theorem mpos_key {k : Int} : ∀ {es : List (Int × Value)} {j : Nat}, mpos k es = some j → ∃ x, es[j]? = some (k, x)
  | [], j, h => by simp [mpos] at h
  | (q, x) :: es, j, h => by
    unfold mpos at h
    split at h
    · cases h; rename_i e; subst e; exact ⟨x, by simp⟩
    · obtain ⟨i, hi, rfl⟩ := Option.map_eq_some_iff.1 h
      obtain ⟨y, hy⟩ := mpos_key hi
      exact ⟨y, by simpa using hy⟩

/-- A map's block, written anew. -/
theorem mapWrite {n id : Nat} {pl : Place} {es es' : List (Int × Value)} {en en' : Array MapEntry} {cl cl' : Nat} (hh : HRel φ (hp H) w) (hφ : φ id = some pl) (hH : H[id]? = some (.map es)) (hb : w.heap[pl.block]? = some (.map en cl))
    (he : Ents φ es' en'.toList) : (setObj pl.block (.map en' cl')).run P w = .ok () { w with heap := w.heap.setIfInBounds pl.block (.map en' cl') } ∧
      Step n φ (hp H) w φ (hp (H.set id (.map es'))) { w with heap := w.heap.setIfInBounds pl.block (.map en' cl') } := by
  have hlt := (Array.getElem?_eq_some_iff.1 hb).1
  refine ⟨by simp [setObj, Sem.run, hb], Step.write hh hφ hH rfl rfl rfl rfl rfl (by simp) (fun b hne => by simp only []; rw [Array.getElem?_setIfInBounds_ne (fun e => hne e.symm)]) ⟨en', cl', by simp [hlt], by simpa using he.1, fun j p e hp he' => he.2 j p e hp (by simpa using he')⟩⟩

theorem mset_sim {t kt e : TypeId} {m k x : Operand} {H' : MH} (ho : o.op = .mapUpdate t m k x) (ht : P.underlying t = some (.map kt e)) (hk : P.underlying kt = some (.int .i64))
    (hh : HRel φ (hp H) w) (hr : Rels (VRel φ) vs ([m, k, x].map ρ)) (hm : meff .mset vs H = some (v, H')) : Writes P o ρ w φ H H' v := by
  obtain ⟨a, b, c, rfl, ha, hb, hc⟩ := rels3 hr
  unfold meff at hm
  split at hm <;> first | contradiction | skip
  rename_i b0 kk v0 _ heq; cases heq
  split at hm <;> first | contradiction | skip
  rename_i es hH
  split at hm <;> first | contradiction | skip
  cases hm
  generalize hX : ρ m = x' at ha; generalize hY : ρ k = y' at hb
  cases ha with
  | map hφ =>
  cases hb
  obtain ⟨en, cl, hblk, hen⟩ := ents_of (hh.at hφ hH)
  rename_i pl
  rcases findNow_sim (k0 := .i64) kk es en.toList 0 hen with ⟨h1, h2, h3⟩ | ⟨j, u, u', h1, h2, h3, h4⟩
  · rw [mupd_none h1]
    obtain ⟨g1, g2⟩ := mapWrite (P := P) (n := H.length) (en' := en.push { key := .int .i64 kk, val := ρ x, born := cl }) (cl' := cl + 1) (es' := es ++ [(kk, c)]) hh hφ hH hblk ⟨by simp [hen.1], fun j p f hp hf => by
      simp only [Array.toList_push] at hf
      by_cases hj : j < es.length
      · rw [List.getElem?_append_left hj] at hp
        rw [List.getElem?_append_left (by rw [hen.1]; exact hj)] at hf
        exact hen.2 j p f hp hf
      · rw [List.getElem?_append_right (by omega)] at hp
        rw [List.getElem?_append_right (by rw [hen.1]; omega), hen.1] at hf
        have : j - es.length = 0 := by
          have := (List.getElem?_eq_some_iff.1 hp).1
          simp at this; omega
        rw [this] at hp hf
        simp at hp hf
        subst hp; subst hf
        exact ⟨rfl, hc⟩⟩
    refine ⟨.skip, undef, _, φ, ?_, .inr ⟨rfl, rfl⟩, VRel.undef, g2⟩
    simp only [execOp, ho, hX, hY, Instr.mapUpdate, Sem.run_bind, run_underlying ht, Result.andThen_ok, Sem.run_pure, run_getObj_map hblk, run_checkKey hk _ 9999, Instr.findKey, run_underlying hk, h3, g1]
  · rw [mupd_some h1]
    simp only [Nat.zero_add] at h4
    obtain ⟨x0, hx0⟩ := mpos_key h1
    have hjl := (List.getElem?_eq_some_iff.1 hx0).1
    have hje : j < en.size := by have := hen.1; simp at this; omega
    obtain ⟨e0, he0⟩ : ∃ e0, en[j]? = some e0 := ⟨en[j], Array.getElem?_eq_getElem hje⟩
    have hkey := (hen.2 j _ e0 hx0 (by simpa using he0)).1
    obtain ⟨g1, g2⟩ := mapWrite (P := P) (n := H.length) (en' := en.modify j fun e => { e with key := .int .i64 kk, val := ρ x }) (cl' := cl) (es' := es.set j (kk, c)) hh hφ hH hblk ⟨by simpa using hen.1, fun i p f hp hf => by
      have hf' : (en.modify j fun e => { e with key := .int .i64 kk, val := ρ x })[i]? = some f := by rw [← hf, Array.getElem?_toList]
      rw [Array.getElem?_modify] at hf'
      by_cases e : j = i
      · subst e
        rw [List.getElem?_set_self hjl] at hp
        rw [if_pos rfl, he0] at hf'
        cases hp; cases hf'
        exact ⟨rfl, hc⟩
      · rw [List.getElem?_set_ne e] at hp
        rw [if_neg e] at hf'
        exact hen.2 i p f hp (by simpa using hf')⟩
    refine ⟨.skip, undef, _, φ, ?_, .inr ⟨rfl, rfl⟩, VRel.undef, g2⟩
    simp only [execOp, ho, hX, hY, Instr.mapUpdate, Sem.run_bind, run_underlying ht, Result.andThen_ok, Sem.run_pure, run_getObj_map hblk, run_checkKey hk _ 9999, Instr.findKey, run_underlying hk, h4, he0, Option.map_some, Option.getD_some, hkey]
    have hst : (Instr.keyThatStays (.int .i64 kk) (.int .i64 kk)).run P w = .ok (.int .i64 kk) w := by simp [Instr.keyThatStays, Instr.sameBits]
    rw [hst]
    simp only [Result.andThen_ok, g1]

theorem mdel_sim {c : Call} {kt e : TypeId} {H' : MH} (ho : o.op = .call c) (hc : c.callee = .builtin .delete) (hd : (c.argTypes[0]?).bind P.underlying = some (.map kt e)) (hk : P.underlying kt = some (.int .i64))
    (hh : HRel φ (hp H) w) (hr : Rels (VRel φ) vs (c.args.toList.map ρ)) (hm : meff .mdel vs H = some (v, H')) : Writes P o ρ w φ H H' v := by
  rw [show c.args.toList.map ρ = (c.args.map ρ).toList by simp] at hr
  generalize hA : (c.args.map ρ).toList = A at hr
  obtain ⟨t0, e0, u0⟩ := bind_some hd
  unfold meff at hm
  split at hm <;> first | contradiction | skip
  · cases hm
    obtain ⟨x', y', rfl, hx, hy⟩ := rels2' hr
    obtain ⟨a0, a1⟩ := two_args hA
    cases hx; cases hy
    refine ⟨.value (.tuple #[]), _, w, φ, run_builtin2 ho hc ?_, .inl rfl, VRel.undef, Step.refl hh⟩
    simp only [builtin, Builtin.delete_, e0, a0, a1, Sem.run_bind, run_underlying u0, Result.andThen_ok, Sem.run_pure, run_checkKey hk _ 9999]
  · rename_i b0 kk _
    split at hm <;> first | contradiction | skip
    rename_i es hH
    cases hm
    obtain ⟨x', y', rfl, hx, hy⟩ := rels2' hr
    obtain ⟨a0, a1⟩ := two_args hA
    cases hx with
    | map hφ =>
    cases hy
    obtain ⟨en, cl, hblk, hen⟩ := ents_of (hh.at hφ hH)
    rename_i pl
    rcases findNow_sim (k0 := .i64) kk es en.toList 0 hen with ⟨h1, h2, h3⟩ | ⟨j, u, u', h1, h2, h3, h4⟩
    · rw [mera_none h1]
      obtain ⟨g1, g2⟩ := mapWrite (P := P) (n := H.length) (en' := en) (cl' := cl) (es' := es) hh hφ hH hblk hen
      refine ⟨.value (.tuple #[]), _, _, φ, run_builtin2 ho hc ?_, .inl rfl, VRel.undef, g2⟩
      simp only [builtin, Builtin.delete_, e0, a0, a1, Sem.run_bind, run_underlying u0, Result.andThen_ok, Sem.run_pure, run_getObj_map hblk, run_checkKey hk _ 9999, Instr.findKey, run_underlying hk, h3, g1]
    · rw [mera_some h1]
      simp only [Nat.zero_add] at h4
      obtain ⟨x0, hx0⟩ := mpos_key h1
      have hjl := (List.getElem?_eq_some_iff.1 hx0).1
      have hje : j < en.size := by have := hen.1; simp at this; omega
      obtain ⟨g1, g2⟩ := mapWrite (P := P) (n := H.length) (en' := en.eraseIdxIfInBounds j) (cl' := cl) (es' := es.eraseIdx j) hh hφ hH hblk (by
        have e1 : (en.eraseIdxIfInBounds j).toList = en.toList.eraseIdx j := by simp
        rw [e1]
        refine ⟨by rw [List.length_eraseIdx, List.length_eraseIdx, hen.1], fun i p f hp hf => ?_⟩
        rw [List.getElem?_eraseIdx] at hp hf
        by_cases hi : i < j
        · rw [if_pos hi] at hp hf; exact hen.2 i p f hp hf
        · rw [if_neg hi] at hp hf; exact hen.2 (i + 1) p f hp hf)
      refine ⟨.value (.tuple #[]), _, _, φ, run_builtin2 ho hc ?_, .inl rfl, VRel.undef, g2⟩
      simp only [builtin, Builtin.delete_, e0, a0, a1, Sem.run_bind, run_underlying u0, Result.andThen_ok, Sem.run_pure, run_getObj_map hblk, run_checkKey hk _ 9999, Instr.findKey, run_underlying hk, h4, g1]

theorem eff_sim {H' : MH} (hc : cOp P o.op = some (op, xs)) (hk : op.kind = .eff) (hh : HRel φ (hp H) w) (hr : Rels (VRel φ) vs (xs.map ρ)) (hm : meff op vs H = some (v, H')) : Writes P o ρ w φ H H' v := by
  have hi := cOp_inv hc
  generalize ho : o.op = oo at hi
  cases hi <;> first | (cases hk; done) | skip
  case pure h => rw [h] at hk; cases hk
  case st hs => exact st_sim ho hs hh hr hm
  case mset hu hk' => exact mset_sim ho hu hk' hh hr hm
  case appz hc' hd hu hi hs hb hz' hl hzl => exact appz_sim ho hc' hd hu hi hs hb hz' hzl hh hr hm
  case app hc' hd hu hi hs hb hz' hl hzl => exact app_sim ho hc' ⟨hd, hi, hu, hs, hb, hz'⟩ hzl hh hr hm
  case copy hc' hd hs hl => exact copy_sim ho hc' hd hs hh hr hm
  case clear hc' hd hs hz hl => exact clear_sim ho hc' hd hs hz hh hr hm
  case mdel hc' hd hk' hl => exact mdel_sim ho hc' hd hk' hh hr hm
end
end Go.Mod

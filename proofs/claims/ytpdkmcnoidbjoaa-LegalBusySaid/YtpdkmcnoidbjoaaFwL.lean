/- append, copy, clear, and maps that are written. -/
import Derived.Test.YtpdkmcnoidbjoaaFwK
import Derived.Laws.AppendOwn
set_option linter.unusedVariables false
set_option linter.unusedSimpArgs false
namespace Go.Mod

section
variable {P : Program} {o : Oper} {ρ : Operand → Value} {w : World} {φ : Ren} {vs : List Value} {v : Value} {op : MOp} {xs : List Operand} {H : MH}

theorem take_drop_take (c : List Value) (o a b : Nat) (h : a ≤ b) : ((c.drop o).take b).take a = (c.drop o).take a := by
  rw [List.take_take, Nat.min_eq_left h]

/-- The source of an append, of a copy. -/
theorem src_sim {es n : Nat} {c : List Value} {y y' : Value} (hh : HRel φ (hp H) w) (hy : VRel φ y y') (hs : srcCells es H y = some (n, c)) :
    (Builtin.lenOf y').run P w = .ok n w ∧ c.length = n * es ∧ ∀ m, m ≤ n → ∃ ys, (Builtin.firstCells es m y').run P w = .ok ys.toArray w ∧ Rels (CRel φ) (c.take (m * es)) ys := by
  unfold srcCells at hs
  split at hs <;> first | contradiction | skip
  · cases hs
    cases hy
    exact ⟨rfl, by simp, fun m hm => ⟨[], rfl, by simp; exact .nil⟩⟩
  · rename_i b o0 n0 cap0
    split at hs <;> first | contradiction | skip
    rename_i i c0 hH
    split at hs <;> first | contradiction | skip
    rename_i hl
    cases hs
    cases hy with
    | slicee =>
      refine ⟨rfl, by simp, fun m hm => ⟨[], ?_, by simp; exact .nil⟩⟩
      have : m = 0 := by omega
      subst this
      simp only [Builtin.firstCells, Nat.zero_mul]
      rfl
    | slice hφ hn hc hex hroom ha =>
    refine ⟨rfl, by simp; omega, fun m hm => ?_⟩
    have hmn : m * es ≤ n * es := Nat.mul_le_mul_right _ hm
    by_cases h0 : m = 0
    · subst h0
      refine ⟨[], ?_, by simp; exact .nil⟩
      simp only [Builtin.firstCells, Nat.zero_mul]
      rfl
    · have hb := ha (by omega)
      subst hb
      obtain ⟨ys, hrun, hrel⟩ := (hh.cells hφ hH).row (P := P) o0 (m * es) (by omega)
      refine ⟨ys, ?_, by rw [take_drop_take _ _ _ _ hmn]; exact hrel⟩
      simp only [Builtin.firstCells, hrun]
  · split at hs <;> first | contradiction | skip
    rename_i s hes
    cases hs
    cases hy
    subst hes
    refine ⟨rfl, by rw [List.length_map, Array.length_toList, Nat.mul_one]; rfl, fun m hm => ⟨(s.data.toList.map fun b => Value.int .u8 b.toNat).take m, ?_, ?_⟩⟩
    · simp only [Builtin.firstCells, Sem.run_pure]
      congr 1
      apply Array.ext'
      rw [Array.toList_map, ByteArray.data_extract, Array.toList_extract]
      simp [List.extract, List.map_take]
    · rw [Nat.mul_one]
      refine (Rels.refl fun x hx => ?_).imp fun _ _ => .inr
      obtain ⟨b, _, rfl⟩ := List.mem_map.1 (List.mem_of_mem_take hx)
      exact .int ..

theorem two_args {c : Call} {x' y' : Value} (h : (c.args.map ρ).toList = [x', y']) : (c.args.map ρ)[0]? = some x' ∧ (c.args.map ρ)[1]? = some y' := by
  have h0 := congrArg (fun l => l[0]?) h
  have h1 := congrArg (fun l => l[1]?) h
  exact ⟨by simpa using h0, by simpa using h1⟩

structure AppTy (P : Program) (ts : Array TypeId) (e : TypeId) (u : TypeDesc) (n b : Nat) (z : Value) : Prop where
  d : (ts[0]?).bind P.underlying = some (.slice e)
  i : isIntD u = false
  u : (ts[1]?).bind P.underlying = some u
  s : szOf P e = some n
  b : bytesOf' P e = some b
  z : zeroOf P e = some z

theorem bind_some {ts : Array TypeId} {i : Nat} {d : TypeDesc} (h : (ts[i]?).bind P.underlying = some d) : ∃ t, ts[i]? = some t ∧ P.underlying t = some d := by
  cases hh : ts[i]? with
  | none => simp [hh] at h
  | some t => exact ⟨t, rfl, by simpa [hh] using h⟩

theorem app_room {ts : Array TypeId} {ty e : TypeId} {u : TypeDesc} {n b m sLen sCap : Nat} {z y' : Value} {base : Option Addr} {args : Array Value} {ys : List Value} (ht : AppTy P ts e u n b z) (h0 : args[0]? = some (.slice base sLen sCap)) (h1 : args[1]? = some y')
    (hl : (Builtin.lenOf y').run P w = .ok m w) (hf : (Builtin.firstCells n m y').run P w = .ok ys.toArray w) (hr : sLen + m ≤ sCap) :
    (Builtin.append_ ts ty args).run P w = match base with
      | none => .ok (.slice none (sLen + m) sCap) w
      | some a => ((storeCells (a.add (sLen * n)) ys).run P w).andThen fun _ w' => .ok (.slice (some a) (sLen + m) sCap) w' := by
  obtain ⟨t0, e0, u0⟩ := bind_some ht.d
  obtain ⟨t1, e1, u1⟩ := bind_some ht.u
  have hi := ht.i
  have hs := szOf_sim (w := w) ht.s
  clear ht
  cases u <;> first
    | (simp [isIntD] at hi; done)
    | (simp only [Builtin.append_, e0, e1, h0, h1, Sem.run_bind, run_underlying u0, run_underlying u1, Result.andThen_ok, hs, Sem.run_pure, Bool.false_eq_true, if_false, hl, hr, if_true, Bool.not_false, hf]
       cases base <;> first | rfl | (simp only [Sem.run_bind, Sem.run_pure]))

theorem app_grow {ts : Array TypeId} {ty e : TypeId} {u : TypeDesc} {n b m sLen sCap : Nat} {z y' : Value} {base : Option Addr} {args : Array Value} {olds ys : List Value} (ht : AppTy P ts e u n b z) (h0 : args[0]? = some (.slice base sLen sCap)) (h1 : args[1]? = some y')
    (hl : (Builtin.lenOf y').run P w = .ok m w) (hf : (Builtin.firstCells n m y').run P w.drew = .ok ys.toArray w.drew) (ho : (Builtin.firstCells n sLen (.slice base sLen sCap)).run P w.drew = .ok olds.toArray w.drew)
    (hg : sCap < sLen + m) (hsm : sLen + m ≤ 4294967296) (hb : b ≤ 4096) :
    ∃ rest, (Builtin.append_ ts ty args).run P w = .ok (.slice (some ⟨w.heap.size, 0, none⟩) (sLen + m) (grownCap w (sLen + m) sCap e)) (w.drew.alloc (.cells (olds.toArray ++ ys.toArray ++ rest) e)) ∧
      rest.size = (grownCap w (sLen + m) sCap e - (sLen + m)) * z.cells.size := by
  obtain ⟨t0, e0, u0⟩ := bind_some ht.d
  obtain ⟨t1, e1, u1⟩ := bind_some ht.u
  obtain ⟨i, hi, hib⟩ : ∃ i, P.info? e = some i ∧ i.bytes = b := by
    have := ht.b; unfold bytesOf' at this
    cases hh : P.info? e with
    | none => simp [hh] at this
    | some i => exact ⟨i, rfl, by simpa [hh] using this⟩
  have hz := (zeroOf_sim (P := P) (w := w.drew) (φ := fun _ => none) ht.z).1
  have hfit : Builtin.nextslicecap (sLen + m) sCap * b ≤ 281474976710656 := by
    refine growslice_fits hg ?_
    exact Nat.le_trans (Nat.mul_le_mul hsm hb) (by decide)
  have hn : ¬ (sLen + m ≤ sCap) := by omega
  have h63 : ¬ (((sLen + m : Nat) : Int) > IntKind.i64.max ∧ (False ∨ i.bytes = 0)) := by
    rw [show IntKind.i64.max = 9223372036854775807 from by decide]; omega
  refine ⟨Builtin.zeroCells z.cells (grownCap w (sLen + m) sCap e - (sLen + m)), ?_, size_zeroCells' z.cells _⟩
  have hti : ∀ w : World, (typeInfo e).run P w = .ok i w := fun w => by simp [typeInfo, hi]
  have hd : ({ w with drawn := w.drawn + 1 } : World) = w.drew := rfl
  have hfit' : ¬ (Builtin.nextslicecap (sLen + m) sCap * i.bytes > 2 ^ 48) := by rw [hib]; omega
  have hii := ht.i
  have hs := szOf_sim (w := w) ht.s
  clear ht
  cases u <;> first
    | (simp [isIntD] at hii; done)
    | (simp only [Builtin.append_, e0, e1, h0, h1, Sem.run_bind, run_underlying u0, run_underlying u1, Result.andThen_ok, hs, Sem.run_pure, Bool.false_eq_true, if_false, hl, hn, hti]
       rw [if_neg h63, Sem.run_bind, hti, Result.andThen_ok, if_neg hfit']
       simp only [Sem.run_bind, run_choose, Question.forced, Bool.false_eq_true, if_false, Result.andThen_ok, run_askRoom, hti, hd, hf, ho, hz, newRow, run_newObj, Sem.run_pure, Bool.not_false, if_true]
       rfl)
where
  size_zeroCells' (z : Array Value) (n : Nat) : (Builtin.zeroCells z n).size = n * z.size := by simp [Builtin.zeroCells]

/-- A slice that is appended to goes where it lay: the model gives it a new number, the old one is dead. -/
theorem Step.move {φ : Ren} {H : MH} {w w' : World} {id : Nat} {pl pl' : Place} {ob ob' : MObj} (hr : HRel φ (hp H) w) (hφ : φ id = some pl) (hH : H[id]? = some ob) (hm : ob.mut = true) (hbk : pl'.block = pl.block)
    (hos : w'.os = w.os) (htp : w'.tape = w.tape) (hout : w'.output = w.output) (hsz : w'.heap.size = w.heap.size) (hbl : ∀ b, b ≠ pl.block → w'.heap[b]? = w.heap[b]?) (ho : ORel φ w' pl' ob') :
    Step H.length φ (hp H) w (φ.set H.length pl') (hp (H.set id .dead ++ [ob'])) w' := by
  have hid : id < H.length := (List.getElem?_eq_some_iff.1 hH).1
  have hlive : ob.live = true := by cases ob <;> first | rfl | (simp [MObj.mut] at hm)
  have hno : φ H.length = none := by
    cases h : φ H.length with
    | none => rfl
    | some p => obtain ⟨o, h1, _⟩ := hr.obj _ p h; unfold hp at h1; simp at h1
  have hle := Ren.le_set pl' hno
  have hlen : (H.set id .dead).length = H.length := by simp
  have get : ∀ j o, (H.set id .dead ++ [ob'])[j]? = some o → (j = H.length ∧ o = ob') ∨ (j = id ∧ o = .dead) ∨ (j ≠ H.length ∧ j ≠ id ∧ H[j]? = some o) := by
    intro j o hj
    by_cases e : j = H.length
    · subst e
      rw [List.getElem?_append_right (by simp)] at hj
      simp at hj; exact .inl ⟨rfl, hj.symm⟩
    · have hlt : j < H.length := by
        have := (List.getElem?_eq_some_iff.1 hj).1
        simp at this; omega
      rw [List.getElem?_append_left (by simpa using hlt)] at hj
      by_cases e2 : j = id
      · subst e2; rw [List.getElem?_set_self hid] at hj; cases hj; exact .inr (.inl ⟨rfl, rfl⟩)
      · rw [List.getElem?_set_ne (fun h => e2 h.symm)] at hj; exact .inr (.inr ⟨e, e2, hj⟩)
  have old : ∀ j pj, j ≠ H.length → (φ.set H.length pl') j = some pj → φ j = some pj := fun j pj e h => by rwa [Ren.set_ne _ _ e] at h
  have self : ∀ pj, (φ.set H.length pl') H.length = some pj → pj = pl' := fun pj h => by rw [Ren.set_self] at h; cases h; rfl
  refine ⟨⟨?_, ?_, ?_⟩, hle, ⟨hos, htp, hout, by omega, fun b hb hnot => hbl b fun e => hnot id pl ob hφ hH hm e.symm⟩, ?_, ?_, ?_⟩
  · intro j pj hj
    by_cases e : j = H.length
    · subst e
      obtain rfl := self pj hj
      refine ⟨ob', ?_, ho.mono hle rfl⟩
      show (H.set id .dead ++ [ob'])[H.length]? = _
      rw [List.getElem?_append_right (by simp)]; simp
    · have hj' := old j pj e hj
      obtain ⟨o, h1, h2⟩ := hr.obj j pj hj'
      have hlt := (List.getElem?_eq_some_iff.1 (show H[j]? = some o from h1)).1
      by_cases e2 : j = id
      · subst e2
        exact ⟨.dead, by show (H.set _ _ ++ [ob'])[_]? = _; rw [List.getElem?_append_left (by simpa using hlt), List.getElem?_set_self hid], trivial⟩
      · refine ⟨o, by show (H.set _ _ ++ [ob'])[_]? = _; rw [List.getElem?_append_left (by simpa using hlt), List.getElem?_set_ne (fun h => e2 h.symm)]; exact h1, ?_⟩
        by_cases hl : o.live = true
        · have : pj.block ≠ pl.block := fun hh => e2 (hr.sep id j pl pj ob o hφ hj' hH h1 hm hl hh.symm).symm
          exact h2.mono hle (hbl _ this)
        · cases o <;> first | trivial | (simp [MObj.live] at hl)
  · intro j pj hj
    by_cases e : j = H.length
    · subst e; obtain rfl := self pj hj; rw [hbk, hsz]; exact hr.lt id pl hφ
    · rw [hsz]; exact hr.lt j pj (old j pj e hj)
  · intro i j pi pj oi oj hi hj hoi hoj hmi hlj hb
    rcases get i oi hoi with ⟨rfl, rfl⟩ | ⟨rfl, rfl⟩ | ⟨hi1, hi2, hoi'⟩
    · rcases get j oj hoj with ⟨rfl, rfl⟩ | ⟨rfl, rfl⟩ | ⟨hj1, hj2, hoj'⟩
      · rfl
      · simp [MObj.live] at hlj
      · obtain rfl := self pi hi
        exact absurd (hr.sep id j pl pj ob oj hφ (old j pj hj1 hj) hH hoj' hm hlj (by rw [← hbk]; exact hb)).symm hj2
    · simp [MObj.mut] at hmi
    · rcases get j oj hoj with ⟨rfl, rfl⟩ | ⟨rfl, rfl⟩ | ⟨hj1, hj2, hoj'⟩
      · obtain rfl := self pj hj
        exact absurd (hr.sep i id pi pl oi ob (old i pi hi1 hi) hφ hoi' hH hmi hlive (by rw [← hbk]; exact hb)) hi2
      · simp [MObj.live] at hlj
      · exact hr.sep i j pi pj oi oj (old i pi hi1 hi) (old j pj hj1 hj) hoi' hoj' hmi hlj hb
  · intro j pj o' hj ho' hmo hlt
    rcases get j o' ho' with ⟨rfl, rfl⟩ | ⟨rfl, rfl⟩ | ⟨hj1, hj2, hoj'⟩
    · obtain rfl := self pj hj
      exact ⟨id, pl, ob, hφ, hH, hm, hbk.symm⟩
    · simp [MObj.mut] at hmo
    · exact ⟨j, pj, o', old j pj hj1 hj, hoj', hmo, rfl⟩
  · intro j pj hj hnj hlt
    by_cases e : j = H.length
    · subst e; obtain rfl := self pj hj
      exact ⟨id, pl, ob, hφ, hH, hm, hbk.symm⟩
    · have := old j pj e hj; rw [hnj] at this; cases this
  · intro j pj hj
    by_cases e : j = H.length
    · subst e; exact .inr ⟨hno, Nat.le_refl _⟩
    · exact .inl (old j pj e hj)

/-- Of an object nothing more is said. -/
theorem Step.kill {n : Nat} {φ : Ren} {H : MH} {w : World} (hr : HRel φ (hp H) w) (id : Nat) : Step n φ (hp H) w φ (hp (H.set id .dead)) w := by
  have get : ∀ (j : Nat) (o : MObj), (H.set id .dead)[j]? = some o → o = MObj.dead ∨ H[j]? = some o := by
    intro j o hj
    rw [List.getElem?_set] at hj
    split at hj
    · split at hj <;> first | (cases hj; exact .inl rfl) | contradiction
    · exact .inr hj
  refine ⟨⟨fun j pj hj => ?_, hr.lt, fun i j pi pj oi oj hi hj hoi hoj hmi hlj hb => ?_⟩, Ren.le.refl φ, Fr.refl _ _ _, fun j pj o' hj ho' hmo hlt => ?_, fun id pl h1 h2 => (by rw [h2] at h1; cases h1), fun _ _ h => .inl h⟩
  · obtain ⟨o, h1, h2⟩ := hr.obj j pj hj
    by_cases e : j = id
    · subst e
      exact ⟨.dead, by show (H.set _ _)[_]? = _; rw [List.getElem?_set_self (List.getElem?_eq_some_iff.1 (show H[j]? = some o from h1)).1], trivial⟩
    · exact ⟨o, by show (H.set _ _)[_]? = _; rw [List.getElem?_set_ne (fun h => e h.symm)]; exact h1, h2⟩
  · rcases get i oi hoi with rfl | h1
    · simp [MObj.mut] at hmi
    · rcases get j oj hoj with rfl | h2
      · simp [MObj.live] at hlj
      · exact hr.sep i j pi pj oi oj hi hj h1 h2 hmi hlj hb
  · rcases get j o' ho' with rfl | h1
    · simp [MObj.mut] at hmo
    · exact ⟨j, pj, o', hj, h1, hmo, rfl⟩

theorem HRel.drew (h : HRel φ (hp H) w) : HRel φ (hp H) w.drew := h.world (Nat.le_refl _) fun _ _ _ => rfl


theorem rels1' {R : Value → Value → Prop} {x : Value} {ys : List Value} (h : Rels R [x] ys) : ∃ y, ys = [y] ∧ R x y := by
  cases h with | cons h t => cases t; exact ⟨_, rfl, h⟩
theorem rels2' {R : Value → Value → Prop} {x u : Value} {ys : List Value} (h : Rels R [x, u] ys) : ∃ y z, ys = [y, z] ∧ R x y ∧ R u z := by
  cases h with | cons h t => obtain ⟨z, rfl, hz⟩ := rels1' t; exact ⟨_, _, rfl, h, hz⟩
theorem rels3' {R : Value → Value → Prop} {x u a : Value} {ys : List Value} (h : Rels R [x, u, a] ys) : ∃ y z b, ys = [y, z, b] ∧ R x y ∧ R u z ∧ R a b := by
  cases h with | cons h t => obtain ⟨z, b, rfl, hz, hb⟩ := rels2' t; exact ⟨_, _, _, rfl, h, hz, hb⟩
theorem app_ty {c : Call} {e : TypeId} {u : TypeDesc} {n b : Nat} {z : Value} (hd : (c.argTypes[0]?).bind P.underlying = some (.slice e)) (hu : (c.argTypes[1]?).bind P.underlying = some u)
    (hi : isIntD u = false) (hs : szOf P e = some n) (hb : bytesOf' P e = some b) (hz : zeroOf P e = some z) : AppTy P c.argTypes e u n b z := ⟨hd, hi, hu, hs, hb, hz⟩

theorem run_builtin2 {c : Call} {b : Builtin} {x : Value} {w' : World} (ho : o.op = .call c) (hc : c.callee = .builtin b)
    (h : (builtin b c.argTypes o.type (c.args.map fun | .const _ => true | _ => false) (c.args.map ρ)).run P w = .ok (.value x) w') : (execOp ρ o).run P w = .ok (.value x) w' := by
  simp only [execOp, ho, resolve, hc]
  exact h

theorem run_app {c : Call} {x : Value} {w' : World} (ho : o.op = .call c) (hc : c.callee = .builtin .append) (h : (Builtin.append_ c.argTypes o.type (c.args.map ρ)).run P w = .ok x w') : (execOp ρ o).run P w = .ok (.value x) w' := by
  refine run_builtin2 ho hc ?_
  simp only [builtin, Sem.run_bind, h, Result.andThen_ok, Sem.run_pure]

theorem take_all {c : List Value} {n : Nat} (h : c.length = n) : c.take n = c := by rw [← h]; exact List.take_length

/-- A row that has grown. -/
theorem grown_rel {cells : List Value} {rc : Array Value} {e : TypeId} {i : Info} {cs more : List Value} (hr : Rels (CRel φ) cells cs) (w : World) : ORel φ (w.alloc (.cells (cs ++ more).toArray e)) ⟨w.heap.size, 0, (cs ++ more).length, i.es, i.ex⟩ (.cells i cells) := by
  refine ⟨rfl, rfl, (cs ++ more).toArray, e, 0, 0, heap_new .., ?_, by simp, fun j x hx => ?_, fun _ => Nat.le_refl _⟩
  · have := hr.length; simp; omega
  · obtain ⟨y, hy, hrel⟩ := hr.get j x hx
    refine ⟨y, ?_, hrel⟩
    have hlt := (List.getElem?_eq_some_iff.1 hy).1
    simp only [Nat.zero_add, List.getElem?_toArray]
    rw [List.getElem?_append_left hlt]; exact hy

theorem app_sim {c : Call} {e : TypeId} {u : TypeDesc} {n b : Nat} {z : Value} {H' : MH} (ho : o.op = .call c) (hc : c.callee = .builtin .append) (ht : AppTy P c.argTypes e u n b z) (hz : z.cells.toList.length = n)
    (hh : HRel φ (hp H) w) (hr : Rels (VRel φ) vs (c.args.toList.map ρ)) (hm : meff (.app n b) vs H = some (v, H')) : Writes P o ρ w φ H H' v := by
  rw [show c.args.toList.map ρ = (c.args.map ρ).toList by simp] at hr
  generalize hA : (c.args.map ρ).toList = A at hr
  unfold meff at hm
  split at hm <;> first | contradiction | skip
  · -- the nil slice
    rename_i es0 b0 y heq; cases heq
    obtain ⟨x', y', rfl, hx, hy⟩ := rels2' hr
    obtain ⟨a0, a1⟩ := two_args hA
    cases hx
    split at hm <;> first | contradiction | skip
    rename_i m cells hsrc
    obtain ⟨s1, s2, s3⟩ := src_sim (P := P) hh hy hsrc
    split at hm
    · rename_i h0
      cases hm
      subst h0
      obtain ⟨ys, f1, f2⟩ := s3 0 (Nat.le_refl _)
      refine ⟨_, .slice none 0 0, w, φ, run_app ho hc ?_, .inl rfl, .slice0, Step.refl hh⟩
      rw [app_room ht a0 a1 s1 f1 (by omega)]
    · rename_i h0
      split at hm <;> first | contradiction | skip
      rename_i hcond
      cases hm
      obtain ⟨s1', _, s3'⟩ := src_sim (P := P) hh.drew hy hsrc
      obtain ⟨ys, f1, f2⟩ := s3' m (Nat.le_refl _)
      rw [take_all s2] at f2
      obtain ⟨rest, hrun, hrest⟩ := app_grow (olds := []) ht a0 a1 s1 f1 (by simp [Builtin.firstCells]) (by omega) (by omega) hcond.2
      have hge := grownCap_ge w (0 + m) 0 e
      have hz' : z.cells.size = n := by simpa using hz
      refine ⟨_, _, _, _, run_app ho hc hrun, .inl rfl, ?_, Step.push (pl := ⟨w.heap.size, 0, (ys ++ rest.toList).length, n, false⟩) hh (Nat.le_refl _) rfl rfl rfl rfl (by show (w.heap.push _).size = _; simp) (fun k hk => ?_) ?_⟩
      · simp only [Nat.zero_add]
        refine .slice (o := 0) (pl := ⟨w.heap.size, 0, (ys ++ rest.toList).length, n, false⟩) (Ren.set_self ..) (Nat.le_refl _) (by simpa using hge) (fun h => by simp at h) ?_ (fun _ => rfl)
        have := f2.length
        simp only [List.length_append, Array.length_toList, hrest, hz', Nat.zero_add, this, s2] at hge ⊢
        rw [← Nat.add_mul]
        exact Nat.mul_le_mul_right _ (by omega)
      · show (w.heap.push _)[k]? = _
        rw [Array.getElem?_push_lt hk, Array.getElem?_eq_getElem hk]
      · have := grown_rel (more := rest.toList) (e := e) (rc := #[]) (i := ⟨n, true, false⟩) f2 w.drew
        have e1 : (#[] ++ ys.toArray ++ rest : Array Value) = (ys ++ rest.toList).toArray := by apply Array.ext'; simp
        rw [show (List.toArray [] ++ ys.toArray ++ rest : Array Value) = (ys ++ rest.toList).toArray from e1]
        exact this
  · rename_i es0 b0 bb oo len cap y heq; cases heq
    obtain ⟨x', y', rfl, hx, hy⟩ := rels2' hr
    obtain ⟨a0, a1⟩ := two_args hA
    split at hm <;> first | contradiction | skip
    rename_i m cells i cc hsrc hH
    obtain ⟨s1, s2, s3⟩ := src_sim (P := P) hh hy hsrc
    have hx0 := hx
    cases hx with
    | slicee =>
      rename_i a'
      split at hm
      · rename_i h0
        cases hm
        subst h0
        obtain ⟨ys, f1, f2⟩ := s3 0 (Nat.le_refl _)
        have hy0 : ys = [] := List.eq_nil_of_length_eq_zero (by have := f2.length; simpa using this)
        subst hy0
        refine ⟨_, _, w, φ, run_app ho hc ?_, .inl rfl, hx0, Step.refl hh⟩
        rw [app_room ht a0 a1 s1 f1 (by omega)]
        simp [storeCells]
      · rename_i h0
        split at hm <;> first | contradiction | skip
        rename_i hc1
        obtain ⟨hes, hlc⟩ := hc1
        rw [if_neg (by omega)] at hm
        split at hm <;> first | contradiction | skip
        rename_i hc2
        obtain ⟨hsm, hby, hfit, hok⟩ := hc2
        obtain ⟨s1', _, s3'⟩ := src_sim (P := P) hh.drew hy hsrc
        obtain ⟨ys, f1, f2⟩ := s3' m (Nat.le_refl _)
        rw [take_all s2] at f2
        obtain ⟨rest, hrun, hrest⟩ := app_grow (olds := []) ht a0 a1 s1 f1 (by simp only [Builtin.firstCells, Nat.zero_mul]; rfl) (by omega) (by omega) hby
        have hge := grownCap_ge w (0 + m) 0 e
        have hz' : z.cells.size = n := by simpa using hz
        have e1 : (List.toArray [] ++ ys.toArray ++ rest : Array Value) = (ys ++ rest.toList).toArray := by apply Array.ext'; simp
        have st : Step H.length φ (hp H) w (φ.set H.length ⟨w.heap.size, 0, (ys ++ rest.toList).length, n, false⟩) (hp (H ++ [.cells ⟨n, true, false⟩ cells])) (w.drew.alloc (.cells (List.toArray [] ++ ys.toArray ++ rest) e)) := by
          refine Step.push (pl := ⟨w.heap.size, 0, (ys ++ rest.toList).length, n, false⟩) hh (Nat.le_refl _) rfl rfl rfl rfl (by show (w.heap.push _).size = _; simp) (fun k hk => ?_) ?_
          · show (w.heap.push _)[k]? = _
            rw [Array.getElem?_push_lt hk, Array.getElem?_eq_getElem hk]
          · rw [e1]
            exact grown_rel (more := rest.toList) (e := e) (rc := #[]) (i := ⟨n, true, false⟩) f2 w.drew
        have hv : VRel (φ.set H.length ⟨w.heap.size, 0, (ys ++ rest.toList).length, n, false⟩) (.slice (some ⟨H.length, 0, none⟩) (0 + m) (0 + m)) (.slice (some ⟨w.heap.size, 0, none⟩) (0 + m) (grownCap w (0 + m) 0 e)) := by
          refine .slice (o := 0) (pl := ⟨w.heap.size, 0, (ys ++ rest.toList).length, n, false⟩) (Ren.set_self ..) (Nat.le_refl _) hge (fun h => by simp at h) ?_ (fun _ => rfl)
          have := f2.length
          simp only [List.length_append, Array.length_toList, hrest, hz', Nat.zero_add, this, s2] at hge ⊢
          rw [← Nat.add_mul]
          exact Nat.mul_le_mul_right _ (by omega)
        have htk : (cc.drop oo).take (0 * n) ++ cells = cells := by simp
        rw [htk] at hm
        split at hm
        · cases hm
          exact ⟨_, _, _, _, run_app ho hc hrun, .inl rfl, hv, st⟩
        · split at hm <;> first | contradiction | skip
          cases hm
          refine ⟨_, _, _, _, run_app ho hc hrun, .inl rfl, hv, ?_⟩
          have st2 := st.trans (Step.kill (n := H.length) st.rel bb) (Nat.le_refl _)
          rw [List.set_append_left _ _ (List.getElem?_eq_some_iff.1 hH).1] at st2
          exact st2
    | slice hφ hn hcc hex hroom ha =>
    rename_i cap' b' pl
    split at hm
    · rename_i h0
      cases hm
      subst h0
      obtain ⟨ys, f1, f2⟩ := s3 0 (Nat.le_refl _)
      have hy0 : ys = [] := List.eq_nil_of_length_eq_zero (by have := f2.length; simpa using this)
      subst hy0
      refine ⟨_, _, w, φ, run_app ho hc ?_, .inl rfl, hx0, Step.refl hh⟩
      rw [app_room ht a0 a1 s1 f1 (by omega)]
      simp [storeCells]
    · rename_i h0
      split at hm <;> first | contradiction | skip
      rename_i hc1
      obtain ⟨hes, hlc⟩ := hc1
      have hrow := hh.cells hφ hH
      have hpe : pl.es = n := by rw [← hrow.1, hes]
      have hpx : pl.ex = i.ex := hrow.2.1.symm
      split at hm
      · -- room that is known of
        rename_i hroom2
        split at hm <;> first | contradiction | skip
        rename_i hc2
        obtain ⟨hrw, hfit, hok⟩ := hc2
        cases hm
        obtain ⟨ys, f1, f2⟩ := s3 m (Nat.le_refl _)
        rw [take_all s2] at f2
        have hb' := ha (by omega)
        subst hb'
        have hlen : (oo + len * n) + cells.length ≤ cc.length := by rw [s2, Nat.add_assoc, ← Nat.add_mul]; exact hfit
        obtain ⟨w', hrun, hstep⟩ := rowWrite (P := P) (n := H.length) (off := oo + len * n) hh hφ hH hrw hlen f2 (f2.okc hok)
        refine ⟨_, .slice (some ⟨pl.block, pl.base + oo, none⟩) (len + m) cap', w', φ, run_app ho hc ?_, .inl rfl, .slice hφ hroom2 hcc hex hroom ha, hstep⟩
        rw [app_room ht a0 a1 s1 f1 (by omega)]
        simp only [Addr.add_eq]
        rw [Nat.add_assoc, hrun]
        rfl
      · rename_i hroom2
        split at hm <;> first | contradiction | skip
        rename_i hc2
        obtain ⟨hsm, hby, hfit, hok⟩ := hc2
        -- the row grows, or goes on where it lies
        have growth : cap' < len + m → ∃ rest olds ys, Rels (CRel φ) ((cc.drop oo).take (len * n)) olds ∧ Rels (CRel φ) cells ys ∧
            (execOp ρ o).run P w = .ok (.value (.slice (some ⟨w.heap.size, 0, none⟩) (len + m) (grownCap w (len + m) cap' e))) (w.drew.alloc (.cells (olds ++ ys ++ rest).toArray e)) ∧
            rest.length = (grownCap w (len + m) cap' e - (len + m)) * n := by
          intro hgr
          obtain ⟨_, _, s3'⟩ := src_sim (P := P) hh.drew hy hsrc
          obtain ⟨ys, f1, f2⟩ := s3' m (Nat.le_refl _)
          rw [take_all s2] at f2
          have hold : ∃ olds : List Value, (Builtin.firstCells n len (.slice (some ⟨pl.block, b', none⟩) len cap')).run P w.drew = .ok olds.toArray w.drew ∧ Rels (CRel φ) ((cc.drop oo).take (len * n)) olds := by
            by_cases hl0 : len = 0
            · subst hl0
              refine ⟨[], ?_, by simp; exact .nil⟩
              simp only [Builtin.firstCells, Nat.zero_mul]
              rfl
            · have hb' := ha (by omega)
              subst hb'
              obtain ⟨zs, g1, g2⟩ := (hh.drew.cells hφ hH).row (P := P) oo (len * n) hfit
              exact ⟨zs, by simp only [Builtin.firstCells]; exact g1, g2⟩
          obtain ⟨olds, o1, o2⟩ := hold
          obtain ⟨rest, hrun, hrest⟩ := app_grow ht a0 a1 s1 f1 o1 hgr hsm hby
          have hz' : z.cells.size = n := by simpa using hz
          refine ⟨rest.toList, olds, ys, o2, f2, ?_, by simpa [hz'] using hrest⟩
          rw [run_app ho hc hrun]
          congr 3
          apply Array.ext'; simp
        have hge := grownCap_ge w (len + m) cap' e
        have grown : cap' < len + m → ∃ nx v' w' pl', (execOp ρ o).run P w = .ok nx w' ∧ nx = .value v' ∧ VRel (φ.set H.length pl') (.slice (some ⟨H.length, 0, none⟩) (len + m) (len + m)) v' ∧ pl'.block = w.heap.size ∧ pl'.es = n ∧
            w'.os = w.os ∧ w'.tape = w.tape ∧ w'.output = w.output ∧ w'.heap.size = w.heap.size + 1 ∧ (∀ k, k < w.heap.size → w'.heap[k]? = w.heap[k]?) ∧ ORel φ w' pl' (.cells ⟨n, true, false⟩ ((cc.drop oo).take (len * n) ++ cells)) := by
          intro hgr
          obtain ⟨rest, olds, ys, r1, r2, hrun, hrest⟩ := growth hgr
          have hll := r1.length
          have hly := r2.length
          refine ⟨_, _, _, ⟨w.heap.size, 0, (olds ++ ys ++ rest).length, n, false⟩, hrun, rfl, ?_, rfl, rfl, rfl, rfl, rfl, by show (w.heap.push _).size = _; simp, fun k hk => ?_, grown_rel (w := w.drew) (rc := #[]) (i := ⟨n, true, false⟩) (r1.append r2)⟩
          · refine .slice (o := 0) (pl := ⟨w.heap.size, 0, (olds ++ ys ++ rest).length, n, false⟩) (Ren.set_self ..) (Nat.le_refl _) hge (fun h => by simp at h) ?_ (fun _ => rfl)
            simp only [List.length_append, hrest, hll, hly, s2, List.length_take, List.length_drop, Nat.zero_add]
            rw [Nat.min_eq_left (by omega), ← Nat.add_mul, ← Nat.add_mul]
            exact Nat.mul_le_mul_right _ (by omega)
          · show (w.heap.push _)[k]? = _
            rw [Array.getElem?_push_lt hk, Array.getElem?_eq_getElem hk]
        split at hm
        · rename_i hexi
          cases hm
          have hcap := hex (by rw [hpx]; exact hexi)
          obtain ⟨nx, v', w', pl', h1, h2, h3, h4, h5, h6, h7, h8, h9, h10, h11⟩ := grown (by omega)
          exact ⟨nx, v', w', _, h1, .inl h2, h3, Step.push hh (Nat.le_refl _) h4 h6 h7 h8 h9 h10 h11⟩
        · rename_i hexi
          split at hm <;> first | contradiction | skip
          rename_i hc3
          obtain ⟨hrw, htail⟩ := hc3
          cases hm
          by_cases hgr : cap' < len + m
          · obtain ⟨nx, v', w', pl', h1, h2, h3, h4, h5, h6, h7, h8, h9, h10, h11⟩ := grown hgr
            refine ⟨nx, v', w', _, h1, .inl h2, h3, ?_⟩
            have st := Step.push (n := H.length) hh (Nat.le_refl _) h4 h6 h7 h8 h9 h10 h11
            have st2 := st.trans (Step.kill (n := H.length) st.rel bb) (Nat.le_refl _)
            rw [List.set_append_left _ _ (List.getElem?_eq_some_iff.1 hH).1] at st2
            exact st2
          · have hb' := ha (by omega)
            subst hb'
            obtain ⟨ys, f1, f2⟩ := s3 m (Nat.le_refl _)
            rw [take_all s2] at f2
            obtain ⟨q1, q2, rc, elem, lo, hi, q3, q4, q5, q6, q7⟩ := hrow
            have hly := f2.length
            have hcapn : (len + m) * n ≤ cap' * n := Nat.mul_le_mul_right _ (by omega)
            rw [Nat.add_mul] at hcapn
            rw [hpe] at hroom
            obtain ⟨rc', g1, g2, g3⟩ := storeCells_sim (P := P) ys (pl.base + oo + len * n) 0 rc w q3 (by omega) (f2.okc hok) (fun j a b => by
              have := q7 hrw
              omega)
            have hlt := (Array.getElem?_eq_some_iff.1 q3).1
            refine ⟨_, .slice (some ⟨pl.block, pl.base + oo, none⟩) (len + m) cap', setRow' w pl.block rc' elem lo hi, φ.set H.length ⟨pl.block, pl.base + oo, pl.room - oo, n, false⟩, run_app ho hc ?_, .inl rfl, ?_,
              Step.move (pl' := ⟨pl.block, pl.base + oo, pl.room - oo, n, false⟩) hh hφ hH (by simpa [MObj.mut] using hrw) rfl rfl rfl rfl (by simp [setRow']) (fun k hk => setRow'_ne hk) ⟨rfl, rfl, rc', elem, lo, hi, setRow'_heap hlt, ?_, ?_, ?_, ?_⟩⟩
            · rw [app_room ht a0 a1 s1 f1 (by omega)]
              simp only [Addr.add_eq]
              rw [g1]
              rfl
            · refine .slice (o := 0) (pl := ⟨pl.block, pl.base + oo, pl.room - oo, n, false⟩) (Ren.set_self ..) (Nat.le_refl _) (by omega) (fun h => by simp at h) ?_ (fun _ => rfl)
              simp only [Nat.zero_add]
              omega
            · simp only [List.length_append, List.length_take, List.length_drop]
              omega
            · simp only []
              omega
            · intro j x hx
              have g := g3 (pl.base + oo + j)
              simp only [Nat.add_zero] at g
              simp only []
              have hl1 : ((cc.drop oo).take (len * n)).length = len * n := by simp; omega
              by_cases hj : j < len * n
              · rw [List.getElem?_append_left (by omega), List.getElem?_take_of_lt hj, List.getElem?_drop] at hx
                rw [if_neg (by omega)] at g
                obtain ⟨y2, hy2, hr2⟩ := q6 _ x hx
                exact ⟨y2, by rw [g, Nat.add_assoc]; exact hy2, hr2⟩
              · rw [List.getElem?_append_right (by omega), hl1] at hx
                obtain ⟨y2, hy2, hr2⟩ := f2.get _ x hx
                have := (List.getElem?_eq_some_iff.1 hx).1
                rw [if_pos (by omega), show pl.base + oo + j - (pl.base + oo + len * n) = j - len * n by omega] at g
                exact ⟨y2, by rw [g]; exact hy2, hr2⟩
            · exact fun _ => q7 hrw

/-- As many noughts behind, where there is no room. -/
theorem app_growz {ts : Array TypeId} {ty e : TypeId} {k k' : IntKind} {n b m sLen sCap : Nat} {z : Value} {base : Option Addr} {args : Array Value} {olds : List Value} (hd : (ts[0]?).bind P.underlying = some (.slice e)) (hu : (ts[1]?).bind P.underlying = some (.int k))
    (hs0 : szOf P e = some n) (hb0 : bytesOf' P e = some b) (hz0 : zeroOf P e = some z) (hzn : z.cells.toList.length = n) (h0 : args[0]? = some (.slice base sLen sCap)) (h1 : args[1]? = some (.int k' (m : Int)))
    (ho : (Builtin.firstCells n sLen (.slice base sLen sCap)).run P w.drew = .ok olds.toArray w.drew) (hg : sCap < sLen + m) (hsm : sLen + m ≤ 4294967296) (hb : b ≤ 4096) :
    ∃ rest, (Builtin.append_ ts ty args).run P w = .ok (.slice (some ⟨w.heap.size, 0, none⟩) (sLen + m) (grownCap w (sLen + m) sCap e)) (w.drew.alloc (.cells (olds.toArray ++ (List.replicate m z.cells.toList).flatten.toArray ++ rest) e)) ∧
      rest.size = (grownCap w (sLen + m) sCap e - (sLen + m)) * z.cells.size := by
  obtain ⟨t0, e0, u0⟩ := bind_some hd
  obtain ⟨t1, e1, u1⟩ := bind_some hu
  obtain ⟨i, hi, hib⟩ : ∃ i, P.info? e = some i ∧ i.bytes = b := by
    unfold bytesOf' at hb0
    cases hh : P.info? e with
    | none => simp [hh] at hb0
    | some i => exact ⟨i, rfl, by simpa [hh] using hb0⟩
  have hz := (zeroOf_sim (P := P) (w := w.drew) (φ := fun _ => none) hz0).1
  have hfit : Builtin.nextslicecap (sLen + m) sCap * b ≤ 281474976710656 := by
    refine growslice_fits hg ?_
    exact Nat.le_trans (Nat.mul_le_mul hsm hb) (by decide)
  have hn : ¬ (sLen + m ≤ sCap) := by omega
  have h63 : ¬ (((sLen + m : Nat) : Int) > IntKind.i64.max ∧ (True ∨ i.bytes = 0)) := by
    rw [show IntKind.i64.max = 9223372036854775807 from by decide]; omega
  refine ⟨Builtin.zeroCells z.cells (grownCap w (sLen + m) sCap e - (sLen + m)), ?_, by simp [Builtin.zeroCells]⟩
  have hti : ∀ w : World, (typeInfo e).run P w = .ok i w := fun w => by simp [typeInfo, hi]
  have hdd : ({ w with drawn := w.drawn + 1 } : World) = w.drew := rfl
  have hfit' : ¬ (Builtin.nextslicecap (sLen + m) sCap * i.bytes > 2 ^ 48) := by rw [hib]; omega
  have hs := szOf_sim (w := w) hs0
  have hwr : IntKind.i64.wrap (m : Int) = (m : Int) := by
    unfold IntKind.wrap
    simp only [IntKind.signed, IntKind.bits]
    simp
    omega
  have hneg : ¬ ((m : Int) < 0) := by omega
  have hbig : ¬ ((m : Int) * ((i.bytes : Nat) : Int) > 2 ^ 48) := by
    have h2 : m * b ≤ 4294967296 * 4096 := Nat.mul_le_mul (by omega) hb
    rw [hib, show ((m : Int) * (b : Int)) = ((m * b : Nat) : Int) by simp]
    omega
  have hzr : (Builtin.zeroCells z.cells m) = (List.replicate m z.cells.toList).flatten.toArray := by
    apply Array.ext'
    unfold Builtin.zeroCells
    rw [show z.cells.size = n by simpa using hzn, ← zeros_row z.cells n m hzn]
    simp [show z.cells.size = n by simpa using hzn]
  by_cases hmz : m * n = 0
  · have hnil : (List.replicate m z.cells.toList).flatten = [] := by
      apply List.eq_nil_of_length_eq_zero
      rw [flat_length, hzn, hmz]
    rw [hnil]
    simp only [Builtin.append_, e0, e1, h0, h1, Sem.run_bind, run_underlying u0, run_underlying u1, Result.andThen_ok, hs, Sem.run_pure, if_true, asInt, asIntOf, hwr, hneg, if_false, hti, hbig, Int.toNat_natCast, hn, hmz, Bool.not_true, Bool.false_eq_true]
    rw [if_neg (by simpa using h63)]
    simp only [Sem.run_bind, hti, Result.andThen_ok, if_neg hfit', run_choose, Question.forced, Bool.false_eq_true, if_false, run_askRoom, hdd, ho, hz, newRow, run_newObj, Sem.run_pure]
    rfl
  · rw [← hzr]
    simp only [Builtin.append_, e0, e1, h0, h1, Sem.run_bind, run_underlying u0, run_underlying u1, Result.andThen_ok, hs, Sem.run_pure, if_true, asInt, asIntOf, hwr, hneg, if_false, hti, hbig, Int.toNat_natCast, hn, hmz, Bool.not_true, Bool.false_eq_true]
    rw [if_neg (by simpa using h63)]
    simp only [Sem.run_bind, hti, Result.andThen_ok, if_neg hfit', run_choose, Question.forced, Bool.false_eq_true, if_false, run_askRoom, hdd, ho, hz, newRow, run_newObj, Sem.run_pure]
    rfl
theorem appz_sim {c : Call} {e : TypeId} {u : TypeDesc} {n b : Nat} {z : Value} {H' : MH} (ho : o.op = .call c) (hc : c.callee = .builtin .append) (hd : (c.argTypes[0]?).bind P.underlying = some (.slice e)) (hu : (c.argTypes[1]?).bind P.underlying = some u)
    (hi : isIntD u = true) (hs : szOf P e = some n) (hb : bytesOf' P e = some b) (hz : zeroOf P e = some z) (hzl : z.cells.toList.length = n)
    (hh : HRel φ (hp H) w) (hr : Rels (VRel φ) vs (c.args.toList.map ρ)) (hm : meff (.appz n b z.cells.toList) vs H = some (v, H')) : Writes P o ρ w φ H H' v := by
  rw [show c.args.toList.map ρ = (c.args.map ρ).toList by simp] at hr
  generalize hA : (c.args.map ρ).toList = A at hr
  obtain ⟨k, rfl⟩ : ∃ k, u = .int k := by cases u <;> first | exact ⟨_, rfl⟩ | (simp [isIntD] at hi)
  unfold meff at hm
  split at hm <;> first | contradiction | skip
  rename_i es0 b0 z0 bb oo len cap kk m heq; cases heq
  obtain ⟨x', y', rfl, hx, hy⟩ := rels2' hr
  obtain ⟨a0, a1⟩ := two_args hA
  split at hm <;> first | contradiction | skip
  rename_i i cc hH
  split at hm <;> first | contradiction | skip
  rename_i hcond
  obtain ⟨hm0, hes, hexi, hlc, hgr, hsm, hby, hfit, hz2⟩ := hcond
  cases hm
  cases hy
  obtain ⟨m, rfl⟩ := Int.eq_ofNat_of_zero_le hm0
  simp only [Int.toNat_natCast] at *
  obtain ⟨hz1, hz3⟩ := zeroOf_sim (w := w) (φ := φ) hz
  have hzz : Rels (CRel φ) (List.replicate m z.cells.toList).flatten (List.replicate m z.cells.toList).flatten := (rels_flatten hz3.cells m).imp fun _ _ => .inr
  have fin : ∀ (base : Option Addr) (cap' : Nat) (olds : List Value), x' = .slice base len cap' → cap' < len + m → (Builtin.firstCells n len (.slice base len cap')).run P w.drew = .ok olds.toArray w.drew → Rels (CRel φ) ((cc.drop oo).take (len * n)) olds →
      Writes P o ρ w φ H (H ++ [.cells ⟨n, true, false⟩ ((cc.drop oo).take (len * n) ++ (List.replicate m z.cells.toList).flatten)]) (.slice (some ⟨H.length, 0, none⟩) (len + m) (len + m)) := by
    intro base cap' olds hx' hg ho' r1
    subst hx'
    obtain ⟨rest, hrun, hrest⟩ := app_growz (ty := o.type) hd hu hs hb hz hzl a0 a1 ho' hg hsm hby
    have hge := grownCap_ge w (len + m) cap' e
    have hz' : z.cells.size = n := by simpa using hzl
    have hll := r1.length
    have hfl := flat_length z.cells.toList m
    rw [hzl] at hfl
    have e1 : (olds.toArray ++ (List.replicate m z.cells.toList).flatten.toArray ++ rest : Array Value) = (olds ++ (List.replicate m z.cells.toList).flatten ++ rest.toList).toArray := by apply Array.ext'; simp
    rw [e1] at hrun
    refine ⟨_, _, _, _, run_app ho hc hrun, .inl rfl, ?_, Step.push (pl := ⟨w.heap.size, 0, (olds ++ (List.replicate m z.cells.toList).flatten ++ rest.toList).length, n, false⟩) hh (Nat.le_refl _) rfl rfl rfl rfl (by show (w.heap.push _).size = _; simp) (fun k hk => ?_) ?_⟩
    · refine .slice (o := 0) (pl := ⟨w.heap.size, 0, (olds ++ (List.replicate m z.cells.toList).flatten ++ rest.toList).length, n, false⟩) (Ren.set_self ..) (Nat.le_refl _) hge (fun h => by simp at h) ?_ (fun _ => rfl)
      simp only [List.length_append, Array.length_toList, hrest, hz', hll, hfl, List.length_take, List.length_drop, Nat.zero_add]
      rw [Nat.min_eq_left (by omega), ← Nat.add_mul, ← Nat.add_mul]
      exact Nat.mul_le_mul_right _ (by omega)
    · show (w.heap.push _)[k]? = _
      rw [Array.getElem?_push_lt hk, Array.getElem?_eq_getElem hk]
    · exact grown_rel (more := rest.toList) (e := e) (rc := #[]) (i := ⟨n, true, false⟩) (r1.append hzz) w.drew
  cases hx with
  | slicee =>
    refine fin _ 0 [] rfl (by omega) ?_ (by simp; exact .nil)
    simp only [Builtin.firstCells, Nat.zero_mul]
    rfl
  | slice hφ hn hcc hex hroom ha =>
    rename_i cap' b' pl
    have hrow := hh.cells hφ hH
    have hcap : cap' = cap := hex (by rw [← hrow.2.1]; exact hexi)
    by_cases hl0 : len = 0
    · subst hl0
      refine fin _ cap' [] rfl (by omega) ?_ (by simp; exact .nil)
      simp only [Builtin.firstCells, Nat.zero_mul]
      rfl
    · have hb' := ha (by omega)
      subst hb'
      obtain ⟨zs, g1, g2⟩ := (hh.drew.cells hφ hH).row (P := P) oo (len * n) hfit
      exact fin _ cap' zs rfl (by omega) (by simp only [Builtin.firstCells]; exact g1) g2
end
end Go.Mod

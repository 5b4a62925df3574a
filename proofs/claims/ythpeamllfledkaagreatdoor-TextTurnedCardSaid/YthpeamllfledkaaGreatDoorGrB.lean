/- append, copy, clear, and maps that are written. -/
import Derived.Test.YthpeamllfledkaaGreatDoorGrA
import Derived.Laws.AppendOwn
import Derived.Conc.LoneSelect
import Derived.Orders
set_option linter.unusedVariables false
set_option linter.unusedSimpArgs false
namespace Go.Mod
variable [Glob]
set_option linter.unusedSectionVars false

section
variable {P : Program} {o : Oper} {ρ : Operand → Value} {w : World} {φ : Ren} {vs : List Value} {v : Value} {op : MOp} {xs : List Operand} {H : MH}

theorem take_drop_take (c : List Value) (o a b : Nat) (h : a ≤ b) : ((c.drop o).take b).take a = (c.drop o).take a := by
  rw [List.take_take, Nat.min_eq_left h]

/-- The source of an append, of a copy. -/
theorem src_sim {es n : Nat} {c : List Value} {y y' : Value} (hh : HRel φ (hp H) w) (hy : VRel φ y y') (hs : srcCells es H y = some (n, c)) :
    (Builtin.lenOf y').run P w = .ok n w ∧ c.length = n * es ∧ ∀ m, m ≤ n → ∃ ys, (Builtin.firstCells es m y').run P w = .ok ys.toArray w ∧ Rels (CRel φ) (c.take (m * es)) ys := by
  unfold srcCells at hs
  split at hs <;> first | contradiction | skip
  · cases hs
    cases hy
    exact ⟨rfl, by simp, fun m hm => ⟨[], rfl, by simp; exact .nil⟩⟩
  · rename_i b o0 n0 cap0
    split at hs <;> first | contradiction | skip
    rename_i i c0 hH
    split at hs <;> first | contradiction | skip
    rename_i hl
    cases hs
    cases hy with
    | slicee =>
      refine ⟨rfl, by simp, fun m hm => ⟨[], ?_, by simp; exact .nil⟩⟩
      have : m = 0 := by omega
      subst this
      simp only [Builtin.firstCells, Nat.zero_mul]
      rfl
    | slice hφ hn hc hex hroom ha =>
    refine ⟨rfl, by simp; omega, fun m hm => ?_⟩
    have hmn : m * es ≤ n * es := Nat.mul_le_mul_right _ hm
    by_cases h0 : m = 0
    · subst h0
      refine ⟨[], ?_, by simp; exact .nil⟩
      simp only [Builtin.firstCells, Nat.zero_mul]
      rfl
    · have hb := ha (by omega)
      subst hb
      obtain ⟨ys, hrun, hrel⟩ := (hh.cells hφ hH).row (P := P) o0 (m * es) (by omega)
      refine ⟨ys, ?_, by rw [take_drop_take _ _ _ _ hmn]; exact hrel⟩
      simp only [Builtin.firstCells, hrun]
  · split at hs <;> first | contradiction | skip
    rename_i s hes
    cases hs
    cases hy
    subst hes
    refine ⟨rfl, by rw [List.length_map, Array.length_toList, Nat.mul_one]; rfl, fun m hm => ⟨(s.data.toList.map fun b => Value.int .u8 b.toNat).take m, ?_, ?_⟩⟩
    · simp only [Builtin.firstCells, Sem.run_pure]
      congr 1
      apply Array.ext'
      rw [Array.toList_map, ByteArray.data_extract, Array.toList_extract]
      simp [List.extract, List.map_take]
    · rw [Nat.mul_one]
      refine (Rels.refl fun x hx => ?_).imp fun _ _ => .inr
      obtain ⟨b, _, rfl⟩ := List.mem_map.1 (List.mem_of_mem_take hx)
      exact .int ..

theorem two_args {c : Call} {x' y' : Value} (h : (c.args.map ρ).toList = [x', y']) : (c.args.map ρ)[0]? = some x' ∧ (c.args.map ρ)[1]? = some y' := by
  have h0 := congrArg (fun l => l[0]?) h
  have h1 := congrArg (fun l => l[1]?) h
  exact ⟨by simpa using h0, by simpa using h1⟩

structure AppTy (P : Program) (ts : Array TypeId) (e : TypeId) (u : TypeDesc) (n b : Nat) (z : Value) : Prop where
  d : (ts[0]?).bind P.underlying = some (.slice e)
  i : isIntD u = false
  u : (ts[1]?).bind P.underlying = some u
  s : szOf P e = some n
  b : bytesOf' P e = some b
  z : zeroOf P e = some z

theorem bind_some {ts : Array TypeId} {i : Nat} {d : TypeDesc} (h : (ts[i]?).bind P.underlying = some d) : ∃ t, ts[i]? = some t ∧ P.underlying t = some d := by
  cases hh : ts[i]? with
  | none => simp [hh] at h
  | some t => exact ⟨t, rfl, by simpa [hh] using h⟩

theorem app_room {ts : Array TypeId} {ty e : TypeId} {u : TypeDesc} {n b m sLen sCap : Nat} {z y' : Value} {base : Option Addr} {args : Array Value} {ys : List Value} (ht : AppTy P ts e u n b z) (h0 : args[0]? = some (.slice base sLen sCap)) (h1 : args[1]? = some y')
    (hl : (Builtin.lenOf y').run P w = .ok m w) (hf : (Builtin.firstCells n m y').run P w = .ok ys.toArray w) (hr : sLen + m ≤ sCap) :
    (Builtin.append_ ts ty args).run P w = match base with
      | none => .ok (.slice none (sLen + m) sCap) w
      | some a => ((storeCells (a.add (sLen * n)) ys).run P w).andThen fun _ w' => .ok (.slice (some a) (sLen + m) sCap) w' := by
  obtain ⟨t0, e0, u0⟩ := bind_some ht.d
  obtain ⟨t1, e1, u1⟩ := bind_some ht.u
  have hi := ht.i
  have hs := szOf_sim (w := w) ht.s
  clear ht
  cases u <;> first
    | (simp [isIntD] at hi; done)
    | (simp only [Builtin.append_, e0, e1, h0, h1, Sem.run_bind, run_underlying u0, run_underlying u1, Result.andThen_ok, hs, Sem.run_pure, Bool.false_eq_true, if_false, hl, hr, if_true, Bool.not_false, hf]
       cases base <;> first | rfl | (simp only [Sem.run_bind, Sem.run_pure]))

theorem app_grow {ts : Array TypeId} {ty e : TypeId} {u : TypeDesc} {n b m sLen sCap : Nat} {z y' : Value} {base : Option Addr} {args : Array Value} {olds ys : List Value} (ht : AppTy P ts e u n b z) (h0 : args[0]? = some (.slice base sLen sCap)) (h1 : args[1]? = some y')
    (hl : (Builtin.lenOf y').run P w = .ok m w) (hf : (Builtin.firstCells n m y').run P w.drew = .ok ys.toArray w.drew) (ho : (Builtin.firstCells n sLen (.slice base sLen sCap)).run P w.drew = .ok olds.toArray w.drew)
    (hg : sCap < sLen + m) (hsm : sLen + m ≤ 4294967296) (hb : b ≤ 4096) :
    ∃ rest, (Builtin.append_ ts ty args).run P w = .ok (.slice (some ⟨w.heap.size, 0, none⟩) (sLen + m) (grownCap w (sLen + m) sCap e)) (w.drew.alloc (.cells (olds.toArray ++ ys.toArray ++ rest) e)) ∧
      rest.size = (grownCap w (sLen + m) sCap e - (sLen + m)) * z.cells.size := by
  obtain ⟨t0, e0, u0⟩ := bind_some ht.d
  obtain ⟨t1, e1, u1⟩ := bind_some ht.u
  obtain ⟨i, hi, hib⟩ : ∃ i, P.info? e = some i ∧ i.bytes = b := by
    have := ht.b; unfold bytesOf' at this
    cases hh : P.info? e with
    | none => simp [hh] at this
    | some i => exact ⟨i, rfl, by simpa [hh] using this⟩
  have hz := (zeroOf_sim (P := P) (w := w.drew) (φ := fun _ => none) ht.z).1
  have hfit : Builtin.nextslicecap (sLen + m) sCap * b ≤ 281474976710656 := by
    refine growslice_fits hg ?_
    exact Nat.le_trans (Nat.mul_le_mul hsm hb) (by decide)
  have hn : ¬ (sLen + m ≤ sCap) := by omega
  have h63 : ¬ (((sLen + m : Nat) : Int) > IntKind.i64.max ∧ (False ∨ i.bytes = 0)) := by
    rw [show IntKind.i64.max = 9223372036854775807 from by decide]; omega
  refine ⟨Builtin.zeroCells z.cells (grownCap w (sLen + m) sCap e - (sLen + m)), ?_, size_zeroCells' z.cells _⟩
  have hti : ∀ w : World, (typeInfo e).run P w = .ok i w := fun w => by simp [typeInfo, hi]
  have hd : ({ w with drawn := w.drawn + 1 } : World) = w.drew := rfl
  have hfit' : ¬ (Builtin.nextslicecap (sLen + m) sCap * i.bytes > 2 ^ 48) := by rw [hib]; omega
  have hii := ht.i
  have hs := szOf_sim (w := w) ht.s
  clear ht
  cases u <;> first
    | (simp [isIntD] at hii; done)
    | (simp only [Builtin.append_, e0, e1, h0, h1, Sem.run_bind, run_underlying u0, run_underlying u1, Result.andThen_ok, hs, Sem.run_pure, Bool.false_eq_true, if_false, hl, hn, hti]
       rw [if_neg h63, Sem.run_bind, hti, Result.andThen_ok, if_neg hfit']
       simp only [Sem.run_bind, run_choose, Question.forced, Bool.false_eq_true, if_false, Result.andThen_ok, run_askRoom, hti, hd, hf, ho, hz, newRow, run_newObj, Sem.run_pure, Bool.not_false, if_true]
       rfl)
where
  size_zeroCells' (z : Array Value) (n : Nat) : (Builtin.zeroCells z n).size = n * z.size := by simp [Builtin.zeroCells]

/-- A slice that is appended to goes where it lay: the model gives it a new number, the old one is dead. -/
theorem Step.move {φ : Ren} {H : MH} {w w' : World} {id : Nat} {pl pl' : Place} {ob ob' : MObj} (hr : HRel φ (hp H) w) (hφ : φ id = some pl) (hH : H[id]? = some ob) (hm : ob.mut = true) (hbk : pl'.block = pl.block)
    (hos : w'.os = w.os) (htp : w'.tape = w.tape) (hout : w'.output = w.output) (hsz : w'.heap.size = w.heap.size) (hbl : ∀ b, b ≠ pl.block → w'.heap[b]? = w.heap[b]?) (ho : ORel φ w' pl' ob') :
    Step H.length φ (hp H) w (φ.set H.length pl') (hp (H.set id .dead ++ [ob'])) w' := by
  have hid : id < H.length := (List.getElem?_eq_some_iff.1 hH).1
  have hlive : ob.live = true := by cases ob <;> first | rfl | (simp [MObj.mut] at hm)
  have hno : φ H.length = none := by
    cases h : φ H.length with
    | none => rfl
    | some p => obtain ⟨o, h1, _⟩ := hr.obj _ p h; unfold hp at h1; simp at h1
  have hle := Ren.le_set pl' hno
  have hlen : (H.set id .dead).length = H.length := by simp
  have get : ∀ j o, (H.set id .dead ++ [ob'])[j]? = some o → (j = H.length ∧ o = ob') ∨ (j = id ∧ o = .dead) ∨ (j ≠ H.length ∧ j ≠ id ∧ H[j]? = some o) := by
    intro j o hj
    by_cases e : j = H.length
    · subst e
      rw [List.getElem?_append_right (by simp)] at hj
      simp at hj; exact .inl ⟨rfl, hj.symm⟩
    · have hlt : j < H.length := by
        have := (List.getElem?_eq_some_iff.1 hj).1
        simp at this; omega
      rw [List.getElem?_append_left (by simpa using hlt)] at hj
      by_cases e2 : j = id
      · subst e2; rw [List.getElem?_set_self hid] at hj; cases hj; exact .inr (.inl ⟨rfl, rfl⟩)
      · rw [List.getElem?_set_ne (fun h => e2 h.symm)] at hj; exact .inr (.inr ⟨e, e2, hj⟩)
  have old : ∀ j pj, j ≠ H.length → (φ.set H.length pl') j = some pj → φ j = some pj := fun j pj e h => by rwa [Ren.set_ne _ _ e] at h
  have self : ∀ pj, (φ.set H.length pl') H.length = some pj → pj = pl' := fun pj h => by rw [Ren.set_self] at h; cases h; rfl
  refine ⟨⟨?_, ?_, ?_, fun b o hG => ⟨(hbl b fun e => (hr.glob b o hG).2 id pl ob hφ hH hm e.symm).trans (hr.glob b o hG).1, fun j pj oj hj hoj hmj => by
    rcases get j oj hoj with ⟨rfl, rfl⟩ | ⟨rfl, rfl⟩ | ⟨hj1, hj2, hoj'⟩
    · obtain rfl := self pj hj; rw [hbk]; exact (hr.glob b o hG).2 id pl ob hφ hH hm
    · simp [MObj.mut] at hmj
    · exact (hr.glob b o hG).2 j pj oj (old j pj hj1 hj) hoj' hmj⟩⟩, hle, ⟨hos, htp, hout, by omega, fun b hb hnot => hbl b fun e => hnot id pl ob hφ hH hm e.symm⟩, ?_, ?_, ?_⟩
  · intro j pj hj
    by_cases e : j = H.length
    · subst e
      obtain rfl := self pj hj
      refine ⟨ob', ?_, ho.mono hle rfl⟩
      show (H.set id .dead ++ [ob'])[H.length]? = _
      rw [List.getElem?_append_right (by simp)]; simp
    · have hj' := old j pj e hj
      obtain ⟨o, h1, h2⟩ := hr.obj j pj hj'
      have hlt := (List.getElem?_eq_some_iff.1 (show H[j]? = some o from h1)).1
      by_cases e2 : j = id
      · subst e2
        exact ⟨.dead, by show (H.set _ _ ++ [ob'])[_]? = _; rw [List.getElem?_append_left (by simpa using hlt), List.getElem?_set_self hid], trivial⟩
      · refine ⟨o, by show (H.set _ _ ++ [ob'])[_]? = _; rw [List.getElem?_append_left (by simpa using hlt), List.getElem?_set_ne (fun h => e2 h.symm)]; exact h1, ?_⟩
        by_cases hl : o.live = true
        · have : pj.block ≠ pl.block := fun hh => e2 (hr.sep id j pl pj ob o hφ hj' hH h1 hm hl hh.symm).symm
          exact h2.mono hle (hbl _ this)
        · cases o <;> first | trivial | (simp [MObj.live] at hl)
  · intro j pj hj
    by_cases e : j = H.length
    · subst e; obtain rfl := self pj hj; rw [hbk, hsz]; exact hr.lt id pl hφ
    · rw [hsz]; exact hr.lt j pj (old j pj e hj)
  · intro i j pi pj oi oj hi hj hoi hoj hmi hlj hb
    rcases get i oi hoi with ⟨rfl, rfl⟩ | ⟨rfl, rfl⟩ | ⟨hi1, hi2, hoi'⟩
    · rcases get j oj hoj with ⟨rfl, rfl⟩ | ⟨rfl, rfl⟩ | ⟨hj1, hj2, hoj'⟩
      · rfl
      · simp [MObj.live] at hlj
      · obtain rfl := self pi hi
        exact absurd (hr.sep id j pl pj ob oj hφ (old j pj hj1 hj) hH hoj' hm hlj (by rw [← hbk]; exact hb)).symm hj2
    · simp [MObj.mut] at hmi
    · rcases get j oj hoj with ⟨rfl, rfl⟩ | ⟨rfl, rfl⟩ | ⟨hj1, hj2, hoj'⟩
      · obtain rfl := self pj hj
        exact absurd (hr.sep i id pi pl oi ob (old i pi hi1 hi) hφ hoi' hH hmi hlive (by rw [← hbk]; exact hb)) hi2
      · simp [MObj.live] at hlj
      · exact hr.sep i j pi pj oi oj (old i pi hi1 hi) (old j pj hj1 hj) hoi' hoj' hmi hlj hb
  · intro j pj o' hj ho' hmo hlt
    rcases get j o' ho' with ⟨rfl, rfl⟩ | ⟨rfl, rfl⟩ | ⟨hj1, hj2, hoj'⟩
    · obtain rfl := self pj hj
      exact ⟨id, pl, ob, hφ, hH, hm, hbk.symm⟩
    · simp [MObj.mut] at hmo
    · exact ⟨j, pj, o', old j pj hj1 hj, hoj', hmo, rfl⟩
  · intro j pj hj hnj hlt
    by_cases e : j = H.length
    · subst e; obtain rfl := self pj hj
      exact ⟨id, pl, ob, hφ, hH, hm, hbk.symm⟩
    · have := old j pj e hj; rw [hnj] at this; cases this
  · intro j pj hj
    by_cases e : j = H.length
    · subst e; exact .inr ⟨hno, Nat.le_refl _⟩
    · exact .inl (old j pj e hj)

/-- Of an object nothing more is said. -/
theorem Step.kill {n : Nat} {φ : Ren} {H : MH} {w : World} (hr : HRel φ (hp H) w) (id : Nat) : Step n φ (hp H) w φ (hp (H.set id .dead)) w := by
  have get : ∀ (j : Nat) (o : MObj), (H.set id .dead)[j]? = some o → o = MObj.dead ∨ H[j]? = some o := by
    intro j o hj
    rw [List.getElem?_set] at hj
    split at hj
    · split at hj <;> first | (cases hj; exact .inl rfl) | contradiction
    · exact .inr hj
  refine ⟨⟨fun j pj hj => ?_, hr.lt, fun i j pi pj oi oj hi hj hoi hoj hmi hlj hb => ?_, fun b o hG => ⟨(hr.glob b o hG).1, fun j pj oj hj hoj hmj => by
    rcases get j oj hoj with rfl | h1
    · simp [MObj.mut] at hmj
    · exact (hr.glob b o hG).2 j pj oj hj h1 hmj⟩⟩, Ren.le.refl φ, Fr.refl _ _ _, fun j pj o' hj ho' hmo hlt => ?_, fun id pl h1 h2 => (by rw [h2] at h1; cases h1), fun _ _ h => .inl h⟩
  · obtain ⟨o, h1, h2⟩ := hr.obj j pj hj
    by_cases e : j = id
    · subst e
      exact ⟨.dead, by show (H.set _ _)[_]? = _; rw [List.getElem?_set_self (List.getElem?_eq_some_iff.1 (show H[j]? = some o from h1)).1], trivial⟩
    · exact ⟨o, by show (H.set _ _)[_]? = _; rw [List.getElem?_set_ne (fun h => e h.symm)]; exact h1, h2⟩
  · rcases get i oi hoi with rfl | h1
    · simp [MObj.mut] at hmi
    · rcases get j oj hoj with rfl | h2
      · simp [MObj.live] at hlj
      · exact hr.sep i j pi pj oi oj hi hj h1 h2 hmi hlj hb
  · rcases get j o' ho' with rfl | h1
    · simp [MObj.mut] at hmo
    · exact ⟨j, pj, o', hj, h1, hmo, rfl⟩

theorem HRel.drew (h : HRel φ (hp H) w) : HRel φ (hp H) w.drew := h.world (Nat.le_refl _) (fun _ _ _ => rfl) fun _ _ _ => rfl


theorem rels1' {R : Value → Value → Prop} {x : Value} {ys : List Value} (h : Rels R [x] ys) : ∃ y, ys = [y] ∧ R x y := by
  cases h with | cons h t => cases t; exact ⟨_, rfl, h⟩
theorem rels2' {R : Value → Value → Prop} {x u : Value} {ys : List Value} (h : Rels R [x, u] ys) : ∃ y z, ys = [y, z] ∧ R x y ∧ R u z := by
  cases h with | cons h t => obtain ⟨z, rfl, hz⟩ := rels1' t; exact ⟨_, _, rfl, h, hz⟩
theorem rels3' {R : Value → Value → Prop} {x u a : Value} {ys : List Value} (h : Rels R [x, u, a] ys) : ∃ y z b, ys = [y, z, b] ∧ R x y ∧ R u z ∧ R a b := by
  cases h with | cons h t => obtain ⟨z, b, rfl, hz, hb⟩ := rels2' t; exact ⟨_, _, _, rfl, h, hz, hb⟩
theorem app_ty {c : Call} {e : TypeId} {u : TypeDesc} {n b : Nat} {z : Value} (hd : (c.argTypes[0]?).bind P.underlying = some (.slice e)) (hu : (c.argTypes[1]?).bind P.underlying = some u)
    (hi : isIntD u = false) (hs : szOf P e = some n) (hb : bytesOf' P e = some b) (hz : zeroOf P e = some z) : AppTy P c.argTypes e u n b z := ⟨hd, hi, hu, hs, hb, hz⟩

theorem run_builtin2 {c : Call} {b : Builtin} {x : Value} {w' : World} (ho : o.op = .call c) (hc : c.callee = .builtin b)
    (h : (builtin b c.argTypes o.type (c.args.map fun | .const _ => true | _ => false) (c.args.map ρ)).run P w = .ok (.value x) w') : (execOp ρ o).run P w = .ok (.value x) w' := by
  simp only [execOp, ho, resolve, hc]
  exact h

theorem run_app {c : Call} {x : Value} {w' : World} (ho : o.op = .call c) (hc : c.callee = .builtin .append) (h : (Builtin.append_ c.argTypes o.type (c.args.map ρ)).run P w = .ok x w') : (execOp ρ o).run P w = .ok (.value x) w' := by
  refine run_builtin2 ho hc ?_
  simp only [builtin, Sem.run_bind, h, Result.andThen_ok, Sem.run_pure]

theorem take_all {c : List Value} {n : Nat} (h : c.length = n) : c.take n = c := by rw [← h]; exact List.take_length

/-- A row that has grown. -/
theorem grown_rel {cells : List Value} {rc : Array Value} {e : TypeId} {i : Info} {cs more : List Value} (hr : Rels (CRel φ) cells cs) (w : World) (hel : i.ex.el = none ∨ (i.ex.el = some e ∧ i.es ≠ 0)) : ORel φ (w.alloc (.cells (cs ++ more).toArray e)) ⟨w.heap.size, 0, (cs ++ more).length, i.es, i.ex⟩ (.cells i cells) := by
  refine ⟨rfl, rfl, (cs ++ more).toArray, e, 0, 0, heap_new .., ?_, by simp, fun j x hx => ?_, fun _ => .inl (Nat.le_refl _), fun t h => by
    rcases hel with g | ⟨g, g0⟩ <;> rw [g] at h <;> cases h
    exact ⟨rfl, fun h0 => absurd h0 g0⟩⟩
  · have := hr.length; simp; omega
  · obtain ⟨y, hy, hrel⟩ := hr.get j x hx
    refine ⟨y, ?_, hrel⟩
    have hlt := (List.getElem?_eq_some_iff.1 hy).1
    simp only [Nat.zero_add, List.getElem?_toArray]
    rw [List.getElem?_append_left hlt]; exact hy

theorem mapp_sim {c : Call} {e : TypeId} {u : TypeDesc} {n b : Nat} {x : Exa} (hon : x.on = false) (hel : x.el = none ∨ (x.el = some e ∧ n ≠ 0)) {z : Value} {H' : MH} (ho : o.op = .call c) (hc : c.callee = .builtin .append) (ht : AppTy P c.argTypes e u n b z) (hz : z.cells.toList.length = n)
    (hh : HRel φ (hp H) w) (hr : Rels (VRel φ) vs (c.args.toList.map ρ)) (hm : mapp n b x vs H = some (v, H')) : Writes P o ρ w φ H H' v := by
  rw [show c.args.toList.map ρ = (c.args.map ρ).toList by simp] at hr
  generalize hA : (c.args.map ρ).toList = A at hr
  have hxt : x ≠ ((true : Bool) : Exa) := fun h => by rw [h] at hon; cases hon
  unfold mapp at hm
  split at hm <;> first | contradiction | skip
  · -- the nil slice
    rename_i y
    obtain ⟨x', y', rfl, hx, hy⟩ := rels2' hr
    obtain ⟨a0, a1⟩ := two_args hA
    cases hx
    split at hm <;> first | contradiction | skip
    rename_i m cells hsrc
    obtain ⟨s1, s2, s3⟩ := src_sim (P := P) hh hy hsrc
    split at hm
    · rename_i h0
      cases hm
      subst h0
      obtain ⟨ys, f1, f2⟩ := s3 0 (Nat.le_refl _)
      refine ⟨_, .slice none 0 0, w, φ, run_app ho hc ?_, .inl rfl, .slice0, Step.refl hh⟩
      rw [app_room ht a0 a1 s1 f1 (by omega)]
    · rename_i h0
      split at hm <;> first | contradiction | skip
      rename_i hcond
      cases hm
      obtain ⟨s1', _, s3'⟩ := src_sim (P := P) hh.drew hy hsrc
      obtain ⟨ys, f1, f2⟩ := s3' m (Nat.le_refl _)
      rw [take_all s2] at f2
      obtain ⟨rest, hrun, hrest⟩ := app_grow (olds := []) ht a0 a1 s1 f1 (by simp [Builtin.firstCells]) (by omega) (by omega) hcond.2
      have hge := grownCap_ge w (0 + m) 0 e
      have hz' : z.cells.size = n := by simpa using hz
      refine ⟨_, _, _, _, run_app ho hc hrun, .inl rfl, ?_, Step.push (pl := ⟨w.heap.size, 0, (ys ++ rest.toList).length, n, x⟩) hh (Nat.le_refl _) rfl rfl rfl rfl (by show (w.heap.push _).size = _; simp) (fun k hk => ?_) ?_⟩
      · simp only [Nat.zero_add]
        refine .slice (o := 0) (pl := ⟨w.heap.size, 0, (ys ++ rest.toList).length, n, x⟩) (Ren.set_self ..) (Nat.le_refl _) (by simpa using hge) (fun h => absurd h hxt) ?_ (fun _ => rfl)
        have := f2.length
        simp only [List.length_append, Array.length_toList, hrest, hz', Nat.zero_add, this, s2] at hge ⊢
        rw [← Nat.add_mul]
        exact Nat.mul_le_mul_right _ (by omega)
      · show (w.heap.push _)[k]? = _
        rw [Array.getElem?_push_lt hk, Array.getElem?_eq_getElem hk]
      · have := grown_rel (more := rest.toList) (e := e) (rc := #[]) (i := ⟨n, true, x⟩) f2 w.drew hel
        have e1 : (#[] ++ ys.toArray ++ rest : Array Value) = (ys ++ rest.toList).toArray := by apply Array.ext'; simp
        rw [show (List.toArray [] ++ ys.toArray ++ rest : Array Value) = (ys ++ rest.toList).toArray from e1]
        exact this
  · rename_i bb oo len cap y
    obtain ⟨x', y', rfl, hx, hy⟩ := rels2' hr
    obtain ⟨a0, a1⟩ := two_args hA
    split at hm <;> first | contradiction | skip
    rename_i m cells i cc hsrc hH
    obtain ⟨s1, s2, s3⟩ := src_sim (P := P) hh hy hsrc
    have hx0 := hx
    cases hx with
    | slicee =>
      rename_i a'
      split at hm
      · rename_i h0
        cases hm
        subst h0
        obtain ⟨ys, f1, f2⟩ := s3 0 (Nat.le_refl _)
        have hy0 : ys = [] := List.eq_nil_of_length_eq_zero (by have := f2.length; simpa using this)
        subst hy0
        refine ⟨_, _, w, φ, run_app ho hc ?_, .inl rfl, hx0, Step.refl hh⟩
        rw [app_room ht a0 a1 s1 f1 (by omega)]
        simp [storeCells]
      · rename_i h0
        split at hm <;> first | contradiction | skip
        rename_i hc1
        obtain ⟨hes, hlc⟩ := hc1
        rw [if_neg (by omega)] at hm
        split at hm <;> first | contradiction | skip
        rename_i hc2
        obtain ⟨hsm, hby, hfit, hok⟩ := hc2
        obtain ⟨s1', _, s3'⟩ := src_sim (P := P) hh.drew hy hsrc
        obtain ⟨ys, f1, f2⟩ := s3' m (Nat.le_refl _)
        rw [take_all s2] at f2
        obtain ⟨rest, hrun, hrest⟩ := app_grow (olds := []) ht a0 a1 s1 f1 (by simp only [Builtin.firstCells, Nat.zero_mul]; rfl) (by omega) (by omega) hby
        have hge := grownCap_ge w (0 + m) 0 e
        have hz' : z.cells.size = n := by simpa using hz
        have e1 : (List.toArray [] ++ ys.toArray ++ rest : Array Value) = (ys ++ rest.toList).toArray := by apply Array.ext'; simp
        have st : Step H.length φ (hp H) w (φ.set H.length ⟨w.heap.size, 0, (ys ++ rest.toList).length, n, x⟩) (hp (H ++ [.cells ⟨n, true, x⟩ cells])) (w.drew.alloc (.cells (List.toArray [] ++ ys.toArray ++ rest) e)) := by
          refine Step.push (pl := ⟨w.heap.size, 0, (ys ++ rest.toList).length, n, x⟩) hh (Nat.le_refl _) rfl rfl rfl rfl (by show (w.heap.push _).size = _; simp) (fun k hk => ?_) ?_
          · show (w.heap.push _)[k]? = _
            rw [Array.getElem?_push_lt hk, Array.getElem?_eq_getElem hk]
          · rw [e1]
            exact grown_rel (more := rest.toList) (e := e) (rc := #[]) (i := ⟨n, true, x⟩) f2 w.drew hel
        have hv : VRel (φ.set H.length ⟨w.heap.size, 0, (ys ++ rest.toList).length, n, x⟩) (.slice (some ⟨H.length, 0, none⟩) (0 + m) (0 + m)) (.slice (some ⟨w.heap.size, 0, none⟩) (0 + m) (grownCap w (0 + m) 0 e)) := by
          refine .slice (o := 0) (pl := ⟨w.heap.size, 0, (ys ++ rest.toList).length, n, x⟩) (Ren.set_self ..) (Nat.le_refl _) hge (fun h => absurd h hxt) ?_ (fun _ => rfl)
          have := f2.length
          simp only [List.length_append, Array.length_toList, hrest, hz', Nat.zero_add, this, s2] at hge ⊢
          rw [← Nat.add_mul]
          exact Nat.mul_le_mul_right _ (by omega)
        have htk : (cc.drop oo).take (0 * n) ++ cells = cells := by simp
        rw [htk] at hm
        split at hm
        · cases hm
          exact ⟨_, _, _, _, run_app ho hc hrun, .inl rfl, hv, st⟩
        · split at hm <;> first | contradiction | skip
          cases hm
          refine ⟨_, _, _, _, run_app ho hc hrun, .inl rfl, hv, ?_⟩
          have st2 := st.trans (Step.kill (n := H.length) st.rel bb) (Nat.le_refl _)
          rw [List.set_append_left _ _ (List.getElem?_eq_some_iff.1 hH).1] at st2
          exact st2
    | slice hφ hn hcc hex hroom ha =>
    rename_i cap' b' pl
    split at hm
    · rename_i h0
      cases hm
      subst h0
      obtain ⟨ys, f1, f2⟩ := s3 0 (Nat.le_refl _)
      have hy0 : ys = [] := List.eq_nil_of_length_eq_zero (by have := f2.length; simpa using this)
      subst hy0
      refine ⟨_, _, w, φ, run_app ho hc ?_, .inl rfl, hx0, Step.refl hh⟩
      rw [app_room ht a0 a1 s1 f1 (by omega)]
      simp [storeCells]
    · rename_i h0
      split at hm <;> first | contradiction | skip
      rename_i hc1
      obtain ⟨hes, hlc⟩ := hc1
      have hrow := hh.cells hφ hH
      have hpe : pl.es = n := by rw [← hrow.1, hes]
      have hpx : pl.ex = i.ex := hrow.2.1.symm
      split at hm
      · -- room that is known of
        rename_i hroom2
        split at hm <;> first | contradiction | skip
        rename_i hc2
        obtain ⟨hrw, hfit, hok⟩ := hc2
        cases hm
        obtain ⟨ys, f1, f2⟩ := s3 m (Nat.le_refl _)
        rw [take_all s2] at f2
        have hb' := ha (by omega)
        subst hb'
        have hlen : (oo + len * n) + cells.length ≤ cc.length := by rw [s2, Nat.add_assoc, ← Nat.add_mul]; exact hfit
        obtain ⟨w', hrun, hstep⟩ := rowWrite (P := P) (n := H.length) (off := oo + len * n) hh hφ hH hrw hlen f2 (f2.okc hok)
        refine ⟨_, .slice (some ⟨pl.block, pl.base + oo, none⟩) (len + m) cap', w', φ, run_app ho hc ?_, .inl rfl, .slice hφ hroom2 hcc hex hroom ha, hstep⟩
        rw [app_room ht a0 a1 s1 f1 (by omega)]
        simp only [Addr.add_eq]
        rw [Nat.add_assoc, hrun]
        rfl
      · rename_i hroom2
        split at hm <;> first | contradiction | skip
        rename_i hc2
        obtain ⟨hsm, hby, hfit, hok⟩ := hc2
        -- the row grows, or goes on where it lies
        have growth : cap' < len + m → ∃ rest olds ys, Rels (CRel φ) ((cc.drop oo).take (len * n)) olds ∧ Rels (CRel φ) cells ys ∧
            (execOp ρ o).run P w = .ok (.value (.slice (some ⟨w.heap.size, 0, none⟩) (len + m) (grownCap w (len + m) cap' e))) (w.drew.alloc (.cells (olds ++ ys ++ rest).toArray e)) ∧
            rest.length = (grownCap w (len + m) cap' e - (len + m)) * n := by
          intro hgr
          obtain ⟨_, _, s3'⟩ := src_sim (P := P) hh.drew hy hsrc
          obtain ⟨ys, f1, f2⟩ := s3' m (Nat.le_refl _)
          rw [take_all s2] at f2
          have hold : ∃ olds : List Value, (Builtin.firstCells n len (.slice (some ⟨pl.block, b', none⟩) len cap')).run P w.drew = .ok olds.toArray w.drew ∧ Rels (CRel φ) ((cc.drop oo).take (len * n)) olds := by
            by_cases hl0 : len = 0
            · subst hl0
              refine ⟨[], ?_, by simp; exact .nil⟩
              simp only [Builtin.firstCells, Nat.zero_mul]
              rfl
            · have hb' := ha (by omega)
              subst hb'
              obtain ⟨zs, g1, g2⟩ := (hh.drew.cells hφ hH).row (P := P) oo (len * n) hfit
              exact ⟨zs, by simp only [Builtin.firstCells]; exact g1, g2⟩
          obtain ⟨olds, o1, o2⟩ := hold
          obtain ⟨rest, hrun, hrest⟩ := app_grow ht a0 a1 s1 f1 o1 hgr hsm hby
          have hz' : z.cells.size = n := by simpa using hz
          refine ⟨rest.toList, olds, ys, o2, f2, ?_, by simpa [hz'] using hrest⟩
          rw [run_app ho hc hrun]
          congr 3
          apply Array.ext'; simp
        have hge := grownCap_ge w (len + m) cap' e
        have grown : cap' < len + m → ∃ nx v' w' pl', (execOp ρ o).run P w = .ok nx w' ∧ nx = .value v' ∧ VRel (φ.set H.length pl') (.slice (some ⟨H.length, 0, none⟩) (len + m) (len + m)) v' ∧ pl'.block = w.heap.size ∧ pl'.es = n ∧
            w'.os = w.os ∧ w'.tape = w.tape ∧ w'.output = w.output ∧ w'.heap.size = w.heap.size + 1 ∧ (∀ k, k < w.heap.size → w'.heap[k]? = w.heap[k]?) ∧ ORel φ w' pl' (.cells ⟨n, true, x⟩ ((cc.drop oo).take (len * n) ++ cells)) := by
          intro hgr
          obtain ⟨rest, olds, ys, r1, r2, hrun, hrest⟩ := growth hgr
          have hll := r1.length
          have hly := r2.length
          refine ⟨_, _, _, ⟨w.heap.size, 0, (olds ++ ys ++ rest).length, n, x⟩, hrun, rfl, ?_, rfl, rfl, rfl, rfl, rfl, by show (w.heap.push _).size = _; simp, fun k hk => ?_, grown_rel (w := w.drew) (rc := #[]) (i := ⟨n, true, x⟩) (r1.append r2) hel⟩
          · refine .slice (o := 0) (pl := ⟨w.heap.size, 0, (olds ++ ys ++ rest).length, n, x⟩) (Ren.set_self ..) (Nat.le_refl _) hge (fun h => absurd h hxt) ?_ (fun _ => rfl)
            simp only [List.length_append, hrest, hll, hly, s2, List.length_take, List.length_drop, Nat.zero_add]
            rw [Nat.min_eq_left (by omega), ← Nat.add_mul, ← Nat.add_mul]
            exact Nat.mul_le_mul_right _ (by omega)
          · show (w.heap.push _)[k]? = _
            rw [Array.getElem?_push_lt hk, Array.getElem?_eq_getElem hk]
        split at hm
        · rename_i hexi
          cases hm
          have hcap := hex (by rw [hpx]; exact hexi)
          obtain ⟨nx, v', w', pl', h1, h2, h3, h4, h5, h6, h7, h8, h9, h10, h11⟩ := grown (by omega)
          exact ⟨nx, v', w', _, h1, .inl h2, h3, Step.push hh (Nat.le_refl _) h4 h6 h7 h8 h9 h10 h11⟩
        · rename_i hexi
          split at hm <;> first | contradiction | skip
          rename_i hc3
          obtain ⟨hrw, htail, hti⟩ := hc3
          cases hm
          by_cases hgr : cap' < len + m
          · obtain ⟨nx, v', w', pl', h1, h2, h3, h4, h5, h6, h7, h8, h9, h10, h11⟩ := grown hgr
            refine ⟨nx, v', w', _, h1, .inl h2, h3, ?_⟩
            have st := Step.push (n := H.length) hh (Nat.le_refl _) h4 h6 h7 h8 h9 h10 h11
            have st2 := st.trans (Step.kill (n := H.length) st.rel bb) (Nat.le_refl _)
            rw [List.set_append_left _ _ (List.getElem?_eq_some_iff.1 hH).1] at st2
            exact st2
          · have hb' := ha (by omega)
            subst hb'
            obtain ⟨ys, f1, f2⟩ := s3 m (Nat.le_refl _)
            rw [take_all s2] at f2
            obtain ⟨q1, q2, rc, elem, lo, hi, q3, q4, q5, q6, q7⟩ := hrow
            have hly := f2.length
            have hcapn : (len + m) * n ≤ cap' * n := Nat.mul_le_mul_right _ (by omega)
            rw [Nat.add_mul] at hcapn
            rw [hpe] at hroom
            obtain ⟨rc', g1, g2, g3⟩ := storeCells_sim (P := P) ys (pl.base + oo + len * n) 0 rc w q3 (by omega) (f2.okc hok) (fun j a b => by
              have := q7.1 hrw
              omega)
            have hlt := (Array.getElem?_eq_some_iff.1 q3).1
            refine ⟨_, .slice (some ⟨pl.block, pl.base + oo, none⟩) (len + m) cap', setRow' w pl.block rc' elem lo hi, φ.set H.length ⟨pl.block, pl.base + oo, pl.room - oo, n, x⟩, run_app ho hc ?_, .inl rfl, ?_,
              Step.move (pl' := ⟨pl.block, pl.base + oo, pl.room - oo, n, x⟩) hh hφ hH (by simpa [MObj.mut] using hrw) rfl rfl rfl rfl (by simp [setRow']) (fun k hk => setRow'_ne hk) ⟨rfl, rfl, rc', elem, lo, hi, setRow'_heap hlt, ?_, ?_, ?_, ?_⟩⟩
            · rw [app_room ht a0 a1 s1 f1 (by omega)]
              simp only [Addr.add_eq]
              rw [g1]
              rfl
            · refine .slice (o := 0) (pl := ⟨pl.block, pl.base + oo, pl.room - oo, n, x⟩) (Ren.set_self ..) (Nat.le_refl _) (by omega) (fun h => absurd h hxt) ?_ (fun _ => rfl)
              simp only [Nat.zero_add]
              omega
            · simp only [List.length_append, List.length_take, List.length_drop]
              omega
            · simp only []
              omega
            · intro j x hx
              have g := g3 (pl.base + oo + j)
              simp only [Nat.add_zero] at g
              simp only []
              have hl1 : ((cc.drop oo).take (len * n)).length = len * n := by simp; omega
              by_cases hj : j < len * n
              · rw [List.getElem?_append_left (by omega), List.getElem?_take_of_lt hj, List.getElem?_drop] at hx
                rw [if_neg (by omega)] at g
                obtain ⟨y2, hy2, hr2⟩ := q6 _ x hx
                exact ⟨y2, by rw [g, Nat.add_assoc]; exact hy2, hr2⟩
              · rw [List.getElem?_append_right (by omega), hl1] at hx
                obtain ⟨y2, hy2, hr2⟩ := f2.get _ x hx
                have := (List.getElem?_eq_some_iff.1 hx).1
                rw [if_pos (by omega), show pl.base + oo + j - (pl.base + oo + len * n) = j - len * n by omega] at g
                exact ⟨y2, by rw [g]; exact hy2, hr2⟩
            · refine ⟨fun _ => by have := q7.1 hrw; simp only []; omega, fun t ht => ?_⟩
              rcases hti with h | h
              · rw [h] at ht; cases ht
              · refine ⟨(q7.2 t (h.trans ht)).1, fun h0 => ?_⟩
                rcases hel with g | ⟨g, g0⟩
                · rw [show x.el = some t from ht] at g; cases g
                · exact absurd h0 g0

theorem app_sim {c : Call} {e : TypeId} {u : TypeDesc} {n b : Nat} {z : Value} {H' : MH} (ho : o.op = .call c) (hc : c.callee = .builtin .append) (ht : AppTy P c.argTypes e u n b z) (hz : z.cells.toList.length = n)
    (hh : HRel φ (hp H) w) (hr : Rels (VRel φ) vs (c.args.toList.map ρ)) (hm : meff (.app n b) vs H = some (v, H')) : Writes P o ρ w φ H H' v :=
  mapp_sim rfl (.inl rfl) ho hc ht hz hh hr hm
theorem appb_sim {c : Call} {e : TypeId} {u : TypeDesc} {b : Nat} {z : Value} {H' : MH} (ho : o.op = .call c) (hc : c.callee = .builtin .append) (ht : AppTy P c.argTypes e u 1 b z) (hz : z.cells.toList.length = 1)
    (hh : HRel φ (hp H) w) (hr : Rels (VRel φ) vs (c.args.toList.map ρ)) (hm : meff (.appb e b) vs H = some (v, H')) : Writes P o ρ w φ H H' v :=
  mapp_sim rfl (.inr ⟨rfl, by omega⟩) ho hc ht hz hh hr hm

/-- As many noughts behind, where there is no room. -/
theorem app_growz {ts : Array TypeId} {ty e : TypeId} {k k' : IntKind} {n b m sLen sCap : Nat} {z : Value} {base : Option Addr} {args : Array Value} {olds : List Value} (hd : (ts[0]?).bind P.underlying = some (.slice e)) (hu : (ts[1]?).bind P.underlying = some (.int k))
    (hs0 : szOf P e = some n) (hb0 : bytesOf' P e = some b) (hz0 : zeroOf P e = some z) (hzn : z.cells.toList.length = n) (h0 : args[0]? = some (.slice base sLen sCap)) (h1 : args[1]? = some (.int k' (m : Int)))
    (ho : (Builtin.firstCells n sLen (.slice base sLen sCap)).run P w.drew = .ok olds.toArray w.drew) (hg : sCap < sLen + m) (hsm : sLen + m ≤ 4294967296) (hb : b ≤ 4096) :
    ∃ rest, (Builtin.append_ ts ty args).run P w = .ok (.slice (some ⟨w.heap.size, 0, none⟩) (sLen + m) (grownCap w (sLen + m) sCap e)) (w.drew.alloc (.cells (olds.toArray ++ (List.replicate m z.cells.toList).flatten.toArray ++ rest) e)) ∧
      rest.size = (grownCap w (sLen + m) sCap e - (sLen + m)) * z.cells.size := by
  obtain ⟨t0, e0, u0⟩ := bind_some hd
  obtain ⟨t1, e1, u1⟩ := bind_some hu
  obtain ⟨i, hi, hib⟩ : ∃ i, P.info? e = some i ∧ i.bytes = b := by
    unfold bytesOf' at hb0
    cases hh : P.info? e with
    | none => simp [hh] at hb0
    | some i => exact ⟨i, rfl, by simpa [hh] using hb0⟩
  have hz := (zeroOf_sim (P := P) (w := w.drew) (φ := fun _ => none) hz0).1
  have hfit : Builtin.nextslicecap (sLen + m) sCap * b ≤ 281474976710656 := by
    refine growslice_fits hg ?_
    exact Nat.le_trans (Nat.mul_le_mul hsm hb) (by decide)
  have hn : ¬ (sLen + m ≤ sCap) := by omega
  have h63 : ¬ (((sLen + m : Nat) : Int) > IntKind.i64.max ∧ (True ∨ i.bytes = 0)) := by
    rw [show IntKind.i64.max = 9223372036854775807 from by decide]; omega
  refine ⟨Builtin.zeroCells z.cells (grownCap w (sLen + m) sCap e - (sLen + m)), ?_, by simp [Builtin.zeroCells]⟩
  have hti : ∀ w : World, (typeInfo e).run P w = .ok i w := fun w => by simp [typeInfo, hi]
  have hdd : ({ w with drawn := w.drawn + 1 } : World) = w.drew := rfl
  have hfit' : ¬ (Builtin.nextslicecap (sLen + m) sCap * i.bytes > 2 ^ 48) := by rw [hib]; omega
  have hs := szOf_sim (w := w) hs0
  have hwr : IntKind.i64.wrap (m : Int) = (m : Int) := by
    unfold IntKind.wrap
    simp only [IntKind.signed, IntKind.bits]
    simp
    omega
  have hneg : ¬ ((m : Int) < 0) := by omega
  have hbig : ¬ ((m : Int) * ((i.bytes : Nat) : Int) > 2 ^ 48) := by
    have h2 : m * b ≤ 4294967296 * 4096 := Nat.mul_le_mul (by omega) hb
    rw [hib, show ((m : Int) * (b : Int)) = ((m * b : Nat) : Int) by simp]
    omega
  have hzr : (Builtin.zeroCells z.cells m) = (List.replicate m z.cells.toList).flatten.toArray := by
    apply Array.ext'
    unfold Builtin.zeroCells
    rw [show z.cells.size = n by simpa using hzn, ← zeros_row z.cells n m hzn]
    simp [show z.cells.size = n by simpa using hzn]
  by_cases hmz : m * n = 0
  · have hnil : (List.replicate m z.cells.toList).flatten = [] := by
      apply List.eq_nil_of_length_eq_zero
      rw [flat_length, hzn, hmz]
    rw [hnil]
    simp only [Builtin.append_, e0, e1, h0, h1, Sem.run_bind, run_underlying u0, run_underlying u1, Result.andThen_ok, hs, Sem.run_pure, if_true, asInt, asIntOf, hwr, hneg, if_false, hti, hbig, Int.toNat_natCast, hn, hmz, Bool.not_true, Bool.false_eq_true]
    rw [if_neg (by simpa using h63)]
    simp only [Sem.run_bind, hti, Result.andThen_ok, if_neg hfit', run_choose, Question.forced, Bool.false_eq_true, if_false, run_askRoom, hdd, ho, hz, newRow, run_newObj, Sem.run_pure]
    rfl
  · rw [← hzr]
    simp only [Builtin.append_, e0, e1, h0, h1, Sem.run_bind, run_underlying u0, run_underlying u1, Result.andThen_ok, hs, Sem.run_pure, if_true, asInt, asIntOf, hwr, hneg, if_false, hti, hbig, Int.toNat_natCast, hn, hmz, Bool.not_true, Bool.false_eq_true]
    rw [if_neg (by simpa using h63)]
    simp only [Sem.run_bind, hti, Result.andThen_ok, if_neg hfit', run_choose, Question.forced, Bool.false_eq_true, if_false, run_askRoom, hdd, ho, hz, newRow, run_newObj, Sem.run_pure]
    rfl
theorem appz_sim {c : Call} {e : TypeId} {u : TypeDesc} {n b : Nat} {z : Value} {H' : MH} (ho : o.op = .call c) (hc : c.callee = .builtin .append) (hd : (c.argTypes[0]?).bind P.underlying = some (.slice e)) (hu : (c.argTypes[1]?).bind P.underlying = some u)
    (hi : isIntD u = true) (hs : szOf P e = some n) (hb : bytesOf' P e = some b) (hz : zeroOf P e = some z) (hzl : z.cells.toList.length = n)
    (hh : HRel φ (hp H) w) (hr : Rels (VRel φ) vs (c.args.toList.map ρ)) (hm : meff (.appz n b z.cells.toList) vs H = some (v, H')) : Writes P o ρ w φ H H' v := by
  rw [show c.args.toList.map ρ = (c.args.map ρ).toList by simp] at hr
  generalize hA : (c.args.map ρ).toList = A at hr
  obtain ⟨k, rfl⟩ : ∃ k, u = .int k := by cases u <;> first | exact ⟨_, rfl⟩ | (simp [isIntD] at hi)
  unfold meff at hm
  split at hm <;> first | contradiction | skip
  rename_i es0 b0 z0 bb oo len cap kk m heq; cases heq
  obtain ⟨x', y', rfl, hx, hy⟩ := rels2' hr
  obtain ⟨a0, a1⟩ := two_args hA
  split at hm <;> first | contradiction | skip
  rename_i i cc hH
  split at hm <;> first | contradiction | skip
  rename_i hcond
  obtain ⟨hm0, hes, hexi, hlc, hgr, hsm, hby, hfit, hz2⟩ := hcond
  cases hm
  cases hy
  obtain ⟨m, rfl⟩ := Int.eq_ofNat_of_zero_le hm0
  simp only [Int.toNat_natCast] at *
  obtain ⟨hz1, hz3⟩ := zeroOf_sim (w := w) (φ := φ) hz
  have hzz : Rels (CRel φ) (List.replicate m z.cells.toList).flatten (List.replicate m z.cells.toList).flatten := (rels_flatten hz3.cells m).imp fun _ _ => .inr
  have fin : ∀ (base : Option Addr) (cap' : Nat) (olds : List Value), x' = .slice base len cap' → cap' < len + m → (Builtin.firstCells n len (.slice base len cap')).run P w.drew = .ok olds.toArray w.drew → Rels (CRel φ) ((cc.drop oo).take (len * n)) olds →
      Writes P o ρ w φ H (H ++ [.cells ⟨n, true, false⟩ ((cc.drop oo).take (len * n) ++ (List.replicate m z.cells.toList).flatten)]) (.slice (some ⟨H.length, 0, none⟩) (len + m) (len + m)) := by
    intro base cap' olds hx' hg ho' r1
    subst hx'
    obtain ⟨rest, hrun, hrest⟩ := app_growz (ty := o.type) hd hu hs hb hz hzl a0 a1 ho' hg hsm hby
    have hge := grownCap_ge w (len + m) cap' e
    have hz' : z.cells.size = n := by simpa using hzl
    have hll := r1.length
    have hfl := flat_length z.cells.toList m
    rw [hzl] at hfl
    have e1 : (olds.toArray ++ (List.replicate m z.cells.toList).flatten.toArray ++ rest : Array Value) = (olds ++ (List.replicate m z.cells.toList).flatten ++ rest.toList).toArray := by apply Array.ext'; simp
    rw [e1] at hrun
    refine ⟨_, _, _, _, run_app ho hc hrun, .inl rfl, ?_, Step.push (pl := ⟨w.heap.size, 0, (olds ++ (List.replicate m z.cells.toList).flatten ++ rest.toList).length, n, false⟩) hh (Nat.le_refl _) rfl rfl rfl rfl (by show (w.heap.push _).size = _; simp) (fun k hk => ?_) ?_⟩
    · refine .slice (o := 0) (pl := ⟨w.heap.size, 0, (olds ++ (List.replicate m z.cells.toList).flatten ++ rest.toList).length, n, false⟩) (Ren.set_self ..) (Nat.le_refl _) hge (fun h => by simp at h) ?_ (fun _ => rfl)
      simp only [List.length_append, Array.length_toList, hrest, hz', hll, hfl, List.length_take, List.length_drop, Nat.zero_add]
      rw [Nat.min_eq_left (by omega), ← Nat.add_mul, ← Nat.add_mul]
      exact Nat.mul_le_mul_right _ (by omega)
    · show (w.heap.push _)[k]? = _
      rw [Array.getElem?_push_lt hk, Array.getElem?_eq_getElem hk]
    · exact grown_rel (more := rest.toList) (e := e) (rc := #[]) (i := ⟨n, true, false⟩) (r1.append hzz) w.drew (.inl rfl)
  cases hx with
  | slicee =>
    refine fin _ 0 [] rfl (by omega) ?_ (by simp; exact .nil)
    simp only [Builtin.firstCells, Nat.zero_mul]
    rfl
  | slice hφ hn hcc hex hroom ha =>
    rename_i cap' b' pl
    have hrow := hh.cells hφ hH
    have hcap : cap' = cap := hex (by rw [← hrow.2.1]; exact hexi)
    by_cases hl0 : len = 0
    · subst hl0
      refine fin _ cap' [] rfl (by omega) ?_ (by simp; exact .nil)
      simp only [Builtin.firstCells, Nat.zero_mul]
      rfl
    · have hb' := ha (by omega)
      subst hb'
      obtain ⟨zs, g1, g2⟩ := (hh.drew.cells hφ hH).row (P := P) oo (len * n) hfit
      exact fin _ cap' zs rfl (by omega) (by simp only [Builtin.firstCells]; exact g1) g2
end
end Go.Mod
/- copy, clear, maps; all that writes. -/
set_option linter.unusedVariables false
set_option linter.unusedSimpArgs false
namespace Go.Mod
variable [Glob]
set_option linter.unusedSectionVars false

section
variable {P : Program} {o : Oper} {ρ : Operand → Value} {w : World} {φ : Ren} {vs : List Value} {v : Value} {op : MOp} {xs : List Operand} {H : MH}

theorem copy_sim {c : Call} {e : TypeId} {n : Nat} {H' : MH} (ho : o.op = .call c) (hc : c.callee = .builtin .copy) (hd : (c.argTypes[0]?).bind P.underlying = some (.slice e)) (hs : szOf P e = some n)
    (hh : HRel φ (hp H) w) (hr : Rels (VRel φ) vs (c.args.toList.map ρ)) (hm : meff (.copy n) vs H = some (v, H')) : Writes P o ρ w φ H H' v := by
  rw [show c.args.toList.map ρ = (c.args.map ρ).toList by simp] at hr
  generalize hA : (c.args.map ρ).toList = A at hr
  obtain ⟨t0, e0, u0⟩ := bind_some hd
  unfold meff at hm
  split at hm <;> first | contradiction | skip
  rename_i es0 a dl dc y heq; cases heq
  obtain ⟨x', y', rfl, hx, hy⟩ := rels2' hr
  obtain ⟨a0, a1⟩ := two_args hA
  split at hm <;> first | contradiction | skip
  rename_i sn sc hsrc
  obtain ⟨s1, s2, s3⟩ := src_sim (P := P) hh hy hsrc
  simp only [] at hm
  have run : ∀ (base : Option Addr) (cap : Nat) (ys : List Value), x' = .slice base dl cap → (Builtin.firstCells n (min sn dl) y').run P w = .ok ys.toArray w →
      ∀ w', (match base with | some a => (storeCells a ys).run P w | none => .ok () w) = .ok () w' → (execOp ρ o).run P w = .ok (.value (.int .i64 (min sn dl : Nat))) w' := by
    intro base cap ys hx' hf w' hw
    refine run_builtin2 ho hc ?_
    subst hx'
    simp only [builtin, Builtin.copy_, e0, a0, a1, Sem.run_bind, run_underlying u0, Result.andThen_ok, s1, szOf_sim hs, Sem.run_pure]
    rw [show Nat.min sn dl = min sn dl from rfl, hf]
    simp only [Result.andThen_ok]
    cases base with
    | none => simp only [] at hw; cases hw; rfl
    | some a => simp only [] at hw; simp only [Sem.run_bind, hw, Result.andThen_ok, Sem.run_pure]; rfl
  split at hm
  · rename_i h0
    cases hm
    obtain ⟨ys, f1, f2⟩ := s3 (min sn dl) (by omega)
    have hy0 : ys = [] := List.eq_nil_of_length_eq_zero (by have := f2.length; rw [h0] at this; simpa using this)
    subst hy0
    have hrun : (execOp ρ o).run P w = .ok (.value (.int .i64 (min sn dl : Nat))) w := by
      cases hx with
      | slice0 => exact run none 0 [] rfl f1 w rfl
      | slicee => exact run (some _) _ [] rfl f1 w rfl
      | slice hφ hn hcc hex hroom ha => exact run (some _) _ [] rfl f1 w rfl
    rw [h0] at hrun
    exact ⟨_, _, w, φ, hrun, .inl rfl, .int .., Step.refl hh⟩
  · rename_i h0
    split at hm <;> first | contradiction | skip
    rename_i b oo
    split at hm <;> first | contradiction | skip
    rename_i i cc hH
    split at hm <;> first | contradiction | skip
    rename_i hcond
    cases hm
    obtain ⟨hrw, hfit, hok⟩ := hcond
    obtain ⟨ys, f1, f2⟩ := s3 (min sn dl) (by omega)
    cases hx with
    | slicee => omega
    | slice hφ hn hcc hex hroom ha =>
    have hb' := ha (by omega)
    subst hb'
    have hmul : min sn dl * n ≤ sn * n := Nat.mul_le_mul_right _ (by omega)
    obtain ⟨w', hrun, hstep⟩ := rowWrite (P := P) (n := H.length) (off := oo) hh hφ hH hrw (by rw [List.length_take]; omega) f2 (f2.okc hok)
    exact ⟨_, _, w', φ, run (some _) _ ys rfl f1 w' hrun, .inl rfl, .int .., hstep⟩

theorem clear_sim {c : Call} {e : TypeId} {n : Nat} {z : Value} {H' : MH} (ho : o.op = .call c) (hc : c.callee = .builtin .clear) (hd : (c.argTypes[0]?).bind P.underlying = some (.slice e)) (hs : szOf P e = some n) (hz : zeroOf P e = some z)
    (hh : HRel φ (hp H) w) (hr : Rels (VRel φ) vs (c.args.toList.map ρ)) (hm : meff (.clear n z.cells.toList) vs H = some (v, H')) : Writes P o ρ w φ H H' v := by
  rw [show c.args.toList.map ρ = (c.args.map ρ).toList by simp] at hr
  generalize hA : (c.args.map ρ).toList = A at hr
  obtain ⟨t0, e0, u0⟩ := bind_some hd
  obtain ⟨hz1, hz2⟩ := zeroOf_sim (w := w) (φ := φ) hz
  unfold meff at hm
  split at hm <;> first | contradiction | skip
  rename_i es0 z0 a m cp heq; cases heq
  obtain ⟨x', rfl, hx⟩ := rels1' hr
  have a0 := one_arg hA
  split at hm
  · rename_i h0
    cases hm
    subst h0
    refine ⟨.value (.tuple #[]), _, w, φ, run_builtin2 ho hc ?_, .inl rfl, VRel.undef, Step.refl hh⟩
    cases hx with
    | slice0 =>
      simp only [builtin, Builtin.clear_, e0, a0, Sem.run_bind, run_underlying u0, Result.andThen_ok, Sem.run_pure]
    | slicee =>
      simp only [builtin, Builtin.clear_, e0, a0, Sem.run_bind, run_underlying u0, Result.andThen_ok, Sem.run_pure]
    | slice hφ hn hcc hex hroom ha =>
      simp only [builtin, Builtin.clear_, e0, a0, Sem.run_bind, run_underlying u0, Result.andThen_ok, Sem.run_pure]
  · rename_i h0
    split at hm <;> first | contradiction | skip
    rename_i b oo
    split at hm <;> first | contradiction | skip
    rename_i i cc hH
    split at hm <;> first | contradiction | skip
    rename_i hcond
    cases hm
    obtain ⟨hrw, hzl, hfit, hok⟩ := hcond
    cases hx with
    | slicee => omega
    | slice hφ hn hcc hex hroom ha =>
    have hb' := ha (by omega)
    subst hb'
    have hfl : (List.replicate m z.cells.toList).flatten.length = m * n := by rw [flat_length, hzl]
    have hokf : okc (List.replicate m z.cells.toList).flatten = true := by
      unfold okc at hok ⊢
      rw [List.all_eq_true] at hok ⊢
      intro x hx
      rw [List.mem_flatten] at hx
      obtain ⟨l, hl, hxl⟩ := hx
      rw [List.mem_replicate] at hl
      rw [hl.2] at hxl
      exact hok x hxl
    have hrel : Rels (CRel φ) (List.replicate m z.cells.toList).flatten (List.replicate m z.cells.toList).flatten := (rels_flatten hz2.cells m).imp fun _ _ => .inr
    obtain ⟨w', hrun, hstep⟩ := rowWrite (P := P) (n := H.length) (off := oo) hh hφ hH hrw (by rw [hfl]; exact hfit) hrel (okc_flat hokf)
    refine ⟨.value (.tuple #[]), _, w', φ, run_builtin2 ho hc ?_, .inl rfl, VRel.undef, hstep⟩
    obtain ⟨m, rfl⟩ : ∃ k, m = k + 1 := ⟨m - 1, by omega⟩
    have hzc : (Builtin.zeroCells z.cells (m + 1)).toList = (List.replicate (m + 1) z.cells.toList).flatten := by
      have hsz : z.cells.size = n := by simpa using hzl
      have := zeros_row z.cells n (m + 1) hzl
      unfold Builtin.zeroCells
      rw [hsz] at this ⊢
      exact this
    simp only [builtin, Builtin.clear_, e0, a0, Sem.run_bind, run_underlying u0, Result.andThen_ok, Sem.run_pure, hz1, hzc, hrun]

theorem mupd_some {k : Int} {v : Value} : ∀ {es : List (Int × Value)} {j : Nat}, mpos k es = some j → mupd k v es = es.set j (k, v)
  | [], j, h => by simp [mpos] at h
  | (q, x) :: es, j, h => by
    unfold mpos at h
    split at h
    · cases h; rename_i e; subst e; simp [mupd]
    · rename_i e
      obtain ⟨i, hi, rfl⟩ := Option.map_eq_some_iff.1 h
      simp [mupd, e, mupd_some hi]
theorem mupd_none {k : Int} {v : Value} : ∀ {es : List (Int × Value)}, mpos k es = none → mupd k v es = es ++ [(k, v)]
  | [], h => rfl
  | (q, x) :: es, h => by
    unfold mpos at h
    split at h <;> first | contradiction | skip
    rename_i e
    simp at h
    simp [mupd, e, mupd_none h]
theorem mera_some {k : Int} : ∀ {es : List (Int × Value)} {j : Nat}, mpos k es = some j → mera k es = es.eraseIdx j
  | [], j, h => by simp [mpos] at h
  | (q, x) :: es, j, h => by
    unfold mpos at h
    split at h
    · cases h; rename_i e; subst e; simp [mera]
    · rename_i e
      obtain ⟨i, hi, rfl⟩ := Option.map_eq_some_iff.1 h
      simp [mera, e, mera_some hi]
theorem mera_none {k : Int} : ∀ {es : List (Int × Value)}, mpos k es = none → mera k es = es
  | [], h => rfl
  | (q, x) :: es, h => by
    unfold mpos at h
    split at h <;> first | contradiction | skip
    rename_i e
    simp at h
    simp [mera, e, mera_none h]
theorem mpos_key {k : Int} : ∀ {es : List (Int × Value)} {j : Nat}, mpos k es = some j → ∃ x, es[j]? = some (k, x)
  | [], j, h => by simp [mpos] at h
  | (q, x) :: es, j, h => by
    unfold mpos at h
    split at h
    · cases h; rename_i e; subst e; exact ⟨x, by simp⟩
    · obtain ⟨i, hi, rfl⟩ := Option.map_eq_some_iff.1 h
      obtain ⟨y, hy⟩ := mpos_key hi
      exact ⟨y, by simpa using hy⟩

/-- A map's block, written anew. -/
theorem mapWrite {n id : Nat} {pl : Place} {es es' : List (Int × Value)} {en en' : Array MapEntry} {cl cl' : Nat} (hh : HRel φ (hp H) w) (hφ : φ id = some pl) (hH : H[id]? = some (.map es)) (hb : w.heap[pl.block]? = some (.map en cl))
    (he : Ents φ es' en'.toList) : (setObj pl.block (.map en' cl')).run P w = .ok () { w with heap := w.heap.setIfInBounds pl.block (.map en' cl') } ∧
      Step n φ (hp H) w φ (hp (H.set id (.map es'))) { w with heap := w.heap.setIfInBounds pl.block (.map en' cl') } := by
  have hlt := (Array.getElem?_eq_some_iff.1 hb).1
  refine ⟨by simp [setObj, Sem.run, hb], Step.write hh hφ hH rfl rfl rfl rfl rfl (by simp) (fun b hne => by simp only []; rw [Array.getElem?_setIfInBounds_ne (fun e => hne e.symm)]) ⟨en', cl', by simp [hlt], by simpa using he.1, fun j p e hp he' => he.2 j p e hp (by simpa using he')⟩⟩

theorem mset_sim {t kt e : TypeId} {m k x : Operand} {H' : MH} (ho : o.op = .mapUpdate t m k x) (ht : P.underlying t = some (.map kt e)) (hk : P.underlying kt = some (.int .i64))
    (hh : HRel φ (hp H) w) (hr : Rels (VRel φ) vs ([m, k, x].map ρ)) (hm : meff .mset vs H = some (v, H')) : Writes P o ρ w φ H H' v := by
  obtain ⟨a, b, c, rfl, ha, hb, hc⟩ := rels3 hr
  unfold meff at hm
  split at hm <;> first | contradiction | skip
  rename_i b0 kk v0 _ heq; cases heq
  split at hm <;> first | contradiction | skip
  rename_i es hH
  split at hm <;> first | contradiction | skip
  cases hm
  generalize hX : ρ m = x' at ha; generalize hY : ρ k = y' at hb
  cases ha with
  | map hφ =>
  cases hb
  obtain ⟨en, cl, hblk, hen⟩ := ents_of (hh.at hφ hH)
  rename_i pl
  rcases findNow_sim (k0 := .i64) kk es en.toList 0 hen with ⟨h1, h2, h3⟩ | ⟨j, u, u', h1, h2, h3, h4⟩
  · rw [mupd_none h1]
    obtain ⟨g1, g2⟩ := mapWrite (P := P) (n := H.length) (en' := en.push { key := .int .i64 kk, val := ρ x, born := cl }) (cl' := cl + 1) (es' := es ++ [(kk, c)]) hh hφ hH hblk ⟨by simp [hen.1], fun j p f hp hf => by
      simp only [Array.toList_push] at hf
      by_cases hj : j < es.length
      · rw [List.getElem?_append_left hj] at hp
        rw [List.getElem?_append_left (by rw [hen.1]; exact hj)] at hf
        exact hen.2 j p f hp hf
      · rw [List.getElem?_append_right (by omega)] at hp
        rw [List.getElem?_append_right (by rw [hen.1]; omega), hen.1] at hf
        have : j - es.length = 0 := by
          have := (List.getElem?_eq_some_iff.1 hp).1
          simp at this; omega
        rw [this] at hp hf
        simp at hp hf
        subst hp; subst hf
        exact ⟨rfl, hc⟩⟩
    refine ⟨.skip, undef, _, φ, ?_, .inr ⟨rfl, rfl⟩, VRel.undef, g2⟩
    simp only [execOp, ho, hX, hY, Instr.mapUpdate, Sem.run_bind, run_underlying ht, Result.andThen_ok, Sem.run_pure, run_getObj_map hblk, run_checkKey hk _ 9999, Instr.findKey, run_underlying hk, h3, g1]
  · rw [mupd_some h1]
    simp only [Nat.zero_add] at h4
    obtain ⟨x0, hx0⟩ := mpos_key h1
    have hjl := (List.getElem?_eq_some_iff.1 hx0).1
    have hje : j < en.size := by have := hen.1; simp at this; omega
    obtain ⟨e0, he0⟩ : ∃ e0, en[j]? = some e0 := ⟨en[j], Array.getElem?_eq_getElem hje⟩
    have hkey := (hen.2 j _ e0 hx0 (by simpa using he0)).1
    obtain ⟨g1, g2⟩ := mapWrite (P := P) (n := H.length) (en' := en.modify j fun e => { e with key := .int .i64 kk, val := ρ x }) (cl' := cl) (es' := es.set j (kk, c)) hh hφ hH hblk ⟨by simpa using hen.1, fun i p f hp hf => by
      have hf' : (en.modify j fun e => { e with key := .int .i64 kk, val := ρ x })[i]? = some f := by rw [← hf, Array.getElem?_toList]
      rw [Array.getElem?_modify] at hf'
      by_cases e : j = i
      · subst e
        rw [List.getElem?_set_self hjl] at hp
        rw [if_pos rfl, he0] at hf'
        cases hp; cases hf'
        exact ⟨rfl, hc⟩
      · rw [List.getElem?_set_ne e] at hp
        rw [if_neg e] at hf'
        exact hen.2 i p f hp (by simpa using hf')⟩
    refine ⟨.skip, undef, _, φ, ?_, .inr ⟨rfl, rfl⟩, VRel.undef, g2⟩
    simp only [execOp, ho, hX, hY, Instr.mapUpdate, Sem.run_bind, run_underlying ht, Result.andThen_ok, Sem.run_pure, run_getObj_map hblk, run_checkKey hk _ 9999, Instr.findKey, run_underlying hk, h4, he0, Option.map_some, Option.getD_some, hkey]
    have hst : (Instr.keyThatStays (.int .i64 kk) (.int .i64 kk)).run P w = .ok (.int .i64 kk) w := by simp [Instr.keyThatStays, Instr.sameBits]
    rw [hst]
    simp only [Result.andThen_ok, g1]

theorem mdel_sim {c : Call} {kt e : TypeId} {H' : MH} (ho : o.op = .call c) (hc : c.callee = .builtin .delete) (hd : (c.argTypes[0]?).bind P.underlying = some (.map kt e)) (hk : P.underlying kt = some (.int .i64))
    (hh : HRel φ (hp H) w) (hr : Rels (VRel φ) vs (c.args.toList.map ρ)) (hm : meff .mdel vs H = some (v, H')) : Writes P o ρ w φ H H' v := by
  rw [show c.args.toList.map ρ = (c.args.map ρ).toList by simp] at hr
  generalize hA : (c.args.map ρ).toList = A at hr
  obtain ⟨t0, e0, u0⟩ := bind_some hd
  unfold meff at hm
  split at hm <;> first | contradiction | skip
  · cases hm
    obtain ⟨x', y', rfl, hx, hy⟩ := rels2' hr
    obtain ⟨a0, a1⟩ := two_args hA
    cases hx; cases hy
    refine ⟨.value (.tuple #[]), _, w, φ, run_builtin2 ho hc ?_, .inl rfl, VRel.undef, Step.refl hh⟩
    simp only [builtin, Builtin.delete_, e0, a0, a1, Sem.run_bind, run_underlying u0, Result.andThen_ok, Sem.run_pure, run_checkKey hk _ 9999]
  · rename_i b0 kk _
    split at hm <;> first | contradiction | skip
    rename_i es hH
    cases hm
    obtain ⟨x', y', rfl, hx, hy⟩ := rels2' hr
    obtain ⟨a0, a1⟩ := two_args hA
    cases hx with
    | map hφ =>
    cases hy
    obtain ⟨en, cl, hblk, hen⟩ := ents_of (hh.at hφ hH)
    rename_i pl
    rcases findNow_sim (k0 := .i64) kk es en.toList 0 hen with ⟨h1, h2, h3⟩ | ⟨j, u, u', h1, h2, h3, h4⟩
    · rw [mera_none h1]
      obtain ⟨g1, g2⟩ := mapWrite (P := P) (n := H.length) (en' := en) (cl' := cl) (es' := es) hh hφ hH hblk hen
      refine ⟨.value (.tuple #[]), _, _, φ, run_builtin2 ho hc ?_, .inl rfl, VRel.undef, g2⟩
      simp only [builtin, Builtin.delete_, e0, a0, a1, Sem.run_bind, run_underlying u0, Result.andThen_ok, Sem.run_pure, run_getObj_map hblk, run_checkKey hk _ 9999, Instr.findKey, run_underlying hk, h3, g1]
    · rw [mera_some h1]
      simp only [Nat.zero_add] at h4
      obtain ⟨x0, hx0⟩ := mpos_key h1
      have hjl := (List.getElem?_eq_some_iff.1 hx0).1
      have hje : j < en.size := by have := hen.1; simp at this; omega
      obtain ⟨g1, g2⟩ := mapWrite (P := P) (n := H.length) (en' := en.eraseIdxIfInBounds j) (cl' := cl) (es' := es.eraseIdx j) hh hφ hH hblk (by
        have e1 : (en.eraseIdxIfInBounds j).toList = en.toList.eraseIdx j := by simp
        rw [e1]
        refine ⟨by rw [List.length_eraseIdx, List.length_eraseIdx, hen.1], fun i p f hp hf => ?_⟩
        rw [List.getElem?_eraseIdx] at hp hf
        by_cases hi : i < j
        · rw [if_pos hi] at hp hf; exact hen.2 i p f hp hf
        · rw [if_neg hi] at hp hf; exact hen.2 (i + 1) p f hp hf)
      refine ⟨.value (.tuple #[]), _, _, φ, run_builtin2 ho hc ?_, .inl rfl, VRel.undef, g2⟩
      simp only [builtin, Builtin.delete_, e0, a0, a1, Sem.run_bind, run_underlying u0, Result.andThen_ok, Sem.run_pure, run_getObj_map hblk, run_checkKey hk _ 9999, Instr.findKey, run_underlying hk, h4, g1]

/-- A text's bytes as a slice of one's own. -/
theorem s2b_sim {s t e : TypeId} {x : Operand} {H' : MH} (ho : o.op = .convert s t x) (hs : P.underlying s = some .string) (ht : P.underlying t = some (.slice e)) (he : P.underlying e = some (.int .u8))
    (hh : HRel φ (hp H) w) (hr : Rels (VRel φ) vs ([x].map ρ)) (hm : meff .s2b vs H = some (v, H')) : Writes P o ρ w φ H H' v := by
  obtain ⟨y, rfl, hx⟩ := rels1 hr
  unfold meff at hm
  split at hm <;> first | contradiction | skip
  rename_i u h1 h2
  cases h2
  split at hm <;> first | contradiction | skip
  rename_i h0
  cases hm
  generalize hX : ρ x = x' at hx
  cases hx
  -- how much room is drawn
  let cap := grownCap w u.size 0 e
  have hge : u.size ≤ cap := grownCap_ge w u.size 0 e
  let row : Array Value := (u.data.map fun b => Value.int .u8 b.toNat) ++ Array.replicate (cap - u.size) (.int .u8 0)
  have hrs : row.size = cap := by
    have h1 : u.data.size = u.size := rfl
    simp only [row, Array.size_append, Array.size_map, Array.size_replicate, h1]; omega
  have hrun : (execOp ρ o).run P w = .ok (.value (.slice (some ⟨w.heap.size, 0, none⟩) u.size cap)) ((w.drew.alloc (.cells row e)).freeze ⟨w.heap.size, row.size, none⟩ 1) := by
    have hms : (markStringish ⟨w.heap.size, 0, none⟩).run P (w.drew.alloc (.cells row e)) = .ok () ((w.drew.alloc (.cells row e)).freeze ⟨w.heap.size, row.size, none⟩ 1) := by
      have hsh : (w.drew.alloc (.cells row e)).shape? w.heap.size = some (e, row.size) := by
        simp only [World.shape?]
        rw [show (w.drew.alloc (.cells row e)).heap[w.heap.size]? = some (.cells row e) from heap_new w.drew _]
      unfold markStringish
      rw [Sem.run_bind, show (shape w.heap.size).run P (w.drew.alloc (.cells row e)) = .ok ((w.drew.alloc (.cells row e)).shape? w.heap.size) (w.drew.alloc (.cells row e)) from rfl, hsh]
      rfl
    have hcv : (Conv.stringToBytes e u).run P w = .ok (.slice (some ⟨w.heap.size, 0, none⟩) u.size cap) ((w.drew.alloc (.cells row e)).freeze ⟨w.heap.size, row.size, none⟩ 1) := by
      unfold Conv.stringToBytes
      simp only [Sem.run_bind, run_choose, Question.forced, Bool.false_eq_true, if_false, Result.andThen_ok, newRow, run_newObj, Sem.run_pure]
      refine Eq.trans (congrArg (Result.andThen · _) hms) rfl
    simp only [execOp, ho, hX, convert, Sem.run_bind, run_underlying hs, run_underlying ht, Result.andThen_ok, run_underlying he, hcv, Sem.run_pure]
  have hfz : ∀ b, b ≠ w.heap.size → ((w.drew.alloc (.cells row e)).freeze ⟨w.heap.size, row.size, none⟩ 1).heap[b]? = (w.drew.alloc (.cells row e)).heap[b]? := by
    intro b hb
    simp only [World.freeze, Nat.one_ne_zero, if_false]
    rw [Array.getElem?_modify, if_neg (fun h => hb h.symm)]
  have hself : ((w.drew.alloc (.cells row e)).freeze ⟨w.heap.size, row.size, none⟩ 1).heap[w.heap.size]? = some (.cells row e (row.size, row.size + 1)) := by
    simp only [World.freeze, Nat.one_ne_zero, if_false]
    rw [Array.getElem?_modify, if_pos rfl]
    rw [show (w.drew.alloc (.cells row e)).heap[w.heap.size]? = some (.cells row e) from heap_new w.drew _]
    rfl
  have hcl : (u.data.toList.map fun b => Value.int .u8 b.toNat).length = u.size := by
    rw [List.length_map, Array.length_toList]; rfl
  refine ⟨_, _, _, _, hrun, .inl rfl, ?_, Step.push (pl := ⟨w.heap.size, 0, row.size, 1, false⟩) hh (Nat.le_refl _) rfl rfl rfl rfl ?_ (fun k hk => ?_) ⟨rfl, rfl, row, e, row.size, row.size + 1, hself, ?_, by simp, fun j z hz => ?_, fun _ => .inr ⟨by simp, rfl⟩, fun t h => by cases h⟩⟩
  · refine .slice (o := 0) (pl := ⟨w.heap.size, 0, row.size, 1, false⟩) (Ren.set_self ..) (Nat.le_refl _) hge (fun h => by cases h) ?_ (fun _ => rfl)
    simp [hrs]
  · simp only [World.freeze, Nat.one_ne_zero, if_false, Array.size_modify]
    show (w.heap.push _).size = _
    simp
  · rw [hfz k (by omega)]
    show (w.heap.push _)[k]? = _
    rw [Array.getElem?_push_lt hk, Array.getElem?_eq_getElem hk]
  · rw [hcl, hrs]; exact hge
  · have hlt := (List.getElem?_eq_some_iff.1 hz).1
    rw [List.length_map, Array.length_toList] at hlt
    refine ⟨z, ?_, .inr ?_⟩
    · simp only [Nat.zero_add, row]
      rw [Array.getElem?_append_left (by simpa using hlt)]
      rw [Array.getElem?_map]
      rw [List.getElem?_map] at hz
      simpa using hz
    · rw [List.getElem?_map] at hz
      obtain ⟨b, _, rfl⟩ := Option.map_eq_some_iff.1 hz
      exact .int ..

theorem eff_sim {H' : MH} (hc : cOp P o.op = some (op, xs)) (hk : op.kind = .eff) (hh : HRel φ (hp H) w) (hr : Rels (VRel φ) vs (xs.map ρ)) (hm : meff op vs H = some (v, H')) : Writes P o ρ w φ H H' v := by
  have hi := cOp_inv hc
  generalize ho : o.op = oo at hi
  cases hi <;> first | (cases hk; done) | skip
  case pure h => rw [h] at hk; cases hk
  case st hs => exact st_sim ho hs hh hr hm
  case mset hu hk' => exact mset_sim ho hu hk' hh hr hm
  case appz hc' hd hu hi hs hb hz' hl hzl => exact appz_sim ho hc' hd hu hi hs hb hz' hzl hh hr hm
  case app hc' hd hu hi hs hb hz' hl hzl => exact app_sim ho hc' ⟨hd, hi, hu, hs, hb, hz'⟩ hzl hh hr hm
  case appb hc' hd hu hn hi hs hb hz' hl hzl => subst hn; exact appb_sim ho hc' ⟨hd, hi, hu, hs, hb, hz'⟩ hzl hh hr hm
  case s2b hs ht he => exact s2b_sim ho hs ht he hh hr hm
  case copy hc' hd hs hl => exact copy_sim ho hc' hd hs hh hr hm
  case clear hc' hd hs hz hl => exact clear_sim ho hc' hd hs hz hh hr hm
  case mdel hc' hd hk' hl => exact mdel_sim ho hc' hd hk' hh hr hm
end
end Go.Mod
/- One operation as a step of the machine of one goroutine. -/
set_option linter.unusedVariables false
set_option linter.unusedSimpArgs false
namespace Go.Mod
variable [Glob]
set_option linter.unusedSectionVars false

/-! ### registers -/
structure TRel (n : Nat) (φ : Ren) (T : Reg) (tmps : Array Value) : Prop where
  size : n ≤ tmps.size
  get : ∀ t v, rget T t = some v → VRel φ v (tmps.getD t undef)

theorem rget_rput (T : Reg) (t : Nat) (v : Value) (t' : Nat) : rget (rput T t v) t' = if t' = t then some v else rget T t' := by
  induction T with
  | nil => simp [rput, rget]
  | cons p T ih =>
    obtain ⟨u, x⟩ := p
    unfold rput
    split
    · rename_i e; subst e
      simp only [rget]
      split <;> rfl
    · rename_i e
      split
      · simp only [rget]
      · simp only [rget, ih]
        by_cases h : t' = u
        · rw [if_pos h, if_neg (by omega)]; simp [h]
        · simp [h]
theorem rget_rkill {T : Reg} {ks : List Nat} {t : Nat} {v : Value} (h : rget (rkill T ks) t = some v) : rget T t = some v := by
  induction T with
  | nil => simp [rkill, rget] at h
  | cons p T ih =>
    obtain ⟨u, x⟩ := p
    unfold rkill at h
    simp only [rget]
    split at h
    · rename_i hu
      split
      · rename_i e; subst e
        -- the killed register does not answer
        exfalso
        have key : ∀ T : Reg, rget (rkill T ks) t = none := by
          intro T
          induction T with
          | nil => rfl
          | cons q T ihT =>
            obtain ⟨a, b⟩ := q
            unfold rkill
            split
            · exact ihT
            · rename_i hn
              simp only [rget]
              split
              · rename_i e; subst e; rw [hu] at hn; exact absurd rfl hn
              · exact ihT
        rw [key] at h; cases h
      · exact ih h
    · simp only [rget] at h
      split at h
      · rename_i e; rw [if_pos e]; exact h
      · rename_i e; rw [if_neg e]; exact ih h

theorem TRel.mono {n : Nat} {φ ψ : Ren} {T : Reg} {tmps : Array Value} (hle : φ.le ψ) (h : TRel n φ T tmps) : TRel n ψ T tmps := ⟨h.size, fun t v hv => (h.get t v hv).mono hle⟩

theorem TRel.dst {n : Nat} {φ : Ren} {T : Reg} {a : Act} {o : Oper} {m : MOper} {v v' : Value} (h : TRel n φ T a.tmps) (hd : m.dst = o.dst) (hn : cDst n o.dst = true) (hv : VRel φ v v') : TRel n φ (mdst T m v) (a.put o.dst v').tmps := by
  rcases ho : o.dst with _ | d
  · simp only [mdst, Act.put, hd, ho]
    exact ⟨h.size, fun t u hu => h.get t u (rget_rkill hu)⟩
  · simp only [mdst, Act.put, hd, ho]
    simp only [ho, cDst, decide_eq_true_eq] at hn
    refine ⟨by simpa using h.size, fun t u hu0 => ?_⟩
    have hu := rget_rkill hu0
    clear hu0
    rw [rget_rput] at hu
    simp only [Array.getD_eq_getD_getElem?]
    split at hu
    · rename_i e; subst e; cases hu
      rw [Array.getElem?_setIfInBounds_self_of_lt (by have := h.size; omega)]
      exact hv
    · rename_i e
      rw [Array.getElem?_setIfInBounds_ne (fun h => e h.symm)]
      have := h.get t u hu
      simpa [Array.getD_eq_getD_getElem?] using this

theorem arg_sim {n : Nat} {φ : Ren} {T : Reg} {a : Act} {x : Operand} {r : Arg} {v : Value} (h : TRel n φ T a.tmps) (hc : cArg x = some r) (hv : r.ev T = some v) : VRel φ v (a.eval x) := by
  unfold cArg at hc
  split at hc
  · cases hc; exact h.get _ _ hv
  · split at hc <;> first | contradiction | skip
    rename_i hp
    cases hc
    simp only [Arg.ev] at hv; cases hv
    exact VRel.plain hp
  · cases hc
    simp only [Arg.ev] at hv; cases hv
    exact .func _ rfl rfl (fun i x x' hx _ => by simp at hx) (fun i x x' hx _ => by simp at hx)
  · cases hc

theorem args_sim {n : Nat} {φ : Ren} {T : Reg} {a : Act} (h : TRel n φ T a.tmps) : ∀ {xs : List Operand} {as : List Arg} {vs : List Value}, cArgs xs = some as → evs T as = some vs → Rels (VRel φ) vs (xs.map a.eval)
  | [], as, vs, hc, hv => by simp only [cArgs] at hc; cases hc; simp only [evs] at hv; cases hv; exact .nil
  | x :: xs, as, vs, hc, hv => by
    simp only [cArgs] at hc
    split at hc <;> first | contradiction | skip
    rename_i r rs hr hrs
    cases hc
    simp only [evs] at hv
    split at hv <;> first | contradiction | skip
    rename_i v vs' hv1 hv2
    cases hv
    exact .cons (arg_sim h hr hv1) (args_sim h hrs hv2)

theorem want_sim {n : Nat} {φ : Ren} {T : Reg} {a : Act} {ops : Array Oper} {o : Oper} {g : Option (Nat × Bool)} {b : Bool} (h : TRel n φ T a.tmps) (hc : cGuard ops o.guard = some g) (hm : mwant T g = some b) : Region.wanted o (yielded ops a.tmps) = b := by
  unfold Region.wanted
  cases hg : o.guard with
  | none =>
    simp only [hg, cGuard] at hc; cases hc
    simp only [mwant] at hm; cases hm; rfl
  | some p =>
    obtain ⟨j, want⟩ := p
    simp only [hg, cGuard] at hc
    obtain ⟨r, hr, hc⟩ := Option.map_eq_some_iff.1 hc
    cases hc
    simp only [mwant] at hm
    simp only [yielded, hr, Option.bind_some]
    split at hm <;> first | contradiction | skip
    · rename_i x hx
      cases hm
      have hv := h.get r _ hx
      generalize hy : a.tmps.getD r undef = y at hv
      cases hv
      rw [Array.getD_eq_getD_getElem?] at hy
      cases hq : a.tmps[r]? with
      | none => rw [hq] at hy; cases hy
      | some q =>
        rw [hq] at hy; simp only [Option.getD_some] at hy; subst hy
        simp only []
        cases x <;> cases want <;> rfl
    · rename_i hx
      cases hm
      have hv := h.get r _ hx
      generalize hy : a.tmps.getD r undef = y at hv
      cases hv with
      | tuple hs _ =>
      rw [Array.getD_eq_getD_getElem?] at hy
      cases hq : a.tmps[r]? with
      | none => simp
      | some q =>
        rw [hq] at hy; simp only [Option.getD_some] at hy; subst hy
        simp

/-! ### steps -/
def OpJ (P : Program) (ops : Array Oper) (i : Nat) (a : Act) (w : World) (Q : Act → World → Prop) : Prop :=
  ∀ (b : Frame) (k : List Item) (cs : List Frame) (rest : List Nat), ∃ a' w', Q a' w' ∧ Steps P (lone (b.at a (.inRegion ops (i :: rest) :: k)) cs w) (lone (b.at a' (.inRegion ops rest :: k)) cs w')

section
variable {P : Program} {ops : Array Oper} {i : Nat} {o : Oper} {a : Act} {w w' : World} {Q : Act → World → Prop}

theorem OpJ.mono {Q' : Act → World → Prop} (h : OpJ P ops i a w Q) (hq : ∀ a w, Q a w → Q' a w) : OpJ P ops i a w Q' := fun b k cs rest =>
  let ⟨a', w', q, s⟩ := h b k cs rest; ⟨a', w', hq _ _ q, s⟩

theorem finish_at' (ho : ops[i]? = some o) (b : Frame) (k : List Item) (rest : List Nat) (v : Value) : (b.at a (.inRegion ops (i :: rest) :: k)).finish v = b.at (a.put o.dst v) (.inRegion ops rest :: k) := by
  rw [Frame.finish_at, ho]; rfl

theorem OpJ.skip (ho : ops[i]? = some o) (hw : Region.wanted o (yielded ops a.tmps) = false) (h : Q (a.put o.dst undef) w) : OpJ P ops i a w Q := fun b k cs rest => by
  have hs := step_op_skip (P := P) (b := b) (a := a) (k := k) (cs := cs) (w := w) (ops := ops) (i := i) (rest := rest) (by simp [ho]; simpa using hw)
  simp only [ho, Option.bind_some] at hs
  exact ⟨_, w, h, .one hs⟩

theorem OpJ.value {nx : Next} {v : Value} (ho : ops[i]? = some o) (hw : Region.wanted o (yielded ops a.tmps) = true) (hr : (execOp a.eval o).run P w = .ok nx w') (hn : nx = .value v ∨ (nx = .skip ∧ v = undef)) (h : Q (a.put o.dst v) w') : OpJ P ops i a w Q :=
  fun b k cs rest => by
    refine ⟨_, w', h, .one (step_lone_go ?_)⟩
    have hg := stepG_op (P := P) (b := b) (k := k) (cs := cs) (w := w) (rest := rest) ho hw
    rcases hn with rfl | ⟨rfl, rfl⟩
    · rw [hg, ← finish_at' ho]; simp [stepG.apply, hr]
    · rw [hg, ← finish_at' ho]; simp [stepG.apply, hr]

theorem OpJ.enter {f : FuncId} {args : Array Value} {R : Value → World → Prop} (ho : ops[i]? = some o) (hw : Region.wanted o (yielded ops a.tmps) = true) (hr : (execOp a.eval o).run P w = .ok (.enter f args) w)
    (hc : Calls P f args w fun e w' => ∃ v, e = .returned v ∧ R v w') (h : ∀ v w', R v w' → Q (a.put o.dst v) w') : OpJ P ops i a w Q := fun b k cs rest => by
  have hg := stepG_op (P := P) (b := b) (k := k) (cs := cs) (w := w) (rest := rest) ho hw
  obtain ⟨e, w'', fr, ⟨v, rfl, hR⟩, hsteps, _, hleave⟩ := hc (b.at a (.inRegion ops (i :: rest) :: k) :: cs)
  have henter : step P (lone (b.at a (.inRegion ops (i :: rest) :: k)) cs w) = .next (lone (Frame.enter P f args .normal) (b.at a (.inRegion ops (i :: rest) :: k) :: cs) w) :=
    step_lone_go (by rw [hg]; simp [stepG.apply, hr, Frame.at])
  refine ⟨_, w'', h v w'' hR, .head henter (hsteps.trans (.one ?_))⟩
  rw [← finish_at' ho]; exact step_leave_returned hleave

theorem stepG_comm' {b : Frame} {k : List Item} {cs : List Frame} {rest : List Nat} {cases : Array CommCase} {blocking : Bool} {shape : CommShape} (ho : ops[i]? = some o) (hw : Region.wanted o (yielded ops a.tmps) = true) (hr : (execOp a.eval o).run P w = .ok (.comm cases blocking shape) w') :
    ∃ es, stepG P true (Conc.G (b.at a (.inRegion ops (i :: rest) :: k)) cs) w = .comm (Conc.G (b.at a (.inRegion ops (i :: rest) :: k)) cs) cases blocking shape w' es := by
  have hg := stepG_op (P := P) (b := b) (k := k) (cs := cs) (w := w) (rest := rest) ho hw
  have hb : (stepG P true (Conc.G (b.at a (.inRegion ops (i :: rest) :: k)) cs) w).bare = (GStep.comm (Conc.G (b.at a (.inRegion ops (i :: rest) :: k)) cs) cases blocking shape w' #[]).bare := by
    unfold Conc.G
    rw [hg]
    simp [stepG.apply, hr]
  generalize stepG P true (Conc.G (b.at a (.inRegion ops (i :: rest) :: k)) cs) w = s at hb
  cases s <;> simp [GStep.bare] at hb
  obtain ⟨rfl, rfl, rfl, rfl, rfl⟩ := hb
  exact ⟨_, rfl⟩

theorem OpJ.send {c cap s r : Nat} {buf : Array Value} {v : Value} {z : Value} (ho : ops[i]? = some o) (hw : Region.wanted o (yielded ops a.tmps) = true) (hr : (execOp a.eval o).run P w = .ok (.comm #[Conc.scase c v z] true .send) w)
    (hc : w.heap[c]? = some (.chan cap buf false s r false)) (hroom : buf.size < cap) (h : Q (a.put o.dst undef) (w.setChan c cap (buf.push v) false (s + 1) r false)) : OpJ P ops i a w Q := fun b k cs rest => by
  obtain ⟨es, he⟩ := stepG_comm' (b := b) (k := k) (cs := cs) (rest := rest) ho hw hr
  refine ⟨_, _, h, .one ?_⟩
  have := Conc.step_lone_send_room he hc hroom
  rw [finish_at' ho] at this
  exact this

theorem OpJ.recv {c cap s r : Nat} {buf : Array Value} {z : Value} {ok : Bool} (ho : ops[i]? = some o) (hw : Region.wanted o (yielded ops a.tmps) = true) (hr : (execOp a.eval o).run P w = .ok (.comm #[Conc.rcase c z] true (.recv ok)) w)
    (hc : w.heap[c]? = some (.chan cap buf false s r false)) (hsome : 0 < buf.size) (h : Q (a.put o.dst (Conc.got ok (buf.getD 0 undef) true)) (w.setChan c cap (buf.extract 1 buf.size) false s (r + 1) false)) : OpJ P ops i a w Q := fun b k cs rest => by
  obtain ⟨es, he⟩ := stepG_comm' (b := b) (k := k) (cs := cs) (rest := rest) ho hw hr
  refine ⟨_, _, h, .one ?_⟩
  have := Conc.step_lone_recv_buf ok he hc hsome
  rw [finish_at' ho] at this
  exact this

theorem OpJ.selRoom {c cap s r : Nat} {buf : Array Value} {v : Value} {z : Value} (ho : ops[i]? = some o) (hw : Region.wanted o (yielded ops a.tmps) = true) (hr : (execOp a.eval o).run P w = .ok (.comm #[Conc.scase c v z] false .select) w)
    (hc : w.heap[c]? = some (.chan cap buf false s r false)) (hroom : buf.size < cap) (h : Q (a.put o.dst (.tuple #[goInt 0, .bool false])) (w.setChan c cap (buf.push v) false (s + 1) r false)) : OpJ P ops i a w Q := fun b k cs rest => by
  obtain ⟨es, he⟩ := stepG_comm' (b := b) (k := k) (cs := cs) (rest := rest) ho hw hr
  refine ⟨_, _, h, .one ?_⟩
  have := Conc.step_lone_select_send_room he hc hroom
  rw [finish_at' ho] at this
  exact this

theorem OpJ.selFull {c cap s r : Nat} {buf : Array Value} {v : Value} {z : Value} (ho : ops[i]? = some o) (hw : Region.wanted o (yielded ops a.tmps) = true) (hr : (execOp a.eval o).run P w = .ok (.comm #[Conc.scase c v z] false .select) w)
    (hc : w.heap[c]? = some (.chan cap buf false s r false)) (hfull : cap ≤ buf.size) (h : Q (a.put o.dst (.tuple #[goInt (-1), .bool false])) w) : OpJ P ops i a w Q := fun b k cs rest => by
  obtain ⟨es, he⟩ := stepG_comm' (b := b) (k := k) (cs := cs) (rest := rest) ho hw hr
  refine ⟨_, _, h, .one ?_⟩
  have := Conc.step_lone_select_send_full he hc hfull
  rw [finish_at' ho] at this
  exact this
end
end Go.Mod
/- One operation: the model's step is the machine's. A region in the text's order. -/
set_option linter.unusedVariables false
set_option linter.unusedSimpArgs false
namespace Go.Mod
variable [Glob]
set_option linter.unusedSectionVars false

/-- A function that may be entered. -/
def Callable (P : Program) (f : FuncId) : Prop := ∃ fn, P.funcs[f]? = some fn ∧ fn.body.isNone = false ∧ (fn.name == "runtime.NumGoroutine") = false
/-- What a call comes to. -/
def Invokes (P : Program) (f : FuncId) (args : Array Value) (w : World) (R : Value → World → Prop) : Prop :=
  (Callable P f ∧ Calls P f args w fun e w' => ∃ v, e = .returned v ∧ R v w') ∨ ∃ v w', (callFunc f args).run P w = .ok (.value v) w' ∧ R v w'
/-- The model's answer to a call is the machine's. -/
def CallOk (P : Program) (call : CallF) : Prop :=
  ∀ (f : FuncId) (vs : List Value) (H : MH) (r : Value) (H' : MH), call f vs H = some (r, H') → ∀ (φ : Ren) (w : World) (args : List Value), HRel φ (hp H) w → Rels (VRel φ) vs args →
    Invokes P f args.toArray w fun v w' => ∃ φ', VRel φ' r v ∧ Step H.length φ (hp H) w φ' (hp H') w'

def Post (n : Nat) (φ : Ren) (H : MH) (w : World) (T' : Reg) (H' : MH) (ds : List Deferred) : Act → World → Prop :=
  fun a' w' => a'.defers = ds ∧ ∃ φ', Step H.length φ (hp H) w φ' (hp H') w' ∧ TRel n φ' T' a'.tmps

theorem run_callFunc {P : Program} {f : FuncId} (h : Callable P f) (args : Array Value) (w : World) : (callFunc f args).run P w = .ok (.enter f args) w := by
  obtain ⟨fn, h1, h2, h3⟩ := h
  simp only [callFunc, Sem.run_bind, run_program, Result.andThen_ok, h1, h2, h3, Bool.false_eq_true, if_false, Sem.run_pure]

theorem put_defers (a : Act) (d : Option Tmp) (v : Value) : (a.put d v).defers = a.defers := by cases d <;> rfl

section
variable {P : Program} {call : CallF} {n : Nat} {ops : Array Oper} {i : Nat} {o : Oper} {m m0 : MOper} {a : Act} {w : World} {φ : Ren} {T T' : Reg} {H H' : MH}

/-- What the compiler said of one operation. -/
structure Comp (P : Program) (n : Nat) (ops : Array Oper) (o : Oper) (m : MOper) : Prop where
  ex : ∃ xs, cOp P o.op = some (m.op, xs) ∧ cArgs xs = some m.args
  guard : cGuard ops o.guard = some m.guard
  dst : m.dst = o.dst
  dn : cDst n o.dst = true

theorem comp_of (hc : cOper P n ops o = some m.bare) : Comp P n ops o m := by
  unfold cOper at hc
  split at hc <;> first | contradiction | skip
  rename_i op xs g h1 h2
  split at hc <;> first | contradiction | skip
  rename_i as h3
  split at hc <;> first | contradiction | skip
  rename_i h4
  have hc := Option.some.inj hc
  have e1 : m.op = op := (congrArg MOper.op hc).symm
  have e2 : m.args = as := (congrArg MOper.args hc).symm
  have e3 : m.guard = g := (congrArg MOper.guard hc).symm
  have e4 : m.dst = o.dst := (congrArg MOper.dst hc).symm
  exact ⟨⟨xs, by rw [e1]; exact h1, by rw [e2]; exact h3⟩, by rw [e3]; exact h2, e4, h4⟩

theorem OpJ.invoke {f : FuncId} {args : Array Value} {R : Value → World → Prop} {Q : Act → World → Prop} (ho : ops[i]? = some o) (hw : Region.wanted o (yielded ops a.tmps) = true) (hr : (execOp a.eval o).run P w = (callFunc f args).run P w)
    (hc : Invokes P f args w R) (h : ∀ v w', R v w' → Q (a.put o.dst v) w') : OpJ P ops i a w Q := by
  rcases hc with ⟨hcl, hc⟩ | ⟨v, w', hc, hR⟩
  · exact OpJ.enter ho hw (hr.trans (run_callFunc hcl _ _)) hc h
  · exact OpJ.value ho hw (hr.trans hc) (.inl rfl) (h v w' hR)

theorem step_chan {k id : Nat} {pl : Place} {cap : Nat} {buf buf' : List Value} {rb : Array Value} {s r : Nat} (hh : HRel φ (hp H) w) (hφ : φ id = some pl) (hH : H[id]? = some (.chan cap buf)) (hlt : pl.block < w.heap.size) (hrel : Rels (VRel φ) buf' rb.toList) :
    Step k φ (hp H) w φ (hp (H.set id (.chan cap buf'))) (w.setChan pl.block cap rb false s r false) := by
  refine Step.write hh hφ hH rfl rfl rfl rfl rfl (by simp [World.setChan]) (fun b hne => by simp only [World.setChan]; rw [Array.getElem?_setIfInBounds_ne (fun e => hne e.symm)]) ⟨rb, s, r, by simp [World.setChan, hlt], hrel⟩

theorem comm_sim {xs : List Operand} {vs : List Value} {v : Value} {Q : Act → World → Prop} (ho : ops[i]? = some o) (hw : Region.wanted o (yielded ops a.tmps) = true) (hop : cOp P o.op = some (m.op, xs)) (hk : m.op.kind = .comm) (hh : HRel φ (hp H) w)
    (hr : Rels (VRel φ) vs (xs.map a.eval)) (hm : meff m.op vs H = some (v, H')) (fin : ∀ (v' : Value) (w' : World) (φ' : Ren), VRel φ' v v' → Step H.length φ (hp H) w φ' (hp H') w' → Q (a.put o.dst v') w') : OpJ P ops i a w Q := by
  have hi := cOp_inv hop
  generalize hoo : o.op = oo at hi
  generalize hmo : m.op = mo at hi hm hk
  cases hi <;> first | (cases hk; done) | skip
  case pure h => rw [h] at hk; cases hk
  case snd ch x =>
    obtain ⟨p, y, rfl, hx, hy⟩ := rels2 hr
    unfold meff at hm
    split at hm <;> first | contradiction | skip
    rename_i heq; cases heq
    split at hm <;> first | contradiction | skip
    rename_i cap buf hH
    split at hm <;> first | contradiction | skip
    rename_i hroom
    cases hm
    generalize hX : a.eval ch = x' at hx
    cases hx with
    | chan hφ =>
    obtain ⟨rb, s, r, hb, hrb⟩ := hh.at hφ hH
    have hsz := hrb.length
    refine OpJ.send (z := .tuple #[]) (v := a.eval x) ho hw (by simp [execOp, hoo, hX, Conc.scase]) hb (by simp at hsz; omega) (fin _ _ φ VRel.undef (step_chan hh hφ hH (hh.lt _ _ hφ) ?_))
    rw [Array.toList_push]
    exact hrb.append (.cons hy .nil)
  case rcv t e d ch ok z hu hz =>
    obtain ⟨p, rfl, hx⟩ := rels1 hr
    unfold meff at hm
    split at hm <;> first | contradiction | skip
    rename_i h1 h2; cases h1; cases h2
    split at hm <;> first | contradiction | skip
    rename_i cap v0 buf hH
    cases hm
    generalize hX : a.eval ch = x' at hx
    cases hx with
    | chan hφ =>
    obtain ⟨rb, s, r, hb, hrb⟩ := hh.at hφ hH
    obtain ⟨hz1, _⟩ := zeroOf_sim (w := w) (φ := φ) hz
    generalize hR : rb.toList = R at hrb
    cases hrb with
    | cons hv0 tl =>
    rename_i y0 R0
    have hsz : rb.size = R0.length + 1 := by rw [← Array.length_toList, hR]; rfl
    have h0 : rb.getD 0 undef = y0 := by
      have : rb[0]? = some y0 := by rw [← Array.getElem?_toList, hR]; rfl
      simp [Array.getD_eq_getD_getElem?, this]
    refine OpJ.recv (z := z) (ok := ok) ho hw ?_ hb (by omega) (fin _ _ φ ?_ (step_chan hh hφ hH (hh.lt _ _ hφ) ?_))
    · simp only [execOp, hoo, hX, Sem.run_bind, run_underlying hu, Result.andThen_ok, hz1, Sem.run_pure]
      rfl
    · rw [h0]
      cases ok
      · exact hv0
      · exact VRel.tuple_of (.cons hv0 (.cons (VRel.bool true) .nil))
    · rw [Array.toList_extract, hR]
      simp [List.extract, hsz]
      exact tl
  case sel1 cases b c x z hcs hsn hz =>
    have hcs' : cases = #[c] := by apply Array.ext'; simpa using hcs
    subst hcs'
    obtain ⟨p, y, rfl, hx, hy⟩ := rels2 hr
    obtain ⟨hz1, _⟩ := zeroOf_sim (w := w) (φ := φ) hz
    unfold meff at hm
    split at hm <;> first | contradiction | skip
    rename_i h1 h2; cases h1; cases h2
    split at hm <;> first | contradiction | skip
    rename_i cap buf hH
    generalize hX : a.eval c.chan = x' at hx
    cases hx with
    | chan hφ =>
    obtain ⟨rb, s, r, hb, hrb⟩ := hh.at hφ hH
    have hsz := hrb.length
    simp at hsz
    rename_i pl
    have hrun : (execOp a.eval o).run P w = .ok (.comm #[Conc.scase pl.block (a.eval x) z] false .select) w := by
      simp [execOp, hoo, hX, hsn, hz1, Conc.scase]
    split at hm
    · rename_i hroom
      cases hm
      refine OpJ.selRoom ho hw hrun hb (by omega) (fin _ _ φ ?_ (step_chan hh hφ hH (hh.lt _ _ hφ) ?_))
      · exact VRel.tuple_of (.cons (VRel.int .i64 0) (.cons (VRel.bool false) .nil))
      · rw [Array.toList_push]
        exact hrb.append (.cons hy .nil)
    · rename_i hroom
      cases hm
      refine OpJ.selFull ho hw hrun hb (by omega) (fin _ _ φ ?_ (Step.refl hh))
      exact VRel.tuple_of (.cons (VRel.int .i64 (-1)) (.cons (VRel.bool false) .nil))

theorem op_sim (hcall : CallOk P call) (ho : ops[i]? = some o) (hc : Comp P n ops o m) (hT : TRel n φ T a.tmps) (hh : HRel φ (hp H) w) (hs : mstep call m T H none = some (T', H')) :
    OpJ P ops i a w (Post n φ H w T' H' a.defers) := by
  obtain ⟨⟨xs, hop, hxs⟩, hg, hd, hn⟩ := hc
  unfold mstep at hs
  split at hs <;> first | contradiction | skip
  · -- wanted
    rename_i hwant
    have hw := want_sim hT hg hwant
    split at hs <;> first | contradiction | skip
    rename_i vs hvs
    have hr := args_sim hT hxs hvs
    split at hs <;> first | contradiction | skip
    rename_i v H1 hm
    cases hs
    -- from a renaming to the end
    have fin : ∀ (v' : Value) (w' : World) (φ' : Ren), VRel φ' v v' → Step H.length φ (hp H) w φ' (hp H') w' → Post n φ H w (mdst T m v) H' a.defers (a.put o.dst v') w' :=
      fun v' w' φ' hv st => ⟨put_defers .., φ', st, (hT.mono st.le).dst hd hn hv⟩
    unfold mop at hm
    split at hm
    · rename_i hk
      split at hm <;> first | contradiction | skip
      rename_i v0 hp'
      cases hm
      obtain ⟨v', h1, h2⟩ := pure_sim (w := w) hop hk hr hp'
      exact OpJ.value ho hw h1 (.inl rfl) (fin v' w φ h2 (Step.refl hh))
    · rename_i hk
      split at hm <;> first | contradiction | skip
      rename_i v0 hp'
      cases hm
      obtain ⟨v', h1, h2⟩ := read_sim hop hk hh hr hp'
      exact OpJ.value ho hw h1 (.inl rfl) (fin v' w φ h2 (Step.refl hh))
    · rename_i hk
      simp only [] at hm
      split at hm <;> first | contradiction | skip
      rename_i ob v0 hp'
      cases hm
      obtain ⟨v', blk, pl, h1, h2, h3, h4⟩ := alloc_sim (w := w) hop hk hr hp'
      exact OpJ.value ho hw h1 (.inl rfl) (fin v' _ _ h4 (Step.push hh (Nat.le_refl _) h2 rfl rfl rfl (by show (w.heap.push _).size = _; simp) (fun k hk => by show (w.heap.push _)[k]? = _; rw [Array.getElem?_push_lt hk, Array.getElem?_eq_getElem hk]) h3))
    · rename_i hk
      obtain ⟨nx, v', w', φ', h1, h2, h3, h4⟩ := eff_sim hop hk hh hr hm
      exact OpJ.value ho hw h1 h2 (fin v' w' φ' h3 h4)
    · rename_i hk
      exact comm_sim ho hw hop hk hh hr hm fin
    · -- a call
      rename_i hk
      split at hm <;> first | contradiction | skip
      rename_i f hmo
      have hi := cOp_inv hop
      generalize hoo : o.op = oo at hi
      rw [hmo] at hi
      cases hi
      case pure h => cases h
      case call c hcal =>
        refine OpJ.invoke (args := (c.args.toList.map a.eval).toArray) (f := f) ho hw ?_ (hcall f vs H v H' hm φ w _ hh hr) (fun v' w' ⟨φ', h1, h2⟩ => fin v' w' φ' h1 h2)
        simp [execOp, hoo, resolve, hcal, Deferred.ofValue, Act.eval, invoke]
        congr 2
        apply Array.ext'; simp
    · rename_i hk
      split at hm <;> first | contradiction | skip
      rename_i f fa fc args
      have hi := cOp_inv hop
      generalize hoo : o.op = oo at hi
      generalize hmo : m.op = mo at hi hk
      cases hi <;> first | (cases hk; done) | skip
      case pure h => rw [h] at hk; cases hk
      case callv c x hcal =>
        simp only [List.map_cons] at hr
        cases hr with
        | cons hx hr =>
        generalize hX : a.eval x = x' at hx
        cases hx with
        | func fn ha hcc h1 h2 =>
        rename_i fa' fc'
        have hr' : Rels (VRel φ) (fa.toList ++ args ++ fc.toList) (fa'.toList ++ c.args.toList.map a.eval ++ fc'.toList) := ((VRel.rels ha h1).append hr).append (VRel.rels hcc h2)
        refine OpJ.invoke (f := f) ho hw ?_ (hcall f _ H v H' hm φ w _ hh hr') (fun v' w' ⟨φ', h1, h2⟩ => fin v' w' φ' h1 h2)
        simp [execOp, hoo, resolve, hcal, Deferred.ofValue, hX, invoke]
        congr 2
        apply Array.ext'; simp
  · -- not wanted
    rename_i hwant
    have hw := want_sim hT hg hwant
    cases hs
    exact OpJ.skip ho hw ⟨put_defers .., φ, Step.refl hh, hT.dst hd hn VRel.undef⟩
end
end Go.Mod
/- A region in the text's order. -/
set_option linter.unusedVariables false
set_option linter.unusedSimpArgs false
namespace Go.Mod
variable [Glob]
set_option linter.unusedSectionVars false

section
variable {P : Program} {call : CallF} {n : Nat} {ops : Array Oper} {a : Act} {w : World} {φ : Ren} {T T' : Reg} {H H' : MH}

def OpsJ (P : Program) (ops : Array Oper) (l : List Nat) (a : Act) (w : World) (Q : Act → World → Prop) : Prop :=
  ∀ (b : Frame) (k : List Item) (cs : List Frame), ∃ a' w', Q a' w' ∧ Steps P (lone (b.at a (.inRegion ops l :: k)) cs w) (lone (b.at a' (.inRegion ops [] :: k)) cs w')

theorem OpsJ.nil {Q : Act → World → Prop} (h : Q a w) : OpsJ P ops [] a w Q := fun b k cs => ⟨a, w, h, Steps.refl _ _⟩
theorem OpsJ.cons {i : Nat} {l : List Nat} {Q : Act → World → Prop} (h : OpJ P ops i a w fun a w => OpsJ P ops l a w Q) : OpsJ P ops (i :: l) a w Q := fun b k cs => by
  obtain ⟨a1, w1, h1, s1⟩ := h b k cs l
  obtain ⟨a2, w2, h2, s2⟩ := h1 b k cs
  exact ⟨a2, w2, h2, s1.trans s2⟩
theorem OpsJ.mono {l : List Nat} {Q Q' : Act → World → Prop} (h : OpsJ P ops l a w Q) (hq : ∀ a w, Q a w → Q' a w) : OpsJ P ops l a w Q' := fun b k cs =>
  let ⟨a', w', q, s⟩ := h b k cs; ⟨a', w', hq _ _ q, s⟩

theorem Post.trans {n : Nat} {φ φ₁ : Ren} {H H₁ H₂ : MH} {w w₁ : World} {T₂ : Reg} {ds : List Deferred} {a : Act} {w₂ : World} (st : Step H.length φ (hp H) w φ₁ (hp H₁) w₁) (hl : H.length ≤ H₁.length) (h : Post n φ₁ H₁ w₁ T₂ H₂ ds a w₂) :
    Post n φ H w T₂ H₂ ds a w₂ := by
  obtain ⟨h1, φ', h2, h3⟩ := h
  exact ⟨h1, φ', st.trans h2 hl, h3⟩

/-! ### the model's heap only grows -/
def Grows (call : CallF) : Prop := ∀ f vs H r H', call f vs H = some (r, H') → H.length ≤ H'.length

theorem meff_grows {op : MOp} {vs : List Value} {v : Value} (h : meff op vs H = some (v, H')) : H.length ≤ H'.length := by
  unfold meff at h
  simp only [mapp] at h
  repeat' (first | contradiction | (cases h; simp; done) | split at h | (simp only [] at h; split at h))
theorem mop_grows (hc : Grows call) {op : MOp} {vs : List Value} {b : Option Nat} {v : Value} (h : mop call op vs H b = some (v, H')) : H.length ≤ H'.length := by
  unfold mop at h
  split at h
  · split at h <;> first | contradiction | (cases h; exact Nat.le_refl _)
  · split at h <;> first | contradiction | (cases h; exact Nat.le_refl _)
  · split at h
    · split at h <;> first | contradiction | (cases h; simp)
    · split at h <;> first | contradiction | (cases h; simp)
  · exact meff_grows h
  · exact meff_grows h
  · split at h <;> first | contradiction | exact hc _ _ _ _ _ h
  · split at h <;> first | contradiction | exact hc _ _ _ _ _ h
theorem mstep_grows (hc : Grows call) {m : MOper} {b : Option Nat} (h : mstep call m T H b = some (T', H')) : H.length ≤ H'.length := by
  unfold mstep at h
  split at h <;> first | contradiction | skip
  · split at h <;> first | contradiction | skip
    split at h <;> first | contradiction | skip
    rename_i hm
    cases h
    exact mop_grows hc hm
  · cases h; exact Nat.le_refl _
theorem mops_grows (hc : Grows call) : ∀ {l : List MOper} {T : Reg} {H : MH}, mops call l T H = some (T', H') → H.length ≤ H'.length
  | [], T, H, h => by simp only [mops] at h; cases h; exact Nat.le_refl _
  | m :: l, T, H, h => by
    simp only [mops] at h
    split at h <;> first | contradiction | skip
    rename_i T1 H1 h1
    exact Nat.le_trans (mstep_grows hc h1) (mops_grows hc h)

theorem cOpers_get {ol : List Oper} {ms : List MOper} (h : cOpers P n ops ol = some ms) : ms.length = ol.length ∧ ∀ (i : Nat) o m, ol[i]? = some o → ms[i]? = some m → cOper P n ops o = some m := by
  induction ol generalizing ms with
  | nil => simp only [cOpers] at h; cases h; exact ⟨rfl, fun i o m h => by simp at h⟩
  | cons o ol ih =>
    simp only [cOpers] at h
    split at h <;> first | contradiction | skip
    rename_i m ms' h1 h2
    cases h
    obtain ⟨g1, g2⟩ := ih h2
    refine ⟨by simp [g1], fun i o' m' ho hm => ?_⟩
    cases i with
    | zero => simp at ho hm; subst ho; subst hm; exact h1
    | succ i => exact g2 i o' m' (by simpa using ho) (by simpa using hm)

theorem comps_of {l : List MOper} (h : cOpers P n ops ops.toList = some (l.map MOper.bare)) : l.length = ops.size ∧ ∀ (i : Nat) o m, ops[i]? = some o → l[i]? = some m → Comp P n ops o m := by
  obtain ⟨h1, h2⟩ := cOpers_get h
  refine ⟨by simpa using h1, fun i o m ho hm => comp_of (h2 i o m.bare (by simpa using ho) (by simp [hm]))⟩

theorem mops_sim (hcall : CallOk P call) (hgr : Grows call) {all : List MOper} (hall : all.length = ops.size) (hcomp : ∀ (i : Nat) o m, ops[i]? = some o → all[i]? = some m → Comp P n ops o m) :
    ∀ (l : List MOper) (j : Nat) (T : Reg) (H : MH) (a : Act) (w : World) (φ : Ren), all.drop j = l → TRel n φ T a.tmps → HRel φ (hp H) w → mops call l T H = some (T', H') →
    OpsJ P ops (List.range' j l.length) a w (Post n φ H w T' H' a.defers)
  | [], j, T, H, a, w, φ, hl, hT, hh, hm => by
    simp only [mops] at hm; cases hm
    exact OpsJ.nil ⟨rfl, φ, Step.refl hh, hT⟩
  | m :: l, j, T, H, a, w, φ, hl, hT, hh, hm => by
    simp only [mops] at hm
    split at hm <;> first | contradiction | skip
    rename_i T1 H1 h1
    have hj : j < all.length := by
      rcases Nat.lt_or_ge j all.length with h | h
      · exact h
      · rw [List.drop_eq_nil_of_le h] at hl; cases hl
    have hmj : all[j]? = some m := by
      have := congrArg (fun l => l[0]?) hl
      simpa using this
    have ho : ops[j]? = some (ops[j]'(by omega)) := Array.getElem?_eq_getElem _
    have hl' : all.drop (j + 1) = l := by
      have := congrArg (List.drop 1) hl
      simpa [List.drop_drop, Nat.add_comm] using this
    rw [List.length_cons, List.range'_succ]
    refine OpsJ.cons ((op_sim hcall ho (hcomp j _ m ho hmj) hT hh h1).mono fun a1 w1 ⟨hd, φ1, st, hT1⟩ => ?_)
    refine (mops_sim hcall hgr hall hcomp l (j + 1) T1 H1 a1 w1 φ1 hl' hT1 st.rel hm).mono fun a2 w2 h2 => ?_
    rw [hd] at h2
    exact h2.trans st (mstep_grows hgr h1)
end
end Go.Mod
/- A region whose order is drawn, I: the model's own run. -/
set_option linter.unusedVariables false
set_option linter.unusedSimpArgs false
namespace Go.Mod
variable [Glob]
set_option linter.unusedSectionVars false

/-- A call's answer: the heap only grows, what is dead stays so. -/
structure Tame (call : CallF) : Prop where
  grows : ∀ f vs H r H', call f vs H = some (r, H') → H.length ≤ H'.length
  dead : ∀ f vs H r H', call f vs H = some (r, H') → ∀ (id : Nat), H[id]? = some MObj.dead → H'[id]? = some MObj.dead

section
variable {call : CallF} {T T' : Reg} {H H' : MH}

theorem set_dead {b id : Nat} {o o' : MObj} (hb : H[b]? = some o) (ho : o.live = true) (hd : H[id]? = some .dead) : (H.set b o')[id]? = some .dead := by
  have : b ≠ id := by rintro rfl; rw [hb] at hd; cases hd; simp [MObj.live] at ho
  rw [List.getElem?_set_ne this]; exact hd
theorem set_dead' {b id : Nat} (hd : H[id]? = some .dead) : (H.set b .dead)[id]? = some .dead := by
  rw [List.getElem?_set]
  split
  · rename_i e; subst e; rw [if_pos (List.getElem?_eq_some_iff.1 hd).1]
  · exact hd
theorem app_dead {id : Nat} {X : MH} (hd : H[id]? = some .dead) : (H ++ X)[id]? = some .dead := by
  rw [List.getElem?_append_left (List.getElem?_eq_some_iff.1 hd).1]; exact hd

theorem meff_dead {op : MOp} {vs : List Value} {v : Value} {id : Nat} (h : meff op vs H = some (v, H')) (hd : H[id]? = some .dead) : H'[id]? = some .dead := by
  unfold meff at h
  simp only [mapp] at h
  repeat' (first
    | contradiction
    | (cases h; first | exact hd | exact set_dead ‹H[_]? = some _› rfl hd | exact app_dead hd | exact app_dead (set_dead' hd))
    | split at h | (simp only [] at h; split at h))

/-- An operation of a drawn region: its new object lies at the place kept for it. -/
theorem mop_at {op : MOp} {vs : List Value} {b : Nat} {v : Value} (hc : Tame call) (h : mop call op vs H (some b) = some (v, H')) :
    H.length ≤ H'.length ∧ ∀ (id : Nat), H[id]? = some MObj.dead → (op.kind = .alloc → id ≠ b) → H'[id]? = some MObj.dead := by
  unfold mop at h
  split at h
  · split at h <;> first | contradiction | (cases h; exact ⟨Nat.le_refl _, fun id h _ => h⟩)
  · split at h <;> first | contradiction | (cases h; exact ⟨Nat.le_refl _, fun id h _ => h⟩)
  · rename_i hk
    simp only [] at h
    split at h <;> first | contradiction | skip
    cases h
    exact ⟨by simp, fun id hd hne => by rw [List.getElem?_set_ne (fun e => hne hk e.symm)]; exact hd⟩
  · refine ⟨meff_grows h, fun id hd _ => meff_dead h hd⟩
  · refine ⟨meff_grows h, fun id hd _ => meff_dead h hd⟩
  · split at h <;> first | contradiction | exact ⟨hc.grows _ _ _ _ _ h, fun id hd _ => hc.dead _ _ _ _ _ h id hd⟩
  · split at h <;> first | contradiction | exact ⟨hc.grows _ _ _ _ _ h, fun id hd _ => hc.dead _ _ _ _ _ h id hd⟩
theorem mop_none {op : MOp} {vs : List Value} {v : Value} (hc : Tame call) (h : mop call op vs H none = some (v, H')) :
    H.length ≤ H'.length ∧ ∀ (id : Nat), H[id]? = some MObj.dead → H'[id]? = some MObj.dead := by
  unfold mop at h
  split at h
  · split at h <;> first | contradiction | (cases h; exact ⟨Nat.le_refl _, fun id h => h⟩)
  · split at h <;> first | contradiction | (cases h; exact ⟨Nat.le_refl _, fun id h => h⟩)
  · simp only [] at h
    split at h <;> first | contradiction | skip
    cases h
    exact ⟨by simp, fun id hd => app_dead hd⟩
  · exact ⟨meff_grows h, fun id hd => meff_dead h hd⟩
  · exact ⟨meff_grows h, fun id hd => meff_dead h hd⟩
  · split at h <;> first | contradiction | exact ⟨hc.grows _ _ _ _ _ h, hc.dead _ _ _ _ _ h⟩
  · split at h <;> first | contradiction | exact ⟨hc.grows _ _ _ _ _ h, hc.dead _ _ _ _ _ h⟩

/-- What one step does: 'v' goes to the destination. -/
inductive StepIs (call : CallF) (m : MOper) (T : Reg) (H : MH) (b : Option Nat) (T' : Reg) (H' : MH) : Prop
  | no (hw : mwant T m.guard = some false) (hT : T' = mdst T m (.tuple #[])) (hH : H' = H) : StepIs call m T H b T' H'
  | yes (vs : List Value) (v : Value) (hw : mwant T m.guard = some true) (he : evs T m.args = some vs) (ho : mop call m.op vs H b = some (v, H')) (hT : T' = mdst T m v) : StepIs call m T H b T' H'

theorem stepIs {m : MOper} {b : Option Nat} (h : mstep call m T H b = some (T', H')) : StepIs call m T H b T' H' := by
  unfold mstep at h
  split at h <;> first | contradiction | skip
  · rename_i hw
    split at h <;> first | contradiction | skip
    rename_i vs he
    split at h <;> first | contradiction | skip
    rename_i v H1 ho
    cases h
    exact .yes vs v hw he ho rfl
  · rename_i hw
    cases h
    exact .no hw rfl rfl
end

/-- A run of a drawn region in the text's order: the states, the places kept for new objects. -/
structure TextRun (call : CallF) (all : List MOper) (base : Nat) (S : Nat → Reg × MH) : Prop where
  step : ∀ i m, all[i]? = some m → mstep call m (S i).1 (S i).2 (if m.op.kind = .alloc then some (allocAt all base i) else none) = some ((S (i + 1)).1, (S (i + 1)).2)

theorem mtrace_run {call : CallF} : ∀ (l : List MOper) (base : Nat) (T : Reg) (H : MH) (tr : List (Reg × MH)), mtrace call l base T H = some tr →
    tr.length = l.length + 1 ∧ tr[0]? = some (T, H) ∧ ∀ i m, l[i]? = some m → ∃ T1 H1 T2 H2, tr[i]? = some (T1, H1) ∧ tr[i + 1]? = some (T2, H2) ∧ mstep call m T1 H1 (if m.op.kind = .alloc then some (allocAt l base i) else none) = some (T2, H2)
  | [], base, T, H, tr, h => by
    simp only [mtrace] at h; cases h
    exact ⟨rfl, rfl, fun i m hm => by simp at hm⟩
  | o :: l, base, T, H, tr, h => by
    simp only [mtrace] at h
    split at h <;> first | contradiction | skip
    rename_i T1 H1 h1
    split at h <;> first | contradiction | skip
    rename_i tr1 h2
    cases h
    obtain ⟨g1, g2, g3⟩ := mtrace_run l _ T1 H1 tr1 h2
    refine ⟨by simp [g1], rfl, fun i m hm => ?_⟩
    cases i with
    | zero =>
      simp at hm; subst hm
      refine ⟨T, H, T1, H1, rfl, by simpa using g2, ?_⟩
      have : allocAt (o :: l) base 0 = base := rfl
      rw [this]; exact h1
    | succ i =>
      obtain ⟨a, b, c, d, e1, e2, e3⟩ := g3 i m (by simpa using hm)
      refine ⟨a, b, c, d, by simpa using e1, by simpa using e2, ?_⟩
      have : allocAt (o :: l) base (i + 1) = allocAt l (if o.op.kind = .alloc then base + 1 else base) i := rfl
      rw [this]; exact e3

theorem allocAt_ge : ∀ (l : List MOper) (base i : Nat), base ≤ allocAt l base i
  | [], base, i => by simp [allocAt]
  | o :: l, base, 0 => by simp [allocAt]
  | o :: l, base, i + 1 => by
    simp only [allocAt]
    have := allocAt_ge l (if o.op.kind = .alloc then base + 1 else base) i
    split at this <;> split <;> first | omega | simp_all
theorem allocAt_lt : ∀ (l : List MOper) (base i : Nat) (m : MOper), l[i]? = some m → m.op.kind = .alloc → allocAt l base i < base + nalloc l
  | [], base, i, m, h, hk => by simp at h
  | o :: l, base, 0, m, h, hk => by
    simp at h; subst h
    simp only [allocAt, nalloc, hk, if_true]; omega
  | o :: l, base, i + 1, m, h, hk => by
    simp only [allocAt, nalloc]
    have := allocAt_lt l (if o.op.kind = .alloc then base + 1 else base) i m (by simpa using h) hk
    split <;> simp_all <;> omega
theorem allocAt_mono : ∀ (l : List MOper) (base i j : Nat) (m : MOper), l[i]? = some m → m.op.kind = .alloc → i < j → allocAt l base i < allocAt l base j
  | [], base, i, j, m, h, hk, hij => by simp at h
  | o :: l, base, 0, j + 1, m, h, hk, hij => by
    simp at h; subst h
    simp only [allocAt, hk, if_true]
    exact allocAt_ge l (base + 1) j
  | o :: l, base, i + 1, j + 1, m, h, hk, hij => by
    simp only [allocAt]
    exact allocAt_mono l _ i j m (by simpa using h) hk (by omega)
  | o :: l, base, i, 0, m, h, hk, hij => by omega

section
variable {call : CallF} {all : List MOper} {base : Nat} {S : Nat → Reg × MH}

theorem TextRun.is (h : TextRun call all base S) {i : Nat} {m : MOper} (hm : all[i]? = some m) : StepIs call m (S i).1 (S i).2 (if m.op.kind = .alloc then some (allocAt all base i) else none) (S (i + 1)).1 (S (i + 1)).2 := stepIs (h.step i m hm)

def writer (all : List MOper) (t q : Nat) : Prop := ∃ m, all[q]? = some m ∧ m.dst = some t

/-- A register that nobody writes between two places. -/
theorem TextRun.reg (h : TextRun call all base S) {t : Nat} {v : Value} (i : Nat) : ∀ d, i + d ≤ all.length → (∀ q, i ≤ q → q < i + d → ¬ writer all t q) → rget (S (i + d)).1 t = some v → rget (S i).1 t = some v
  | 0, _, _, hv => hv
  | d + 1, hl, hn, hv => by
    have hlt : i + d < all.length := by omega
    have hm : all[i + d]? = some (all[i + d]) := List.getElem?_eq_getElem hlt
    refine h.reg i d (by omega) (fun q a b => hn q a (by omega)) ?_
    have hnw := hn (i + d) (by omega) (by omega)
    have key : ∀ u, rget (mdst (S (i + d)).1 all[i + d] u) t = some v → rget (S (i + d)).1 t = some v := by
      intro u hu
      unfold mdst at hu
      split at hu
      · rename_i dd hd
        have hu := rget_rkill hu
        rw [rget_rput] at hu
        split at hu
        · rename_i e; subst e; exact absurd ⟨_, hm, hd⟩ hnw
        · exact hu
      · exact rget_rkill hu
    rw [← Nat.add_assoc] at hv
    rcases h.is hm with ⟨_, hT, _⟩ | ⟨vs, u, _, _, _, hT⟩
    · rw [hT] at hv; exact key _ hv
    · rw [hT] at hv; exact key _ hv

/-- An object's place that nobody touches between two places of the text where nothing writes. -/
theorem TextRun.heap (h : TextRun call all base S) {id : Nat} (i : Nat) : ∀ d, i + d ≤ all.length → (∀ q m, i ≤ q → q < i + d → all[q]? = some m → isEff m = false ∧ (m.op.kind = .alloc → allocAt all base q ≠ id)) →
    (S (i + d)).2[id]? = (S i).2[id]? ∧ (S (i + d)).2.length = (S i).2.length
  | 0, _, _ => ⟨rfl, rfl⟩
  | d + 1, hl, hn => by
    have hlt : i + d < all.length := by omega
    have hm : all[i + d]? = some (all[i + d]) := List.getElem?_eq_getElem hlt
    obtain ⟨ih1, ih2⟩ := h.heap (id := id) i d (by omega) (fun q m a b => hn q m a (by omega))
    obtain ⟨he, ha⟩ := hn (i + d) _ (by omega) (by omega) hm
    rw [← ih1, ← ih2, ← Nat.add_assoc]
    rcases h.is hm with ⟨_, _, hH⟩ | ⟨vs, u, _, _, ho, _⟩
    · rw [hH]; exact ⟨rfl, rfl⟩
    · unfold mop at ho
      unfold isEff at he
      split at ho
      · split at ho <;> first | contradiction | (rw [← congrArg Prod.snd (Option.some.inj ho)]; exact ⟨rfl, rfl⟩)
      · split at ho <;> first | contradiction | (rw [← congrArg Prod.snd (Option.some.inj ho)]; exact ⟨rfl, rfl⟩)
      · rename_i hk
        rw [if_pos hk] at ho
        simp only [] at ho
        split at ho <;> first | contradiction | skip
        rename_i o v0 _
        have ho := Option.some.inj ho
        have e2 : (S (i + d + 1)).2 = (S (i + d)).2.set (allocAt all base (i + d)) o := (congrArg Prod.snd ho).symm
        rw [e2]
        exact ⟨by rw [List.getElem?_set_ne (ha hk)], by simp⟩
      · rename_i hk; rw [hk] at he; cases he
      · rename_i hk; rw [hk] at he; cases he
      · rename_i hk; rw [hk] at he; cases he
      · rename_i hk; rw [hk] at he; cases he

/-- The places kept for new objects are dead till then. -/
theorem TextRun.dead (hc : Tame call) (h : TextRun call all base S) {id : Nat} (i : Nat) : ∀ d, i + d ≤ all.length → (∀ q m, i ≤ q → q < i + d → all[q]? = some m → m.op.kind = .alloc → allocAt all base q ≠ id) →
    (S i).2[id]? = some .dead → (S (i + d)).2[id]? = some .dead
  | 0, _, _, hd => hd
  | d + 1, hl, hn, hd => by
    have hlt : i + d < all.length := by omega
    have hm : all[i + d]? = some (all[i + d]) := List.getElem?_eq_getElem hlt
    have ih := h.dead hc i d (by omega) (fun q m a b => hn q m a (by omega)) hd
    have ha := hn (i + d) _ (by omega) (by omega) hm
    rw [← Nat.add_assoc]
    rcases h.is hm with ⟨_, _, hH⟩ | ⟨vs, u, _, _, ho, _⟩
    · rw [hH]; exact ih
    · split at ho
      · rename_i hk
        exact (mop_at hc ho).2 id ih fun hk e => ha hk e.symm
      · exact (mop_none hc ho).2 id ih

theorem TextRun.grows (hc : Tame call) (h : TextRun call all base S) (i : Nat) : ∀ d, i + d ≤ all.length → (S i).2.length ≤ (S (i + d)).2.length
  | 0, _ => Nat.le_refl _
  | d + 1, hl => by
    have hlt : i + d < all.length := by omega
    have hm : all[i + d]? = some (all[i + d]) := List.getElem?_eq_getElem hlt
    refine Nat.le_trans (h.grows hc i d (by omega)) ?_
    rw [← Nat.add_assoc]
    rcases h.is hm with ⟨_, _, hH⟩ | ⟨vs, u, _, _, ho, _⟩
    · rw [hH]; exact Nat.le_refl _
    · split at ho
      · exact (mop_at hc ho).1
      · exact (mop_none hc ho).1
end
end Go.Mod
/- A region whose order is drawn, II: whatever order is drawn, what the model's run told is what there is. -/
set_option linter.unusedVariables false
set_option linter.unusedSimpArgs false
namespace Go.Mod
variable [Glob]
set_option linter.unusedSectionVars false

theorem HRel.weaken {φ : Ren} {h1 h2 : Nat → Option MObj} {w : World} (h : HRel φ h1 w) (hpt : ∀ id pl, φ id = some pl → h2 id = some .dead ∨ h2 id = h1 id) : HRel φ h2 w := by
  refine ⟨fun id pl hφ => ?_, h.lt, fun i j pi pj oi oj hi hj hoi hoj hmi hlj hb => ?_, fun b o hG => ⟨(h.glob b o hG).1, fun j pj oj hj hoj hmj => by
    rcases hpt j pj hj with e | e
    · rw [hoj] at e; cases e; simp [MObj.mut] at hmj
    · exact (h.glob b o hG).2 j pj oj hj (e ▸ hoj) hmj⟩⟩
  · rcases hpt id pl hφ with e | e
    · exact ⟨_, e, trivial⟩
    · obtain ⟨o, h1, h2⟩ := h.obj id pl hφ
      exact ⟨o, e.trans h1, h2⟩
  · rcases hpt i pi hi with e | e
    · rw [hoi] at e; cases e; simp [MObj.mut] at hmi
    · rcases hpt j pj hj with e2 | e2
      · rw [hoj] at e2; cases e2; simp [MObj.live] at hlj
      · exact h.sep i j pi pj oi oj hi hj (e ▸ hoi) (e2 ▸ hoj) hmi hlj hb

/-- All that is known of a drawn region. -/
structure Ctx (P : Program) (call : CallF) (n : Nat) (ops : Array Oper) (all : List MOper) (base : Nat) (S : Nat → Reg × MH) (anc : Nat → List Nat) (H : MH) : Prop where
  callOk : CallOk P call
  tame : Tame call
  len : all.length = ops.size
  comp : ∀ (i : Nat) o m, ops[i]? = some o → all[i]? = some m → Comp P n ops o m
  run : TextRun call all base S
  back : ∀ (i : Nat) o, ops[i]? = some o → ∀ e ∈ direct o, e < i
  ancs : ∀ (i : Nat) o, ops[i]? = some o → ∀ j ∈ anc i, j ∈ direct o ∨ ∃ e ∈ direct o, j ∈ anc e
  ok : ∀ (i j : Nat) a b, i < j → all[i]? = some a → all[j]? = some b → (clash a b = true ∨ (isEff a = true ∧ isEff b = true)) → i ∈ anc j
  pread : ∀ (i j : Nat) a b vs v, all[i]? = some a → all[j]? = some b → a.op.kind = .read → isEff b = true → i ∉ anc j → j ∉ anc i → mwant (S i).1 a.guard = some true → evs (S i).1 a.args = some vs → mread a.op vs (S i).2 = some v →
    (mread a.op vs (S j).2 = some v ∧ mread a.op vs (S (j + 1)).2 = some v) ∨
    ∃ k m ob, j < k ∧ k < i ∧ all[k]? = some m ∧ m.op.kind = .alloc ∧ clash m a = true ∧ (S (k + 1)).2[allocAt all base k]? = some ob ∧ mread a.op vs ((S j).2.set (allocAt all base k) ob) = some v
  palloc : ∀ (i j : Nat) a b, all[i]? = some a → all[j]? = some b → a.op.kind = .alloc → isEff b = true → i < j → i ∉ anc j → j ∉ anc i → (S (j + 1)).2[allocAt all base i]? = (S (i + 1)).2[allocAt all base i]?
  base_eq : H.length = base
  start : (S 0).2 = H ++ List.replicate (nalloc all) .dead

section
variable {P : Program} {call : CallF} {n : Nat} {ops : Array Oper} {all : List MOper} {base : Nat} {S : Nat → Reg × MH} {anc : Nat → List Nat} {H : MH} {φ0 : Ren} {w0 : World} {ds : List Deferred}

def Early (all : List MOper) (base p : Nat) (L : Nat → Prop) (id i : Nat) : Prop := (∃ m, all[i]? = some m ∧ m.op.kind = .alloc) ∧ L i ∧ p ≤ i ∧ allocAt all base i = id

open Classical in
/-- The heap as it is when the operations of L have been done. -/
noncomputable def virt (all : List MOper) (base : Nat) (S : Nat → Reg × MH) (p : Nat) (L : Nat → Prop) : Nat → Option MObj :=
  fun id => if h : ∃ i, Early all base p L id i then (S (h.choose + 1)).2[id]? else (S p).2[id]?

theorem alloc_inj {i j : Nat} {a b : MOper} (ha : all[i]? = some a) (hka : a.op.kind = .alloc) (hb : all[j]? = some b) (hkb : b.op.kind = .alloc) (h : allocAt all base i = allocAt all base j) : i = j := by
  rcases Nat.lt_trichotomy i j with hij | hij | hij
  · have := allocAt_mono all base i j a ha hka hij; omega
  · exact hij
  · have := allocAt_mono all base j i b hb hkb hij; omega

theorem virt_early {p : Nat} {L : Nat → Prop} {id i : Nat} (h : Early all base p L id i) : virt all base S p L id = (S (i + 1)).2[id]? := by
  have hex : ∃ i, Early all base p L id i := ⟨i, h⟩
  unfold virt
  rw [dif_pos hex]
  have hc := hex.choose_spec
  obtain ⟨⟨m, hm, hk⟩, _, _, he⟩ := h
  obtain ⟨⟨m', hm', hk'⟩, _, _, he'⟩ := hc
  rw [alloc_inj hm' hk' hm hk (he'.trans he.symm)]
theorem virt_else {p : Nat} {L : Nat → Prop} {id : Nat} (h : ¬ ∃ i, Early all base p L id i) : virt all base S p L id = (S p).2[id]? := by
  unfold virt; rw [dif_neg h]

structure Inv (P : Program) (call : CallF) (n : Nat) (ops : Array Oper) (all : List MOper) (base : Nat) (S : Nat → Reg × MH) (H : MH) (φ0 : Ren) (w0 : World) (ds : List Deferred) (φ : Ren) (p : Nat) (listed : Array Bool) (a : Act) (w : World) : Prop where
  lsz : listed.size = ops.size
  hp : p ≤ ops.size
  closed : ∀ (i : Nat), listed.getD i false = true → ∀ o, ops[i]? = some o → ∀ e ∈ direct o, listed.getD e false = true
  pos : p = 0 ∨ ∃ e m, p = e + 1 ∧ all[e]? = some m ∧ isEff m = true ∧ listed.getD e false = true
  eff : ∀ (e : Nat) m, all[e]? = some m → isEff m = true → (listed.getD e false = true ↔ e < p)
  st : Step base φ0 (Mod.hp H) w0 φ (virt all base S p fun i => listed.getD i false = true) w
  unm : ∀ (i : Nat) m, all[i]? = some m → m.op.kind = .alloc → ¬ listed.getD i false = true → φ (allocAt all base i) = none
  tsz : n ≤ a.tmps.size
  regs : ∀ (t i : Nat), i ≤ all.length → (∀ q, q < i → writer all t q → listed.getD q false = true) → (∀ q, i ≤ q → writer all t q → ¬ listed.getD q false = true) → ∀ v, rget (S i).1 t = some v → VRel φ v (a.tmps.getD t undef)
  dfs : a.defers = ds

variable {φ : Ren} {p : Nat} {listed : Array Bool} {a : Act} {w : World}

theorem Ctx.start_dead (C : Ctx P call n ops all base S anc H) {i : Nat} {m : MOper} (hm : all[i]? = some m) (hk : m.op.kind = .alloc) : (S 0).2[allocAt all base i]? = some .dead := by
  rw [C.start]
  have h1 := allocAt_ge all base i
  have h2 := allocAt_lt all base i m hm hk
  rw [List.getElem?_append_right (by rw [C.base_eq]; omega), List.getElem?_replicate, if_pos (by rw [C.base_eq]; omega)]

theorem Ctx.heapAt (C : Ctx P call n ops all base S anc H) (I : Inv P call n ops all base S H φ0 w0 ds φ p listed a w) {j : Nat} (hpj : p ≤ j) (hj : j ≤ all.length) (hno : ∀ q m, p ≤ q → q < j → all[q]? = some m → isEff m = false) :
    HRel φ (Mod.hp (S j).2) w := by
  refine I.st.rel.weaken fun id pl hφ => ?_
  by_cases he : ∃ i, Early all base p (fun i => listed.getD i false = true) id i
  · obtain ⟨i, hE⟩ := he
    have hE0 := hE
    obtain ⟨⟨m, hm, hk⟩, hL, hpi, hid⟩ := hE
    by_cases hij : i < j
    · right
      rw [virt_early hE0]
      have := (C.run.heap (id := id) (i + 1) (j - (i + 1)) (by omega) (fun q m' h1 h2 hm' => ⟨hno q m' (by omega) (by omega) hm', fun hk' e => by
        have := alloc_inj hm hk hm' hk' (hid.trans e.symm); omega⟩)).1
      rw [show i + 1 + (j - (i + 1)) = j by omega] at this
      exact this
    · left
      have := C.run.dead C.tame (id := id) 0 j (by omega) (fun q m' h1 h2 hm' hk' e => by
        have := alloc_inj hm hk hm' hk' (hid.trans e.symm); omega) (by rw [← hid]; exact C.start_dead hm hk)
      rw [Nat.zero_add] at this
      exact this
  · right
    rw [virt_else he]
    have := (C.run.heap (id := id) p (j - p) (by omega) (fun q m' h1 h2 hm' => ⟨hno q m' (by omega) (by omega) hm', fun hk' e => by
      by_cases hL : listed.getD q false = true
      · exact he ⟨q, ⟨m', hm', hk'⟩, hL, h1, e⟩
      · have := I.unm q m' hm' hk' hL
        rw [e, hφ] at this; cases this⟩)).1
    rw [show p + (j - p) = j by omega] at this
    exact this

/-- .. and with one object more, that has been made ahead of its place. -/
theorem Ctx.heapAt1 (C : Ctx P call n ops all base S anc H) (I : Inv P call n ops all base S H φ0 w0 ds φ p listed a w) {j : Nat} (hpj : p ≤ j) (hj : j ≤ all.length) (hno : ∀ q m, p ≤ q → q < j → all[q]? = some m → isEff m = false)
    {k : Nat} {m : MOper} {ob : MObj} (hjk : j ≤ k) (hm : all[k]? = some m) (hk : m.op.kind = .alloc) (hL : listed.getD k false = true) (hob : (S (k + 1)).2[allocAt all base k]? = some ob) :
    HRel φ (Mod.hp ((S j).2.set (allocAt all base k) ob)) w := by
  have hE : Early all base p (fun i => listed.getD i false = true) (allocAt all base k) k := ⟨⟨m, hm, hk⟩, hL, by omega, rfl⟩
  have hlt : allocAt all base k < (S j).2.length := by
    have h1 := C.run.grows C.tame 0 j (by omega)
    rw [Nat.zero_add] at h1
    have h2 := (List.getElem?_eq_some_iff.1 (C.start_dead hm hk)).1
    omega
  refine I.st.rel.weaken fun id pl hφ => ?_
  by_cases hid : id = allocAt all base k
  · right
    rw [hid, virt_early hE, hob]
    show ((S j).2.set _ ob)[_]? = _
    rw [List.getElem?_set_self hlt]
  · have hset : Mod.hp ((S j).2.set (allocAt all base k) ob) id = (S j).2[id]? := by
      show ((S j).2.set _ ob)[id]? = _
      rw [List.getElem?_set_ne (fun e => hid e.symm)]
    rw [hset]
    by_cases he : ∃ i, Early all base p (fun i => listed.getD i false = true) id i
    · obtain ⟨i, hE⟩ := he
      have hE0 := hE
      obtain ⟨⟨m, hm, hk⟩, hL, hpi, hid⟩ := hE
      by_cases hij : i < j
      · right
        rw [virt_early hE0]
        have := (C.run.heap (id := id) (i + 1) (j - (i + 1)) (by omega) (fun q m' h1 h2 hm' => ⟨hno q m' (by omega) (by omega) hm', fun hk' e => by
          have := alloc_inj hm hk hm' hk' (hid.trans e.symm); omega⟩)).1
        rw [show i + 1 + (j - (i + 1)) = j by omega] at this
        exact this
      · left
        have := C.run.dead C.tame (id := id) 0 j (by omega) (fun q m' h1 h2 hm' hk' e => by
          have := alloc_inj hm hk hm' hk' (hid.trans e.symm); omega) (by rw [← hid]; exact C.start_dead hm hk)
        rw [Nat.zero_add] at this
        exact this
    · right
      rw [virt_else he]
      have := (C.run.heap (id := id) p (j - p) (by omega) (fun q m' h1 h2 hm' => ⟨hno q m' (by omega) (by omega) hm', fun hk' e => by
        by_cases hL : listed.getD q false = true
        · exact he ⟨q, ⟨m', hm', hk'⟩, hL, h1, e⟩
        · have := I.unm q m' hm' hk' hL
          rw [e, hφ] at this; cases this⟩)).1
      rw [show p + (j - p) = j by omega] at this
      exact this

theorem Inv.ancs_listed (C : Ctx P call n ops all base S anc H) (I : Inv P call n ops all base S H φ0 w0 ds φ p listed a w) : ∀ (k i : Nat), i < k → ∀ o, ops[i]? = some o → (∀ e ∈ direct o, listed.getD e false = true) → ∀ j ∈ anc i, listed.getD j false = true
  | 0, i, h, _, _, _, _, _ => by omega
  | k + 1, i, hik, o, ho, hd, j, hj => by
    rcases C.ancs i o ho j hj with h | ⟨e, he, hje⟩
    · exact hd j h
    · have hlt := C.back i o ho e he
      have hes : e < ops.size := by have := (Array.getElem?_eq_some_iff.1 ho).1; omega
      have hoe : ops[e]? = some (ops[e]) := Array.getElem?_eq_getElem hes
      exact Inv.ancs_listed C I k e (by omega) _ hoe (I.closed e (hd e he) _ hoe) j hje
theorem Inv.anc_of (C : Ctx P call n ops all base S anc H) (I : Inv P call n ops all base S H φ0 w0 ds φ p listed a w) {i : Nat} (hL : listed.getD i false = true) (hi : i < ops.size) : ∀ j ∈ anc i, listed.getD j false = true :=
  I.ancs_listed C (i + 1) i (Nat.lt_succ_self i) _ (Array.getElem?_eq_getElem hi) (I.closed i hL _ (Array.getElem?_eq_getElem hi))

theorem getD_set {listed : Array Bool} {i j : Nat} (hi : i < listed.size) : (listed.setIfInBounds i true).getD j false = if i = j then true else listed.getD j false := by
  simp only [Array.getD_eq_getD_getElem?, Array.getElem?_setIfInBounds]
  by_cases h : i = j
  · subst h; simp [hi]
  · simp [h]

theorem rget_filter (T : Reg) (us : List Nat) (t : Nat) : rget (T.filter fun q => us.elem q.1) t = if us.elem t = true then rget T t else none := by
  induction T with
  | nil => simp [rget]
  | cons q T ih =>
    obtain ⟨u, x⟩ := q
    by_cases hu : us.elem u = true
    · rw [List.filter_cons_of_pos (by simpa using hu)]
      simp only [rget]
      by_cases e : t = u
      · subst e; simp only [if_true]; rw [if_pos hu]
      · rw [if_neg e, if_neg e]; exact ih
    · rw [List.filter_cons_of_neg (by simpa using hu)]
      rw [ih]
      by_cases e : t = u
      · subst e; rw [if_neg hu, if_neg hu]
      · simp only [rget, if_neg e]

theorem evs_filter (T : Reg) (us : List Nat) : ∀ (as : List Arg), (∀ t ∈ argRegs as, us.elem t = true) → evs (T.filter fun q => us.elem q.1) as = evs T as
  | [], _ => rfl
  | .k v :: as, h => by simp only [evs, Arg.ev]; rw [evs_filter T us as (fun t ht => h t (by simpa [argRegs] using ht))]
  | .r t :: as, h => by
    simp only [evs, Arg.ev]
    rw [evs_filter T us as (fun t ht => h t (by simp [argRegs, ht])), rget_filter, if_pos (h t (by simp [argRegs]))]
theorem want_filter (T : Reg) (us : List Nat) (g : Option (Nat × Bool)) (h : ∀ r b, g = some (r, b) → us.elem r = true) : mwant (T.filter fun q => us.elem q.1) g = mwant T g := by
  cases g with
  | none => rfl
  | some x => obtain ⟨r, b⟩ := x; simp only [mwant]; rw [rget_filter, if_pos (h r b rfl)]

/-- An operation that is ready: what is ahead of it has been done. -/
structure Ready (ops : Array Oper) (listed : Array Bool) (i : Nat) : Prop where
  lt : i < ops.size
  not : ¬ listed.getD i false = true
  dir : ∀ e ∈ direct (ops.getD i default), listed.getD e false = true

/-- The registers that it reads. -/
theorem Inv.trel (C : Ctx P call n ops all base S anc H) (I : Inv P call n ops all base S H φ0 w0 ds φ p listed a w) {i : Nat} {m : MOper} (hR : Ready ops listed i) (hm : all[i]? = some m) :
    TRel n φ ((S i).1.filter fun q => (uses m).elem q.1) a.tmps := by
  refine ⟨I.tsz, fun t v hv => ?_⟩
  rw [rget_filter] at hv
  split at hv <;> first | contradiction | skip
  rename_i hu
  have hil : i < all.length := by rw [C.len]; exact hR.lt
  have ho : ops[i]? = some (ops.getD i default) := by simp [Array.getD_eq_getD_getElem?, Array.getElem?_eq_getElem hR.lt]
  refine I.regs t i (by omega) (fun q hq hw => ?_) (fun q hq hw hL => ?_) v hv
  · obtain ⟨mq, hmq, hd⟩ := hw
    have : q ∈ anc i := C.ok q i mq m hq hmq hm (.inl (by unfold clash; rw [hd]; simp only []; rw [hu]; rfl))
    exact I.ancs_listed C (i + 1) i (Nat.lt_succ_self i) _ ho hR.dir q this
  · obtain ⟨mq, hmq, hd⟩ := hw
    rcases Nat.lt_or_ge i q with h | h
    · have : i ∈ anc q := C.ok i q m mq h hm hmq (.inl (by unfold clash; rw [hd]; simp only []; rw [hu]; simp))
      have hqs : q < ops.size := by rw [← C.len]; exact (List.getElem?_eq_some_iff.1 hmq).1
      exact hR.not (I.anc_of C hL hqs i this)
    · obtain rfl : q = i := by omega
      exact hR.not hL
end
end Go.Mod
/- A region whose order is drawn, III: one more operation. -/
set_option linter.unusedVariables false
set_option linter.unusedSimpArgs false
namespace Go.Mod
variable [Glob]
set_option linter.unusedSectionVars false

theorem Step.congr {n : Nat} {φ φ' : Ren} {h h' h2 : Nat → Option MObj} {w w' : World} (st : Step n φ h w φ' h' w') (he : ∀ id pl, φ' id = some pl → h2 id = h' id) : Step n φ h w φ' h2 w' := by
  refine ⟨⟨fun id pl hφ => ?_, st.rel.lt, fun i j pi pj oi oj hi hj hoi hoj hmi hlj hb => ?_, fun b o hG => ⟨(st.rel.glob b o hG).1, fun j pj oj hj hoj hmj => (st.rel.glob b o hG).2 j pj oj hj ((he j pj hj) ▸ hoj) hmj⟩⟩, st.le, st.fr, fun id pl o' hφ ho hm hlt => ?_, st.fresh, st.dom⟩
  · obtain ⟨o, h1, h2⟩ := st.rel.obj id pl hφ
    exact ⟨o, (he id pl hφ).trans h1, h2⟩
  · exact st.rel.sep i j pi pj oi oj hi hj ((he i pi hi) ▸ hoi) ((he j pj hj) ▸ hoj) hmi hlj hb
  · exact st.new id pl o' hφ ((he id pl hφ) ▸ ho) hm hlt

/-- A step seen from heaps that know more. -/
theorem Step.lift {n : Nat} {φ φ' : Ren} {h h' k k' : Nat → Option MObj} {w w' : World} (st : Step n φ k w φ' k' w') (hr : HRel φ h w) (hd : ∀ id, k id = some .dead → k' id = some .dead)
    (hc : ∀ id pl, φ' id = some pl → ((φ id = some pl → k id = h id) ∧ k' id = h' id) ∨ (k id = some .dead ∧ h' id = h id ∧ φ id = some pl)) : Step n φ h w φ' h' w' := by
  have up : ∀ id pl o, φ id = some pl → k id = some o → o.live = true → h id = some o := by
    intro id pl o hφ ho hl
    rcases hc id pl (st.le id pl hφ) with ⟨h1, _⟩ | ⟨h1, _, _⟩
    · rw [← h1 hφ]; exact ho
    · rw [ho] at h1; cases h1; cases hl
  have ml : ∀ o : MObj, o.mut = true → o.live = true := by intro o; cases o <;> simp [MObj.mut, MObj.live]
  have sep : ∀ i pi oi, k i = some .dead → φ i = some pi → h i = some oi → oi.live = true → ∀ id0 pl0 o0, φ id0 = some pl0 → k id0 = some o0 → o0.mut = true → pl0.block = pi.block → False := by
    intro i pi oi hki hi hoi hl id0 pl0 o0 h0 hk0 hm0 hb
    have := hr.sep id0 i pl0 pi o0 oi h0 hi (up id0 pl0 o0 h0 hk0 (ml _ hm0)) hoi hm0 hl hb
    subst this
    rw [hki] at hk0; cases hk0; cases hm0
  refine ⟨⟨fun id pl hφ => ?_, st.rel.lt, fun i j pi pj oi oj hi hj hoi hoj hmi hlj hb => ?_, fun b o hG => ⟨(st.rel.glob b o hG).1, fun j pj oj hj hoj hmj => by
    rcases hc j pj hj with ⟨_, h1⟩ | ⟨h1, h2, h3⟩
    · exact (st.rel.glob b o hG).2 j pj oj hj (h1.trans hoj) hmj
    · exact (hr.glob b o hG).2 j pj oj h3 (h2.symm.trans hoj) hmj⟩⟩, st.le, ⟨st.fr.os, st.fr.tape, st.fr.output, st.fr.size, fun b hb hn => ?_⟩, fun id pl o' hφ ho hm hlt => ?_, fun id pl h1 h2 h3 => ?_, st.dom⟩
  · rcases hc id pl hφ with ⟨_, h1⟩ | ⟨h1, h2, h3⟩
    · obtain ⟨o, ho, hO⟩ := st.rel.obj id pl hφ
      exact ⟨o, h1 ▸ ho, hO⟩
    · obtain ⟨o, ho, hO⟩ := hr.obj id pl h3
      refine ⟨o, h2.trans ho, ?_⟩
      cases hlive : o.live with
      | false => cases o <;> first | (cases hlive; done) | trivial
      | true =>
        exact hO.mono st.le (st.fr.block _ (hr.lt id pl h3) fun id0 pl0 o0 h0 hk0 hm0 hb => sep id pl o h1 h3 ho hlive id0 pl0 o0 h0 hk0 hm0 hb)
  · rcases hc i pi hi with ⟨_, h1⟩ | ⟨h1, h2, h3⟩
    · rcases hc j pj hj with ⟨_, g1⟩ | ⟨g1, g2, g3⟩
      · exact st.rel.sep i j pi pj oi oj hi hj (h1.trans hoi) (g1.trans hoj) hmi hlj hb
      · obtain ⟨id0, pl0, o0, e1, e2, e3, e4⟩ := st.new i pi oi hi (h1.trans hoi) hmi (by rw [hb]; exact hr.lt j pj g3)
        exact (sep j pj oj g1 g3 (g2.symm.trans hoj) hlj id0 pl0 o0 e1 e2 e3 (e4.trans hb)).elim
    · rcases hc j pj hj with ⟨g0, g1⟩ | ⟨g1, g2, g3⟩
      · cases hφj : φ j with
        | none =>
          obtain ⟨id0, pl0, o0, e1, e2, e3, e4⟩ := st.fresh j pj hj hφj (by rw [← hb]; exact hr.lt i pi h3)
          exact (sep i pi oi h1 h3 (h2.symm.trans hoi) (ml _ hmi) id0 pl0 o0 e1 e2 e3 (e4.trans hb.symm)).elim
        | some q =>
          have : q = pj := by have := st.le j q hφj; rw [hj] at this; exact (Option.some.inj this).symm
          subst this
          obtain ⟨oj', ho', _⟩ := hr.obj j q hφj
          have hkj : k j = some oj' := (g0 hφj).trans ho'
          have hl' : oj'.live = true := by
            cases oj' <;> first | rfl | skip
            have := hd j hkj
            rw [g1, hoj] at this; cases this; cases hlj
          exact hr.sep i j pi q oi oj' h3 hφj (h2.symm.trans hoi) ho' hmi hl' hb
      · exact hr.sep i j pi pj oi oj h3 g3 (h2.symm.trans hoi) (g2.symm.trans hoj) hmi hlj hb
  · exact st.fr.block b hb fun id pl o hφ ho hm => hn id pl o hφ (up id pl o hφ ho (ml _ hm)) hm
  · rcases hc id pl hφ with ⟨_, h1⟩ | ⟨h1, h2, h3⟩
    · obtain ⟨id0, pl0, o0, e1, e2, e3, e4⟩ := st.new id pl o' hφ (h1.trans ho) hm hlt
      exact ⟨id0, pl0, o0, e1, up id0 pl0 o0 e1 e2 (ml _ e3), e3, e4⟩
    · exact ⟨id, pl, o', h3, h2.symm.trans ho, hm, rfl⟩
  · obtain ⟨id0, pl0, o0, e1, e2, e3, e4⟩ := st.fresh id pl h1 h2 h3
    exact ⟨id0, pl0, o0, e1, up id0 pl0 o0 e1 e2 (ml _ e3), e3, e4⟩

/-- A new object at an id that led nowhere. -/
theorem Step.put {n b : Nat} {φ : Ren} {h h' : Nat → Option MObj} {w : World} {pl : Place} {ob : MObj} {blk : Obj} (hr : HRel φ h w) (hn : n ≤ b) (hb : φ b = none) (hpl : pl.block = w.heap.size)
    (he : ∀ id p, φ id = some p → h' id = h id) (hob : h' b = some ob) (ho : ORel φ (w.alloc blk) pl ob) : Step n φ h w (φ.set b pl) h' (w.alloc blk) := by
  have hle : φ.le (φ.set b pl) := Ren.le_set pl hb
  have hblk : ∀ k, k < w.heap.size → (w.alloc blk).heap[k]? = w.heap[k]? := fun k hk => by
    show (w.heap.push _)[k]? = _; rw [Array.getElem?_push_lt hk, Array.getElem?_eq_getElem hk]
  have hsz : (w.alloc blk).heap.size = w.heap.size + 1 := by show (w.heap.push _).size = _; simp
  have old : ∀ id p, φ.set b pl id = some p → id ≠ b → φ id = some p := fun id p hp hne => by rw [Ren.set_ne _ _ hne] at hp; exact hp
  have new : ∀ p, φ.set b pl b = some p → p = pl := fun p hp => by rw [Ren.set_self] at hp; exact (Option.some.inj hp).symm
  have hglt : ∀ b o, Glob.G b = some o → b < w.heap.size := fun b o hG => (Array.getElem?_eq_some_iff.1 (hr.glob b o hG).1).1
  refine ⟨⟨fun id p hφ => ?_, fun id p hφ => ?_, fun i j pi pj oi oj hi hj hoi hoj hmi hlj hbb => ?_, fun g o hG => ⟨(hblk g (hglt g o hG)).trans (hr.glob g o hG).1, fun j pj oj hj hoj hmj => by
    by_cases e : j = b
    · subst e; have := new pj hj; subst this; have := hglt g o hG; omega
    · have hj' := old j pj hj e
      exact (hr.glob g o hG).2 j pj oj hj' ((he j pj hj') ▸ hoj) hmj⟩⟩, hle, ⟨rfl, rfl, rfl, by omega, fun k hk _ => hblk k hk⟩, fun id p o' hφ ho' hm hlt => ?_, fun id p hφ hno hlt => ?_, fun id p hφ => ?_⟩
  · by_cases e : id = b
    · subst e; have := new p hφ; subst this
      exact ⟨ob, hob, ho.mono hle rfl⟩
    · have hφ' := old id p hφ e
      obtain ⟨o, h1, h2⟩ := hr.obj id p hφ'
      exact ⟨o, (he id p hφ').trans h1, h2.mono hle (hblk _ (hr.lt id p hφ'))⟩
  · by_cases e : id = b
    · subst e; have := new p hφ; subst this; omega
    · have := hr.lt id p (old id p hφ e); omega
  · by_cases ei : i = b
    · by_cases ej : j = b
      · rw [ei, ej]
      · subst ei; have := new pi hi; subst this
        have := hr.lt j pj (old j pj hj ej); omega
    · by_cases ej : j = b
      · subst ej; have := new pj hj; subst this
        have := hr.lt i pi (old i pi hi ei); omega
      · have hi' := old i pi hi ei
        have hj' := old j pj hj ej
        exact hr.sep i j pi pj oi oj hi' hj' ((he i pi hi') ▸ hoi) ((he j pj hj') ▸ hoj) hmi hlj hbb
  · by_cases e : id = b
    · subst e; have := new p hφ; subst this; omega
    · have hφ' := old id p hφ e
      exact ⟨id, p, o', hφ', (he id p hφ') ▸ ho', hm, rfl⟩
  · by_cases e : id = b
    · subst e; have := new p hφ; subst this; omega
    · have := old id p hφ e; rw [hno] at this; cases this
  · by_cases e : id = b
    · subst e; exact .inr ⟨hb, hn⟩
    · exact .inl (old id p hφ e)

section
variable {P : Program} {call : CallF} {n : Nat} {ops : Array Oper} {all : List MOper} {base : Nat} {S : Nat → Reg × MH} {anc : Nat → List Nat} {H : MH} {φ0 : Ren} {w0 : World} {ds : List Deferred}
variable {φ : Ren} {p : Nat} {listed : Array Bool} {a : Act} {w : World}

theorem Ctx.anc_lt (C : Ctx P call n ops all base S anc H) : ∀ (k i : Nat), i < k → ∀ o, ops[i]? = some o → ∀ j ∈ anc i, j < i
  | 0, i, h, _, _, _, _ => by omega
  | k + 1, i, hik, o, ho, j, hj => by
    rcases C.ancs i o ho j hj with h | ⟨e, he, hje⟩
    · exact C.back i o ho j h
    · have hlt := C.back i o ho e he
      have hes : e < ops.size := by have := (Array.getElem?_eq_some_iff.1 ho).1; omega
      have := Ctx.anc_lt C k e (by omega) _ (Array.getElem?_eq_getElem hes) j hje
      omega
theorem Ctx.anc_lt' (C : Ctx P call n ops all base S anc H) {i j : Nat} (hi : i < ops.size) (hj : j ∈ anc i) : j < i := C.anc_lt (i + 1) i (by omega) _ (Array.getElem?_eq_getElem hi) j hj
theorem Inv.ready_anc (C : Ctx P call n ops all base S anc H) (I : Inv P call n ops all base S H φ0 w0 ds φ p listed a w) {i : Nat} (hR : Ready ops listed i) : ∀ j ∈ anc i, listed.getD j false = true :=
  I.ancs_listed C (i + 1) i (Nat.lt_succ_self i) (ops.getD i default) (by simp [Array.getD_eq_getD_getElem?, Array.getElem?_eq_getElem hR.lt]) hR.dir

theorem Ctx.len_le (C : Ctx P call n ops all base S anc H) {i : Nat} (hi : i ≤ all.length) : base + nalloc all ≤ (S i).2.length := by
  have h1 := C.run.grows C.tame 0 i (by omega)
  rw [Nat.zero_add] at h1
  have h2 : (S 0).2.length = base + nalloc all := by rw [C.start]; simp [C.base_eq]
  omega

theorem kind_of_eff {m : MOper} (h : isEff m = true) : m.op.kind ≠ .alloc := by
  intro e; unfold isEff at h; rw [e] at h; cases h

/-- What one operation more comes to. -/
theorem Inv.next (C : Ctx P call n ops all base S anc H) (I : Inv P call n ops all base S H φ0 w0 ds φ p listed a w) {i0 : Nat} (hR : Ready ops listed i0) {m : MOper} {o : Oper} (hm : all[i0]? = some m) (ho : ops[i0]? = some o)
    {φ' : Ren} {p' : Nat} {w' : World} {u v' : Value} (hle : φ.le φ') (hT : (S (i0 + 1)).1 = mdst (S i0).1 m u) (hv : VRel φ' u v')
    (hst : Step base φ0 (Mod.hp H) w0 φ' (virt all base S p' fun i => (listed.setIfInBounds i0 true).getD i false = true) w')
    (hun : ∀ (i : Nat) mi, all[i]? = some mi → mi.op.kind = .alloc → i ≠ i0 → φ (allocAt all base i) = none → φ' (allocAt all base i) = none)
    (hp' : (isEff m = false ∧ p' = p) ∨ (isEff m = true ∧ p' = i0 + 1)) :
    Inv P call n ops all base S H φ0 w0 ds φ' p' (listed.setIfInBounds i0 true) (a.put o.dst v') w' := by
  have hi0 : i0 < listed.size := by rw [I.lsz]; exact hR.lt
  have hg : ∀ j, (listed.setIfInBounds i0 true).getD j false = true ↔ (j = i0 ∨ listed.getD j false = true) := fun j => by
    rw [getD_set hi0]
    by_cases h : i0 = j
    · subst h; simp
    · rw [if_neg h]; constructor
      · exact .inr
      · rintro (e | e)
        · exact absurd e.symm h
        · exact e
  have hC := C.comp i0 o m ho hm
  refine ⟨by simp [I.lsz], ?_, ?_, ?_, ?_, hst, ?_, ?_, ?_, ?_⟩
  · rcases hp' with ⟨_, e⟩ | ⟨_, e⟩
    · rw [e]; exact I.hp
    · rw [e]; exact hR.lt
  · intro i hi oi hoi e he
    rw [hg] at hi ⊢
    rcases hi with rfl | hi
    · have : oi = ops.getD i default := by simp [Array.getD_eq_getD_getElem?, hoi]
      exact .inr (hR.dir e (this ▸ he))
    · exact .inr (I.closed i hi oi hoi e he)
  · rcases hp' with ⟨_, e⟩ | ⟨h, e⟩
    · rw [e]
      rcases I.pos with h | ⟨q, mq, h1, h2, h3, h4⟩
      · exact .inl h
      · exact .inr ⟨q, mq, h1, h2, h3, (hg q).2 (.inr h4)⟩
    · exact .inr ⟨i0, m, e, hm, h, (hg i0).2 (.inl rfl)⟩
  · intro e me hme hee
    rw [hg]
    rcases hp' with ⟨h, ep⟩ | ⟨h, ep⟩
    · rw [ep, ← I.eff e me hme hee]
      constructor
      · rintro (rfl | h')
        · rw [hm] at hme; cases hme; rw [h] at hee; cases hee
        · exact h'
      · exact .inr
    · rw [ep]
      constructor
      · rintro (rfl | h')
        · omega
        · rcases Nat.lt_or_ge e (i0 + 1) with hlt | hge
          · exact hlt
          · have := C.ok i0 e m me (by omega) hm hme (.inr ⟨h, hee⟩)
            have hes : e < ops.size := by rw [← C.len]; exact (List.getElem?_eq_some_iff.1 hme).1
            exact absurd (I.anc_of C h' hes i0 this) hR.not
      · intro hlt
        by_cases ei : e = i0
        · exact .inl ei
        · exact .inr (I.ready_anc C hR e (C.ok e i0 me m (by omega) hme hm (.inr ⟨hee, h⟩)))
  · intro i mi hmi hk hn
    have hne : i ≠ i0 := fun e => hn ((hg i).2 (.inl e))
    exact hun i mi hmi hk hne (I.unm i mi hmi hk fun h => hn ((hg i).2 (.inr h)))
  · rcases o.dst with _ | d
    · exact I.tsz
    · simpa [Act.put] using I.tsz
  · intro t i hi hbef haft v hvv
    by_cases ht : m.dst = some t
    · -- the operation's own register
      have hw0 : writer all t i0 := ⟨m, hm, ht⟩
      have hlt : i0 < i := by
        rcases Nat.lt_or_ge i0 i with h | h
        · exact h
        · exact absurd ((hg i0).2 (.inl rfl)) (haft i0 h hw0)
      have hreg := C.run.reg (t := t) (v := v) (i0 + 1) (i - (i0 + 1)) (by omega) (fun q h1 h2 hwq => by
        obtain ⟨mq, hmq, hdq⟩ := hwq
        have hL := (hg q).1 (hbef q (by omega) ⟨mq, hmq, hdq⟩)
        rcases hL with e | hL
        · omega
        · have := C.ok i0 q m mq (by omega) hm hmq (.inl (by unfold clash; rw [ht]; simp [uses, hdq]))
          have hqs : q < ops.size := by rw [← C.len]; exact (List.getElem?_eq_some_iff.1 hmq).1
          exact hR.not (I.anc_of C hL hqs i0 this)) (by rw [show i0 + 1 + (i - (i0 + 1)) = i by omega]; exact hvv)
      rw [hT] at hreg
      unfold mdst at hreg
      rw [ht] at hreg
      have hreg := rget_rkill hreg
      rw [rget_rput, if_pos rfl] at hreg
      cases hreg
      have hd : o.dst = some t := by rw [← hC.dst]; exact ht
      have hn := hC.dn
      rw [hd] at hn ⊢
      simp only [cDst, decide_eq_true_eq] at hn
      simp only [Act.put, Array.getD_eq_getD_getElem?]
      rw [Array.getElem?_setIfInBounds_self_of_lt (by have := I.tsz; omega)]
      exact hv
    · have hnw : ∀ q, writer all t q → ((listed.setIfInBounds i0 true).getD q false = true ↔ listed.getD q false = true) := by
        intro q ⟨mq, hmq, hdq⟩
        rw [hg]
        constructor
        · rintro (rfl | h)
          · rw [hm] at hmq; cases hmq; exact absurd hdq ht
          · exact h
        · exact .inr
      have := I.regs t i hi (fun q hq hw => (hnw q hw).1 (hbef q hq hw)) (fun q hq hw h => haft q hq hw ((hnw q hw).2 h)) v hvv
      have heq : (a.put o.dst v').tmps.getD t undef = a.tmps.getD t undef := by
        have hd := hC.dst
        cases hod : o.dst with
        | none => rfl
        | some d =>
          simp only [Act.put, Array.getD_eq_getD_getElem?]
          rw [Array.getElem?_setIfInBounds_ne (fun h => ht (by rw [hd, hod, h]))]
      rw [heq]
      exact this.mono hle
  · rw [put_defers]; exact I.dfs

theorem early_set {p i0 : Nat} {m : MOper} (hm : all[i0]? = some m) (hi0 : i0 < listed.size) {id : Nat} (hne : m.op.kind = .alloc → id ≠ allocAt all base i0) : ∀ i, Early all base p (fun i => (listed.setIfInBounds i0 true).getD i false = true) id i ↔ Early all base p (fun i => listed.getD i false = true) id i := by
  intro i
  unfold Early
  simp only [getD_set hi0]
  constructor
  · rintro ⟨⟨mi, hmi, hk⟩, h2, h3, h4⟩
    refine ⟨⟨mi, hmi, hk⟩, ?_, h3, h4⟩
    split at h2
    · rename_i e; subst e
      rw [hm] at hmi; cases hmi
      exact absurd h4.symm (hne hk)
    · exact h2
  · rintro ⟨h1, h2, h3, h4⟩
    refine ⟨h1, ?_, h3, h4⟩
    split
    · rfl
    · exact h2
theorem virt_congr {p : Nat} {L L' : Nat → Prop} {id : Nat} (h : ∀ i, Early all base p L id i ↔ Early all base p L' id i) : virt all base S p L id = virt all base S p L' id := by
  by_cases hx : ∃ i, Early all base p L id i
  · obtain ⟨i, hi⟩ := hx
    rw [virt_early hi, virt_early ((h i).1 hi)]
  · rw [virt_else hx, virt_else (fun ⟨i, hi⟩ => hx ⟨i, (h i).2 hi⟩)]

end
end Go.Mod
/- A region whose order is drawn, IV: whichever operation is taken next. -/
set_option linter.unusedVariables false
set_option linter.unusedSimpArgs false
namespace Go.Mod
variable [Glob]
set_option linter.unusedSectionVars false

section
variable {P : Program} {call : CallF} {n : Nat} {ops : Array Oper} {all : List MOper} {base : Nat} {S : Nat → Reg × MH} {anc : Nat → List Nat} {H : MH} {φ0 : Ren} {w0 : World} {ds : List Deferred}
variable {φ : Ren} {p : Nat} {listed : Array Bool} {a : Act} {w : World}

theorem uses_arg {m : MOper} {t : Nat} (h : t ∈ argRegs m.args) : (uses m).elem t = true := by simp [uses, h]
theorem uses_guard {m : MOper} {r : Nat} {b : Bool} (h : m.guard = some (r, b)) : (uses m).elem r = true := by simp [uses, h]

/-- The first place from i on where something holds. -/
theorem first_of (Q : Nat → Prop) : ∀ (d i : Nat), (∃ q, i ≤ q ∧ q < i + d ∧ Q q) → ∃ e, i ≤ e ∧ e < i + d ∧ Q e ∧ ∀ q, i ≤ q → q < e → ¬ Q q
  | 0, i, ⟨q, h1, h2, _⟩ => by omega
  | d + 1, i, ⟨q, h1, h2, h3⟩ => by
    by_cases h : Q i
    · exact ⟨i, Nat.le_refl _, by omega, h, fun q a b => by omega⟩
    · have : i ≠ q := fun e => h (e ▸ h3)
      obtain ⟨e, e1, e2, e3, e4⟩ := first_of Q d (i + 1) ⟨q, by omega, by omega, h3⟩
      refine ⟨e, by omega, by omega, e3, fun q a b => ?_⟩
      by_cases hq : q = i
      · exact hq ▸ h
      · exact e4 q (by omega) b

/-- For a writing operation: everything that writes lies on the same side as in the text. -/
theorem Inv.eff_le (C : Ctx P call n ops all base S anc H) (I : Inv P call n ops all base S H φ0 w0 ds φ p listed a w) {i0 : Nat} (hR : Ready ops listed i0) {m : MOper} (hm : all[i0]? = some m) (he : isEff m = true) :
    p ≤ i0 ∧ ∀ q mq, p ≤ q → q < i0 → all[q]? = some mq → isEff mq = false := by
  have hnl : ¬ i0 < p := fun h => hR.not ((I.eff i0 m hm he).2 h)
  refine ⟨by omega, fun q mq h1 h2 hmq => ?_⟩
  cases hq : isEff mq with
  | false => rfl
  | true =>
    have := I.ready_anc C hR q (C.ok q i0 mq m h2 hmq hm (.inr ⟨hq, he⟩))
    have := (I.eff q mq hmq hq).1 this
    omega

/-- A heap that the world has now and in which the operation reads what it reads in the text's order. -/
theorem Inv.readAt (C : Ctx P call n ops all base S anc H) (I : Inv P call n ops all base S H φ0 w0 ds φ p listed a w) {i0 : Nat} (hR : Ready ops listed i0) {m : MOper} (hm : all[i0]? = some m) (hk : m.op.kind = .read)
    {vs : List Value} {v : Value} (hw : mwant (S i0).1 m.guard = some true) (hvs : evs (S i0).1 m.args = some vs) (hv : mread m.op vs (S i0).2 = some v) : ∃ G, HRel φ (Mod.hp G) w ∧ mread m.op vs G = some v := by
  have hlen := C.len
  have hil : i0 < ops.size := hR.lt
  by_cases hpi : p ≤ i0
  · by_cases hx : ∃ q, p ≤ q ∧ q < p + (i0 - p) ∧ ∃ mq, all[q]? = some mq ∧ isEff mq = true
    · obtain ⟨e, e1, e2, ⟨me, hme, hee⟩, e4⟩ := first_of _ _ _ hx
      have hnl : ¬ listed.getD e false = true := fun h => by have := (I.eff e me hme hee).1 h; omega
      have hh := C.heapAt I e1 (by omega) (fun q mq h1 h2 hmq => by
        cases hq : isEff mq with
        | false => rfl
        | true => exact absurd ⟨mq, hmq, hq⟩ (e4 q h1 h2))
      have hpr := C.pread i0 e m me vs v hm hme hk hee (fun h => by have := C.anc_lt' (by omega) h; omega) (fun h => hnl (I.ready_anc C hR e h)) hw hvs hv
      rcases hpr with hpr | ⟨k, mk, ob, hk1, hk2, hmk, hkk, hcl, hob, hrd⟩
      · exact ⟨_, hh, hpr.1⟩
      · have hL := I.ready_anc C hR k (C.ok k i0 mk m hk2 hmk hm (.inl hcl))
        exact ⟨_, C.heapAt1 I e1 (by omega) (fun q mq h1 h2 hmq => by
          cases hq : isEff mq with
          | false => rfl
          | true => exact absurd ⟨mq, hmq, hq⟩ (e4 q h1 h2)) (by omega) hmk hkk hL hob, hrd⟩
    · exact ⟨_, C.heapAt I hpi (by omega) (fun q mq h1 h2 hmq => by
        cases hq : isEff mq with
        | false => rfl
        | true => exact absurd ⟨q, h1, by omega, mq, hmq, hq⟩ hx), hv⟩
  · rcases I.pos with h | ⟨e, me, h1, h2, h3, h4⟩
    · omega
    · have hne : i0 ≠ e := fun h => hR.not (h ▸ h4)
      have hes : e < ops.size := by rw [← hlen]; exact (List.getElem?_eq_some_iff.1 h2).1
      have hh := C.heapAt I (Nat.le_refl p) (by rw [hlen]; exact I.hp) (fun q mq a b => by omega)
      have hpr := C.pread i0 e m me vs v hm h2 hk h3 (fun h => hR.not (I.anc_of C h4 hes i0 h)) (fun h => by have := C.anc_lt' hil h; omega) hw hvs hv
      rcases hpr with hpr | ⟨k, mk, ob, hk1, hk2, _⟩
      · exact ⟨_, hh, by rw [h1]; exact hpr.2⟩
      · omega

theorem Inv.step (C : Ctx P call n ops all base S anc H) (I : Inv P call n ops all base S H φ0 w0 ds φ p listed a w) {i0 : Nat} (hR : Ready ops listed i0) :
    OpJ P ops i0 a w fun a' w' => ∃ φ' p', Inv P call n ops all base S H φ0 w0 ds φ' p' (listed.setIfInBounds i0 true) a' w' := by
  have hlen := C.len
  have hi0 : i0 < listed.size := by rw [I.lsz]; exact hR.lt
  have ho : ops[i0]? = some (ops[i0]'hR.lt) := Array.getElem?_eq_getElem _
  have hm : all[i0]? = some (all[i0]'(by have := hR.lt; omega)) := List.getElem?_eq_getElem _
  generalize ops[i0]'hR.lt = o at ho
  generalize all[i0]'(by have := hR.lt; omega) = m at hm
  have hT := I.trel C hR hm
  obtain ⟨⟨xs, hop, hxs⟩, hg, hd, hn⟩ := C.comp i0 o m ho hm
  have hnb : base + nalloc all ≤ (S i0).2.length := C.len_le (by have := hR.lt; omega)
  -- nothing in memory changes
  have still : ∀ (u v' : Value), VRel φ u v' → (S (i0 + 1)).1 = mdst (S i0).1 m u → isEff m = false → (m.op.kind ≠ .alloc ∨ φ (allocAt all base i0) = none) → ∃ φ' p', Inv P call n ops all base S H φ0 w0 ds φ' p' (listed.setIfInBounds i0 true) (a.put o.dst v') w := by
    intro u v' hv hS he hal
    refine ⟨φ, p, I.next C hR hm ho (Ren.le.refl φ) hS hv ?_ (fun i mi _ _ _ h => h) (.inl ⟨he, rfl⟩)⟩
    refine I.st.congr fun id pl hφ => virt_congr (early_set hm hi0 fun hk => ?_)
    rcases hal with h | h
    · exact absurd hk h
    · intro e; rw [e, h] at hφ; cases hφ
  -- what writes
  have writes : ∀ (u v' : Value) (φ' : Ren) (w' : World), VRel φ' u v' → (S (i0 + 1)).1 = mdst (S i0).1 m u → isEff m = true → Step (S i0).2.length φ (Mod.hp (S i0).2) w φ' (Mod.hp (S (i0 + 1)).2) w' → (∀ (id : Nat), (S i0).2[id]? = some MObj.dead → (S (i0 + 1)).2[id]? = some MObj.dead) →
      ∃ φ' p', Inv P call n ops all base S H φ0 w0 ds φ' p' (listed.setIfInBounds i0 true) (a.put o.dst v') w' := by
    intro u v' φ' w' hv hS he st hdead
    obtain ⟨hpi, hno⟩ := I.eff_le C hR hm he
    have hka := kind_of_eff he
    refine ⟨φ', i0 + 1, I.next C hR hm ho st.le hS hv ?_ (fun i mi hmi hk hne hnn => ?_) (.inr ⟨he, rfl⟩)⟩
    · refine I.st.trans (Step.lift (k := Mod.hp (S i0).2) (k' := Mod.hp (S (i0 + 1)).2) (n := (S i0).2.length) st I.st.rel hdead fun id pl hφ' => ?_) (by omega)
      by_cases hE : ∃ i, Early all base (i0 + 1) (fun i => listed.getD i false = true) id i
      · obtain ⟨i, hEi⟩ := hE
        obtain ⟨⟨mi, hmi, hki⟩, hLi, hpi', hid⟩ := hEi
        have hil : i < all.length := (List.getElem?_eq_some_iff.1 hmi).1
        refine .inr ⟨?_, ?_, ?_⟩
        · have := C.run.dead C.tame (id := id) 0 i0 (by omega) (fun q mq h1 h2 hmq hkq e => by
            have := alloc_inj hmi hki hmq hkq (hid.trans e.symm); omega) (by rw [← hid]; exact C.start_dead hmi hki)
          rw [Nat.zero_add] at this
          exact this
        · rw [virt_early (i := i) ((early_set hm hi0 (fun h => absurd h hka) i).2 ⟨⟨mi, hmi, hki⟩, hLi, hpi', hid⟩), virt_early (i := i) ⟨⟨mi, hmi, hki⟩, hLi, by omega, hid⟩]
        · rcases st.dom id pl hφ' with h | ⟨_, h⟩
          · exact h
          · have := allocAt_lt all base i mi hmi hki
            omega
      · refine .inl ⟨fun hφ => ?_, ?_⟩
        · -- the heap ahead of the operation
          by_cases hE' : ∃ i, Early all base p (fun i => listed.getD i false = true) id i
          · obtain ⟨i, hEi⟩ := hE'
            have hEi0 := hEi
            obtain ⟨⟨mi, hmi, hki⟩, hLi, hpi', hid⟩ := hEi
            have hne : i ≠ i0 := fun e => hR.not (e ▸ hLi)
            have hlt : i < i0 := by
              rcases Nat.lt_or_ge i i0 with h | h
              · exact h
              · exact absurd ⟨i, ⟨mi, hmi, hki⟩, hLi, by omega, hid⟩ hE
            rw [virt_early hEi0]
            have := (C.run.heap (id := id) (i + 1) (i0 - (i + 1)) (by have := hR.lt; omega) (fun q m' h1 h2 hm' => ⟨hno q m' (by omega) (by omega) hm', fun hk' e => by
              have := alloc_inj hmi hki hm' hk' (hid.trans e.symm); omega⟩)).1
            rw [show i + 1 + (i0 - (i + 1)) = i0 by omega] at this
            exact this
          · rw [virt_else hE']
            have := (C.run.heap (id := id) p (i0 - p) (by have := hR.lt; omega) (fun q m' h1 h2 hm' => ⟨hno q m' (by omega) (by omega) hm', fun hk' e => by
              by_cases hL : listed.getD q false = true
              · exact hE' ⟨q, ⟨m', hm', hk'⟩, hL, h1, e⟩
              · have := I.unm q m' hm' hk' hL
                rw [e, hφ] at this; cases this⟩)).1
            rw [show p + (i0 - p) = i0 by omega] at this
            exact this
        · rw [virt_else]
          · rfl
          · rintro ⟨i, hi⟩
            exact hE ⟨i, (early_set hm hi0 (fun h => absurd h hka) i).1 hi⟩
    · cases hφ : φ' (allocAt all base i) with
      | none => rfl
      | some q =>
        rcases st.dom _ q hφ with h | ⟨_, h⟩
        · rw [hnn] at h; cases h
        · have := allocAt_lt all base i mi hmi hk
          omega
  rcases C.run.is hm with ⟨hwant, hS, hH⟩ | ⟨vs, v, hwant, hvs, hmo, hS⟩
  · -- not wanted
    rw [← want_filter _ (uses m) m.guard (fun r b h => uses_guard h)] at hwant
    have hw := want_sim hT hg hwant
    cases he : isEff m with
    | false =>
      refine OpJ.skip ho hw (still _ _ VRel.undef hS he ?_)
      by_cases hk : m.op.kind = .alloc
      · exact .inr (I.unm i0 m hm hk hR.not)
      · exact .inl hk
    | true =>
      obtain ⟨hpi, hno⟩ := I.eff_le C hR hm he
      refine OpJ.skip ho hw (writes _ _ φ w VRel.undef hS he ?_ (fun id h => by rw [hH]; exact h))
      rw [hH]
      exact Step.refl (C.heapAt I hpi (by have := hR.lt; omega) hno)
  · -- wanted
    have hwant' := hwant
    rw [← want_filter _ (uses m) m.guard (fun r b h => uses_guard h)] at hwant'
    have hw := want_sim hT hg hwant'
    have hvs' := hvs
    rw [← evs_filter _ (uses m) m.args (fun t h => uses_arg h)] at hvs'
    have hr := args_sim hT hxs hvs'
    have hmo0 := hmo
    unfold mop at hmo
    split at hmo
    · rename_i hk
      split at hmo <;> first | contradiction | skip
      rename_i v0 hp'
      have e := Option.some.inj hmo
      have e1 : v0 = v := congrArg Prod.fst e
      subst e1
      obtain ⟨v', h1, h2⟩ := pure_sim (w := w) hop hk hr hp'
      exact OpJ.value ho hw h1 (.inl rfl) (still _ _ h2 hS (by unfold isEff; rw [hk]) (.inl (by rw [hk]; simp)))
    · rename_i hk
      split at hmo <;> first | contradiction | skip
      rename_i v0 hp'
      have e := Option.some.inj hmo
      have e1 : v0 = v := congrArg Prod.fst e
      subst e1
      obtain ⟨G, hG, hrd⟩ := I.readAt C hR hm hk hwant hvs hp'
      obtain ⟨v', h1, h2⟩ := read_sim hop hk hG hr hrd
      exact OpJ.value ho hw h1 (.inl rfl) (still _ _ h2 hS (by unfold isEff; rw [hk]) (.inl (by rw [hk]; simp)))
    · rename_i hk
      rw [if_pos hk] at hmo
      simp only [] at hmo
      split at hmo <;> first | contradiction | skip
      rename_i ob v0 hp'
      have e := Option.some.inj hmo
      have e1 : v0 = v := congrArg Prod.fst e
      have e2 : (S i0).2.set (allocAt all base i0) ob = (S (i0 + 1)).2 := congrArg Prod.snd e
      subst e1
      have hb := I.unm i0 m hm hk hR.not
      have he : isEff m = false := by unfold isEff; rw [hk]
      obtain ⟨v', blk, pl, h1, h2, h3, h4⟩ := alloc_sim (w := w) hop hk hr hp'
      refine OpJ.value ho hw h1 (.inl rfl) ?_
      have hlt := allocAt_lt all base i0 m hm hk
      have hS1 : (S (i0 + 1)).2[allocAt all base i0]? = some ob := by
        rw [← e2, List.getElem?_set_self (by omega)]
      have hset : (listed.setIfInBounds i0 true).getD i0 false = true := by rw [getD_set hi0, if_pos rfl]
      refine ⟨φ.set (allocAt all base i0) pl, p, I.next C hR hm ho (Ren.le_set pl hb) hS h4 ?_ (fun i mi hmi hki hne hnn => ?_) (.inl ⟨he, rfl⟩)⟩
      · refine I.st.trans (Step.put (n := base) I.st.rel (allocAt_ge all base i0) hb h2 (fun id q hφ => ?_) ?_ h3) (Nat.le_refl _)
        · exact virt_congr (early_set hm hi0 fun _ e => by rw [e, hb] at hφ; cases hφ)
        · by_cases hpi : p ≤ i0
          · rw [virt_early (i := i0) ⟨⟨m, hm, hk⟩, hset, hpi, rfl⟩]
            exact hS1
          · rw [virt_else]
            · rcases I.pos with h | ⟨e, me, g1, g2, g3, g4⟩
              · omega
              · have hes : e < ops.size := by rw [← hlen]; exact (List.getElem?_eq_some_iff.1 g2).1
                have hne : i0 ≠ e := fun h => hR.not (h ▸ g4)
                have := C.palloc i0 e m me hm g2 hk g3 (by omega) (fun h => hR.not (I.anc_of C g4 hes i0 h)) (fun h => by have := C.anc_lt' hR.lt h; omega)
                rw [g1, this]; exact hS1
            · rintro ⟨i, ⟨mi, hmi, hki⟩, _, h3, h4⟩
              have := alloc_inj hmi hki hm hk h4
              omega
      · rw [Ren.set_ne _ _ (fun e => hne (alloc_inj hmi hki hm hk e))]
        exact hnn
    · rename_i hk
      have he : isEff m = true := by unfold isEff; rw [hk]
      obtain ⟨hpi, hno⟩ := I.eff_le C hR hm he
      have hh := C.heapAt I hpi (by have := hR.lt; omega) hno
      obtain ⟨nx, v', w', φ', h1, h2, h3, h4⟩ := eff_sim hop hk hh hr hmo
      exact OpJ.value ho hw h1 h2 (writes _ _ φ' w' h3 hS he h4 fun id hdd => meff_dead hmo hdd)
    · rename_i hk
      have he : isEff m = true := by unfold isEff; rw [hk]
      obtain ⟨hpi, hno⟩ := I.eff_le C hR hm he
      have hh := C.heapAt I hpi (by have := hR.lt; omega) hno
      exact comm_sim ho hw hop hk hh hr hmo (fun v' w' φ' h3 h4 => writes _ _ φ' w' h3 hS he h4 fun id hdd => meff_dead hmo hdd)
    · rename_i hk
      have he : isEff m = true := by unfold isEff; rw [hk]
      obtain ⟨hpi, hno⟩ := I.eff_le C hR hm he
      have hh := C.heapAt I hpi (by have := hR.lt; omega) hno
      split at hmo <;> first | contradiction | skip
      rename_i f hmf
      have hi := cOp_inv hop
      generalize hoo : o.op = oo at hi
      rw [hmf] at hi
      cases hi
      case pure h => cases h
      case call c hcal =>
        refine OpJ.invoke (args := (c.args.toList.map a.eval).toArray) (f := f) ho hw ?_ (C.callOk f vs _ v _ hmo φ w _ hh hr) (fun v' w' ⟨φ', h1, h2⟩ => writes _ _ φ' w' h1 hS he h2 fun id hdd => C.tame.dead _ _ _ _ _ hmo id hdd)
        simp [execOp, hoo, resolve, hcal, Deferred.ofValue, Act.eval, invoke]
        congr 2
        apply Array.ext'; simp
    · rename_i hk
      have he : isEff m = true := by unfold isEff; rw [hk]
      obtain ⟨hpi, hno⟩ := I.eff_le C hR hm he
      have hh := C.heapAt I hpi (by have := hR.lt; omega) hno
      split at hmo <;> first | contradiction | skip
      rename_i f fa fc args
      have hi := cOp_inv hop
      generalize hoo : o.op = oo at hi
      generalize hmm : m.op = mo at hi hk
      cases hi <;> first | (cases hk; done) | skip
      case pure h => rw [h] at hk; cases hk
      case callv c x hcal =>
        simp only [List.map_cons] at hr
        cases hr with
        | cons hx hr =>
        generalize hX : a.eval x = x' at hx
        cases hx with
        | func fn ha hcc h1 h2 =>
        rename_i fa' fc'
        have hr' : Rels (VRel φ) (fa.toList ++ args ++ fc.toList) (fa'.toList ++ c.args.toList.map a.eval ++ fc'.toList) := ((VRel.rels ha h1).append hr).append (VRel.rels hcc h2)
        refine OpJ.invoke (f := f) ho hw ?_ (C.callOk f _ _ v _ hmo φ w _ hh hr') (fun v' w' ⟨φ', h1, h2⟩ => writes _ _ φ' w' h1 hS he h2 fun id hdd => C.tame.dead _ _ _ _ _ hmo id hdd)
        simp [execOp, hoo, resolve, hcal, Deferred.ofValue, hX, invoke]
        congr 2
        apply Array.ext'; simp
end
end Go.Mod

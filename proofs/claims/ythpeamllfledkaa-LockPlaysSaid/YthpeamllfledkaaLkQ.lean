/- Who holds: what turns. -/
import Derived.Test.YthpeamllfledkaaLkP
set_option linter.unusedVariables false
set_option linter.unusedSimpArgs false
namespace Go.Mod

section
variable {mp : FuncId → Option MDef} {H H0 H1 : MH} {F : List Nat} {l : Nat} {s : SetL} {L : Lay} {es : List (Int × Value)} {cnt : Int} {wl : List Int} {bs ak : List Ask} {ts : List Chn}
theorem lk_cnt (h : Sep (LkL l s L es cnt wl bs ts) H F) (x : Int) : ∃ H' F', meff (.st 1) [.pointer (some ⟨l, 7, none⟩), .int .i64 x] H = some (.tuple #[], H') ∧ Sep (LkL l s L es x wl bs ts) H' F' ∧ Upd H F H' F' := by
  obtain ⟨_, H', F', p, u, c⟩ := Sep.upd (ι := Unit) (k := 0) (P' := fun _ => Pt l ⟨0, true, false⟩ (lkC s L x)) (C := fun _ H' => meff (.st 1) [.pointer (some ⟨l, 7, none⟩), .int .i64 x] H = some (.tuple #[], H')) (fun _ => Pt.good) LkL.good h rfl (fun A hA _ => by
    obtain ⟨rfl, hA⟩ := hA
    have hlt := (List.getElem?_eq_some_iff.1 hA).1
    exact ⟨(), _, [l], ⟨rfl, List.getElem?_set_self hlt⟩, ⟨by simp, fun id _ hn => List.getElem?_set_ne (fun e => hn (by simp [e])), fun _ h => .inl h⟩, st_at hA rfl 7 _ rfl (by simp [lkC])⟩)
  exact ⟨H', F', c, p, u⟩
theorem lk_box (h : Sep (LkL l s L es cnt wl bs ts) H F) {i j : Nat} {a a' : Ask} {v : Value} (hi : bs[i]? = some a) (hj : j < 5) (hv : one v = true) (hc : askC a' = (askC a).set j v) (hp : a'.p = a.p) :
    ∃ H' F', meff (.st 1) [.pointer (some ⟨a.p, j, none⟩), v] H = some (.tuple #[], H') ∧ Sep (LkL l s L es cnt wl (bs.set i a') ts) H' F' ∧ Upd H F H' F' := by
  obtain ⟨_, H', F', p, u, c⟩ := Sep.upd (ι := Unit) (k := 3) (P' := fun _ => Objs (·.p) askO (bs.set i a')) (C := fun _ H' => meff (.st 1) [.pointer (some ⟨a.p, j, none⟩), v] H = some (.tuple #[], H')) (fun _ => Objs.good) LkL.good h rfl (fun A hA _ => by
    have hat := hA.2.2 a (List.mem_of_getElem? hi)
    obtain ⟨p, u⟩ := hA.set_ (a' := a') hi hp
    refine ⟨(), _, A, p, u, ?_⟩
    rw [st_at hat rfl j v hv (by simpa [askC] using hj), askO, hc])
  exact ⟨H', F', c, p, u⟩
theorem lk_new (h : Sep (LkL l s L es cnt wl bs ts) H F) {a : Ask} (hp : a.p = H.length) : ∃ F', Sep (LkL l s L es cnt wl (bs ++ [a]) ts) (H ++ [askO a]) F' ∧ Upd H F (H ++ [askO a]) F' := by
  obtain ⟨_, H', F', p, u, c⟩ := Sep.upd (ι := Unit) (k := 3) (P' := fun _ => Objs (·.p) askO (bs ++ [a])) (C := fun _ H' => H' = H ++ [askO a]) (fun _ => Objs.good) LkL.good h rfl (fun A hA _ => by
    obtain ⟨p, u⟩ := hA.snoc hp
    exact ⟨(), _, _, p, u, rfl⟩)
  subst c
  exact ⟨F', p, u⟩
theorem lk_sub (h : Sep (LkL l s L es cnt wl bs ts) H F) {cs : List Ask} (hs : cs.Sublist bs) : ∃ F', Sep (LkL l s L es cnt wl cs ts) H F' ∧ Upd H F H F' := by
  obtain ⟨_, H', F', p, u, c⟩ := Sep.upd (ι := Unit) (k := 3) (P' := fun _ => Objs (·.p) askO cs) (C := fun _ H' => H' = H) (fun _ => Objs.good) LkL.good h rfl (fun A hA _ => by
    obtain ⟨G, p, hG⟩ := hA.sub hs
    exact ⟨(), _, G, p, ⟨Nat.le_refl _, fun _ _ _ => rfl, fun id hid => .inl (hG id hid)⟩, rfl⟩)
  subst c
  exact ⟨F', p, u⟩
theorem lk_map (h : Sep (LkL l s L es cnt wl bs ts) H F) (es' : List (Int × Value)) : ∃ F', Sep (LkL l s L es' cnt wl bs ts) (H.set L.m (.map es')) F' ∧ Upd H F (H.set L.m (.map es')) F' := by
  obtain ⟨_, H', F', p, u, c⟩ := Sep.upd (ι := Unit) (k := 1) (P' := fun _ => At L.m (.map es')) (C := fun _ H' => H' = H.set L.m (.map es')) (fun _ => At.good) LkL.good h rfl (fun A hA _ => by
    obtain ⟨rfl, hA⟩ := hA
    have hlt := (List.getElem?_eq_some_iff.1 hA).1
    exact ⟨(), _, [L.m], ⟨rfl, List.getElem?_set_self hlt⟩, ⟨by simp, fun id _ hn => List.getElem?_set_ne (fun e => hn (by simp [e])), fun _ h => .inl h⟩, rfl⟩)
  subst c
  exact ⟨F', p, u⟩
theorem lk_put (h31 : mp 31 = some (.code m31)) (h : Sep (LkL l s L es cnt wl bs ts) H F) (hl : wl.length < 64) (x : Int) : ∃ H' F', R mp 31 [.pointer (some ⟨L.w, 0, none⟩), .int .i64 x] H = some (.int .i64 0, H') ∧ Sep (LkL l s L es cnt (wl ++ [x]) bs ts) H' F' ∧ Upd H F H' F' := by
  obtain ⟨_, H', F', p, u, c⟩ := Sep.upd (ι := Unit) (k := 2) (P' := fun _ => LineA L.w (wl ++ [x]) 64) (C := fun _ H' => R mp 31 [.pointer (some ⟨L.w, 0, none⟩), .int .i64 x] H = some (.int .i64 0, H')) (fun _ => LineA.good) LkL.good h rfl (fun A ⟨lv, fp, hl', hA⟩ _ => by
    obtain ⟨v', H', fp', e1, l1, f1, n1⟩ := R_lput (mp := mp) h31 hl' (by omega) (by omega) x
    refine ⟨(), H', _, LineA.of l1, Upd.of_fp f1 (fun id _ h => (hA id).2 h) fun id hid => ?_, e1⟩
    simp at hid
    rcases hid with rfl | hid
    · exact .inl ((hA _).2 (.inl rfl))
    · exact (n1 id hid).imp (fun h => (hA id).2 (.inr h)) fun h => h)
  exact ⟨H', F', c, p, u⟩
theorem lk_drop (h42 : mp 42 = some (.code m42)) (h63 : mp 63 = some (.code (cDelete 1 8 [.int .i64 0]))) (h : Sep (LkL l s L es cnt wl bs ts) H F) (x : Int) : ∃ H' F', R mp 42 [.pointer (some ⟨L.w, 0, none⟩), .int .i64 x] H = some (.bool (decide (x ∈ wl)), H') ∧ Sep (LkL l s L es cnt (wl.erase x) bs ts) H' F' ∧ Upd H F H' F' := by
  obtain ⟨_, H', F', p, u, c⟩ := Sep.upd (ι := Unit) (k := 2) (P' := fun _ => LineA L.w (wl.erase x) 64) (C := fun _ H' => R mp 42 [.pointer (some ⟨L.w, 0, none⟩), .int .i64 x] H = some (.bool (decide (x ∈ wl)), H')) (fun _ => LineA.good) LkL.good h rfl (fun A ⟨lv, fp, hl', hA⟩ _ => by
    obtain ⟨v', H', e1, l1, f1⟩ := R_ldrop (mp := mp) h42 h63 hl' x
    exact ⟨(), H', _, LineA.of l1, Upd.of_fp f1 (fun id _ h => (hA id).2 h) fun id hid => .inl ((hA id).2 (by simpa using hid)), e1⟩)
  exact ⟨H', F', c, p, u⟩
/-- A token is taken, if there is room. -/
theorem lk_room (h : Sep (LkL l s L es cnt wl bs ts) H F) {i : Nat} {c : Chn} (hi : ts[i]? = some c) (hr : c.cnt < c.cap) {z : Value} : ∃ H' F', meff (.sel1 true z false) [.chan (some c.id), .agg #[]] H = some (.tuple #[.int .i64 0, .bool false], H') ∧ Sep (LkL l s L es cnt wl bs (ts.set i { c with cnt := c.cnt + 1 })) H' F' ∧ Upd H F H' F' := by
  obtain ⟨_, H', F', p, u, c⟩ := Sep.upd (ι := Unit) (k := 4) (P' := fun _ => Objs (·.id) chnO (ts.set i { c with cnt := c.cnt + 1 })) (C := fun _ H' => meff (.sel1 true z false) [.chan (some c.id), .agg #[]] H = some (.tuple #[.int .i64 0, .bool false], H')) (fun _ => Objs.good) LkL.good h rfl (fun A hA _ => by
    have hat := hA.2.2 c (List.mem_of_getElem? hi)
    obtain ⟨p, u⟩ := hA.set_ (a' := { c with cnt := c.cnt + 1 }) hi rfl
    refine ⟨(), _, A, p, u, ?_⟩
    rw [sel_room hat (by simpa using hr), chnO, List.replicate_succ'])
  exact ⟨H', F', c, p, u⟩
theorem lk_full (h : Sep (LkL l s L es cnt wl bs ts) H F) {i : Nat} {c : Chn} (hi : ts[i]? = some c) (hr : ¬ c.cnt < c.cap) {z : Value} : meff (.sel1 true z false) [.chan (some c.id), .agg #[]] H = some (.tuple #[.int .i64 (-1), .bool false], H) :=
  sel_full ((LkV.of h).chn c (List.mem_of_getElem? hi)) (by simpa using hr)
theorem lk_back (h : Sep (LkL l s L es cnt wl bs ts) H F) {i : Nat} {c : Chn} (hi : ts[i]? = some c) (hr : 0 < c.cnt) {z : Value} : ∃ H' F', meff (.rcv z false) [.chan (some c.id)] H = some (.agg #[], H') ∧ Sep (LkL l s L es cnt wl bs (ts.set i { c with cnt := c.cnt - 1 })) H' F' ∧ Upd H F H' F' := by
  obtain ⟨_, H', F', p, u, c⟩ := Sep.upd (ι := Unit) (k := 4) (P' := fun _ => Objs (·.id) chnO (ts.set i { c with cnt := c.cnt - 1 })) (C := fun _ H' => meff (.rcv z false) [.chan (some c.id)] H = some (.agg #[], H')) (fun _ => Objs.good) LkL.good h rfl (fun A hA _ => by
    have hat := hA.2.2 c (List.mem_of_getElem? hi)
    obtain ⟨p, u⟩ := hA.set_ (a' := { c with cnt := c.cnt - 1 }) hi rfl
    refine ⟨(), _, A, p, u, ?_⟩
    obtain ⟨k, hk⟩ : ∃ k, c.cnt = k + 1 := ⟨c.cnt - 1, by omega⟩
    rw [chnO, hk, List.replicate_succ] at hat
    rw [rcv_at hat, chnO, hk]
    rfl)
  exact ⟨H', F', c, p, u⟩
/-- What lies outside. -/
def Out (b : Nat) (o : MObj) (H : MH) (F : List Nat) : Prop := H[b]? = some o ∧ b ∉ F
theorem Out.upd {b : Nat} {o : MObj} {F1 : List Nat} (h : Out b o H F) (u : Upd H F H1 F1) : Out b o H1 F1 := by
  refine ⟨u.get h.1 h.2, fun hb => ?_⟩
  rcases u.new b hb with h' | h'
  · exact h.2 h'
  · have := (List.getElem?_eq_some_iff.1 h.1).1; omega

/-! ### one of the asks turns -/
def updA (ak : List Ask) (n : Int) (f : Ask → Ask) : List Ask := ak.map fun a => if (a.n : Int) = n then f a else a
def uniqA (ak : List Ask) : Prop := (ak.map (·.n)).Nodup
theorem find_at {ak : List Ask} {n : Int} {a : Ask} (h : findA ak n = some a) : ∃ i : Nat, ak[i]? = some a ∧ (a.n : Int) = n :=
  let ⟨h1, h2⟩ := findA_mem h
  let ⟨i, hi⟩ := List.mem_iff_getElem?.1 h1
  ⟨i, hi, h2⟩
theorem updA_set {ak : List Ask} {n : Int} {f : Ask → Ask} {a : Ask} {i : Nat} (hu : uniqA ak) (hi : ak[i]? = some a) (hn : (a.n : Int) = n) : updA ak n f = ak.set i (f a) := by
  apply List.ext_getElem?
  intro k
  unfold updA
  rw [List.getElem?_map]
  by_cases e : i = k
  · subst e
    rw [List.getElem?_set_self (List.getElem?_eq_some_iff.1 hi).1, hi]
    simp [hn]
  · rw [List.getElem?_set_ne e]
    cases hk : ak[k]? with
    | none => rfl
    | some b =>
      have hne : ¬ (b.n : Int) = n := fun e' => e (map_inj_at hu hi hk (by omega))
      simp [hne]
theorem updA_n {ak : List Ask} {n : Int} {f : Ask → Ask} (hf : ∀ a, (f a).n = a.n) : (updA ak n f).map (·.n) = ak.map (·.n) := by
  unfold updA
  rw [List.map_map]
  apply List.map_congr_left
  intro a _
  simp only [Function.comp]
  split
  · exact hf a
  · rfl
theorem updA_uniq {ak : List Ask} {n : Int} {f : Ask → Ask} (hf : ∀ a, (f a).n = a.n) (h : uniqA ak) : uniqA (updA ak n f) := by
  unfold uniqA; rw [updA_n hf]; exact h
theorem updA_ent {ak : List Ask} {n : Int} {f : Ask → Ask} (hf : ∀ a, (f a).n = a.n) (hp : ∀ a, (f a).p = a.p) : (updA ak n f).map entC = ak.map entC := by
  unfold updA
  rw [List.map_map]
  apply List.map_congr_left
  intro a _
  simp only [Function.comp]
  split
  · simp [entC, hf, hp]
  · rfl
theorem uniq_find {ak : List Ask} (hu : uniqA ak) {a : Ask} (ha : a ∈ ak) : findA ak (a.n : Int) = some a := by
  cases hf : findA ak (a.n : Int) with
  | none =>
    have := List.find?_eq_none.1 hf a ha
    simp at this
  | some b =>
    obtain ⟨hb, hn⟩ := findA_mem hf
    obtain ⟨i, hi⟩ := List.mem_iff_getElem?.1 ha
    obtain ⟨k, hk⟩ := List.mem_iff_getElem?.1 hb
    have := map_inj_at hu hi hk (by omega)
    subst this
    rw [hi] at hk; exact hk.symm
theorem find_upd {ak : List Ask} {n : Int} {f : Ask → Ask} (hf : ∀ a, (f a).n = a.n) (m : Int) : findA (updA ak n f) m = (findA ak m).map fun a => if (a.n : Int) = n then f a else a := by
  induction ak with
  | nil => rfl
  | cons a ak ih =>
    unfold findA updA at ih ⊢
    rw [List.map_cons]
    have hn : ((if (a.n : Int) = n then f a else a).n : Int) = (a.n : Int) := by split; rw [hf]; rfl
    by_cases h : (a.n : Int) = m
    · rw [List.find?_cons_of_pos (by simpa [hn] using h), List.find?_cons_of_pos (by simpa using h)]; rfl
    · rw [List.find?_cons_of_neg (by simpa [hn] using h), List.find?_cons_of_neg (by simpa using h)]; exact ih
theorem mem_waitL {ak : List Ask} {n : Int} : n ∈ waitL ak ↔ ∃ a ∈ ak, a.holds = false ∧ (a.n : Int) = n := by
  simp [waitL, and_assoc]
theorem waitL_hold {ak : List Ask} {n : Int} (hu : uniqA ak) : waitL (updA ak n fun a => { a with holds := true }) = (waitL ak).erase n := by
  induction ak with
  | nil => rfl
  | cons a ak ih =>
    have hu' : uniqA ak := (List.nodup_cons.1 hu).2
    have hna : a.n ∉ ak.map (·.n) := (List.nodup_cons.1 hu).1
    have ih := ih hu'
    unfold waitL updA at ih ⊢
    rw [List.map_cons]
    by_cases hn : (a.n : Int) = n
    · have hno : n ∉ (ak.filter fun a => !a.holds).map fun a => (a.n : Int) := by
        intro h
        obtain ⟨b, hb, e⟩ := List.mem_map.1 h
        exact hna (List.mem_map.2 ⟨b, (List.mem_filter.1 hb).1, by show b.n = a.n; omega⟩)
      rw [List.erase_of_not_mem hno] at ih
      rw [if_pos hn]
      by_cases hh : a.holds = true
      · simp only [List.filter_cons, hh, Bool.not_true, Bool.false_eq_true, if_false]
        rw [ih, List.erase_of_not_mem hno]
      · have hh : a.holds = false := by simpa using hh
        simp only [List.filter_cons, hh, Bool.not_true, Bool.not_false, Bool.false_eq_true, if_false, if_true, List.map_cons]
        rw [ih, hn, List.erase_cons_head]
    · rw [if_neg hn]
      by_cases hh : a.holds = true
      · simp only [List.filter_cons, hh, Bool.not_true, Bool.false_eq_true, if_false]
        exact ih
      · have hh : a.holds = false := by simpa using hh
        simp only [List.filter_cons, hh, Bool.not_false, if_true, List.map_cons]
        rw [List.erase_cons_tail (by simpa using hn), ih]
end
end Go.Mod

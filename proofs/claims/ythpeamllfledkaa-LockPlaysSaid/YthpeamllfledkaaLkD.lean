/- Who holds: New. -/
import Derived.Test.YthpeamllfledkaaLkC
set_option linter.unusedVariables false
set_option linter.unusedSimpArgs false
namespace Go.Mod

theorem mop_mkchan' {call : CallF} {vs : List Value} {H : MH} {b n : Nat} : mop call (.mkchan n) vs H (some b) = putO H b (malloc (.mkchan n) vs b) := mop_alloc' rfl
def emptyS : SetL := ⟨0, [], none, 0, [], none, 0, [], none, 0⟩
/-- Locks that are being made. -/
def LkB (l : Nat) (s : SetL) (m w : Nat) (v : Value) (ts : List Chn) : List (MH → List Nat → Prop) :=
  [Pt l ⟨0, true, false⟩ [.int .i64 s.proto, .slice s.ca s.cores.length s.cc, .slice s.ha s.homes.length s.hc, .slice s.ta s.tasks.length s.tc, .map (some m), .pointer (some ⟨w, 0, none⟩), v, .int .i64 0], At m (.map []), LineA w [] 64, Objs (·.p) askO [], Objs (·.id) chnO ts, RecA 1 s.ca s.cores intC, RecA 1 s.ha s.homes intC, RecA 6 s.ta s.tasks taskC, OwnA 1 v (ts.flatMap fun c => chC c.id)]
section
variable {mp : FuncId → Option MDef} {H H0 H1 : MH} {F : List Nat} {l : Nat} {s s0 : SetL} {m w : Nat} {ts : List Chn}
theorem LkB.good {v : Value} : ∀ P ∈ LkB l s m w v ts, Good P := by
  intro P hP
  simp only [LkB, List.mem_cons, List.not_mem_nil, or_false] at hP
  rcases hP with rfl | rfl | rfl | rfl | rfl | rfl | rfl | rfl | rfl
  · exact Pt.good
  · exact At.good
  · exact LineA.good
  · exact Objs.good
  · exact Objs.good
  · exact RecA.good
  · exact RecA.good
  · exact RecA.good
  · exact OwnA.good
/-- A cluster's channel more. -/
theorem lkb_more {v : Value} (h : Sep (LkB l s m w v ts) H F) {cap : Nat} (hl : ts.length ≤ 100) : ∃ (a' : Option Addr) (n' c' : Nat) (H1 H' : MH) (F' : List Nat),
    meff (.app 1 8) [v, .slice (some ⟨H.length + 1, 0, none⟩) 1 1] (H ++ [.chan cap [], .cells ⟨1, true, true⟩ [.chan (some H.length)]]) = some (.slice a' n' c', H1) ∧
    meff (.st 1) [.pointer (some ⟨l, 6, none⟩), .slice a' n' c'] H1 = some (.tuple #[], H') ∧ Sep (LkB l s m w (.slice a' n' c') (ts ++ [⟨H.length, cap, 0⟩])) H' F' ∧ Upd H F H' F' := by
  -- the channel
  obtain ⟨_, H2, F2, p2, u2, c2⟩ := Sep.upd (ι := Unit) (k := 4) (P' := fun _ => Objs (·.id) chnO (ts ++ [⟨H.length, cap, 0⟩])) (C := fun _ H' => H' = H ++ [.chan cap []]) (fun _ => Objs.good) LkB.good h rfl (fun A hA _ => by
    obtain ⟨p, u⟩ := hA.snoc (a := ⟨H.length, cap, 0⟩) rfl
    exact ⟨(), _, _, p, u, rfl⟩)
  subst c2
  have hlen : (ts.flatMap fun c => chC c.id).length = ts.length := by
    have := flat_len (f := fun c : Chn => chC c.id) (w := 1) (l := ts) fun _ _ => rfl
    omega
  have hall : (ts.flatMap fun c => chC c.id).all one = true := by
    rw [List.all_eq_true]
    intro x hx
    obtain ⟨c, _, hc⟩ := List.mem_flatMap.1 hx
    simp [chC] at hc; subst hc; rfl
  have g2 : ∀ P ∈ (LkB l s m w v ts).set 4 (Objs (·.id) chnO (ts ++ [⟨H.length, cap, 0⟩])), Good P := fun P hP => by
    rcases List.mem_or_eq_of_mem_set hP with h | rfl
    · exact LkB.good P h
    · exact Objs.good
  obtain ⟨q, H3, F3, p3, u3, c3⟩ := Sep.upd (ι := Option Addr × Nat × Nat) (k := 8) (P' := fun q => OwnA 1 (.slice q.1 q.2.1 q.2.2) ((ts ++ [(⟨H.length, cap, 0⟩ : Chn)]).flatMap fun c : Chn => chC c.id)) (C := fun q H' => meff (.app 1 8) [v, .slice (some ⟨(H ++ [MObj.chan cap []]).length, 0, none⟩) 1 1] ((H ++ [.chan cap []]) ++ [.cells ⟨1, true, true⟩ [.chan (some H.length)]]) = some (.slice q.1 q.2.1 q.2.2, H')) (fun _ => OwnA.good) g2 p2 rfl (fun A hA _ => by
    obtain ⟨a2, n2, c2, H2, G2, q1, q2, q3⟩ := own_push1 (es := 1) (bytes := 8) (xs := [.chan (some H.length)]) hA hall rfl rfl (by omega) (by omega) (by omega)
    refine ⟨(a2, n2, c2), H2, G2, ?_, q3, q1⟩
    rw [List.flatMap_append]
    exact q2)
  obtain ⟨a', n', c'⟩ := q
  have g3 : ∀ P ∈ ((LkB l s m w v ts).set 4 (Objs (·.id) chnO (ts ++ [⟨H.length, cap, 0⟩]))).set 8 (OwnA 1 (.slice a' n' c') ((ts ++ [(⟨H.length, cap, 0⟩ : Chn)]).flatMap fun c : Chn => chC c.id)), Good P := fun P hP => by
    rcases List.mem_or_eq_of_mem_set hP with h | rfl
    · exact g2 P h
    · exact OwnA.good
  obtain ⟨_, H4, F4, p4, u4, c4⟩ := Sep.upd (ι := Unit) (k := 0) (P' := fun _ => Pt l ⟨0, true, false⟩ [.int .i64 s.proto, .slice s.ca s.cores.length s.cc, .slice s.ha s.homes.length s.hc, .slice s.ta s.tasks.length s.tc, .map (some m), .pointer (some ⟨w, 0, none⟩), .slice a' n' c', .int .i64 0]) (C := fun _ H' => meff (.st 1) [.pointer (some ⟨l, 6, none⟩), .slice a' n' c'] H3 = some (.tuple #[], H')) (fun _ => Pt.good) g3 p3 rfl (fun A hA _ => by
    obtain ⟨rfl, hA⟩ := hA
    have hlt := (List.getElem?_eq_some_iff.1 hA).1
    exact ⟨(), _, [l], ⟨rfl, List.getElem?_set_self hlt⟩, ⟨by simp, fun id _ hn => List.getElem?_set_ne (fun e => hn (by simp [e])), fun _ h => .inl h⟩, st_at hA rfl 6 _ rfl (by simp)⟩)
  exact ⟨a', n', c', H3, H4, F4, by simpa using c3, c4, p4, (u2.trans u3).trans u4⟩
theorem new_loop {ca : Option Addr} {cc : Nat} {cores : List Int} (hn : cores.length ≤ 50) (hcap : ∀ k ∈ cores, 1 ≤ k ∧ k ≤ 3) : ∀ (k i : Nat) (H : MH) (F : List Nat) (v : Value) (ts : List Chn), i + k = cores.length → ts.length ≤ i → Sep (LkB l s m w v ts) H F → one v = true → RowG 1 H ca cores intC → (cores ≠ [] → adB ca ∉ F) →
    ∃ (v' : Value) (ts' : List Chn) (H' : MH) (F' : List Nat), Rc mp (.loop m10_0) [(3, .pointer (some ⟨l, 0, none⟩)), (26, .slice ca cores.length cc), (27, .int .i64 (cores.length : Int)), (28, .int .i64 (i : Int))] H =
      some (.exit 0, [(3, .pointer (some ⟨l, 0, none⟩)), (26, .slice ca cores.length cc), (27, .int .i64 (cores.length : Int)), (28, .int .i64 (cores.length : Int)), (29, .bool false)], H') ∧
      Sep (LkB l s m w v' ts') H' F' ∧ Upd H F H' F' ∧ (ts'.map fun c => ((c.cap : Int), c.cnt)) = (ts.map fun c => ((c.cap : Int), c.cnt)) ++ (cores.drop i).map fun k => (k, 0) := by
  intro k
  induction k with
  | zero =>
    intro i H F v ts hi htl hS hv hr hd
    have : i = cores.length := by omega
    subst this
    refine ⟨v, ts, H, F, ?_, hS, Upd.refl _ _, by simp⟩
    rw [Rc_loop]
    simp [m10_0]
  | succ k ih =>
    intro i H F v ts hi htl hS hv hr hd
    have hil : i < cores.length := by omega
    have hne : cores ≠ [] := by rintro rfl; simp at hil
    obtain ⟨y, hy⟩ : ∃ y, cores[i]? = some y := ⟨_, List.getElem?_eq_getElem hil⟩
    have hdr : cores.drop i = y :: cores.drop (i + 1) := by rw [List.drop_eq_getElem_cons hil]; congr 1; exact (List.getElem?_eq_some_iff.1 hy).2
    obtain ⟨y0, y1⟩ := hcap y (List.mem_of_getElem? hy)
    obtain ⟨yn, rfl⟩ : ∃ yn : Nat, y = (yn : Int) := ⟨y.toNat, by omega⟩
    have wI : IntKind.i64.wrap ((i : Int) + 1) = (i : Int) + 1 := wrap_i64 (by omega) (by omega)
    obtain ⟨a', n', c', H1, H', F', e1, e2, p1, u1⟩ := lkb_more hS (cap := yn) (by omega)
    have hb : adB ca < H.length := by
      obtain ⟨j, cs, h1, _⟩ := hr.rec_ i _ hy
      exact (List.getElem?_eq_some_iff.1 h1).1
    obtain ⟨v', ts', H2, F2, e3, p2, u2, t2⟩ := ih (i + 1) H' F' (.slice a' n' c') (ts ++ [⟨H.length, yn, 0⟩]) (by omega) (by simp; omega) p1 rfl (hr.frame fun _ => u1.same _ hb (hd hne)) (fun h hm => by
      rcases u1.new _ hm with h' | h'
      · exact hd h h'
      · omega)
    refine ⟨v', ts', H2, F2, ?_, p2, u1.trans u2, ?_⟩
    · have hia := hr.ia cc .i64 (i : Int)
      rw [if_pos (by omega)] at hia
      simp at hia
      have hrd := hr.rd1 hy _ (Ext.refl _)
      simp only [intC] at hrd
      obtain ⟨A, hA, _⟩ := Sep.at_ (k := 0) hS rfl
      have x2 : Ext H (H ++ [.dead, .dead]) := ⟨_, rfl⟩
      have hl0 := ld_at (x2.get hA.2)
      have mk := mk_chan (m := yn) (n := 0) (k := .i64) (by omega) (by omega)
      have hvu := one_unk hv
      rw [Rc_loop]
      simp at e1 e2 e3
      simp [m10_0, hil, hia, hrd, mdraw_full, hl0, mop_mkchan', mk, e1, e2, wI, hvu]
      exact e3
    · rw [t2, hdr]; simp
end
end Go.Mod

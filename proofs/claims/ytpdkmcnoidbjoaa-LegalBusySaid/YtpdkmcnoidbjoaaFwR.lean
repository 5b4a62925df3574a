/- A region whose order is drawn, II: whatever order is drawn, what the model's run told is what there is. -/
import Derived.Test.YtpdkmcnoidbjoaaFwQ
set_option linter.unusedVariables false
set_option linter.unusedSimpArgs false
namespace Go.Mod

theorem HRel.weaken {φ : Ren} {h1 h2 : Nat → Option MObj} {w : World} (h : HRel φ h1 w) (hpt : ∀ id pl, φ id = some pl → h2 id = some .dead ∨ h2 id = h1 id) : HRel φ h2 w := by
  refine ⟨fun id pl hφ => ?_, h.lt, fun i j pi pj oi oj hi hj hoi hoj hmi hlj hb => ?_⟩
  · rcases hpt id pl hφ with e | e
    · exact ⟨_, e, trivial⟩
    · obtain ⟨o, h1, h2⟩ := h.obj id pl hφ
      exact ⟨o, e.trans h1, h2⟩
  · rcases hpt i pi hi with e | e
    · rw [hoi] at e; cases e; simp [MObj.mut] at hmi
    · rcases hpt j pj hj with e2 | e2
      · rw [hoj] at e2; cases e2; simp [MObj.live] at hlj
      · exact h.sep i j pi pj oi oj hi hj (e ▸ hoi) (e2 ▸ hoj) hmi hlj hb

/-- All that is known of a drawn region. -/
structure Ctx (P : Program) (call : CallF) (n : Nat) (ops : Array Oper) (all : List MOper) (base : Nat) (S : Nat → Reg × MH) (anc : Nat → List Nat) (H : MH) : Prop where
  callOk : CallOk P call
  tame : Tame call
  len : all.length = ops.size
  comp : ∀ (i : Nat) o m, ops[i]? = some o → all[i]? = some m → Comp P n ops o m
  run : TextRun call all base S
  back : ∀ (i : Nat) o, ops[i]? = some o → ∀ e ∈ direct o, e < i
  ancs : ∀ (i : Nat) o, ops[i]? = some o → ∀ j ∈ anc i, j ∈ direct o ∨ ∃ e ∈ direct o, j ∈ anc e
  ok : ∀ (i j : Nat) a b, i < j → all[i]? = some a → all[j]? = some b → (clash a b = true ∨ (isEff a = true ∧ isEff b = true)) → i ∈ anc j
  noComm : ∀ (i : Nat) m, all[i]? = some m → noComm m = true
  pread : ∀ (i j : Nat) a b vs v, all[i]? = some a → all[j]? = some b → a.op.kind = .read → isEff b = true → i ∉ anc j → j ∉ anc i → mwant (S i).1 a.guard = some true → evs (S i).1 a.args = some vs → mread a.op vs (S i).2 = some v →
    mread a.op vs (S j).2 = some v ∧ mread a.op vs (S (j + 1)).2 = some v
  palloc : ∀ (i j : Nat) a b, all[i]? = some a → all[j]? = some b → a.op.kind = .alloc → isEff b = true → i < j → i ∉ anc j → j ∉ anc i → (S (j + 1)).2[allocAt all base i]? = (S (i + 1)).2[allocAt all base i]?
  base_eq : H.length = base
  start : (S 0).2 = H ++ List.replicate (nalloc all) .dead

section
variable {P : Program} {call : CallF} {n : Nat} {ops : Array Oper} {all : List MOper} {base : Nat} {S : Nat → Reg × MH} {anc : Nat → List Nat} {H : MH} {φ0 : Ren} {w0 : World} {ds : List Deferred}

def Early (all : List MOper) (base p : Nat) (L : Nat → Prop) (id i : Nat) : Prop := (∃ m, all[i]? = some m ∧ m.op.kind = .alloc) ∧ L i ∧ p ≤ i ∧ allocAt all base i = id

open Classical in
/-- The heap as it is when the operations of L have been done. -/
noncomputable def virt (all : List MOper) (base : Nat) (S : Nat → Reg × MH) (p : Nat) (L : Nat → Prop) : Nat → Option MObj :=
  fun id => if h : ∃ i, Early all base p L id i then (S (h.choose + 1)).2[id]? else (S p).2[id]?

theorem alloc_inj {i j : Nat} {a b : MOper} (ha : all[i]? = some a) (hka : a.op.kind = .alloc) (hb : all[j]? = some b) (hkb : b.op.kind = .alloc) (h : allocAt all base i = allocAt all base j) : i = j := by
  rcases Nat.lt_trichotomy i j with hij | hij | hij
  · have := allocAt_mono all base i j a ha hka hij; omega
  · exact hij
  · have := allocAt_mono all base j i b hb hkb hij; omega

theorem virt_early {p : Nat} {L : Nat → Prop} {id i : Nat} (h : Early all base p L id i) : virt all base S p L id = (S (i + 1)).2[id]? := by
  have hex : ∃ i, Early all base p L id i := ⟨i, h⟩
  unfold virt
  rw [dif_pos hex]
  have hc := hex.choose_spec
  obtain ⟨⟨m, hm, hk⟩, _, _, he⟩ := h
  obtain ⟨⟨m', hm', hk'⟩, _, _, he'⟩ := hc
  rw [alloc_inj hm' hk' hm hk (he'.trans he.symm)]
theorem virt_else {p : Nat} {L : Nat → Prop} {id : Nat} (h : ¬ ∃ i, Early all base p L id i) : virt all base S p L id = (S p).2[id]? := by
  unfold virt; rw [dif_neg h]

structure Inv (P : Program) (call : CallF) (n : Nat) (ops : Array Oper) (all : List MOper) (base : Nat) (S : Nat → Reg × MH) (H : MH) (φ0 : Ren) (w0 : World) (ds : List Deferred) (φ : Ren) (p : Nat) (listed : Array Bool) (a : Act) (w : World) : Prop where
  lsz : listed.size = ops.size
  hp : p ≤ ops.size
  closed : ∀ (i : Nat), listed.getD i false = true → ∀ o, ops[i]? = some o → ∀ e ∈ direct o, listed.getD e false = true
  pos : p = 0 ∨ ∃ e m, p = e + 1 ∧ all[e]? = some m ∧ isEff m = true ∧ listed.getD e false = true
  eff : ∀ (e : Nat) m, all[e]? = some m → isEff m = true → (listed.getD e false = true ↔ e < p)
  st : Step base φ0 (Mod.hp H) w0 φ (virt all base S p fun i => listed.getD i false = true) w
  unm : ∀ (i : Nat) m, all[i]? = some m → m.op.kind = .alloc → ¬ listed.getD i false = true → φ (allocAt all base i) = none
  tsz : n ≤ a.tmps.size
  regs : ∀ (t i : Nat), i ≤ all.length → (∀ q, q < i → writer all t q → listed.getD q false = true) → (∀ q, i ≤ q → writer all t q → ¬ listed.getD q false = true) → ∀ v, rget (S i).1 t = some v → VRel φ v (a.tmps.getD t undef)
  dfs : a.defers = ds

variable {φ : Ren} {p : Nat} {listed : Array Bool} {a : Act} {w : World}

theorem Ctx.start_dead (C : Ctx P call n ops all base S anc H) {i : Nat} {m : MOper} (hm : all[i]? = some m) (hk : m.op.kind = .alloc) : (S 0).2[allocAt all base i]? = some .dead := by
  rw [C.start]
  have h1 := allocAt_ge all base i
  have h2 := allocAt_lt all base i m hm hk
  rw [List.getElem?_append_right (by rw [C.base_eq]; omega), List.getElem?_replicate, if_pos (by rw [C.base_eq]; omega)]

theorem Ctx.heapAt (C : Ctx P call n ops all base S anc H) (I : Inv P call n ops all base S H φ0 w0 ds φ p listed a w) {j : Nat} (hpj : p ≤ j) (hj : j ≤ all.length) (hno : ∀ q m, p ≤ q → q < j → all[q]? = some m → isEff m = false) :
    HRel φ (Mod.hp (S j).2) w := by
  refine I.st.rel.weaken fun id pl hφ => ?_
  by_cases he : ∃ i, Early all base p (fun i => listed.getD i false = true) id i
  · obtain ⟨i, hE⟩ := he
    have hE0 := hE
    obtain ⟨⟨m, hm, hk⟩, hL, hpi, hid⟩ := hE
    by_cases hij : i < j
    · right
      rw [virt_early hE0]
      have := (C.run.heap (id := id) (i + 1) (j - (i + 1)) (by omega) (fun q m' h1 h2 hm' => ⟨hno q m' (by omega) (by omega) hm', C.noComm q m' hm', fun hk' e => by
        have := alloc_inj hm hk hm' hk' (hid.trans e.symm); omega⟩)).1
      rw [show i + 1 + (j - (i + 1)) = j by omega] at this
      exact this
    · left
      have := C.run.dead C.tame (id := id) 0 j (by omega) (fun q m' h1 h2 hm' hk' e => by
        have := alloc_inj hm hk hm' hk' (hid.trans e.symm); omega) (by rw [← hid]; exact C.start_dead hm hk)
      rw [Nat.zero_add] at this
      exact this
  · right
    rw [virt_else he]
    have := (C.run.heap (id := id) p (j - p) (by omega) (fun q m' h1 h2 hm' => ⟨hno q m' (by omega) (by omega) hm', C.noComm q m' hm', fun hk' e => by
      by_cases hL : listed.getD q false = true
      · exact he ⟨q, ⟨m', hm', hk'⟩, hL, h1, e⟩
      · have := I.unm q m' hm' hk' hL
        rw [e, hφ] at this; cases this⟩)).1
    rw [show p + (j - p) = j by omega] at this
    exact this

theorem Inv.ancs_listed (C : Ctx P call n ops all base S anc H) (I : Inv P call n ops all base S H φ0 w0 ds φ p listed a w) : ∀ (k i : Nat), i < k → ∀ o, ops[i]? = some o → (∀ e ∈ direct o, listed.getD e false = true) → ∀ j ∈ anc i, listed.getD j false = true
  | 0, i, h, _, _, _, _, _ => by omega
  | k + 1, i, hik, o, ho, hd, j, hj => by
    rcases C.ancs i o ho j hj with h | ⟨e, he, hje⟩
    · exact hd j h
    · have hlt := C.back i o ho e he
      have hes : e < ops.size := by have := (Array.getElem?_eq_some_iff.1 ho).1; omega
      have hoe : ops[e]? = some (ops[e]) := Array.getElem?_eq_getElem hes
      exact Inv.ancs_listed C I k e (by omega) _ hoe (I.closed e (hd e he) _ hoe) j hje
theorem Inv.anc_of (C : Ctx P call n ops all base S anc H) (I : Inv P call n ops all base S H φ0 w0 ds φ p listed a w) {i : Nat} (hL : listed.getD i false = true) (hi : i < ops.size) : ∀ j ∈ anc i, listed.getD j false = true :=
  I.ancs_listed C (i + 1) i (Nat.lt_succ_self i) _ (Array.getElem?_eq_getElem hi) (I.closed i hL _ (Array.getElem?_eq_getElem hi))

theorem getD_set {listed : Array Bool} {i j : Nat} (hi : i < listed.size) : (listed.setIfInBounds i true).getD j false = if i = j then true else listed.getD j false := by
  simp only [Array.getD_eq_getD_getElem?, Array.getElem?_setIfInBounds]
  by_cases h : i = j
  · subst h; simp [hi]
  · simp [h]

theorem rget_filter (T : Reg) (us : List Nat) (t : Nat) : rget (T.filter fun q => us.elem q.1) t = if us.elem t = true then rget T t else none := by
  induction T with
  | nil => simp [rget]
  | cons q T ih =>
    obtain ⟨u, x⟩ := q
    by_cases hu : us.elem u = true
    · rw [List.filter_cons_of_pos (by simpa using hu)]
      simp only [rget]
      by_cases e : t = u
      · subst e; simp only [if_true]; rw [if_pos hu]
      · rw [if_neg e, if_neg e]; exact ih
    · rw [List.filter_cons_of_neg (by simpa using hu)]
      rw [ih]
      by_cases e : t = u
      · subst e; rw [if_neg hu, if_neg hu]
      · simp only [rget, if_neg e]

theorem evs_filter (T : Reg) (us : List Nat) : ∀ (as : List Arg), (∀ t ∈ argRegs as, us.elem t = true) → evs (T.filter fun q => us.elem q.1) as = evs T as
  | [], _ => rfl
  | .k v :: as, h => by simp only [evs, Arg.ev]; rw [evs_filter T us as (fun t ht => h t (by simpa [argRegs] using ht))]
  | .r t :: as, h => by
    simp only [evs, Arg.ev]
    rw [evs_filter T us as (fun t ht => h t (by simp [argRegs, ht])), rget_filter, if_pos (h t (by simp [argRegs]))]
theorem want_filter (T : Reg) (us : List Nat) (g : Option (Nat × Bool)) (h : ∀ r b, g = some (r, b) → us.elem r = true) : mwant (T.filter fun q => us.elem q.1) g = mwant T g := by
  cases g with
  | none => rfl
  | some x => obtain ⟨r, b⟩ := x; simp only [mwant]; rw [rget_filter, if_pos (h r b rfl)]

/-- An operation that is ready: what is ahead of it has been done. -/
structure Ready (ops : Array Oper) (listed : Array Bool) (i : Nat) : Prop where
  lt : i < ops.size
  not : ¬ listed.getD i false = true
  dir : ∀ e ∈ direct (ops.getD i default), listed.getD e false = true

/-- The registers that it reads. -/
theorem Inv.trel (C : Ctx P call n ops all base S anc H) (I : Inv P call n ops all base S H φ0 w0 ds φ p listed a w) {i : Nat} {m : MOper} (hR : Ready ops listed i) (hm : all[i]? = some m) :
    TRel n φ ((S i).1.filter fun q => (uses m).elem q.1) a.tmps := by
  refine ⟨I.tsz, fun t v hv => ?_⟩
  rw [rget_filter] at hv
  split at hv <;> first | contradiction | skip
  rename_i hu
  have hil : i < all.length := by rw [C.len]; exact hR.lt
  have ho : ops[i]? = some (ops.getD i default) := by simp [Array.getD_eq_getD_getElem?, Array.getElem?_eq_getElem hR.lt]
  refine I.regs t i (by omega) (fun q hq hw => ?_) (fun q hq hw hL => ?_) v hv
  · obtain ⟨mq, hmq, hd⟩ := hw
    have : q ∈ anc i := C.ok q i mq m hq hmq hm (.inl (by unfold clash; rw [hd]; simp only []; rw [hu]; rfl))
    exact I.ancs_listed C (i + 1) i (Nat.lt_succ_self i) _ ho hR.dir q this
  · obtain ⟨mq, hmq, hd⟩ := hw
    rcases Nat.lt_or_ge i q with h | h
    · have : i ∈ anc q := C.ok i q m mq h hm hmq (.inl (by unfold clash; rw [hd]; simp only []; rw [hu]; simp))
      have hqs : q < ops.size := by rw [← C.len]; exact (List.getElem?_eq_some_iff.1 hmq).1
      exact hR.not (I.anc_of C hL hqs i this)
    · obtain rfl : q = i := by omega
      exact hR.not hL
end
end Go.Mod

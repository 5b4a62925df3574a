/- The document's words: Num, Text. -/
import Derived.Test.YthpeamllfledkaaGreatDoorGs3
set_option linter.unusedVariables false
set_option linter.unusedSimpArgs false
namespace Go.Mod
section
variable {mp : FuncId → Option MDef} {H : MH}
theorem R_numR (hf : mp 46 = some (.code m46)) {l : List UInt8} : R mp 46 [.string (B l)] H = some (.tuple #[.int .i64 ((numL l).getD 0), .bool (numL l).isSome], H) := by
  rw [R_code hf]
  by_cases h1 : l.length < 1
  · have : l = [] := List.length_eq_zero_iff.1 (by omega)
    subst this
    rw [num_bad (.inl rfl)]
    simp [m46]
  · have h1' : ¬ (l.length : Int) < 1 := by omega
    have hne : l ≠ [] := by rintro rfl; simp at h1
    by_cases h7 : 7 < l.length
    · have h7' : (7 : Int) < (l.length : Int) := by omega
      rw [num_bad (.inr (.inl h7))]
      simp [m46, hne, h1', h7']
    · have h7' : ¬ (7 : Int) < (l.length : Int) := by omega
      obtain ⟨z, hz⟩ : ∃ z, l[0]? = some z := ⟨_, List.getElem?_eq_getElem (by omega)⟩
      have hzb : (B l)[0]? = some z := by rw [B_get]; exact hz
      have loop := fun h => numR_loop (mp := mp) (H := H) (l := l) (by omega) l.length 0 (by omega) h
      have loop := loop (by simp)
      have dv : dval [] = 0 := rfl
      simp only [List.take_zero, dv] at loop
      by_cases h48 : z.toNat = 48
      · have h48' : (z.toNat : Int) = 48 := by omega
        have z48 : z = 48 := UInt8.toNat_inj.1 (by show z.toNat = 48; exact h48)
        by_cases h2 : 1 < l.length
        · have h2' : (1 : Int) < (l.length : Int) := by omega
          rw [num_bad (.inr (.inr (.inl ⟨h2, by rw [hz, z48]⟩)))]
          simp [m46, hne, h1', h7', hzb, h48', h2']
        · have h2' : ¬ (1 : Int) < (l.length : Int) := by omega
          rcases loop with ⟨q1, q2⟩ | ⟨q1, q2⟩
          · rw [num_canon hne (by omega) q1 (.inl (by omega))]
            simp at q2
            simp [m46, hne, h1', h7', hzb, h48', h2', q2]
          · rw [num_bad (.inr (.inr (.inr q1)))]
            simp at q2
            simp [m46, hne, h1', h7', hzb, h48', h2', q2]
      · have h48' : ¬ (z.toNat : Int) = 48 := by omega
        rcases loop with ⟨q1, q2⟩ | ⟨q1, q2⟩
        · rw [num_canon hne (by omega) q1 (.inr fun c hc => by rw [hz] at hc; cases hc; exact h48)]
          simp at q2
          simp [m46, hne, h1', h7', hzb, h48', q2]
        · rw [num_bad (.inr (.inr (.inr q1)))]
          simp at q2
          simp [m46, hne, h1', h7', hzb, h48', q2]
theorem strb_dead {b o n c : Nat} {H : MH} (h : H[b]? = some .dead) : mread .strb [.slice (some ⟨b, o, none⟩) n c] H = none := by simp only [mread, bytesAt, h]
theorem ba_reflZ (s : ByteArray) : (s == s) = true := by
  cases s with
  | mk d => show (d == d) = true; simp
theorem rng8 : List.range 8 = [0, 1, 2, 3, 4, 5, 6, 7] := rfl
theorem textR_nat (hf : mp 33 = some (.code m33)) : ∀ (f n : Nat) (H : MH), n < 10 ^ f → 0 < f → f ≤ 7 → ∃ H', R mp 33 [.int .i64 (n : Int)] H = some (.string (B (decD f n)), H') ∧ Ext H H' := by
  intro f
  induction f with
  | zero => intro n H h h0 _; omega
  | succ f ih =>
    intro n H h _ hf7
    have h7 : 10 ^ (f + 1) ≤ 10 ^ 7 := Nat.pow_le_pow_right (by omega) hf7
    have a1 : ¬ (n : Int) < 0 := by omega
    have a2 : ¬ (9999999 : Int) < (n : Int) := by omega
    unfold decD
    by_cases hn : n < 10
    · rw [if_pos hn]
      have a3 : (n : Int) < 10 := by omega
      have w1 : IntKind.i64.wrap (48 + (n : Int)) = 48 + (n : Int) := wrap_i64 (by omega) (by omega)
      have w2 : IntKind.u8.wrap (48 + (n : Int)) = ((UInt8.ofNat (48 + n)).toNat : Int) := by rw [IntKind.wrap_u8, ofNat_D hn]; omega
      have hB : (H ++ [MObj.cells ⟨1, true, true⟩ [.int .u8 ((UInt8.ofNat (48 + n)).toNat : Int)]])[H.length]? = some (.cells ⟨1, true, true⟩ (u8v [UInt8.ofNat (48 + n)])) := by simp [u8v]
      have hsb := strb_u8 hB (n := 1) rfl 1
      generalize UInt8.ofNat (48 + n) = d at w2 hB hsb ⊢
      refine ⟨_, ?_, ⟨[.cells ⟨1, true, true⟩ [.int .u8 (d.toNat : Int)]], rfl⟩⟩
      rw [R_code hf]
      simp [m33, a1, a2, hn, a3, w1, w2, hsb]
    · rw [if_neg hn]
      have hlt : n / 10 < 10 ^ f := by rw [Nat.pow_succ] at h; omega
      have hf0 : 0 < f := by
        cases f with
        | zero => simp at h; omega
        | succ f => omega
      obtain ⟨H1, q1, x1⟩ := ih (n / 10) (H ++ [.dead]) hlt hf0 (by omega)
      have hlen := x1.len
      simp at hlen
      have a3 : ¬ (n : Int) < 10 := by omega
      have wq : IntKind.i64.wrap ((n : Int).tdiv 10) = ((n / 10 : Nat) : Int) := by
        rw [Int.tdiv_eq_ediv_of_nonneg (by omega), wrap_i64 (by omega) (by omega)]; omega
      have wq2 : IntKind.i64.wrap ((n : Int) / 10) = ((n / 10 : Nat) : Int) := by rw [wrap_i64 (by omega) (by omega)]; omega
      have wr2 : (n : Int) % 10 = ((n % 10 : Nat) : Int) := by omega
      have wr : (n : Int).tmod 10 = ((n % 10 : Nat) : Int) := by rw [Int.tmod_eq_emod_of_nonneg (by omega)]; omega
      have w1 : IntKind.i64.wrap (48 + ((n % 10 : Nat) : Int)) = 48 + ((n % 10 : Nat) : Int) := wrap_i64 (by omega) (by omega)
      have w2 : IntKind.u8.wrap (48 + ((n % 10 : Nat) : Int)) = ((UInt8.ofNat (48 + n % 10)).toNat : Int) := by rw [IntKind.wrap_u8, ofNat_D (Nat.mod_lt _ (by omega))]; omega
      have hdl := dec_len f (n / 10)
      generalize UInt8.ofNat (48 + n % 10) = d at w2 ⊢
      generalize n % 10 = r at wr wr2 w1 w2
      generalize n / 10 = qn at wq wq2 q1 hdl
      have hB : (H1.set H.length (MObj.cells ⟨1, true, true⟩ [.int .u8 (d.toNat : Int)]))[H.length]? = some (.cells ⟨1, true, true⟩ (u8v [d])) := by rw [List.getElem?_set_self (by omega)]; rfl
      have hsb := strb_u8 hB (n := 1) rfl 1
      have z1 : (decD f qn).length + 1 ≤ 9223372036854775807 := by omega
      have hd : H1[H.length]? = some .dead := x1.get (by simp)
      have hself : (H1.set H.length (MObj.cells ⟨1, true, true⟩ [.int .u8 (d.toNat : Int)]))[H.length]? = some (.cells ⟨1, true, true⟩ [.int .u8 (d.toNat : Int)]) := by rw [List.getElem?_set_self (by omega)]
      have hsd0 : mread .strb [.slice (some ⟨H.length, 0, none⟩) 1 1] (H ++ [.dead]) = none := strb_dead (by simp)
      have hsd1 : mread .strb [.slice (some ⟨H.length, 0, none⟩) 1 1] H1 = none := strb_dead hd
      have hse : mread .strb [.slice (some ⟨H.length, 0, none⟩) 1 1] (H ++ [.cells ⟨1, true, true⟩ [.int .u8 (d.toNat : Int)]]) = some (.string (B [d])) := strb_u8 (bs := [d]) (i := ⟨1, true, true⟩) (by simp [u8v]) (n := 1) rfl 1
      refine ⟨H1.set H.length (MObj.cells ⟨1, true, true⟩ [.int .u8 (d.toNat : Int)]), ?_, ?_⟩
      · rw [R_code hf]
        simp [m33, a1, a2, hn, a3, wq, wq2, wr, wr2, w1, w2, q1, hsb, z1, hd, hsd0, hsd1, hse, hself, ba_reflZ, mdraw_full, earlyOk, feeds, argHas, rng8]
      · obtain ⟨X, rfl⟩ := x1
        refine ⟨.cells ⟨1, true, true⟩ [.int .u8 (d.toNat : Int)] :: X, ?_⟩
        simp [List.set_append]
theorem R_textR (hf : mp 33 = some (.code m33)) (n : Int) : ∃ H', R mp 33 [.int .i64 n] H = some (.string (B (textL n)), H') ∧ Ext H H' := by
  unfold textL
  by_cases h : 0 ≤ n ∧ n ≤ 9999999
  · rw [if_pos h]
    obtain ⟨m, rfl⟩ : ∃ m : Nat, n = m := ⟨n.toNat, by omega⟩
    exact textR_nat hf 7 m H (by omega) (by omega) (by omega)
  · rw [if_neg h]
    refine ⟨H, ?_, Ext.refl _⟩
    rw [R_code hf]
    by_cases h0 : n < 0
    · simp [m33, h0]; rfl
    · have h1 : 9999999 < n := by omega
      simp [m33, h0, h1]; rfl
end
end Go.Mod
/- The document's Parse: numbers, what begins, what is nested. -/
set_option linter.unusedVariables false
set_option linter.unusedSimpArgs false
namespace Go.Mod
open Go.Lib

section
variable {mp : FuncId → Option MDef} {H : MH}
theorem ints_loop (h46 : mp 46 = some (.code m46)) {ws : List Bs} (hws : ∀ w ∈ ws, w.length ≤ 100000) (hlen : ws.length ≤ 100001) {sa : Option Addr} {sn sc : Nat} :
    ∀ (k i : Nat) (H : MH) (G : List Nat) (out : List Int) (a : Option Addr) (n c : Nat), i + k = ws.length → out.length ≤ i → Stay 1 (.slice sa sn sc) (sv ws) H G → OwnA 1 (.slice a n c) (i64s out) H G →
    (∃ ns, numsL (ws.drop i) = some ns ∧ ∃ (H' : MH) (G' : List Nat) (a' : Option Addr) (n' c' : Nat), Rc mp (.loop m22_0) [(0, .slice sa sn sc), (4, .slice a n c), (5, .int .i64 (i : Int))] H =
        some (.exit 0, [(0, .slice sa sn sc), (4, .slice a' n' c'), (5, .int .i64 (sn : Int)), (11, .bool false)], H') ∧ OwnA 1 (.slice a' n' c') (i64s (out ++ ns)) H' G' ∧ Upd H G H' G') ∨
    (numsL (ws.drop i) = none ∧ ∃ (H' : MH) (G' : List Nat), Rc mp (.loop m22_0) [(0, .slice sa sn sc), (4, .slice a n c), (5, .int .i64 (i : Int))] H = some (.ret, [(2, .slice none 0 0), (3, .bool false)], H') ∧ Upd H G H' G') := by
  intro k
  induction k with
  | zero =>
    intro i H G out a n c hi ho hS hO
    have hn := hS.1.svn
    have : i = ws.length := by omega
    subst this
    refine .inl ⟨[], by rw [List.drop_length]; rfl, H, G, a, n, c, ?_, by simpa using hO, Upd.refl _ _⟩
    rw [Rc_loop]
    simp [m22_0, hn]
  | succ k ih =>
    intro i H G out a n c hi ho hS hO
    have hn := hS.1.svn
    have hil : i < ws.length := by omega
    have hil' : i < sn := by omega
    have hdrop : ws.drop i = ws[i] :: ws.drop (i + 1) := List.drop_eq_getElem_cons hil
    obtain ⟨b, o, j, cs, rfl, hB, hat⟩ := hS.1.sv (List.getElem?_eq_getElem hil)
    have hld := ld_at hB (o + i)
    rw [hat] at hld
    have hxl : ws[i].length ≤ 100000 := hws _ (List.getElem_mem hil)
    have w : IntKind.i64.wrap ((i : Int) + 1) = (i : Int) + 1 := wrap_i64 (by omega) (by omega)
    generalize ws[i] = x at hat hdrop hld hxl
    obtain ⟨H1, q1, x1⟩ : ∃ H1, R mp 46 [.string (B x)] H = some (.tuple #[.int .i64 ((numL x).getD 0), .bool (numL x).isSome], H1) ∧ Ext H H1 := ⟨H, R_numR h46, Ext.refl _⟩
    have u0 := Upd.ext (F := G) x1
    rw [hdrop]
    unfold numsL
    cases hq : numL x with
    | none =>
      rw [hq] at q1
      refine .inr ⟨rfl, H1, G, ?_, u0⟩
      rw [Rc_loop]
      simp [m22_0, hil', hld, w, q1]
    | some v =>
      rw [hq] at q1
      obtain ⟨a1, n1, c1, H2, G2, e2, o2, u2⟩ := own_push1 (bytes := 8) (OwnA.good.ext hO x1) (i64s_one out) (xs := [.int .i64 v]) rfl rfl (by omega) (by rw [i64s_len]; omega) (by omega)
      rw [i64s_snoc] at o2
      rcases ih (i + 1) H2 G2 (out ++ [v]) a1 n1 c1 (by omega) (by simp; omega) ((hS.upd u0).upd u2) o2 with ⟨ns, h1, H', G', a', n', c', h2, h3, h4⟩ | ⟨h1, H', G', h2, h4⟩
      · rw [h1]
        refine .inl ⟨v :: ns, rfl, H', G', a', n', c', ?_, by simpa using h3, u0.trans (u2.trans h4)⟩
        rw [Rc_loop]
        simp [m22_0, hil', hld, w, q1, e2]
        exact h2
      · rw [h1]
        refine .inr ⟨rfl, H', G', ?_, u0.trans (u2.trans h4)⟩
        rw [Rc_loop]
        simp [m22_0, hil', hld, w, q1, e2]
        exact h2
theorem R_ints (hf : mp 22 = some (.code m22)) (h46 : mp 46 = some (.code m46)) {ws : List Bs} (hws : ∀ w ∈ ws, w.length ≤ 100000) (hlen : ws.length ≤ 100001) {sa : Option Addr} {sn sc : Nat}
    (hr : Row 1 H (.slice sa sn sc) (sv ws)) : ∃ a n c H', R mp 22 [.slice sa sn sc] H = some (.tuple #[.slice a n c, .bool (numsL ws).isSome], H') ∧ Ext H H' ∧ Row 1 H' (.slice a n c) (i64s ((numsL ws).getD [])) := by
  rcases ints_loop h46 hws hlen ws.length 0 H [] [] none 0 0 (by omega) (by simp) ⟨hr, by simp⟩ (.inl ⟨rfl, rfl, rfl⟩) with ⟨ns, h1, H', G', a', n', c', h2, h3, h4⟩ | ⟨h1, H', G', h2, h4⟩
  · rw [List.drop_zero] at h1
    rw [h1]
    simp at h2
    refine ⟨a', n', c', H', ?_, h4.toExt.1, by simpa using Own.row h3⟩
    rw [R_code hf]
    simp [m22, h2]
  · rw [List.drop_zero] at h1
    rw [h1]
    simp at h2
    refine ⟨none, 0, 0, H', ?_, h4.toExt.1, .inl ⟨rfl, rfl⟩⟩
    rw [R_code hf]
    simp [m22, h2]

end
end Go.Mod
/- TextTurned: the document's way to read a text (plain), and that it is the program's where no task's name is a lock within a lock. -/
set_option linter.unusedVariables false
set_option linter.unusedSimpArgs false
namespace Go.Mod
open Go.Lib

structure StD where
  st : Nat
  p : Int
  cores : List Int
  ci : Nat
  homes : List Int
  tasks : List TaskL
  at_ : List Nat
def protoD (w : List Bs) : Int := if w.getD 0 [] = kProtocol ∧ w.length = 2 then protoN (w.getD 1 []) else 0
def taskD (w : List Bs) : TaskL ⊕ Int := if w.any nestL = true then .inr 18 else match taskL w with
  | some t => .inl t
  | none => .inr 10
def numsD (w : List Bs) : List Int := (numsL (w.drop 1)).getD []
def stepD (s : StD) (i : Nat) (w : List Bs) : StD ⊕ Int :=
  if s.st = 0 ∧ protoD w ≠ 0 then .inl { s with p := protoD w, st := 1 } else
  if s.st = 1 ∧ w.getD 0 [] = kCores ∧ numsD w ≠ [] then .inl { s with cores := numsD w, ci := i, st := 2 } else
  if s.st = 2 ∧ w.getD 0 [] = kHomes ∧ numsD w ≠ [] then .inl { s with homes := numsD w, st := 3 } else
  if 2 ≤ s.st ∧ w.getD 0 [] = kTask then match taskD w with
    | .inl t => .inl { s with tasks := s.tasks ++ [t], at_ := s.at_ ++ [i], st := 3 }
    | .inr e => .inr e
  else .inr 10
def goD : List (Nat × List Bs) → StD → StD ⊕ (Int × Int)
  | [], s => .inl s
  | (i, w) :: l, s => match stepD s i w with
    | .inl s' => goD l s'
    | .inr e => .inr ((i : Int), e)
def st0 : StD := ⟨0, 0, [], 0, [], [], []⟩
/-- What the document reads. -/
noncomputable def parseD (l : Bs) : (Int × Int) ⊕ (SetL × Nat) :=
  if 2000 < l.length then .inl (0, 11) else
  match goD (rowsL 0 (trimE (cutAt 10 l))) st0 with
  | .inr e => .inl e
  | .inl s => if s.st < 2 then .inl (((trimE (cutAt 10 l)).length : Int), 10) else
    if (checkE (plainSet s.p s.cores s.homes s.tasks)).2 = 0 then .inr (plainSet s.p s.cores s.homes s.tasks, (trimE (cutAt 10 l)).length) else
    if 0 ≤ (checkE (plainSet s.p s.cores s.homes s.tasks)).1 then .inl ((s.at_.getD (checkE (plainSet s.p s.cores s.homes s.tasks)).1.toNat 0 : Int), (checkE (plainSet s.p s.cores s.homes s.tasks)).2) else
    if (checkE (plainSet s.p s.cores s.homes s.tasks)).2 = 16 then .inl ((s.ci : Int), (checkE (plainSet s.p s.cores s.homes s.tasks)).2) else
    .inl (((trimE (cutAt 10 l)).length : Int), (checkE (plainSet s.p s.cores s.homes s.tasks)).2)

/-! ### tasks -/
theorem nest_first {w : Bs} (h : nestL w = true) : ∃ r, w = 108 :: r := by
  unfold nestL hasPrefix at h
  rw [Bool.and_eq_true] at h
  match w, h.1 with
  | [], h => cases h
  | b :: r, h =>
    simp only [kLockC, List.isPrefixOf, Bool.and_eq_true, beq_iff_eq] at h
    exact ⟨r, by rw [← h.1]⟩
theorem num_nest {w : Bs} {n : Int} (h : numL w = some n) : nestL w = false := by
  cases hb : nestL w with
  | false => rfl
  | true =>
    obtain ⟨r, rfl⟩ := nest_first hb
    unfold numL at h
    split at h
    · rename_i v hv
      split at h
      · rename_i hc
        have := dec_D 7 v.toNat 108 (by rw [hc.2.2]; simp)
        exact absurd this.2 (by decide)
      · cases h
    · cases h
theorem nums_nest : ∀ {l : List Bs} {n : List Int}, numsL l = some n → l.any nestL = false
  | [], _, _ => rfl
  | x :: l, n, h => by
    unfold numsL at h
    split at h
    · rename_i a b ha hb
      rw [List.any_cons, num_nest ha, nums_nest hb]; rfl
    · cases h
theorem tail_nest : ∀ {l : List Bs} {n : List PartL}, tailL l = some n → l.any nestL = false
  | [], _, _ => rfl
  | x :: l, n, h => by
    unfold tailL at h
    split at h
    · rename_i hx
      cases ht : tailL l with
      | none => rw [ht] at h; cases h
      | some m =>
        rw [List.any_cons, tail_nest ht, Bool.or_false]
        cases hb : nestL x with
        | false => rfl
        | true =>
          unfold readsL at hx
          rw [if_pos hb] at hx
          cases hx
    · cases h
theorem taskD_eq {w : List Bs} (h0 : w.getD 0 [] = kTask) (h1 : nestL (w.getD 1 []) = false) : taskD w = match taskL w with
  | some t => Sum.inl t
  | none => Sum.inr (badL w) := by
  have hw : w ≠ [] := fun e => by subst e; cases h0
  obtain ⟨w0, l, rfl⟩ := List.exists_cons_of_ne_nil hw
  have e0 : w0 = kTask := h0
  subst e0
  have hk : nestL kTask = false := rfl
  have ha : (kTask :: l).any nestL = l.any nestL := by rw [List.any_cons, hk, Bool.false_or]
  unfold taskD badL
  rw [ha]
  have hd : (kTask :: l).drop 1 = l := rfl
  rw [hd]
  cases ht : taskL (kTask :: l) with
  | none =>
    cases l.any nestL <;> rfl
  | some t =>
    have : l.any nestL = false := by
      unfold taskL at ht
      split at ht
      · cases ht
      · rename_i hlen
        split at ht
        · cases ht
        · rename_i n hn
          split at ht
          · cases ht
          · rename_i ps hps
            match l, hlen, h1, hn, hps with
            | [], hlen, _, _, _ => simp at hlen
            | x :: r, hlen, h1, hn, hps =>
              have h2 : (r.take 4).any nestL = false := nums_nest hn
              have h3 : (r.drop 4).any nestL = false := tail_nest hps
              have h4 : nestL x = false := h1
              rw [List.any_cons, h4, Bool.false_or, ← List.take_append_drop 4 r, List.any_append, h2, h3]; rfl
    rw [this]; rfl

/-- So reads the document the rows of tasks. -/
theorem go_tasks : ∀ (rs : List (Nat × List Bs)) (s : StD), s.st = 3 → (∀ r ∈ rs, r.2.getD 0 [] = kTask → nestL (r.2.getD 1 []) = false) →
    goD rs s = match tasksL rs with
      | .inl ts => .inl { s with tasks := s.tasks ++ ts, at_ := s.at_ ++ rs.map (·.1) }
      | .inr e => .inr ((e.1 : Int), e.2)
  | [], s, hs, _ => by
    simp [goD, tasksL]
  | (i, w) :: rs, s, hs, h => by
    have ih := go_tasks rs
    unfold goD tasksL stepD
    rw [if_neg (by rw [hs]; simp), if_neg (by rw [hs]; simp), if_neg (by rw [hs]; simp)]
    by_cases hk : w.getD 0 [] = kTask
    · have ht := taskD_eq hk (h (i, w) (by simp) hk)
      rw [if_pos ⟨by omega, hk⟩, if_neg (fun h => h hk), ht]
      cases taskL w with
      | none => rfl
      | some t =>
        simp only []
        rw [ih _ rfl fun r hr => h r (by simp [hr])]
        cases tasksL rs with
        | inl ts => simp [hs]
        | inr e => rfl
    · rw [if_neg (fun h => hk h.2), if_pos hk]
end Go.Mod
/- TextTurned: what the document reads is what the program reads (plain). -/
set_option linter.unusedVariables false
set_option linter.unusedSimpArgs false
namespace Go.Mod
open Go.Lib

theorem protoN_range {w : Bs} (h : ¬ protoN w = 0) : 1 ≤ protoN w ∧ protoN w ≤ 3 := by
  unfold protoN at h ⊢
  split
  · omega
  · split
    · omega
    · split
      · omega
      · rename_i a b c
        rw [if_neg a, if_neg b, if_neg c] at h
        exact absurd rfl h
theorem check_ten {s : SetL} (hp : 1 ≤ s.proto ∧ s.proto ≤ 3) (h : (checkE s).1 < 0) : (checkE s).2 = 0 ∨ (checkE s).2 = 16 ∨ (checkE s).2 = 11 ∨ (checkE s).2 = 14 := by
  unfold checkE at h ⊢
  rw [if_neg (fun h => h hp)] at h ⊢
  split
  · exact .inr (.inl rfl)
  · rename_i h1
    rw [if_neg h1] at h
    split
    · exact .inr (.inr (.inl rfl))
    · rename_i h2
      rw [if_neg h2] at h
      split
      · exact .inr (.inr (.inr rfl))
      · rename_i h3
        rw [if_neg h3] at h
        rcases firstE_lt s s.tasks 0 with h4 | ⟨j, h4, _⟩
        · exact .inl h4.2
        · omega
/-- What is told behind the rows. -/
noncomputable def finD (n : Nat) (x : StD ⊕ (Int × Int)) : (Int × Int) ⊕ (SetL × Nat) := match x with
  | .inr e => .inl e
  | .inl s => if s.st < 2 then .inl ((n : Int), 10) else
    if (checkE (plainSet s.p s.cores s.homes s.tasks)).2 = 0 then .inr (plainSet s.p s.cores s.homes s.tasks, n) else
    if 0 ≤ (checkE (plainSet s.p s.cores s.homes s.tasks)).1 then .inl ((s.at_.getD (checkE (plainSet s.p s.cores s.homes s.tasks)).1.toNat 0 : Int), (checkE (plainSet s.p s.cores s.homes s.tasks)).2) else
    if (checkE (plainSet s.p s.cores s.homes s.tasks)).2 = 16 then .inl ((s.ci : Int), (checkE (plainSet s.p s.cores s.homes s.tasks)).2) else
    .inl ((n : Int), (checkE (plainSet s.p s.cores s.homes s.tasks)).2)
noncomputable def finL (rows : List (Nat × List Bs)) (n : Nat) (h : HeadR) : (Int × Int) ⊕ (SetL × Nat) :=
  if h.ok = false then .inl (atL rows h.k n, 10) else
  match tasksL (rows.drop h.k) with
  | .inr e => .inl ((e.1 : Int), e.2)
  | .inl ts =>
    if (checkE (plainSet h.p h.cores h.homes ts)).2 = 0 then .inr (plainSet h.p h.cores h.homes ts, n) else
    if 0 ≤ (checkE (plainSet h.p h.cores h.homes ts)).1 then .inl (atL rows (h.k + (checkE (plainSet h.p h.cores h.homes ts)).1.toNat) n, (checkE (plainSet h.p h.cores h.homes ts)).2) else
    if (checkE (plainSet h.p h.cores h.homes ts)).2 = 14 ∨ (checkE (plainSet h.p h.cores h.homes ts)).2 = 11 then .inl ((n : Int), (checkE (plainSet h.p h.cores h.homes ts)).2) else .inl (atL rows 1 n, (checkE (plainSet h.p h.cores h.homes ts)).2)
theorem step23 {w : List Bs} {i i1 : Nat} {p : Int} {cs hs : List Int} (hw : ¬ w.getD 0 [] = kHomes) : stepD ⟨2, p, cs, i1, hs, [], []⟩ i w = stepD ⟨3, p, cs, i1, hs, [], []⟩ i w := by
  unfold stepD
  have a1 : ∀ q : Prop, ¬ ((2 : Nat) = 0 ∧ q) := fun q h => absurd h.1 (by decide)
  have a2 : ∀ q : Prop, ¬ ((2 : Nat) = 1 ∧ q) := fun q h => absurd h.1 (by decide)
  have b1 : ∀ q : Prop, ¬ ((3 : Nat) = 0 ∧ q) := fun q h => absurd h.1 (by decide)
  have b2 : ∀ q : Prop, ¬ ((3 : Nat) = 1 ∧ q) := fun q h => absurd h.1 (by decide)
  have b3 : ∀ q : Prop, ¬ ((3 : Nat) = 2 ∧ q) := fun q h => absurd h.1 (by decide)
  have c1 : ¬ (w.getD 0 [] = kHomes ∧ numsD w ≠ []) := fun h => hw h.1
  simp only [a1, a2, b1, b2, b3, c1, if_false, Nat.le_refl, show (2 : Nat) ≤ 3 from by decide, true_and]
/-- Behind the head. -/
theorem fin_tasks {rows rs : List (Nat × List Bs)} {n k i1 : Nat} {p : Int} {cs hs : List Int} {st : Nat} (hst : st = 2 ∨ st = 3) (hp : 1 ≤ p ∧ p ≤ 3) (hdrop : rows.drop k = rs) (h1 : ∃ w, rows[1]? = some (i1, w))
    (h2 : st = 3 ∨ rs = [] ∨ ∃ i w l, rs = (i, w) :: l ∧ ¬ w.getD 0 [] = kHomes) (hn : ∀ r ∈ rs, r.2.getD 0 [] = kTask → nestL (r.2.getD 1 []) = false) :
    finD n (goD rs ⟨st, p, cs, i1, hs, [], []⟩) = finL rows n ⟨p, cs, hs, k, true⟩ := by
  have hg : ∃ st', 2 ≤ st' ∧ goD rs ⟨st, p, cs, i1, hs, [], []⟩ = match tasksL rs with
      | .inl ts => Sum.inl ⟨st', p, cs, i1, hs, ts, rs.map (·.1)⟩
      | .inr e => Sum.inr ((e.1 : Int), e.2) := by
    by_cases h3 : st = 3
    · subst h3
      refine ⟨3, by omega, ?_⟩
      rw [go_tasks rs _ rfl hn]
      cases tasksL rs <;> rfl
    · have h2' : st = 2 := by omega
      subst h2'
      rcases h2 with h2 | rfl | ⟨i, w, l, rfl, hw⟩
      · omega
      · exact ⟨2, by omega, rfl⟩
      · refine ⟨3, by omega, ?_⟩
        have e : goD ((i, w) :: l) ⟨2, p, cs, i1, hs, [], []⟩ = goD ((i, w) :: l) ⟨3, p, cs, i1, hs, [], []⟩ := by
          unfold goD
          rw [step23 hw]
        rw [e, go_tasks _ _ rfl hn]
        cases tasksL ((i, w) :: l) <;> rfl
  obtain ⟨st', hst', hg⟩ := hg
  rw [hg]
  unfold finL
  rw [hdrop, if_neg (by simp)]
  have hlen := fun ts (e : tasksL rs = .inl ts) => tasksL_len e
  cases hts : tasksL rs with
  | inr e => rfl
  | inl ts =>
    have hl := hlen ts hts
    unfold finD
    simp only []
    rw [if_neg (by omega)]
    have hcc := checkE_cases (plainSet p cs hs ts)
    have hct := check_ten (s := plainSet p cs hs ts) hp
    have htl : (plainSet p cs hs ts).tasks.length = ts.length := rfl
    generalize checkE (plainSet p cs hs ts) = c at hcc hct ⊢
    by_cases h0 : c.2 = 0
    · rw [if_pos h0, if_pos h0]
    rw [if_neg h0, if_neg h0]
    by_cases hpos : 0 ≤ c.1
    · rw [if_pos hpos, if_pos hpos]
      have hj : c.1.toNat < rs.length := by
        rcases hcc with h | ⟨j, h, hj⟩
        · omega
        · rw [htl] at hj; omega
      obtain ⟨r, hr⟩ : ∃ r, rs[c.1.toNat]? = some r := ⟨_, List.getElem?_eq_getElem hj⟩
      have hr2 : rows[k + c.1.toNat]? = some r := by rw [← hdrop, List.getElem?_drop] at hr; exact hr
      have e1 : (rs.map (·.1)).getD c.1.toNat 0 = r.1 := by
        rw [List.getD_eq_getElem?_getD, List.getElem?_map, hr]; rfl
      have e2 : atL rows (k + c.1.toNat) n = (r.1 : Int) := by unfold atL; rw [hr2]
      rw [e1, e2]
    · rw [if_neg hpos, if_neg hpos]
      obtain ⟨w, h1⟩ := h1
      have e2 : atL rows 1 n = (i1 : Int) := by unfold atL; rw [h1]
      rcases hct (by omega) with h | h | h | h
      · exact absurd h h0
      · rw [if_pos h, if_neg (by omega), e2]
      · rw [if_neg (by omega), if_pos (by omega)]
      · rw [if_neg (by omega), if_pos (by omega)]
theorem nums_none {w : List Bs} (h : numsL (w.drop 1) = none) : numsD w = [] := by unfold numsD; rw [h]; rfl
theorem nums_some {w : List Bs} {n : List Int} (h : numsL (w.drop 1) = some n) : numsD w = n := by unfold numsD; rw [h]; rfl
theorem fin_rows (n : Nat) (rows : List (Nat × List Bs)) (hn : ∀ r ∈ rows, r.2.getD 0 [] = kTask → nestL (r.2.getD 1 []) = false) : finD n (goD rows st0) = finL rows n (headL rows) := by
  match rows, hn with
  | [], _ => rfl
  | (i0, w0) :: l1, hn =>
    simp only [headL]
    by_cases hk : w0.getD 0 [] = kProtocol ∧ w0.length = 2
    case neg =>
      rw [if_pos hk]
      have hp : protoD w0 = 0 := by unfold protoD; rw [if_neg hk]
      have e : goD ((i0, w0) :: l1) st0 = .inr ((i0 : Int), 10) := by
        unfold goD stepD st0
        rw [if_neg (fun h => h.2 hp), if_neg (by simp), if_neg (by simp), if_neg (by simp)]
      rw [e]; rfl
    rw [if_neg (fun h => h hk)]
    have hpd : protoD w0 = protoN (w0.getD 1 []) := by unfold protoD; rw [if_pos hk]
    by_cases hp : protoN (w0.getD 1 []) = 0
    · rw [if_pos hp]
      have e : goD ((i0, w0) :: l1) st0 = .inr ((i0 : Int), 10) := by
        unfold goD stepD st0
        rw [if_neg (fun h => h.2 (hpd.trans hp)), if_neg (by simp), if_neg (by simp), if_neg (by simp)]
      rw [e]; rfl
    rw [if_neg hp]
    have hr := protoN_range hp
    have e0 : goD ((i0, w0) :: l1) st0 = goD l1 ⟨1, protoN (w0.getD 1 []), [], 0, [], [], []⟩ := by
      conv => lhs; unfold goD stepD
      rw [if_pos ⟨rfl, by rw [hpd]; exact hp⟩, hpd]; rfl
    rw [e0]
    generalize protoN (w0.getD 1 []) = p at hr
    match l1, hn with
    | [], _ => rfl
    | (i1, w1) :: l2, hn =>
      have bad : (¬ (w1.getD 0 [] = kCores ∧ numsD w1 ≠ [])) → goD ((i1, w1) :: l2) ⟨1, p, [], 0, [], [], []⟩ = .inr ((i1 : Int), 10) := fun h => by
        unfold goD stepD
        rw [if_neg (by simp), if_neg (fun g => h g.2), if_neg (by simp), if_neg (by simp)]
      simp only []
      by_cases hc : w1.getD 0 [] = kCores
      case neg =>
        rw [if_pos hc, bad (fun h => hc h.1)]; rfl
      rw [if_neg (fun h => h hc)]
      cases hcs : numsL (w1.drop 1) with
      | none => rw [bad (fun h => h.2 (nums_none hcs))]; rfl
      | some cs =>
        have hcs' := nums_some hcs
        simp only []
        by_cases hz : cs = []
        · rw [if_pos hz, bad (fun h => h.2 (hcs'.trans hz))]; rfl
        rw [if_neg hz]
        have e1 : goD ((i1, w1) :: l2) ⟨1, p, [], 0, [], [], []⟩ = goD l2 ⟨2, p, cs, i1, [], [], []⟩ := by
          conv => lhs; unfold goD stepD
          rw [if_neg (by simp), if_pos ⟨rfl, hc, by rw [hcs']; exact hz⟩, hcs']
        rw [e1]
        match l2, hn with
        | [], hn => exact fin_tasks (k := 2) (.inl rfl) hr rfl ⟨w1, rfl⟩ (.inr (.inl rfl)) (by simp)
        | (i2, w2) :: l3, hn =>
          simp only []
          by_cases hh : w2.getD 0 [] = kHomes
          case neg =>
            rw [if_pos hh]
            exact fin_tasks (k := 2) (.inl rfl) hr rfl ⟨w1, rfl⟩ (.inr (.inr ⟨i2, w2, l3, rfl, hh⟩)) (fun r hr => hn r (List.mem_cons_of_mem _ (List.mem_cons_of_mem _ hr)))
          rw [if_neg (fun h => h hh)]
          have bad2 : numsD w2 = [] → goD ((i2, w2) :: l3) ⟨2, p, cs, i1, [], [], []⟩ = .inr ((i2 : Int), 10) := fun h => by
            unfold goD stepD
            rw [if_neg (by simp), if_neg (by simp), if_neg (fun g => g.2.2 h), if_neg (fun g => by rw [hh] at g; exact absurd g.2 (by decide))]
          cases hhs : numsL (w2.drop 1) with
          | none => rw [bad2 (nums_none hhs)]; rfl
          | some hs =>
            have hhs' := nums_some hhs
            simp only []
            by_cases hz2 : hs = []
            · rw [if_pos hz2, bad2 (hhs'.trans hz2)]; rfl
            rw [if_neg hz2]
            have e2 : goD ((i2, w2) :: l3) ⟨2, p, cs, i1, [], [], []⟩ = goD l3 ⟨3, p, cs, i1, hs, [], []⟩ := by
              conv => lhs; unfold goD stepD
              rw [if_neg (by simp), if_neg (by simp), if_pos ⟨rfl, hh, by rw [hhs']; exact hz2⟩, hhs']
            rw [e2]
            exact fin_tasks (k := 3) (.inr rfl) hr rfl ⟨w1, rfl⟩ (.inl rfl) (fun r hr => hn r (by simp [hr]))
/-- Where no task's name is a lock within a lock the document reads what the program reads. -/
theorem read_eq {l : Bs} (hn : ∀ r ∈ rowsL 0 (trimE (cutAt 10 l)), r.2.getD 0 [] = kTask → nestL (r.2.getD 1 []) = false) : parseD l = parseL l := by
  have h := fin_rows (trimE (cutAt 10 l)).length _ hn
  unfold parseD parseL
  by_cases hl : 2000 < l.length
  · rw [if_pos hl, if_pos hl]
  · rw [if_neg hl, if_neg hl]
    exact h
end Go.Mod
/- Package text: what is printed: numbers, parts, what a builder holds. -/
set_option linter.unusedVariables false
set_option linter.unusedSimpArgs false
namespace Go.Mod
open Go.Lib

theorem s_addM {l m : Bs} (h : l.length ≤ 100000) (h2 : m.length ≤ 100000) : mbin .add (.string (B l)) (.string (B m)) = some (.string (B (l ++ m))) := by
  rw [ev_s_add, if_pos (by rw [B_size, B_size]; omega), B_append]
def numsT (ns : List Int) : Bs := ns.flatMap fun n => 32 :: textL n
def partT (p : PartL) : Bs := if p.kind = 1 then kRun ++ 58 :: textL p.len else if p.kind = 2 then kSleep ++ 58 :: textL p.len else kLockC ++ (textL p.res ++ 58 :: textL p.len)
theorem textL_le (n : Int) : (textL n).length ≤ 7 := by
  unfold textL
  split
  · exact dec_len 7 _
  · simp
theorem numsT_len (ns : List Int) : (numsT ns).length ≤ 8 * ns.length := by
  induction ns with
  | nil => simp [numsT]
  | cons n l ih =>
    have := textL_le n
    unfold numsT at ih ⊢
    rw [List.flatMap_cons, List.length_append, List.length_cons, List.length_cons]; omega
end Go.Mod
/- Package text: a task's parts printed. -/
set_option linter.unusedVariables false
set_option linter.unusedSimpArgs false
namespace Go.Mod
open Go.Lib

def partsT (ps : List PartL) : Bs := ps.flatMap fun p => 32 :: partT p
theorem partT_len (p : PartL) : (partT p).length ≤ 20 := by
  have h1 := textL_le p.len
  have h2 := textL_le p.res
  unfold partT
  split
  · simp [kRun]; omega
  · split
    · simp [kSleep]; omega
    · simp [kLockC]; omega
theorem partsT_len (ps : List PartL) : (partsT ps).length ≤ 21 * ps.length := by
  induction ps with
  | nil => simp [partsT]
  | cons n l ih =>
    have := partT_len n
    unfold partsT at ih ⊢
    rw [List.flatMap_cons, List.length_append, List.length_cons, List.length_cons]; omega
end Go.Mod
/- Package text: tasks printed. -/
set_option linter.unusedVariables false
set_option linter.unusedSimpArgs false
namespace Go.Mod
open Go.Lib

def taskN (t : TaskL) : Bs := t.name.data.toList
def taskH (t : TaskL) : Bs := [116, 97, 115, 107, 32] ++ (taskN t ++ numsT [t.period, t.deadline, t.prio, t.cluster])
def taskT (t : TaskL) : Bs := taskH t ++ (partsT t.parts ++ [10])
def tasksT (l : List TaskL) : Bs := l.flatMap taskT
theorem name_B (t : TaskL) : t.name = B (taskN t) := by unfold taskN; cases h : t.name; simp [B]
theorem taskH_len (t : TaskL) : (taskH t).length ≤ 37 + (taskN t).length := by
  have h2 := numsT_len [t.period, t.deadline, t.prio, t.cluster]
  unfold taskH
  simp only [List.length_append, List.length_cons, List.length_nil] at h2 ⊢
  omega
theorem taskT_len (t : TaskL) : (taskT t).length ≤ 38 + (taskN t).length + 21 * t.parts.length := by
  have h1 := taskH_len t
  have h2 := partsT_len t.parts
  unfold taskT
  simp only [List.length_append, List.length_cons, List.length_nil]
  omega
end Go.Mod
/- Package text: Print. -/
set_option linter.unusedVariables false
set_option linter.unusedSimpArgs false
namespace Go.Mod
open Go.Lib

theorem firstE_ok (s : SetL) : ∀ (l : List TaskL) (i : Nat), (firstE s i l).2 = 0 → ∀ t ∈ l, ∃ j, taskE s j t = 0
  | [], _, _, t, ht => by cases ht
  | x :: l, i, h, t, ht => by
    unfold firstE at h
    split at h
    · rename_i h0
      rcases List.mem_cons.1 ht with rfl | ht
      · exact ⟨i, h0⟩
      · exact firstE_ok s l (i + 1) h t ht
    · rename_i h0
      exact absurd h h0
theorem taskE_ok {s : SetL} {i : Nat} {t : TaskL} (h : taskE s i t = 0) : formOk t ∧ (0 ≤ t.cluster ∧ t.cluster < (s.cores.length : Int)) ∧ (¬ ∃ o ∈ s.tasks.take i, o.name = t.name ∨ o.prio = t.prio) ∧ partsOk s.homes.length t.parts := by
  unfold taskE at h
  split at h
  · cases h
  rename_i h1
  split at h
  · cases h
  rename_i h2
  split at h
  · cases h
  rename_i h3
  split at h
  · cases h
  rename_i h4
  exact ⟨Classical.not_not.1 h1, Classical.not_not.1 h2, h3, Classical.not_not.1 h4⟩
theorem ok_facts {s : SetL} (h : (checkE s).2 = 0) : (1 ≤ s.proto ∧ s.proto ≤ 3) ∧ placesB s.cores s.homes ∧ s.tasks.length ≤ 6 ∧ s.tasks ≠ [] ∧ (firstE s 0 s.tasks).2 = 0 := by
  unfold checkE at h
  split at h
  · cases h
  rename_i h1
  split at h
  · cases h
  rename_i h2
  split at h
  · cases h
  rename_i h3
  split at h
  · cases h
  rename_i h4
  exact ⟨Classical.not_not.1 h1, Classical.not_not.1 h2, by omega, h4, h⟩
theorem ok_small {s : SetL} (h : (checkE s).2 = 0) : ∀ t ∈ s.tasks, t.parts.length ≤ 6 ∧ (taskN t).length ≤ 8 := fun t ht => by
  obtain ⟨_, _, _, _, h5⟩ := ok_facts h
  obtain ⟨j, hj⟩ := firstE_ok s s.tasks 0 h5 t ht
  obtain ⟨h1, _, _, h4⟩ := taskE_ok hj
  refine ⟨h4.2.2, ?_⟩
  have h6 := h1.1.2.2
  unfold taskN
  have : t.name.size = t.name.data.toList.length := by rw [Array.length_toList]; rfl
  omega

def kProtB : Bs := [112, 114, 111, 116, 111, 99, 111, 108, 32]
def headS (s : SetL) : Bs := kProtB ++ (wordN s.proto.toNat ++ ([10] ++ (kCores ++ (numsT s.cores ++ [10]))))
def homesS (s : SetL) : Bs := if s.homes = [] then [] else kHomes ++ (numsT s.homes ++ [10])
/-- A set's text. -/
def printL (s : SetL) : Bs := headS s ++ (homesS s ++ tasksT s.tasks)
theorem wordN_len (n : Nat) : (wordN n).length ≤ 5 := by
  unfold wordN
  split <;> simp [kFair, kAgent, kToken]

end Go.Mod
/- Package text: what is printed is read again (plain): words, lines, numbers, parts. -/
set_option linter.unusedVariables false
set_option linter.unusedSimpArgs false
namespace Go.Mod
open Go.Lib

/-! ### words with blanks between, lines -/
def joinB : List Bs → Bs
  | [] => []
  | w :: ws => w ++ ws.flatMap fun x => 32 :: x
def linesB (ls : List Bs) : Bs := ls.flatMap (· ++ [10])
theorem cut_join : ∀ (ws : List Bs) (w : Bs), (∀ x ∈ w :: ws, (32 : UInt8) ∉ x) → cutAt 32 (joinB (w :: ws)) = w :: ws
  | [], w, h => by
    simp only [joinB, List.flatMap_nil, List.append_nil]
    exact cutAt_no (h w (by simp))
  | x :: ws, w, h => by
    have ih := cut_join ws x (fun y hy => h y (by simp [List.mem_cons.1 hy]))
    have e : joinB (w :: x :: ws) = w ++ 32 :: joinB (x :: ws) := by simp [joinB]
    rw [e, cutAt_app (h w (by simp)), ih]
theorem cut_lines : ∀ (ls : List Bs), (∀ l ∈ ls, (10 : UInt8) ∉ l) → cutAt 10 (linesB ls) = ls ++ [[]]
  | [], _ => rfl
  | l :: ls, h => by
    have ih := cut_lines ls fun x hx => h x (by simp [hx])
    have e : linesB (l :: ls) = l ++ 10 :: linesB ls := by simp [linesB]
    rw [e, cutAt_app (h l (by simp)), ih]; rfl
theorem trim_lines : ∀ (ls : List Bs), trimE (ls ++ [[]]) = ls
  | [] => rfl
  | l :: ls => by
    rw [List.cons_append, trimE_cons (by simp), trim_lines ls]
/-- A word that stands alone. -/
def GoodW (w : Bs) : Prop := w ≠ [] ∧ (32 : UInt8) ∉ w ∧ (35 : UInt8) ∉ w ∧ (10 : UInt8) ∉ w
theorem mem_join {c : UInt8} {ws : List Bs} (h : c ∈ joinB ws) : c = 32 ∨ ∃ w ∈ ws, c ∈ w := by
  cases ws with
  | nil => cases h
  | cons w ws =>
    simp only [joinB, List.mem_append, List.mem_flatMap] at h
    rcases h with h | ⟨x, hx, h⟩
    · exact .inr ⟨w, by simp, h⟩
    · rcases List.mem_cons.1 h with rfl | h
      · exact .inl rfl
      · exact .inr ⟨x, by simp [hx], h⟩
theorem words_join {ws : List Bs} (hne : ws ≠ []) (h : ∀ w ∈ ws, GoodW w) : wordsOf (joinB ws) = ws ∧ (10 : UInt8) ∉ joinB ws := by
  constructor
  · unfold wordsOf
    have h35 : (joinB ws).takeWhile (· ≠ 35) = joinB ws := by
      have := List.takeWhile_append_of_pos (p := fun b : UInt8 => decide (b ≠ 35)) (l₁ := joinB ws) (l₂ := []) (fun c hc => by
        simp only [decide_eq_true_eq]
        rintro rfl
        rcases mem_join hc with h1 | ⟨w, hw, h1⟩
        · cases h1
        · exact (h w hw).2.2.1 h1)
      simpa using this
    rw [h35]
    obtain ⟨w, ws, rfl⟩ := List.exists_cons_of_ne_nil hne
    rw [cut_join ws w fun x hx => (h x hx).2.1]
    unfold noE
    exact List.filter_eq_self.2 fun x hx => by simpa using (h x hx).1
  · intro hc
    rcases mem_join hc with h1 | ⟨w, hw, h1⟩
    · cases h1
    · exact (h w hw).2.2.2 h1
/-- Rows, numbered. -/
def numR : Nat → List (List Bs) → List (Nat × List Bs)
  | _, [] => []
  | i, w :: l => (i, w) :: numR (i + 1) l
theorem rows_lines : ∀ (rs : List (List Bs)) (i : Nat), (∀ r ∈ rs, r ≠ [] ∧ ∀ w ∈ r, GoodW w) → rowsL i (rs.map joinB) = numR i rs
  | [], _, _ => rfl
  | r :: rs, i, h => by
    have h1 := h r (by simp)
    have h2 := words_join h1.1 h1.2
    rw [List.map_cons]
    unfold rowsL
    rw [h2.1, if_neg h1.1, rows_lines rs (i + 1) fun x hx => h x (by simp [hx])]
    rfl

/-! ### numbers, parts -/
theorem textL_D {n : Int} {c : UInt8} (h : c ∈ textL n) : 48 ≤ c.toNat ∧ c.toNat ≤ 57 := by
  unfold textL at h
  split at h
  · exact dec_D 7 _ c h
  · cases h
theorem textL_num {n : Int} (h : 0 ≤ n ∧ n ≤ 9999999) : numL (textL n) = some n ∧ textL n ≠ [] := by
  unfold textL
  rw [if_pos h]
  refine ⟨?_, fun e => ?_⟩
  · rw [num_dec (by omega)]; congr 1; omega
  · have := dec_pos 7 n.toNat (by omega) (by omega)
    rw [e] at this; cases this
theorem textL_no {n : Int} {c : UInt8} (h : c.toNat < 48 ∨ 57 < c.toNat) : c ∉ textL n := fun hc => by
  have := textL_D hc; omega
theorem good_text {n : Int} (h : 0 ≤ n ∧ n ≤ 9999999) : GoodW (textL n) := ⟨(textL_num h).2, textL_no (.inl (by decide)), textL_no (.inl (by decide)), textL_no (.inl (by decide))⟩
theorem numsL_text : ∀ {ns : List Int}, (∀ n ∈ ns, 0 ≤ n ∧ n ≤ 9999999) → numsL (ns.map textL) = some ns
  | [], _ => rfl
  | n :: ns, h => by
    rw [List.map_cons]
    unfold numsL
    rw [(textL_num (h n (by simp))).1, numsL_text fun x hx => h x (by simp [hx])]
theorem index_no {c : UInt8} {tl : Bs} : ∀ {s : Bs}, c ∉ s → index s (c :: tl) = -1
  | [], _ => rfl
  | b :: s, h => by
    simp only [List.mem_cons, not_or] at h
    unfold index
    have : (c :: tl).isPrefixOf (b :: s) = false := by
      have : (c == b) = false := by simpa using h.1
      simp [List.isPrefixOf, this]
    rw [this, index_no h.2]
    rfl
theorem cut_kind {k : Bs} (hk : (58 : UInt8) ∉ k) (n : Int) : cutAt 58 (k ++ 58 :: textL n) = [k, textL n] := by
  rw [cutAt_app hk, cutAt_no (textL_no (.inr (by decide)))]
theorem reads_part {nh : Nat} {p : PartL} (h : partOk nh p) (hnh : nh ≤ 1000) : readsL (partT p) = (p, 0) ∧ GoodW (partT p) := by
  obtain ⟨k, l, r⟩ := p
  obtain ⟨⟨h1, h2, h3, h4⟩, h5⟩ := h
  simp only [] at h1 h2 h3 h4 h5
  have hl := textL_num (n := l) ⟨by omega, by omega⟩
  have nl : ∀ c : UInt8, (c.toNat < 48 ∨ 57 < c.toNat) → c ∉ textL l := fun c hc => textL_no hc
  unfold readsL
  by_cases k1 : k = 1
  · subst k1
    have hr : r = 0 := by rcases h5 with h | h <;> omega
    subst hr
    have e : partT ⟨1, l, 0⟩ = kRun ++ 58 :: textL l := rfl
    rw [e]
    have hn : nestL (kRun ++ 58 :: textL l) = false := by
      unfold nestL hasPrefix
      have : kLockC.isPrefixOf (kRun ++ 58 :: textL l) = false := rfl
      rw [this]; rfl
    rw [hn, if_neg (by decide)]
    unfold partL
    rw [cut_kind (by decide) l]
    refine ⟨?_, by simp [kRun], ?_, ?_, ?_⟩
    · simp [numsL, hl.1]
    all_goals
      simp only [List.mem_append, List.mem_cons, not_or]
      exact ⟨by decide, by decide, nl _ (.inl (by decide))⟩
  · by_cases k2 : k = 2
    · subst k2
      have hr : r = 0 := by rcases h5 with h | h <;> omega
      subst hr
      have e : partT ⟨2, l, 0⟩ = kSleep ++ 58 :: textL l := rfl
      rw [e]
      have hn : nestL (kSleep ++ 58 :: textL l) = false := by
        unfold nestL hasPrefix
        have : kLockC.isPrefixOf (kSleep ++ 58 :: textL l) = false := rfl
        rw [this]; rfl
      rw [hn, if_neg (by decide)]
      unfold partL
      rw [cut_kind (by decide) l]
      refine ⟨?_, by simp [kSleep], ?_, ?_, ?_⟩
      · simp [numsL, hl.1, kRun, kSleep]
      all_goals
        simp only [List.mem_append, List.mem_cons, not_or]
        exact ⟨by decide, by decide, nl _ (.inl (by decide))⟩
    · have k3 : k = 3 := by omega
      subst k3
      have hr : 0 ≤ r ∧ r < (nh : Int) := by rcases h5 with h | h <;> omega
      have hr2 := textL_num (n := r) ⟨by omega, by omega⟩
      have nr : ∀ c : UInt8, (c.toNat < 48 ∨ 57 < c.toNat) → c ∉ textL r := fun c hc => textL_no hc
      have e : partT ⟨3, l, r⟩ = kLock ++ 58 :: (textL r ++ 58 :: textL l) := rfl
      rw [e]
      have hn : nestL (kLock ++ 58 :: (textL r ++ 58 :: textL l)) = false := by
        unfold nestL
        have e2 : (kLock ++ 58 :: (textL r ++ 58 :: textL l)).drop 5 = textL r ++ 58 :: textL l := rfl
        rw [e2]
        have e3 : Lib.contains (textL r ++ 58 :: textL l) kLockC = false := by
          unfold Lib.contains kLockC
          rw [index_no]
          · rfl
          · simp only [List.mem_append, List.mem_cons, not_or]
            exact ⟨nr _ (.inr (by decide)), by decide, nl _ (.inr (by decide))⟩
        rw [e3, Bool.and_false]
      rw [hn, if_neg (by decide)]
      unfold partL
      rw [cutAt_app (by decide), cut_kind (nr _ (.inr (by decide))) l]
      refine ⟨?_, by simp [kLock], ?_, ?_, ?_⟩
      · simp [numsL, hl.1, hr2.1, kRun, kSleep, kLock]
      all_goals
        simp only [List.mem_append, List.mem_cons, not_or]
        exact ⟨by decide, by decide, nr _ (.inl (by decide)), by decide, nl _ (.inl (by decide))⟩
end Go.Mod
/- Package text: what is printed is read again (plain). -/
set_option linter.unusedVariables false
set_option linter.unusedSimpArgs false
namespace Go.Mod
open Go.Lib

def taskR (t : TaskL) : List Bs := kTask :: taskN t :: ([t.period, t.deadline, t.prio, t.cluster].map textL ++ t.parts.map partT)
def homesR (s : SetL) : List (List Bs) := if s.homes = [] then [] else [kHomes :: s.homes.map textL]
def rowsP (s : SetL) : List (List Bs) := [kProtocol, wordN s.proto.toNat] :: (kCores :: s.cores.map textL) :: (homesR s ++ s.tasks.map taskR)
theorem nums_flat (ns : List Int) : (ns.map textL).flatMap (fun x => 32 :: x) = numsT ns := by simp [numsT, List.flatMap_map]
theorem task_join (t : TaskL) : joinB (taskR t) ++ [10] = taskT t := by
  have h1 := nums_flat [t.period, t.deadline, t.prio, t.cluster]
  have h2 : (t.parts.map partT).flatMap (fun x => 32 :: x) = partsT t.parts := by simp [partsT, List.flatMap_map]
  have e : joinB (taskR t) = kTask ++ (taskN t :: ([t.period, t.deadline, t.prio, t.cluster].map textL ++ t.parts.map partT)).flatMap fun x => 32 :: x := rfl
  rw [e, List.flatMap_cons, List.flatMap_append, h1, h2]
  unfold taskT taskH
  simp [kTask]
theorem print_lines (s : SetL) : printL s = linesB ((rowsP s).map joinB) := by
  have hc := nums_flat s.cores
  have hh := nums_flat s.homes
  have ht : linesB ((s.tasks.map taskR).map joinB) = tasksT s.tasks := by
    unfold linesB tasksT
    rw [List.flatMap_map, List.flatMap_map]
    congr 1
    funext t
    exact task_join t
  have hhm : linesB ((homesR s).map joinB) = homesS s := by
    unfold homesR homesS
    split
    · rfl
    · simp only [List.map_cons, List.map_nil, linesB, List.flatMap_cons, List.flatMap_nil, joinB]
      rw [hh]; simp
  have happ : ∀ a b : List Bs, linesB (a ++ b) = linesB a ++ linesB b := fun a b => by simp [linesB]
  unfold printL rowsP headS
  rw [List.map_cons, List.map_cons, List.map_append]
  show _ = linesB (joinB _ :: joinB _ :: (_ ++ _))
  have e : ∀ (x y : Bs) (l : List Bs), linesB (x :: y :: l) = x ++ ([10] ++ (y ++ ([10] ++ linesB l))) := fun x y l => by simp [linesB]
  rw [e, happ, hhm, ht]
  simp only [joinB]
  rw [hc]
  simp [kProtB, kProtocol]
theorem good_name {t : TaskL} (h : nameB t.name) : GoodW (taskN t) := by
  have hb : ∀ c ∈ taskN t, 48 ≤ c.toNat := fun c hc => by
    obtain ⟨i, hi⟩ := List.mem_iff_getElem?.1 hc
    have h1 : t.name[i]? = some c := by rw [name_B t, B_get]; exact hi
    have := h.1 i c h1
    unfold goodB at this
    omega
  have hne : taskN t ≠ [] := fun e => by
    have h1 := h.2.1
    rw [name_B t, B_size, e] at h1
    simp at h1
  exact ⟨hne, fun hc => absurd (hb _ hc) (by decide), fun hc => absurd (hb _ hc) (by decide), fun hc => absurd (hb _ hc) (by decide)⟩
theorem wordN_good {p : Nat} (h : 1 ≤ p ∧ p ≤ 3) : GoodW (wordN p) ∧ protoN (wordN p) = (p : Int) := by
  obtain rfl | rfl | rfl : p = 1 ∨ p = 2 ∨ p = 3 := by omega
  all_goals (unfold GoodW wordN; decide)

section
variable {s : SetL}
theorem task_nums {t : TaskL} (h1 : formOk t) (h2 : 0 ≤ t.cluster ∧ t.cluster < (s.cores.length : Int)) (h3 : s.cores.length ≤ 3) : ∀ n ∈ [t.period, t.deadline, t.prio, t.cluster], 0 ≤ n ∧ n ≤ 9999999 := by
  obtain ⟨_, ⟨a1, a2⟩, ⟨b1, b2⟩, c1, c2⟩ := h1
  intro n hn
  simp only [List.mem_cons, List.not_mem_nil, or_false] at hn
  rcases hn with rfl | rfl | rfl | rfl <;> omega
theorem tail_parts {nh : Nat} (hnh : nh ≤ 1000) : ∀ {ps : List PartL}, (∀ p ∈ ps, partOk nh p) → tailL (ps.map partT) = some ps
  | [], _ => rfl
  | p :: ps, h => by
    have h1 := (reads_part (h p (by simp)) hnh).1
    rw [List.map_cons]
    unfold tailL
    rw [h1, if_pos rfl, tail_parts hnh fun x hx => h x (by simp [hx])]
    rfl
theorem read_task {t : TaskL} {nh : Nat} (hnh : nh ≤ 1000) (hn : ∀ n ∈ [t.period, t.deadline, t.prio, t.cluster], 0 ≤ n ∧ n ≤ 9999999) (hp : ∀ p ∈ t.parts, partOk nh p) : taskL (taskR t) = some t.plain := by
  have e1 : ((taskR t).drop 2).take 4 = [t.period, t.deadline, t.prio, t.cluster].map textL := rfl
  have e2 : (taskR t).drop 6 = t.parts.map partT := rfl
  have e3 : (taskR t).getD 1 [] = taskN t := rfl
  have e4 : ¬ (taskR t).length < 6 := by simp [taskR]
  unfold taskL
  rw [if_neg e4, e1, e2, e3, numsL_text hn, tail_parts hnh hp, ← name_B]
  rfl
theorem read_tasks {nh : Nat} (hnh : nh ≤ 1000) : ∀ (ts : List TaskL) (i : Nat), (∀ t ∈ ts, (∀ n ∈ [t.period, t.deadline, t.prio, t.cluster], 0 ≤ n ∧ n ≤ 9999999) ∧ ∀ p ∈ t.parts, partOk nh p) → tasksL (numR i (ts.map taskR)) = .inl (ts.map TaskL.plain)
  | [], _, _ => rfl
  | t :: ts, i, h => by
    have h1 := h t (by simp)
    rw [List.map_cons, List.map_cons]
    unfold numR tasksL
    have e : (taskR t).getD 0 [] = kTask := rfl
    rw [if_neg (fun h => h e), read_task hnh h1.1 h1.2, read_tasks hnh ts (i + 1) fun x hx => h x (by simp [hx])]
theorem numR_len : ∀ (l : List (List Bs)) (i : Nat), (numR i l).length = l.length
  | [], _ => rfl
  | w :: l, i => by simp [numR, numR_len l (i + 1)]

theorem ok_all (hok : (checkE s).2 = 0) : ∀ t ∈ s.tasks, formOk t ∧ (0 ≤ t.cluster ∧ t.cluster < (s.cores.length : Int)) ∧ partsOk s.homes.length t.parts := fun t ht => by
  obtain ⟨_, _, _, _, h5⟩ := ok_facts hok
  obtain ⟨j, hj⟩ := firstE_ok s s.tasks 0 h5 t ht
  obtain ⟨h1, h2, _, h4⟩ := taskE_ok hj
  exact ⟨h1, h2, h4⟩
theorem rows_good (hok : (checkE s).2 = 0) : ∀ r ∈ rowsP s, r ≠ [] ∧ ∀ w ∈ r, GoodW w := by
  obtain ⟨hp, ⟨⟨hc1, hc3, hh4⟩, hcs, hhs⟩, ht6, htn, _⟩ := ok_facts hok
  have hall := ok_all hok
  intro r hr
  unfold rowsP homesR at hr
  rcases List.mem_cons.1 hr with rfl | hr
  · refine ⟨by simp, fun w hw => ?_⟩
    simp only [List.mem_cons, List.not_mem_nil, or_false] at hw
    rcases hw with rfl | rfl
    · unfold GoodW; decide
    · exact (wordN_good ⟨by omega, by omega⟩).1
  rcases List.mem_cons.1 hr with rfl | hr
  · refine ⟨by simp, fun w hw => ?_⟩
    rcases List.mem_cons.1 hw with rfl | hw
    · unfold GoodW; decide
    · obtain ⟨n, hn, rfl⟩ := List.mem_map.1 hw
      have := hcs n hn
      exact good_text ⟨by omega, by omega⟩
  rcases List.mem_append.1 hr with hr | hr
  · split at hr
    · cases hr
    · simp only [List.mem_cons, List.not_mem_nil, or_false] at hr
      subst hr
      refine ⟨by simp, fun w hw => ?_⟩
      rcases List.mem_cons.1 hw with rfl | hw
      · unfold GoodW; decide
      · obtain ⟨n, hn, rfl⟩ := List.mem_map.1 hw
        have := hhs n hn
        exact good_text ⟨by omega, by omega⟩
  · obtain ⟨t, ht, rfl⟩ := List.mem_map.1 hr
    obtain ⟨h1, h2, h4⟩ := hall t ht
    refine ⟨by simp [taskR], fun w hw => ?_⟩
    unfold taskR at hw
    rcases List.mem_cons.1 hw with rfl | hw
    · unfold GoodW; decide
    rcases List.mem_cons.1 hw with rfl | hw
    · exact good_name h1.1
    rcases List.mem_append.1 hw with hw | hw
    · obtain ⟨n, hn, rfl⟩ := List.mem_map.1 hw
      exact good_text (task_nums (s := s) h1 h2 hc3 n hn)
    · obtain ⟨p, hp, rfl⟩ := List.mem_map.1 hw
      exact (reads_part (h4.1 p hp) (by omega)).2
theorem print_len (hok : (checkE s).2 = 0) : (printL s).length ≤ 2000 := by
  obtain ⟨hp, ⟨⟨hc1, hc3, hh4⟩, _, _⟩, ht6, htn, _⟩ := ok_facts hok
  have h1 := numsT_len s.cores
  have h2 := numsT_len s.homes
  have h3 := wordN_len s.proto.toNat
  have hall : ∀ l : List TaskL, (∀ t ∈ l, t.parts.length ≤ 6 ∧ (taskN t).length ≤ 8) → (tasksT l).length ≤ 172 * l.length := by
    intro l
    induction l with
    | nil => intro _; simp [tasksT]
    | cons t l ih =>
      intro h
      have h1 := taskT_len t
      have h2 := h t (by simp)
      have h3 := ih fun x hx => h x (by simp [hx])
      unfold tasksT at h3 ⊢
      rw [List.flatMap_cons, List.length_append, List.length_cons]; omega
  have h4 := hall s.tasks (ok_small hok)
  have h5 : (homesS s).length ≤ 6 + 8 * s.homes.length := by
    unfold homesS
    split
    · simp
    · simp [kHomes]; omega
  unfold printL headS
  simp only [List.length_append, kProtB, kCores, List.length_cons, List.length_nil]
  omega
/-- What is printed of a set that may be is read as that set. -/
theorem parse_print (hok : (checkE s).2 = 0) : parseL (printL s) = .inr (s.plain, (rowsP s).length) := by
  obtain ⟨hp, ⟨⟨hc1, hc3, hh4⟩, hcs, hhs⟩, ht6, htn, _⟩ := ok_facts hok
  have hall := ok_all hok
  have hgood := rows_good hok
  have hlen := print_len hok
  have hlines : trimE (cutAt 10 (printL s)) = (rowsP s).map joinB := by
    rw [print_lines, cut_lines _ (fun l hl => by
      obtain ⟨r, hr, rfl⟩ := List.mem_map.1 hl
      exact (words_join (hgood r hr).1 (hgood r hr).2).2), trim_lines]
  have hrows : rowsL 0 ((rowsP s).map joinB) = numR 0 (rowsP s) := rows_lines _ 0 hgood
  have hcn : numsL (s.cores.map textL) = some s.cores := numsL_text fun n hn => by have := hcs n hn; omega
  have hhn : numsL (s.homes.map textL) = some s.homes := numsL_text fun n hn => by have := hhs n hn; omega
  have hcne : s.cores ≠ [] := fun e => by rw [e] at hc1; simp at hc1
  have hw := wordN_good (p := s.proto.toNat) ⟨by omega, by omega⟩
  have hpw : protoN (wordN s.proto.toNat) = s.proto := by rw [hw.2]; omega
  have hp0 : ¬ s.proto = 0 := by omega
  have htk := read_tasks (nh := s.homes.length) (by omega) s.tasks
  have hread := fun i => htk i fun t ht => ⟨task_nums (s := s) (hall t ht).1 (hall t ht).2.1 hc3, (hall t ht).2.2.1⟩
  have hck : (checkE (plainSet s.proto s.cores s.homes (s.tasks.map TaskL.plain))).2 = 0 := by
    have := checkE_plain s
    unfold SetL.plain at this
    rw [this]; exact hok
  unfold parseL
  rw [if_neg (by omega)]
  simp only [hlines, hrows, List.length_map]
  have hhead : headL (numR 0 (rowsP s)) = ⟨s.proto, s.cores, s.homes, if s.homes = [] then 2 else 3, true⟩ ∧ (numR 0 (rowsP s)).drop (if s.homes = [] then 2 else 3) = numR (if s.homes = [] then 2 else 3) (s.tasks.map taskR) := by
    unfold rowsP homesR
    by_cases hh : s.homes = []
    · rw [if_pos hh, if_pos hh]
      obtain ⟨t, ts, hts⟩ := List.exists_cons_of_ne_nil htn
      have e : numR 0 ([kProtocol, wordN s.proto.toNat] :: (kCores :: s.cores.map textL) :: ([] ++ s.tasks.map taskR)) = (0, [kProtocol, wordN s.proto.toNat]) :: (1, kCores :: s.cores.map textL) :: (2, taskR t) :: numR 3 (ts.map taskR) := by rw [hts]; rfl
      constructor
      · rw [e]
        unfold headL
        have e1 : ([kProtocol, wordN s.proto.toNat] : List Bs).getD 1 [] = wordN s.proto.toNat := rfl
        have e2 : ([kProtocol, wordN s.proto.toNat] : List Bs).getD 0 [] = kProtocol := rfl
        have e3 : (kCores :: s.cores.map textL).getD 0 [] = kCores := rfl
        have e4 : (kCores :: s.cores.map textL).drop 1 = s.cores.map textL := rfl
        have e5 : ¬ (taskR t).getD 0 [] = kHomes := by
          have : (taskR t).getD 0 [] = kTask := rfl
          rw [this]; decide
        simp only [e1, e2, e3, e4, hpw, hcn]
        rw [if_neg (fun h => h ⟨trivial, rfl⟩), if_neg hp0, if_neg (fun h => h trivial), if_neg hcne, if_pos e5, hh]
      · rw [e, hts]; rfl
    · rw [if_neg hh, if_neg hh]
      have e : numR 0 ([kProtocol, wordN s.proto.toNat] :: (kCores :: s.cores.map textL) :: ([kHomes :: s.homes.map textL] ++ s.tasks.map taskR)) = (0, [kProtocol, wordN s.proto.toNat]) :: (1, kCores :: s.cores.map textL) :: (2, kHomes :: s.homes.map textL) :: numR 3 (s.tasks.map taskR) := rfl
      constructor
      · rw [e]
        unfold headL
        have e1 : ([kProtocol, wordN s.proto.toNat] : List Bs).getD 1 [] = wordN s.proto.toNat := rfl
        have e2 : ([kProtocol, wordN s.proto.toNat] : List Bs).getD 0 [] = kProtocol := rfl
        have e3 : (kCores :: s.cores.map textL).getD 0 [] = kCores := rfl
        have e4 : (kCores :: s.cores.map textL).drop 1 = s.cores.map textL := rfl
        have e5 : (kHomes :: s.homes.map textL).getD 0 [] = kHomes := rfl
        have e6 : (kHomes :: s.homes.map textL).drop 1 = s.homes.map textL := rfl
        simp only [e1, e2, e3, e4, e5, e6, hpw, hcn, hhn]
        rw [if_neg (fun h => h ⟨trivial, rfl⟩), if_neg hp0, if_neg (fun h => h trivial), if_neg hcne, if_neg (fun h => h trivial), if_neg hh]
      · rw [e]; rfl
  rw [hhead.1]
  simp only [hhead.2]
  rw [if_neg (by decide), hread]
  simp only [hck, if_true]
  rfl
end
end Go.Mod

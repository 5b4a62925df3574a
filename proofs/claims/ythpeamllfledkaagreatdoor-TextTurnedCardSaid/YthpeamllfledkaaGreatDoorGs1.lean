/- More of the library's contracts at this program: strings.HasPrefix, strings.Contains, strings.Builder's; laid by the kit's lay-shelf and lay-plain (wip/tool/shelf.py). -/
import Derived.Test.YthpeamllfledkaaGreatDoorGs0
import Derived.Shelf.Strings.BuilderX
import Derived.Shelf.Strings.BuilderF
import Derived.Test.YthpeamllfledkaaGreatDoorGrH
import Derived.Test.YthpeamllfledkaaGreatDoorZTdM
import Derived.Test.YthpeamllfledkaaGreatDoorZWdM
import Derived.Test.YthpeamllfledkaaGreatDoorGrE
import Derived.Test.YthpeamllfledkaaGreatDoorGrF
namespace Go.Proofs
open Go.Shelf
def Tryz.lays169_ren : Go.Shelf.Ren := ⟨fun | 169 => 30 | n => n, fun | 70 => 64 | 9 => 9 | 0 => 0 | 72 => 66 | 37 => 37 | 127 => 92 | 3 => 3 | 5 => 5 | n => n, fun | n => n⟩
theorem Tryz.lays169 : Go.Proofs.Lays.n169 Tryz.prog Tryz.lays169_ren := {
  mixed := by kernel_rfl
  f169 := Tryz.func30.trans (congrArg some (by kernel_rfl))
  t0 := Tryz.underlying0
  a0 := Tryz.isAgg0
  z0 := Tryz.sizeOf0
  v0 := Tryz.zeroValue0
  t3 := Tryz.underlying3
  a3 := Tryz.isAgg3
  z3 := Tryz.sizeOf3
  v3 := Tryz.zeroValue3
  t9 := Tryz.underlying9
  a9 := Tryz.isAgg9
  z9 := Tryz.sizeOf9
  v9 := Tryz.zeroValue9
  t37 := Tryz.underlying37
  a37 := Tryz.isAgg37
  z37 := Tryz.sizeOf37
  v37 := Tryz.zeroValue37
  t70 := Tryz.underlying64
  a70 := Tryz.isAgg64
  z70 := Tryz.sizeOf64
  v70 := Tryz.zeroValue64
  t72 := Tryz.underlying66
  a72 := Tryz.isAgg66
  z72 := Tryz.sizeOf66
  v72 := Tryz.zeroValue66
  t127 := Tryz.underlying92
  a127 := Tryz.isAgg92
  z127 := Tryz.sizeOf92
  v127 := Tryz.zeroValue92 }
theorem Tryz.Builder_Extra_169 : Builder.Extra Tryz.prog Tryz.lays169_ren := {
  sizeBuilder := by kernel_rfl
  liesBuilder := by kernel_rfl
  t5 := Tryz.underlying5
  a5 := Tryz.isAgg5
  z5 := Tryz.sizeOf5
  v5 := Tryz.zeroValue5
  infoByte := by kernel_rfl
  cellsByte := by kernel_rfl
  sizeByte := by kernel_rfl
  neB5 := by decide }
def Tryz.lays144_ren : Go.Shelf.Ren := ⟨fun | 144 => 57 | 143 => 72 | 219 => 82 | 217 => 87 | 225 => 88 | 224 => 89 | 267 => 90 | 266 => 100 | 314 => 101 | n => n, fun | 9 => 9 | 4 => 4 | 3 => 3 | 5 => 5 | 46 => 117 | 146 => 135 | 51 => 134 | n => n, fun | 1 => 0 | n => n⟩
theorem Tryz.lays144 : Go.Proofs.Lays.n144 Tryz.prog Tryz.lays144_ren := {
  mixed := by kernel_rfl
  f143 := Tryz.func72.trans (congrArg some (by kernel_rfl))
  f144 := Tryz.func57.trans (congrArg some (by kernel_rfl))
  f217 := Tryz.func87.trans (congrArg some (by kernel_rfl))
  f219 := Tryz.func82.trans (congrArg some (by kernel_rfl))
  f224 := Tryz.func89.trans (congrArg some (by kernel_rfl))
  f225 := Tryz.func88.trans (congrArg some (by kernel_rfl))
  f266 := Tryz.func100.trans (congrArg some (by kernel_rfl))
  f267 := Tryz.func90.trans (congrArg some (by kernel_rfl))
  f314 := Tryz.func101.trans (congrArg some (by kernel_rfl))
  t3 := Tryz.underlying3
  a3 := Tryz.isAgg3
  z3 := Tryz.sizeOf3
  v3 := Tryz.zeroValue3
  t4 := Tryz.underlying4
  a4 := Tryz.isAgg4
  z4 := Tryz.sizeOf4
  v4 := Tryz.zeroValue4
  t5 := Tryz.underlying5
  a5 := Tryz.isAgg5
  z5 := Tryz.sizeOf5
  v5 := Tryz.zeroValue5
  t9 := Tryz.underlying9
  a9 := Tryz.isAgg9
  z9 := Tryz.sizeOf9
  v9 := Tryz.zeroValue9
  t46 := Tryz.underlying117
  a46 := Tryz.isAgg117
  z46 := Tryz.sizeOf117
  v46 := Tryz.zeroValue117
  t51 := Tryz.underlying134
  a51 := Tryz.isAgg134
  z51 := Tryz.sizeOf134
  v51 := Tryz.zeroValue134
  t146 := Tryz.underlying135
  a146 := Tryz.isAgg135
  z146 := Tryz.sizeOf135
  v146 := Tryz.zeroValue135
  g1 := by kernel_rfl }
open Go.RowKit Go.Lib in
theorem Tryz.strings_Contains (s sub : ByteArray) (m : Int) (w : World) (hs : s.size < 4294967281) (hm : w.cell? ⟨0, 0, none⟩ = some (.int .i64 m)) :
    Calls Tryz.prog 57 #[.string s, .string sub] w fun e w' => e = .returned (.bool (Lib.contains s.data.toList sub.data.toList)) ∧ w' = w := Any.strings_Contains Tryz.lays144 s sub m w hs hm
def Tryz.lays99_ren : Go.Shelf.Ren := ⟨fun | 99 => 56 | 206 => 75 | n => n, fun | 9 => 9 | 4 => 4 | 3 => 3 | n => n, fun | n => n⟩
theorem Tryz.lays99 : Go.Proofs.Lays.n99 Tryz.prog Tryz.lays99_ren := {
  mixed := by kernel_rfl
  f99 := Tryz.func56.trans (congrArg some (by kernel_rfl))
  f206 := Tryz.func75.trans (congrArg some (by kernel_rfl))
  t3 := Tryz.underlying3
  a3 := Tryz.isAgg3
  z3 := Tryz.sizeOf3
  v3 := Tryz.zeroValue3
  t4 := Tryz.underlying4
  a4 := Tryz.isAgg4
  z4 := Tryz.sizeOf4
  v4 := Tryz.zeroValue4
  t9 := Tryz.underlying9
  a9 := Tryz.isAgg9
  z9 := Tryz.sizeOf9
  v9 := Tryz.zeroValue9 }
open Go.RowKit Go.Lib in
theorem Tryz.strings_HasPrefix (s p : ByteArray) (w : World) :
    Calls Tryz.prog 56 #[.string s, .string p] w fun e w' => e = .returned (.bool (Lib.hasPrefix s.data.toList p.data.toList)) ∧ w' = w := Any.strings_HasPrefix Tryz.lays99 s p w
end Go.Proofs
/- strings.Builder's copyCheck and String, strings.HasPrefix, strings.Contains at this program: intrinsics. -/
set_option linter.unusedVariables false
namespace Go.Mod
open Go.Proofs Go.RowKit Go.Sort

set_option maxHeartbeats 1000000 in
set_option maxRecDepth 100000 in
theorem ck_used (b : Nat) (w : World) (h0 : w.cell? ⟨b, 0, none⟩ = some (.pointer (some ⟨b, 0, none⟩))) :
    Calls Tryz.prog 49 #[.pointer (some ⟨b, 0, none⟩)] w fun e w' => e = .returned (.tuple #[]) ∧ w' = w := by
  obtain ⟨j, hj, _⟩ := Option.map_eq_some_iff.1 (show (Tryz.prog.info? 66).map (·.size) = some 2 by kernel_rfl)
  have mixed : Tryz.prog.follows .mixedOrders = true := by kernel_rfl
  have t72 := Tryz.underlying66; have a72 := Tryz.isAgg66; have z72 := Tryz.sizeOf66; have v72 := Tryz.zeroValue66; have u72 := run_underlying Tryz.underlying66
  have t70 := Tryz.underlying64; have a70 := Tryz.isAgg64; have z70 := Tryz.sizeOf64; have v70 := Tryz.zeroValue64; have u70 := run_underlying Tryz.underlying64
  have t9 := Tryz.underlying9; have a9 := Tryz.isAgg9; have z9 := Tryz.sizeOf9; have v9 := Tryz.zeroValue9; have u9 := run_underlying Tryz.underlying9
  have t4 := Tryz.underlying4; have a4 := Tryz.isAgg4; have z4 := Tryz.sizeOf4; have v4 := Tryz.zeroValue4; have u4 := run_underlying Tryz.underlying4
  have t164 := Tryz.underlying103; have a164 := Tryz.isAgg103; have z164 := Tryz.sizeOf103; have v164 := Tryz.zeroValue103; have u164 := run_underlying Tryz.underlying103
  go_enter Tryz.func49, (show Tryz.f49.ntmps = 20 from rfl)
  go_wp2
  rw [Lib.run_neq_ptr_same w _ Tryz.underlying64 hj]
  go_wp2
  go_end0
  exact ⟨rfl, rfl⟩
set_option maxHeartbeats 1000000 in
set_option maxRecDepth 100000 in
theorem ck_fresh (b : Nat) (w : World) (h0 : w.cell? ⟨b, 0, none⟩ = some (.pointer none)) (hsh : w.shape? b = some (66, 2)) (hfz : w.frozen? ⟨b, 0, none⟩ = false) :
    Calls Tryz.prog 49 #[.pointer (some ⟨b, 0, none⟩)] w fun e w' => e = .returned (.tuple #[]) ∧ w' = w.setCell ⟨b, 0, none⟩ (.pointer (some ⟨b, 0, none⟩)) := by
  obtain ⟨j, hj, hjs⟩ := Option.map_eq_some_iff.1 (show (Tryz.prog.info? 66).map (·.size) = some 2 by kernel_rfl)
  have mixed : Tryz.prog.follows .mixedOrders = true := by kernel_rfl
  have t72 := Tryz.underlying66; have a72 := Tryz.isAgg66; have z72 := Tryz.sizeOf66; have v72 := Tryz.zeroValue66; have u72 := run_underlying Tryz.underlying66
  have t70 := Tryz.underlying64; have a70 := Tryz.isAgg64; have z70 := Tryz.sizeOf64; have v70 := Tryz.zeroValue64; have u70 := run_underlying Tryz.underlying64
  have t9 := Tryz.underlying9; have a9 := Tryz.isAgg9; have z9 := Tryz.sizeOf9; have v9 := Tryz.zeroValue9; have u9 := run_underlying Tryz.underlying9
  have t4 := Tryz.underlying4; have a4 := Tryz.isAgg4; have z4 := Tryz.sizeOf4; have v4 := Tryz.zeroValue4; have u4 := run_underlying Tryz.underlying4
  have t164 := Tryz.underlying103; have a164 := Tryz.isAgg103; have z164 := Tryz.sizeOf103; have v164 := Tryz.zeroValue103; have u164 := run_underlying Tryz.underlying103
  go_enter Tryz.func49, (show Tryz.f49.ntmps = 20 from rfl)
  go_wp2
  rw [Lib.run_to_unsafe w ⟨b, 0, none⟩ Tryz.underlying64 Tryz.underlying103 hj (by rw [hjs]; decide) hsh (Nat.zero_lt_succ 1)]
  simp only [Result.andThen]
  rw [Oper.upon_value]
  go_wp2
  rw [run_callFunc_extern Tryz.func66 (by kernel_rfl) (by kernel_rfl) (by kernel_rfl) (e := Extern.AbiNoEscape.same) (by kernel_rfl)]
  rw [Lib.run_noEscape]
  simp only [Result.andThen]
  rw [Oper.upon_value]
  go_wp2
  rw [Lib.run_from_unsafe w ⟨b, 0, none⟩ Tryz.underlying103 Tryz.underlying64 hj hsh (by kernel_rfl)]
  simp only [Result.andThen]
  rw [Oper.upon_value]
  go_wp2
  go_end0
  exact ⟨rfl, rfl⟩

section
variable [Glob]
theorem i49 : IntrOk Tryz.prog 49 (ckS 66) := ck_ok ⟨_, Tryz.func49, by kernel_rfl, by kernel_rfl⟩ ck_used ck_fresh
theorem i30 : IntrOk Tryz.prog 30 (strS 5) := str_ok ⟨_, Tryz.func30, by kernel_rfl, by kernel_rfl⟩ fun b bo g off cap size l w => builder_String_at Tryz.lays169 Tryz.Builder_Extra_169 b bo g off cap size l w
theorem i56 : IntrOk Tryz.prog 56 (scalS preG) := pre_ok ⟨_, Tryz.func56, by kernel_rfl, by kernel_rfl⟩ Tryz.strings_HasPrefix
theorem i57 (hV : ∀ w, GlobAt w → Vars w) : IntrOk Tryz.prog 57 (scalS conG) := con_ok ⟨_, Tryz.func57, by kernel_rfl, by kernel_rfl⟩ fun s p w hs hg => let ⟨m, hm⟩ := (hV w hg).max; Tryz.strings_Contains s p m w hs hm
end
end Go.Mod
/- The model of package text: its map, and that it knows what it should (package swingbridgelaw9's 'known'). -/
namespace Go.Mod
open Go.Proofs

def mpX0 (f : FuncId) : Option MDef := match f with
  | 74 => some (.intr (atoiS 121))
  | 67 => some (.intr (scalS itoaG))
  | 38 => some (.intr splitS)
  | 54 => some (.intr (scalS cutG))
  | 30 => some (.intr (strS 5))
  | 49 => some (.intr (ckS 66))
  | 56 => some (.intr (scalS preG))
  | 57 => some (.intr (scalS conG))
  | f => mpXc f
theorem mpX0_ok [Glob] (hV : ∀ w, GlobAt w → Vars w) : MapOk Tryz.prog mpX0 := ⟨by kernel_rfl, fun f fn h => by
  unfold mpX0 at h
  split at h <;> first | (cases h; done) | exact mpXc_code _ _ h, fun f s h => by
  unfold mpX0 at h
  split at h
  · cases h; exact i74 hV
  · cases h; exact i67 hV
  · cases h; exact i38 hV
  · cases h; exact i54 hV
  · cases h; exact i30
  · cases h; exact i49
  · cases h; exact i56
  · cases h; exact i57 hV
  · unfold mpXc at h
    split at h <;> cases h⟩
set_option maxRecDepth 100000 in
theorem known9 : ∃ H0, R mpX0 5 [] [] = some (.bool true, H0) := known_of (k := 40) (by kernel_rfl)
def mpX (f : FuncId) : Option MDef := if f = 5 then some (.intr (constS (.bool true))) else mpX0 f
theorem mpX_ok [Glob] (hV : ∀ w, GlobAt w → Vars w) : MapOk Tryz.prog mpX := by
  obtain ⟨H0, h0⟩ := known9
  refine ⟨(mpX0_ok hV).mixed, fun f fn h => ?_, fun f s h => ?_⟩
  · unfold mpX at h
    split at h
    · cases h
    · exact (mpX0_ok hV).code f fn h
  · unfold mpX at h
    split at h
    · rename_i e
      subst e; cases h
      exact closed_intr (mpX0_ok hV) h0 rfl
    · exact (mpX0_ok hV).intr f s h
end Go.Mod
/- Package words: what its contracts lean on. -/
/- Package words and the document's words: strings cut into lines and words. -/
set_option linter.unusedVariables false
set_option linter.unusedSimpArgs false
namespace Go.Mod

theorem B_mk (a : Array UInt8) : (⟨a⟩ : ByteArray) = B a.toList := by simp [B]
@[simp] theorem B_getE (l : List UInt8) (i : Nat) (h : i < (B l).size) : (B l)[i] = l[i]'(by simpa using h) := Eq.trans rfl rfl
/-- Cells of a row of strings. -/
def sv (ls : List (List UInt8)) : List Value := ls.map fun l => .string (B l)
@[simp] theorem sv_len (ls : List (List UInt8)) : (sv ls).length = ls.length := by simp [sv]
theorem sv_one (ls : List (List UInt8)) : (sv ls).all one = true := by simp [sv]
theorem sv_snoc (ls : List (List UInt8)) (x : List UInt8) : sv ls ++ [.string (B x)] = sv (ls ++ [x]) := by simp [sv]
section
variable {mp : FuncId → Option MDef} {H : MH} {a : Option Addr} {n c k : Nat} {ls : List (List UInt8)} {x : List UInt8}
theorem Row.svn (h : Row 1 H (.slice a n c) (sv ls)) : n = ls.length := by
  obtain ⟨a', n', c', e, hl⟩ := h.slice
  cases e
  rw [sv_len] at hl; omega
theorem Row.sv (h : Row 1 H (.slice a n c) (sv ls)) (hx : ls[k]? = some x) : ∃ b o j cs, a = some ⟨b, o, none⟩ ∧ H[b]? = some (.cells j cs) ∧ cs[o + k]? = some (.string (B x)) := by
  have hk := (List.getElem?_eq_some_iff.1 hx).1
  have hn := h.svn
  obtain ⟨b, o, j, cs, rfl, hB, _, hat⟩ := h.at (k := k) (by omega)
  exact ⟨b, o, j, cs, rfl, hB, by rw [hat]; simp [Mod.sv, hx]⟩

/-- Without an empty last piece. -/
def trimE : List (List UInt8) → List (List UInt8)
  | [] => []
  | [x] => if x = [] then [] else [x]
  | x :: y :: t => x :: trimE (y :: t)
theorem trimE_cons {x : List UInt8} {t : List (List UInt8)} (h : t ≠ []) : trimE (x :: t) = x :: trimE t := by
  cases t with
  | nil => exact absurd rfl h
  | cons y t => rfl

theorem cut_loop {l : List UInt8} {b : UInt8} (hl : l.length ≤ 100000) : ∀ (k i fr : Nat) (H : MH) (G : List Nat) (out : List (List UInt8)) (a : Option Addr) (n c : Nat), i + k = l.length → fr ≤ i → b ∉ (l.take i).drop fr → out.length ≤ i → OwnA 1 (.slice a n c) (sv out) H G →
    ∃ (fr' : Nat) (H' : MH) (G' : List Nat) (out' : List (List UInt8)) (a' : Option Addr) (n' c' : Nat), Rc mp (.loop m37_0) [(0, .string (B l)), (1, .int .u8 b.toNat), (5, .slice a n c), (6, .int .i64 (fr : Int)), (7, .int .i64 (i : Int))] H =
        some (.exit 0, [(0, .string (B l)), (1, .int .u8 b.toNat), (5, .slice a' n' c'), (6, .int .i64 (fr' : Int)), (7, .int .i64 (l.length : Int)), (11, .bool false)], H') ∧ fr' ≤ l.length ∧ out'.length ≤ l.length ∧ OwnA 1 (.slice a' n' c') (sv out') H' G' ∧ Upd H G H' G' ∧
      out' ++ trimE [l.drop fr'] = out ++ trimE (cutAt b ((l.take i).drop fr ++ l.drop i)) := by
  intro k
  induction k with
  | zero =>
    intro i fr H G out a n c hi hfr hb ho hO
    have : i = l.length := by omega
    subst this
    refine ⟨fr, H, G, out, a, n, c, ?_, hfr, ho, hO, Upd.refl _ _, ?_⟩
    · rw [Rc_loop]
      simp [m37_0]
    · rw [List.take_length] at hb ⊢
      rw [List.drop_length, List.append_nil, cutAt_no hb]
  | succ k ih =>
    intro i fr H G out a n c hi hfr hb ho hO
    have hil : i < l.length := by omega
    have hg := List.getElem?_eq_getElem hil
    have w : IntKind.i64.wrap ((i : Int) + 1) = (i : Int) + 1 := wrap_i64 (by omega) (by omega)
    have hdrop : l.drop i = l[i] :: l.drop (i + 1) := List.drop_eq_getElem_cons hil
    have htk : l.take (i + 1) = l.take i ++ [l[i]] := by rw [List.take_add_one, hg]; rfl
    by_cases hc : l[i] = b
    · have hpl : ((l.drop fr).take (i - fr)) = (l.take i).drop fr := by rw [List.drop_take]
      obtain ⟨a1, n1, c1, H1, G1, e1, o1, u1⟩ := own_push1 (bytes := 16) hO (sv_one out) (xs := [.string (B ((l.take i).drop fr))]) rfl rfl (by omega) (by simp; omega) (by omega)
      rw [sv_snoc] at o1
      obtain ⟨fr', H', G', out', a', n', c', h1, h2, h3, h4, h5, h6⟩ := ih (i + 1) (i + 1) H1 G1 (out ++ [(l.take i).drop fr]) a1 n1 c1 (by omega) (Nat.le_refl _) (by rw [List.drop_eq_nil_of_le (by simp; omega)]; simp) (by simp; omega) o1
      refine ⟨fr', H', G', out', a', n', c', ?_, h2, h3, h4, u1.trans h5, ?_⟩
      · rw [Rc_loop]
        simp [m37_0, hg, hil, hc, w, hpl, e1, hfr, Nat.le_of_lt hil]
        exact h1
      · have e0 : (l.take (i + 1)).drop (i + 1) = [] := List.drop_eq_nil_of_le (by simp; omega)
        rw [h6, e0, hdrop, hc, cutAt_app hb, trimE_cons (cutAt_ne _ _)]
        simp
    · have hcn : ¬ (l[i].toNat : Int) = b.toNat := fun e => hc (UInt8.toNat_inj.1 (by omega))
      have hsub : (l.take (i + 1)).drop fr = (l.take i).drop fr ++ [l[i]] := by
        rw [htk, List.drop_append_of_le_length (by simp; omega)]
      obtain ⟨fr', H', G', out', a', n', c', h1, h2, h3, h4, h5, h6⟩ := ih (i + 1) fr H G out a n c (by omega) (by omega) (by rw [hsub]; simp; exact ⟨hb, fun e => hc e.symm⟩) (by omega) hO
      refine ⟨fr', H', G', out', a', n', c', ?_, h2, h3, h4, h5, ?_⟩
      · rw [Rc_loop]
        simp [m37_0, hg, hil, hcn, w]
        exact h1
      · rw [h6, hsub, hdrop]; simp
end
end Go.Mod
/- Package words and the document's words: Lines, Words. -/
set_option linter.unusedVariables false
set_option linter.unusedSimpArgs false
namespace Go.Mod

@[simp] theorem nil_toList : (⟨#[]⟩ : ByteArray).toList = [] := by rw [ba_toList']
/-- What a function hands back that makes a row of strings. -/
def GivesS (H : MH) (x : Option (Value × MH)) (ls : List (List UInt8)) : Prop := ∃ a n c H', x = some (.slice a n c, H') ∧ Row 1 H' (.slice a n c) (sv ls) ∧ Ext H H'
theorem drop_eq {l : List UInt8} {i : Nat} : (l.drop i).take (l.length - i) = l.drop i := List.take_of_length_le (by simp)
theorem trimE_one (x : List UInt8) : trimE [x] = if x = [] then [] else [x] := rfl
theorem trimE_eq : ∀ {p : List (List UInt8)}, p ≠ [] → trimE p = if p[p.length - 1]? = some [] then p.take (p.length - 1) else p
  | [], h => absurd rfl h
  | [x], _ => by simp [trimE]
  | x :: y :: t, _ => by
    have := trimE_eq (p := y :: t) (by simp)
    rw [trimE_cons (by simp), this]
    simp only [List.length_cons, Nat.add_sub_cancel]
    have e : (x :: y :: t)[t.length + 1]? = (y :: t)[t.length]? := by simp
    rw [e]
    split <;> simp

section
variable {mp : FuncId → Option MDef} {H : MH}
theorem R_cutR (hf : mp 37 = some (.code m37)) {l : List UInt8} {b : UInt8} (hl : l.length ≤ 100000) {q : Int} (hq : q = b.toNat) : GivesS H (R mp 37 [.string (B l), .int .u8 q] H) (trimE (cutAt b l)) := by
  subst hq
  obtain ⟨fr, H1, G1, out, a1, n1, c1, h1, h2, h3, h4, h5, h6⟩ := cut_loop (mp := mp) (b := b) hl l.length 0 0 H [] [] none 0 0 (by omega) (by omega) (by simp) (by simp) (.inl ⟨rfl, rfl, rfl⟩)
  simp at h6 h1
  by_cases hlt : fr < l.length
  · have hne : l.drop fr ≠ [] := by simp; omega
    obtain ⟨a2, n2, c2, H2, G2, e2, o2, u2⟩ := own_push1 (bytes := 16) h4 (sv_one out) (xs := [.string (B (l.drop fr))]) rfl rfl (by omega) (by simp; omega) (by omega)
    rw [sv_snoc] at o2
    rw [trimE_one, if_neg hne] at h6
    rw [← h6]
    refine ⟨a2, n2, c2, H2, ?_, Own.row o2, (h5.trans u2).toExt.1⟩
    rw [R_code hf]
    have hle : fr ≤ l.length := by omega
    simp [m37, h1, hlt, hle, drop_eq, e2]
  · have : l.drop fr = [] := List.drop_eq_nil_of_le (by omega)
    rw [this, trimE_one, if_pos rfl, List.append_nil] at h6
    rw [← h6]
    refine ⟨a1, n1, c1, H1, ?_, Own.row h4, h5.toExt.1⟩
    rw [R_code hf]
    simp [m37, h1, hlt]
theorem R_linesR (hf : mp 13 = some (.code m13)) (h33 : mp 37 = some (.code m37)) {l : List UInt8} (hl : l.length ≤ 100000) : GivesS H (R mp 13 [.string (B l)] H) (trimE (cutAt 10 l)) := by
  obtain ⟨a, n, c, H1, h1, h2, h3⟩ := R_cutR (H := H) h33 (b := 10) hl (q := 10) rfl
  refine ⟨a, n, c, H1, ?_, h2, h3⟩
  rw [R_code hf]
  simp [m13, h1]
theorem cutAt_len (c : UInt8) : ∀ l : List UInt8, (cutAt c l).length ≤ l.length + 1
  | [] => by simp [cutAt]
  | b :: l => by
    have := cutAt_len c l
    unfold cutAt
    split
    · simp; omega
    · split <;> simp_all <;> omega
theorem R_splitB (h32 : mp 38 = some (.intr splitS)) {l : List UInt8} {c : UInt8} (hl : l.length ≤ 100000) :
    R mp 38 [.string (B l), .string (B [c])] H = some (.slice (some ⟨H.length, 0, none⟩) (cutAt c l).length (cutAt c l).length, H ++ [.cells ⟨1, true, true⟩ (sv (cutAt c l))]) := by
  rw [R_intr h32]
  simp only [splitS, B_data, B_size]
  rw [if_pos (by omega)]
  rfl
theorem R_lines (hf : mp 15 = some (.code m15)) (h32 : mp 38 = some (.intr splitS)) {l : List UInt8} (hl : l.length ≤ 100000) : GivesS H (R mp 15 [.string (B l)] H) (trimE (cutAt 10 l)) := by
  have hs : R mp 38 [.string (B l), .string ⟨#[10]⟩] H = _ := R_splitB (H := H) h32 (c := 10) hl
  have hne := cutAt_ne 10 l
  have hlen := cutAt_len 10 l
  generalize cutAt 10 l = p at hs hne hlen ⊢
  have hp : 0 < p.length := List.length_pos_iff.2 hne
  have e0 : Ext H (H ++ [.cells ⟨1, true, true⟩ (sv p)]) := ⟨_, rfl⟩
  have hB : (H ++ [MObj.cells ⟨1, true, true⟩ (sv p)])[H.length]? = some (.cells ⟨1, true, true⟩ (sv p)) := by simp
  have w : IntKind.i64.wrap ((p.length : Int) - 1) = ((p.length - 1 : Nat) : Int) := by rw [wrap_i64 (by omega) (by omega)]; omega
  have w1 : (0 : Int) ≤ ((p.length - 1 : Nat) : Int) := by omega
  have w2 : ((p.length - 1 : Nat) : Int) < (p.length : Int) := by omega
  have w3 : ((p.length - 1 : Nat) : Int) ≤ (p.length : Int) := by omega
  obtain ⟨x, hx⟩ : ∃ x, p[p.length - 1]? = some x := ⟨_, List.getElem?_eq_getElem (by omega)⟩
  have hcell : (sv p)[p.length - 1]? = some (.string (B x)) := by simp [sv, hx]
  have hld := ld_at hB (p.length - 1)
  rw [hcell] at hld
  rw [trimE_eq hne, hx]
  by_cases hxe : x = []
  · subst hxe
    rw [if_pos rfl]
    refine ⟨some ⟨H.length, 0, none⟩, p.length - 1, p.length, _, ?_, .inr ⟨H.length, 0, p.length - 1, p.length, _, _, rfl, by omega, hB, rfl, by simp, ?_⟩, e0⟩
    · rw [R_code hf]
      simp [m15, hs, w, w1, w2, w3, hld, sl_at hB]
    · simp [sv, List.map_take]
  · rw [if_neg (by simpa using hxe)]
    refine ⟨some ⟨H.length, 0, none⟩, p.length, p.length, _, ?_, .inr ⟨H.length, 0, p.length, p.length, _, _, rfl, by omega, hB, rfl, by simp, by rw [List.drop_zero]; exact List.take_of_length_le (by simp)⟩, e0⟩
    rw [R_code hf]
    simp [m15, hs, w, w1, w2, w3, hld, hxe]

/-- The words among pieces. -/
def noE (p : List (List UInt8)) : List (List UInt8) := p.filter (· ≠ [])
theorem words_loop {p : List (List UInt8)} (hp : p.length ≤ 100001) {pa : Option Addr} {pn pc : Nat} : ∀ (k i : Nat) (H : MH) (G : List Nat) (out : List (List UInt8)) (a : Option Addr) (n c : Nat), i + k = p.length → out.length ≤ i → Stay 1 (.slice pa pn pc) (sv p) H G → OwnA 1 (.slice a n c) (sv out) H G →
    ∃ (H' : MH) (G' : List Nat) (a' : Option Addr) (n' c' : Nat), Rc mp (.loop m39_0) [(3, .slice a n c), (13, .slice pa pn pc), (14, .int .i64 (pn : Int)), (15, .int .i64 (i : Int))] H =
        some (.exit 0, [(3, .slice a' n' c'), (13, .slice pa pn pc), (14, .int .i64 (pn : Int)), (15, .int .i64 (pn : Int)), (16, .bool false)], H') ∧ OwnA 1 (.slice a' n' c') (sv (out ++ noE (p.drop i))) H' G' ∧ Upd H G H' G' := by
  intro k
  induction k with
  | zero =>
    intro i H G out a n c hi ho hS hO
    have hn := hS.1.svn
    have : i = p.length := by omega
    subst this
    refine ⟨H, G, a, n, c, ?_, by simpa [noE] using hO, Upd.refl _ _⟩
    rw [Rc_loop]
    simp [m39_0, hn]
  | succ k ih =>
    intro i H G out a n c hi ho hS hO
    have hn := hS.1.svn
    have hil : i < p.length := by omega
    have hil' : i < pn := by omega
    have hdrop : p.drop i = p[i] :: p.drop (i + 1) := List.drop_eq_getElem_cons hil
    obtain ⟨b, o, j, cs, rfl, hB, hat⟩ := hS.1.sv (List.getElem?_eq_getElem hil)
    have hld := ld_at hB (o + i)
    rw [hat] at hld
    have w : IntKind.i64.wrap ((i : Int) + 1) = (i : Int) + 1 := wrap_i64 (by omega) (by omega)
    generalize p[i] = x at hat hdrop hld
    by_cases hx : x = []
    · subst hx
      obtain ⟨H', G', a', n', c', h1, h2, h3⟩ := ih (i + 1) H G out a n c (by omega) (by omega) hS hO
      refine ⟨H', G', a', n', c', ?_, by rw [hdrop]; simpa [noE] using h2, h3⟩
      rw [Rc_loop]
      simp [m39_0, hil', hld, w]
      exact h1
    · obtain ⟨a1, n1, c1, H1, G1, e1, o1, u1⟩ := own_push1 (bytes := 16) hO (sv_one out) (xs := [.string (B x)]) rfl rfl (by omega) (by simp; omega) (by omega)
      rw [sv_snoc] at o1
      obtain ⟨H', G', a', n', c', h1, h2, h3⟩ := ih (i + 1) H1 G1 (out ++ [x]) a1 n1 c1 (by omega) (by simp; omega) (hS.upd u1) o1
      refine ⟨H', G', a', n', c', ?_, by rw [hdrop]; simpa [noE, hx] using h2, u1.trans h3⟩
      rw [Rc_loop]
      simp [m39_0, hil', hld, w, hx, e1]
      exact h1
theorem wordsR_loop {p : List (List UInt8)} (hp : p.length ≤ 100001) {pa : Option Addr} {pn pc : Nat} : ∀ (k i : Nat) (H : MH) (G : List Nat) (out : List (List UInt8)) (a : Option Addr) (n c : Nat), i + k = p.length → out.length ≤ i → Stay 1 (.slice pa pn pc) (sv p) H G → OwnA 1 (.slice a n c) (sv out) H G →
    ∃ (H' : MH) (G' : List Nat) (a' : Option Addr) (n' c' : Nat), Rc mp (.loop m21_0) [(4, .slice pa pn pc), (5, .slice a n c), (6, .int .i64 (i : Int))] H =
        some (.exit 2, [(4, .slice pa pn pc), (5, .slice a' n' c'), (6, .int .i64 (pn : Int)), (26, .bool false)], H') ∧ OwnA 1 (.slice a' n' c') (sv (out ++ noE (p.drop i))) H' G' ∧ Upd H G H' G' := by
  intro k
  induction k with
  | zero =>
    intro i H G out a n c hi ho hS hO
    have hn := hS.1.svn
    have : i = p.length := by omega
    subst this
    refine ⟨H, G, a, n, c, ?_, by simpa [noE] using hO, Upd.refl _ _⟩
    rw [Rc_loop]
    simp [m21_0, hn]
  | succ k ih =>
    intro i H G out a n c hi ho hS hO
    have hn := hS.1.svn
    have hil : i < p.length := by omega
    have hil' : i < pn := by omega
    have hdrop : p.drop i = p[i] :: p.drop (i + 1) := List.drop_eq_getElem_cons hil
    obtain ⟨b, o, j, cs, rfl, hB, hat⟩ := hS.1.sv (List.getElem?_eq_getElem hil)
    have hld := ld_at hB (o + i)
    rw [hat] at hld
    have w : IntKind.i64.wrap ((i : Int) + 1) = (i : Int) + 1 := wrap_i64 (by omega) (by omega)
    generalize p[i] = x at hat hdrop hld
    by_cases hx : x = []
    · subst hx
      obtain ⟨H', G', a', n', c', h1, h2, h3⟩ := ih (i + 1) H G out a n c (by omega) (by omega) hS hO
      refine ⟨H', G', a', n', c', ?_, by rw [hdrop]; simpa [noE] using h2, h3⟩
      rw [Rc_loop]
      simp [m21_0, hil', hld, w]
      exact h1
    · obtain ⟨a1, n1, c1, H1, G1, e1, o1, u1⟩ := own_push1 (bytes := 16) hO (sv_one out) (xs := [.string (B x)]) rfl rfl (by omega) (by simp; omega) (by omega)
      rw [sv_snoc] at o1
      obtain ⟨H', G', a', n', c', h1, h2, h3⟩ := ih (i + 1) H1 G1 (out ++ [x]) a1 n1 c1 (by omega) (by simp; omega) (hS.upd u1) o1
      refine ⟨H', G', a', n', c', ?_, by rw [hdrop]; simpa [noE, hx] using h2, u1.trans h3⟩
      rw [Rc_loop]
      simp [m21_0, hil', hld, w, hx, e1]
      exact h1
end
end Go.Mod
/- Package words: Words, same, Name. -/
set_option linter.unusedVariables false
set_option linter.unusedSimpArgs false
namespace Go.Mod

section
variable {mp : FuncId → Option MDef} {H : MH}
theorem R_cutB (h34 : mp 54 = some (.intr (scalS cutG))) {l : List UInt8} {c : UInt8} (hl : l.length ≤ 100000) :
    R mp 54 [.string (B l), .string (B [c])] H = some (.tuple #[.string (B (l.takeWhile (· ≠ c))), .string (B ((l.dropWhile (· ≠ c)).drop 1)), .bool (l.contains c)], H) := by
  rw [R_intr h34]
  simp only [scalS, cutG, B_data, B_size]
  rw [if_pos (by omega)]
  rfl
/-- The words of a line. -/
def wordsOf (l : List UInt8) : List (List UInt8) := noE (cutAt 32 (l.takeWhile (· ≠ 35)))
theorem tw_len (l : List UInt8) (p : UInt8 → Bool) : (l.takeWhile p).length ≤ l.length := (List.takeWhile_sublist p).length_le
theorem R_words (hf : mp 39 = some (.code m39)) (h32 : mp 38 = some (.intr splitS)) (h34 : mp 54 = some (.intr (scalS cutG))) {l : List UInt8} (hl : l.length ≤ 100000) : GivesS H (R mp 39 [.string (B l)] H) (wordsOf l) := by
  have hc : R mp 54 [.string (B l), .string ⟨#[35]⟩] H = _ := R_cutB (H := H) h34 (c := 35) hl
  have hw := tw_len l (· ≠ 35)
  unfold wordsOf
  generalize l.takeWhile (· ≠ 35) = m at hc hw ⊢
  have hs : R mp 38 [.string (B m), .string ⟨#[32]⟩] H = _ := R_splitB (H := H) h32 (c := 32) (l := m) (by omega)
  have hlen := cutAt_len 32 m
  generalize cutAt 32 m = p at hs hlen ⊢
  have e0 : Ext H (H ++ [.cells ⟨1, true, true⟩ (sv p)]) := ⟨_, rfl⟩
  have hr : Row 1 (H ++ [.cells ⟨1, true, true⟩ (sv p)]) (.slice (some ⟨H.length, 0, none⟩) p.length p.length) (sv p) := row_new (by simp)
  obtain ⟨H1, G1, a1, n1, c1, h1, h2, h3⟩ := words_loop (mp := mp) (p := p) (by omega) p.length 0 (H ++ [.cells ⟨1, true, true⟩ (sv p)]) [] [] none 0 0 (by omega) (by simp) ⟨hr, by simp⟩ (.inl ⟨rfl, rfl, rfl⟩)
  simp at h1 h2
  refine ⟨a1, n1, c1, H1, ?_, Own.row h2, e0.trans h3.toExt.1⟩
  rw [R_code hf]
  simp [m39, hc, hs, h1]

end
end Go.Mod
/- Package words: numbers read and told. -/
set_option linter.unusedVariables false
set_option linter.unusedSimpArgs false
namespace Go.Mod
open Go.Lib

theorem parse_lt : ∀ (l : List UInt8) (acc u : Nat), parseUint10 acc l = .ok u → u < (acc + 1) * 10 ^ l.length
  | [], acc, u, h => by
    simp only [parseUint10] at h
    injection h with h
    simp; omega
  | c :: r, acc, u, h => by
    simp only [parseUint10] at h
    split at h
    · split at h
      · cases h
      · split at h
        · cases h
        · have := parse_lt r _ u h
          have h2 : (acc * 10 + (c.toNat - 48) + 1) * 10 ^ r.length ≤ ((acc + 1) * 10) * 10 ^ r.length := Nat.mul_le_mul_right _ (by omega)
          rw [List.length_cons, Nat.pow_succ, Nat.mul_comm (10 ^ r.length) 10, ← Nat.mul_assoc]
          omega
    · cases h
theorem mag_lt {l : List UInt8} {u : Nat} (h : parseMag l = .ok u) : u < 10 ^ l.length := by
  unfold parseMag at h
  split at h
  · cases h
  · have := parse_lt l 0 u h
    simpa using this
theorem atoi_lt {l : List UInt8} {v : Int} (h : atoiAll l = .ok v) (h0 : 0 ≤ v) : v < 10 ^ l.length := by
  unfold atoiAll at h
  split at h
  · cases h
  · rename_i c r
    simp only at h
    have key : ∀ m : List UInt8, m.length ≤ (c :: r).length → ∀ u, parseMag m = .ok u → (u : Int) < 10 ^ (c :: r).length := fun m hm u hu => by
      have h1 := mag_lt hu
      have h2 : 10 ^ m.length ≤ 10 ^ (c :: r).length := Nat.pow_le_pow_right (by omega) hm
      have h3 : u < 10 ^ (c :: r).length := by omega
      exact_mod_cast h3
    split at h <;> first | (cases h; done) | skip
    rename_i u hu
    have hlen : (if c.toNat = 43 ∨ c.toNat = 45 then r else c :: r).length ≤ (c :: r).length := by split <;> simp
    have := key _ hlen u hu
    split at h
    · cases h
    · split at h
      · cases h
      · injection h with h
        split at h <;> omega
/-- What is read as a number. -/
def numL (l : List UInt8) : Option Int :=
  match atoiAll l with
  | .ok v => if l.length ≤ 7 ∧ 0 ≤ v ∧ decD 7 v.toNat = l then some v else none
  | _ => none
def textL (n : Int) : List UInt8 := if 0 ≤ n ∧ n ≤ 9999999 then decD 7 n.toNat else []

section
variable {mp : FuncId → Option MDef} {H : MH}
theorem R_itoa (h31 : mp 67 = some (.intr (scalS itoaG))) {n : Int} (h0 : 0 ≤ n) (h1 : n ≤ 9999999) : R mp 67 [.int .i64 n] H = some (.string (B (decD 7 n.toNat)), H) := by
  rw [R_intr h31]
  simp only [scalS, itoaG]
  rw [if_pos ⟨h0, h1⟩]; rfl
theorem R_text (hf : mp 50 = some (.code m50)) (h31 : mp 67 = some (.intr (scalS itoaG))) (n : Int) : R mp 50 [.int .i64 n] H = some (.string (B (textL n)), H) := by
  rw [R_code hf]
  unfold textL
  by_cases h0 : n < 0
  · have : ¬ (0 ≤ n ∧ n ≤ 9999999) := by omega
    rw [if_neg this]
    simp [m50, h0]; rfl
  · by_cases h1 : 9999999 < n
    · have : ¬ (0 ≤ n ∧ n ≤ 9999999) := by omega
      rw [if_neg this]
      simp [m50, h0, h1]; rfl
    · have : 0 ≤ n ∧ n ≤ 9999999 := by omega
      rw [if_pos this]
      simp [m50, h0, h1, R_itoa (H := H) h31 this.1 this.2]
theorem R_num {t : TypeId} (hf : mp 55 = some (.code m55)) (h30 : mp 74 = some (.intr (atoiS t))) (h31 : mp 67 = some (.intr (scalS itoaG))) {l : List UInt8} (hl : l.length ≤ 100000) :
    ∃ H', R mp 55 [.string (B l)] H = some (.tuple #[.int .i64 ((numL l).getD 0), .bool (numL l).isSome], H') ∧ Ext H H' := by
  have ha : R mp 74 [.string (B l)] H = atoiS t [.string (B l)] H := R_intr h30
  simp only [atoiS, B_data, B_size] at ha
  rw [if_pos (by omega)] at ha
  unfold numL
  cases hq : atoiAll l with
  | ok v =>
    rw [hq] at ha
    simp only at ha ⊢
    by_cases h7 : l.length ≤ 7
    · have h7' : ¬ (7 : Int) < (l.length : Int) := by omega
      by_cases h0 : 0 ≤ v
      · have h0' : ¬ v < 0 := by omega
        have hlt := atoi_lt hq h0
        have hp : (10 : Int) ^ l.length ≤ 10 ^ 7 := by exact_mod_cast Nat.pow_le_pow_right (by omega) h7
        have hi := R_itoa (H := H) h31 h0 (by omega)
        by_cases he : decD 7 v.toNat = l
        · rw [if_pos ⟨h7, h0, he⟩]
          rw [he] at hi
          refine ⟨H, ?_, Ext.refl _⟩
          rw [R_code hf]
          simp [m55, ha, h7', h0', hi]
        · rw [if_neg fun h => he h.2.2]
          refine ⟨H, ?_, Ext.refl _⟩
          rw [R_code hf]
          simp [m55, ha, h7', h0', hi, he]
      · have h0' : v < 0 := by omega
        rw [if_neg fun h => h0 h.2.1]
        refine ⟨H, ?_, Ext.refl _⟩
        rw [R_code hf]
        simp [m55, ha, h7', h0']
    · have h7' : (7 : Int) < (l.length : Int) := by omega
      rw [if_neg fun h => h7 h.1]
      refine ⟨H, ?_, Ext.refl _⟩
      rw [R_code hf]
      simp [m55, ha, h7']
  | range =>
    rw [hq] at ha
    refine ⟨_, ?_, ⟨[.dead], rfl⟩⟩
    rw [R_code hf]
    simp [m55, ha]
  | _ =>
    rw [hq] at ha
    refine ⟨_, ?_, ⟨[.dead], rfl⟩⟩
    rw [R_code hf]
    simp [m55, ha]
end
end Go.Mod
/- Package text: numbers, parts read. -/
set_option linter.unusedVariables false
set_option linter.unusedSimpArgs false
namespace Go.Mod
open Go.Lib

abbrev Bs := List UInt8
def kRun : Bs := [114, 117, 110]
def kSleep : Bs := [115, 108, 101, 101, 112]
def kLock : Bs := [108, 111, 99, 107]
def kLockC : Bs := [108, 111, 99, 107, 58]
/-- The numbers of words, if all are. -/
def numsL : List Bs → Option (List Int)
  | [] => some []
  | x :: l => match numL x, numsL l with
    | some n, some m => some (n :: m)
    | _, _ => none

section
variable {mp : FuncId → Option MDef} {H : MH}
theorem nums_loop {t : TypeId} (h13 : mp 55 = some (.code m55)) (h30 : mp 74 = some (.intr (atoiS t))) (h31 : mp 67 = some (.intr (scalS itoaG))) {ws : List Bs} (hws : ∀ w ∈ ws, w.length ≤ 100000) (hlen : ws.length ≤ 100001) {sa : Option Addr} {sn sc : Nat} :
    ∀ (k i : Nat) (H : MH) (G : List Nat) (out : List Int) (a : Option Addr) (n c : Nat), i + k = ws.length → out.length ≤ i → Stay 1 (.slice sa sn sc) (sv ws) H G → OwnA 1 (.slice a n c) (i64s out) H G →
    (∃ ns, numsL (ws.drop i) = some ns ∧ ∃ (H' : MH) (G' : List Nat) (a' : Option Addr) (n' c' : Nat), Rc mp (.loop m40_0) [(4, .slice a n c), (9, .slice sa sn sc), (10, .int .i64 (sn : Int)), (11, .int .i64 (i : Int))] H =
        some (.exit 0, [(4, .slice a' n' c'), (9, .slice sa sn sc), (10, .int .i64 (sn : Int)), (11, .int .i64 (sn : Int)), (12, .bool false)], H') ∧ OwnA 1 (.slice a' n' c') (i64s (out ++ ns)) H' G' ∧ Upd H G H' G') ∨
    (numsL (ws.drop i) = none ∧ ∃ (H' : MH) (G' : List Nat), Rc mp (.loop m40_0) [(4, .slice a n c), (9, .slice sa sn sc), (10, .int .i64 (sn : Int)), (11, .int .i64 (i : Int))] H = some (.ret, [(2, .slice none 0 0), (3, .bool false)], H') ∧ Upd H G H' G') := by
  intro k
  induction k with
  | zero =>
    intro i H G out a n c hi ho hS hO
    have hn := hS.1.svn
    have : i = ws.length := by omega
    subst this
    refine .inl ⟨[], by rw [List.drop_length]; rfl, H, G, a, n, c, ?_, by simpa using hO, Upd.refl _ _⟩
    rw [Rc_loop]
    simp [m40_0, hn]
  | succ k ih =>
    intro i H G out a n c hi ho hS hO
    have hn := hS.1.svn
    have hil : i < ws.length := by omega
    have hil' : i < sn := by omega
    have hdrop : ws.drop i = ws[i] :: ws.drop (i + 1) := List.drop_eq_getElem_cons hil
    obtain ⟨b, o, j, cs, rfl, hB, hat⟩ := hS.1.sv (List.getElem?_eq_getElem hil)
    have hld := ld_at hB (o + i)
    rw [hat] at hld
    have hxl : ws[i].length ≤ 100000 := hws _ (List.getElem_mem hil)
    have w : IntKind.i64.wrap ((i : Int) + 1) = (i : Int) + 1 := wrap_i64 (by omega) (by omega)
    generalize ws[i] = x at hat hdrop hld hxl
    obtain ⟨H1, q1, x1⟩ := R_num (H := H) h13 h30 h31 (l := x) hxl
    have u0 := Upd.ext (F := G) x1
    rw [hdrop]
    unfold numsL
    cases hq : numL x with
    | none =>
      rw [hq] at q1
      refine .inr ⟨rfl, H1, G, ?_, u0⟩
      rw [Rc_loop]
      simp [m40_0, hil', hld, w, q1]
    | some v =>
      rw [hq] at q1
      obtain ⟨a1, n1, c1, H2, G2, e2, o2, u2⟩ := own_push1 (bytes := 8) (OwnA.good.ext hO x1) (i64s_one out) (xs := [.int .i64 v]) rfl rfl (by omega) (by rw [i64s_len]; omega) (by omega)
      rw [i64s_snoc] at o2
      rcases ih (i + 1) H2 G2 (out ++ [v]) a1 n1 c1 (by omega) (by simp; omega) ((hS.upd u0).upd u2) o2 with ⟨ns, h1, H', G', a', n', c', h2, h3, h4⟩ | ⟨h1, H', G', h2, h4⟩
      · rw [h1]
        refine .inl ⟨v :: ns, rfl, H', G', a', n', c', ?_, by simpa using h3, u0.trans (u2.trans h4)⟩
        rw [Rc_loop]
        simp [m40_0, hil', hld, w, q1, e2]
        exact h2
      · rw [h1]
        refine .inr ⟨rfl, H', G', ?_, u0.trans (u2.trans h4)⟩
        rw [Rc_loop]
        simp [m40_0, hil', hld, w, q1, e2]
        exact h2
theorem R_nums {t : TypeId} (hf : mp 40 = some (.code m40)) (h13 : mp 55 = some (.code m55)) (h30 : mp 74 = some (.intr (atoiS t))) (h31 : mp 67 = some (.intr (scalS itoaG))) {ws : List Bs} (hws : ∀ w ∈ ws, w.length ≤ 100000) (hlen : ws.length ≤ 100001) {sa : Option Addr} {sn sc : Nat}
    (hr : Row 1 H (.slice sa sn sc) (sv ws)) : ∃ a n c H', R mp 40 [.slice sa sn sc] H = some (.tuple #[.slice a n c, .bool (numsL ws).isSome], H') ∧ Ext H H' ∧ Row 1 H' (.slice a n c) (i64s ((numsL ws).getD [])) := by
  rcases nums_loop h13 h30 h31 hws hlen ws.length 0 H [] [] none 0 0 (by omega) (by simp) ⟨hr, by simp⟩ (.inl ⟨rfl, rfl, rfl⟩) with ⟨ns, h1, H', G', a', n', c', h2, h3, h4⟩ | ⟨h1, H', G', h2, h4⟩
  · rw [List.drop_zero] at h1
    rw [h1]
    simp at h2
    refine ⟨a', n', c', H', ?_, h4.toExt.1, by simpa using Own.row h3⟩
    rw [R_code hf]
    simp [m40, h2]
  · rw [List.drop_zero] at h1
    rw [h1]
    simp at h2
    refine ⟨none, 0, 0, H', ?_, h4.toExt.1, .inl ⟨rfl, rfl⟩⟩
    rw [R_code hf]
    simp [m40, h2]

theorem R_preB (h80 : mp 56 = some (.intr (scalS preG))) {l p : Bs} : R mp 56 [.string (B l), .string (B p)] H = some (.bool (hasPrefix l p), H) := by
  rw [R_intr h80]
  simp only [scalS, preG, B_data]; rfl
theorem R_conB (h81 : mp 57 = some (.intr (scalS conG))) {l p : Bs} (hl : l.length ≤ 100000) : R mp 57 [.string (B l), .string (B p)] H = some (.bool (Lib.contains l p), H) := by
  rw [R_intr h81]
  simp only [scalS, conG, B_data, B_size]
  rw [if_pos (by omega)]; rfl
end
/-- A lock within a lock. -/
def nestL (w : Bs) : Bool := hasPrefix w kLockC && Lib.contains (w.drop 5) kLockC
/-- A part, if it is one. -/
def partL (w : Bs) : Option PartL :=
  match cutAt 58 w with
  | [] => none
  | h :: t => match numsL t with
    | none => none
    | some n => if h = kRun ∧ n.length = 1 then some ⟨1, n.getD 0 0, 0⟩ else if h = kSleep ∧ n.length = 1 then some ⟨2, n.getD 0 0, 0⟩ else if h = kLock ∧ n.length = 2 then some ⟨3, n.getD 1 0, n.getD 0 0⟩ else none
def readsL (w : Bs) : PartL × Int := if nestL w = true then (⟨0, 0, 0⟩, 18) else match partL w with
  | some p => (p, 0)
  | none => (⟨0, 0, 0⟩, 10)
theorem cutAt_mem_len (c : UInt8) : ∀ (l : Bs), ∀ x ∈ cutAt c l, x.length ≤ l.length
  | [], x, h => by simp [cutAt] at h; subst h; simp
  | b :: l, x, h => by
    have ih := cutAt_mem_len c l
    unfold cutAt at h
    split at h
    · rcases List.mem_cons.1 h with rfl | h
      · simp
      · have := ih x h; simp; omega
    · split at h
      · simp at h; subst h; simp
      · rename_i y t hy
        rcases List.mem_cons.1 h with rfl | h
        · have := ih y (by rw [hy]; simp); simp; omega
        · have := ih x (by rw [hy]; simp [h]); simp; omega
section
variable {mp : FuncId → Option MDef} {H : MH}
theorem row_drop {ws : List Value} {a : Option Addr} {n c : Nat} (h : Row 1 H (.slice a n c) ws) {k : Nat} (hk : k ≤ n) : ∃ a' n' c', mread (.sl 1 true false false) [.slice a n c, .int .i64 (k : Int)] H = some (.slice a' n' c') ∧ Row 1 H (.slice a' n' c') (ws.drop k) := by
  rcases h with ⟨h1, h2⟩ | ⟨b, o, m, d, i, cs, h1, h2, h3, h4, h5, h6⟩
  · cases h1
    have : k = 0 := by omega
    subst this
    exact ⟨none, 0, 0, rfl, .inl ⟨rfl, by rw [h2]; rfl⟩⟩
  · cases h1
    have hs := sl_at h3 h4 true false false o n c [.int .i64 (k : Int)]
    refine ⟨some ⟨b, o + k, none⟩, n - k, c - k, ?_, .inr ⟨b, o + k, n - k, c - k, i, cs, rfl, by omega, h3, h4, by omega, ?_⟩⟩
    · rw [hs]
      have e1 : (0 : Int) ≤ (k : Int) := by omega
      have e2 : (k : Int) ≤ (n : Int) := by omega
      simp [e1, e2, hk]
    · rw [← h6, List.drop_take, List.drop_drop]
      congr 1; omega
end
end Go.Mod
/- Package text: a part's word, words of locks within locks. -/
set_option linter.unusedVariables false
set_option linter.unusedSimpArgs false
namespace Go.Mod
open Go.Lib

section
variable {mp : FuncId → Option MDef} {H : MH}
/-- What package text leans on, by its numbers. -/
structure TxP (mp : FuncId → Option MDef) (t : TypeId) : Prop where
  a : mp 55 = some (.code m55)
  b : mp 74 = some (.intr (atoiS t))
  c : mp 67 = some (.intr (scalS itoaG))
  d : mp 38 = some (.intr splitS)
  e : mp 56 = some (.intr (scalS preG))
  f : mp 57 = some (.intr (scalS conG))
  g : mp 40 = some (.code m40)
  h : mp 42 = some (.code m42)
  i : mp 41 = some (.code m41)
theorem row_get {ls : List Value} {a : Option Addr} {n c k : Nat} {x : Value} (h : Row 1 H (.slice a n c) ls) (hx : ls[k]? = some x) : ∃ b o, a = some ⟨b, o, none⟩ ∧ mread (.ld none) [.pointer (some ⟨b, o + k, none⟩)] H = knownO (some x) ∧ k < n := by
  have hk := (List.getElem?_eq_some_iff.1 hx).1
  obtain ⟨a', n', c', e, hl⟩ := h.slice
  cases e
  obtain ⟨b, o, j, cs, rfl, hB, _, hat⟩ := h.at (k := k) (by omega)
  refine ⟨b, o, rfl, ?_, by omega⟩
  rw [ld_at hB, hat, hx]
theorem row_ext' {es : Nat} {H H1 : MH} {v : Value} {l : List Value} (h : Row es H v l) (e : Ext H H1) : Row es H1 v l := by
  obtain ⟨X, rfl⟩ := e; exact h.app
theorem row_len {ls : List Value} {a : Option Addr} {n c : Nat} (h : Row 1 H (.slice a n c) ls) : n = ls.length := by
  obtain ⟨a', n', c', e, hl⟩ := h.slice
  cases e; omega
theorem ext_lt {H1 : MH} (e : Ext H H1) {b : Nat} (h : b < H.length) : b < H1.length := Nat.lt_of_lt_of_le h e.len
theorem R_reads {t : TypeId} (P : TxP mp t) {w : Bs} (hw : w.length ≤ 100000) : ∃ H', R mp 42 [.string (B w)] H = some (.tuple #[.agg (partC (readsL w).1).toArray, .int .i64 (readsL w).2], H') ∧ Ext H H' := by
  obtain ⟨X, hs, hXb, hXr, hXe⟩ : ∃ X, R mp 38 [.string (B w), .string ⟨#[58]⟩] (H ++ [.cells ⟨0, true, false⟩ [.int .i64 0, .int .i64 0, .int .i64 0]]) = some (.slice (some ⟨H.length + 1, 0, none⟩) (cutAt 58 w).length (cutAt 58 w).length, X) ∧
      X[H.length]? = some (.cells ⟨0, true, false⟩ [.int .i64 0, .int .i64 0, .int .i64 0]) ∧ Row 1 X (.slice (some ⟨H.length + 1, 0, none⟩) (cutAt 58 w).length (cutAt 58 w).length) (sv (cutAt 58 w)) ∧ Ext H X := by
    have hs := R_splitB (mp := mp) (H := H ++ [.cells ⟨0, true, false⟩ [.int .i64 0, .int .i64 0, .int .i64 0]]) P.d (c := 58) (l := w) hw
    have hr : Row 1 (H ++ [MObj.cells ⟨0, true, false⟩ [.int .i64 0, .int .i64 0, .int .i64 0]] ++ [.cells ⟨1, true, true⟩ (sv (cutAt 58 w))]) (.slice (some ⟨(H ++ [MObj.cells ⟨0, true, false⟩ [.int .i64 0, .int .i64 0, .int .i64 0]]).length, 0, none⟩) (cutAt 58 w).length (cutAt 58 w).length) (sv (cutAt 58 w)) := row_new (by simp)
    have el : (H ++ [MObj.cells ⟨0, true, false⟩ [.int .i64 0, .int .i64 0, .int .i64 0]]).length = H.length + 1 := by simp
    rw [el] at hs hr
    exact ⟨_, hs, by simp, hr, ⟨[_, _], by rw [List.append_assoc]; rfl⟩⟩
  have hpre := R_preB (mp := mp) (H := X) P.e (l := w) (p := kLockC)
  have hcon := R_conB (mp := mp) (H := X) P.f (l := w.drop 5) (p := kLockC) (by simp; omega)
  have hdr : (w.drop 5).take (w.length - 5) = w.drop 5 := List.take_of_length_le (by simp)
  change R mp 56 [.string (B w), .string ⟨#[108, 111, 99, 107, 58]⟩] X = _ at hpre
  change R mp 57 [.string (B (w.drop 5)), .string ⟨#[108, 111, 99, 107, 58]⟩] X = _ at hcon
  have hlen := cutAt_len 58 w
  have hml := cutAt_mem_len 58 w
  have hne := cutAt_ne 58 w
  have hXlt : H.length < X.length := (List.getElem?_eq_some_iff.1 hXb).1
  have fin : ∀ (Y : MH), Ext H Y → H.length < Y.length → ∀ o, Ext H (Y.set H.length o) := fun Y e _ o => ext_set e (Nat.le_refl _)
  by_cases hnest : nestL w = true
  · unfold readsL
    rw [if_pos hnest]
    have h2 := hnest
    unfold nestL at h2
    simp only [Bool.and_eq_true] at h2
    have h5 : 5 ≤ w.length := by
      have h3 := h2.1
      unfold hasPrefix at h3
      exact (List.isPrefixOf_iff_prefix.1 h3).length_le
    have h5' : (5 : Int) ≤ (w.length : Int) := by omega
    rw [h2.1] at hpre
    rw [h2.2] at hcon
    refine ⟨_, ?_, fin X hXe hXlt (.cells ⟨0, true, false⟩ [.int .i64 0, .int .i64 0, .int .i64 0])⟩
    rw [R_code P.h]
    have hset : ∀ o, (X.set H.length o)[H.length]? = some o := fun o => List.getElem?_set_self hXlt
    simp [m42, hs, hpre, h5', hdr, hcon, stx, ldnx, hXb, hset, partC]
  · have hnest' : nestL w = false := by simpa using hnest
    unfold readsL
    rw [if_neg hnest]
    have hcond : ∀ (K : MCode) (T : Reg), True := fun _ _ => trivial
    unfold partL
    cases hcut : cutAt 58 w with
    | nil => exact absurd hcut hne
    | cons h0 tl =>
      rw [hcut] at hs hXr hlen hml
      simp only [List.length_cons] at hs hXr hlen
      obtain ⟨a1, n1, c1, q1, r1⟩ := row_drop hXr (k := 1) (by omega)
      have r1' : Row 1 X (.slice a1 n1 c1) (sv tl) := by simpa [sv] using r1
      obtain ⟨a2, n2, c2, Y, q2, hYe, r2⟩ := R_nums P.g P.a P.b P.c (ws := tl) (fun x hx => Nat.le_trans (hml x (by simp [hx])) hw) (by omega) r1'
      have hYb := hYe.get hXb
      have hYlt : H.length < Y.length := (List.getElem?_eq_some_iff.1 hYb).1
      have hXYe := hXe.trans hYe
      obtain ⟨b0, o0, e0, l0, _⟩ := row_get (row_ext' hXr hYe) (k := 0) (x := .string (B h0)) rfl
      cases e0
      simp at l0
      have q1' : mread (.sl 1 true false false) [.slice (some ⟨H.length + 1, 0, none⟩) (tl.length + 1) (tl.length + 1), .int .i64 1] X = some (.slice a1 n1 c1) := q1
      have hn2 := row_len r2
      have hset : ∀ o, (Y.set H.length o)[H.length]? = some o := fun o => List.getElem?_set_self hYlt
      have hcond : ∃ b : Bool, R mp 56 [.string (B w), .string ⟨#[108, 111, 99, 107, 58]⟩] X = some (.bool b, X) ∧ (b = true → (5 : Int) ≤ (w.length : Int) ∧ R mp 57 [.string (B (w.drop 5)), .string ⟨#[108, 111, 99, 107, 58]⟩] X = some (.bool false, X)) := by
        refine ⟨_, hpre, fun hb => ?_⟩
        have h5 : 5 ≤ w.length := by
          have h3 := hb
          unfold hasPrefix at h3
          exact (List.isPrefixOf_iff_prefix.1 h3).length_le
        refine ⟨by omega, ?_⟩
        have h2 := hnest'
        unfold nestL at h2
        rw [hb, Bool.true_and] at h2
        rw [h2] at hcon
        exact hcon
      obtain ⟨bp, hp1, hp2⟩ := hcond
      have e10 : Ext H (Y.set H.length (.cells ⟨0, true, false⟩ [.int .i64 0, .int .i64 0, .int .i64 0])) := fin Y hXYe hYlt _
      cases hq : numsL tl with
      | none =>
        rw [hq] at q2 r2
        refine ⟨_, ?_, e10⟩
        rw [R_code P.h]
        cases bp with
        | false => simp [m42, hs, hp1, q1', q2, stx, ldnx, hYb, hset, partC, hq, l0]
        | true => simp [m42, hs, hp1, (hp2 rfl).1, (hp2 rfl).2, hdr, q1', q2, stx, ldnx, hYb, hset, partC, hq, l0]
      | some ns =>
        rw [hq] at q2 r2
        simp only [Option.getD_some, i64s_len] at hn2 r2
        have hn1 : ∀ k : Nat, ns.length ≠ k → ¬ (n2 : Int) = (k : Int) := fun k h => by
          rw [hq] at hn2
          simp [i64s_len] at hn2
          omega
        have hnn : n2 = ns.length := by rw [hq] at hn2; simpa [i64s_len] using hn2
        clear hn2
        have hn2 := hnn
        by_cases hr1 : h0 = kRun
        · subst hr1
          by_cases hl : ns.length = 1
          · obtain ⟨x, rfl⟩ := List.length_eq_one_iff.1 hl
            obtain ⟨b1, o1, rfl, l1, _⟩ := row_get r2 (k := 0) (x := .int .i64 x) rfl
            simp at l1 hn2
            subst hn2
            refine ⟨_, ?_, fin Y hXYe hYlt (.cells ⟨0, true, false⟩ [.int .i64 1, .int .i64 x, .int .i64 0])⟩
            rw [R_code P.h]
            cases bp with
            | false => simp [m42, hs, hp1, q1', q2, stx, ldnx, hYb, hset, partC, hq, l0, kRun, l1]
            | true => simp [m42, hs, hp1, (hp2 rfl).1, (hp2 rfl).2, hdr, q1', q2, stx, ldnx, hYb, hset, partC, hq, l0, kRun, l1]
          · have n1' := hn1 1 hl
            simp at n1'
            refine ⟨_, ?_, e10⟩
            rw [R_code P.h]
            cases bp with
            | false => simp [m42, hs, hp1, q1', q2, stx, ldnx, hYb, hset, partC, hq, l0, kRun, kSleep, kLock, hl, n1']
            | true => simp [m42, hs, hp1, (hp2 rfl).1, (hp2 rfl).2, hdr, q1', q2, stx, ldnx, hYb, hset, partC, hq, l0, kRun, kSleep, kLock, hl, n1']
        · by_cases hr2 : h0 = kSleep
          · subst hr2
            by_cases hl : ns.length = 1
            · obtain ⟨x, rfl⟩ := List.length_eq_one_iff.1 hl
              obtain ⟨b1, o1, rfl, l1, _⟩ := row_get r2 (k := 0) (x := .int .i64 x) rfl
              simp at l1 hn2
              subst hn2
              refine ⟨_, ?_, fin Y hXYe hYlt (.cells ⟨0, true, false⟩ [.int .i64 2, .int .i64 x, .int .i64 0])⟩
              rw [R_code P.h]
              cases bp with
              | false => simp [m42, hs, hp1, q1', q2, stx, ldnx, hYb, hset, partC, hq, l0, kRun, kSleep, l1]
              | true => simp [m42, hs, hp1, (hp2 rfl).1, (hp2 rfl).2, hdr, q1', q2, stx, ldnx, hYb, hset, partC, hq, l0, kRun, kSleep, l1]
            · have n1' := hn1 1 hl
              simp at n1'
              refine ⟨_, ?_, e10⟩
              rw [R_code P.h]
              cases bp with
              | false => simp [m42, hs, hp1, q1', q2, stx, ldnx, hYb, hset, partC, hq, l0, kRun, kSleep, kLock, hl, n1']
              | true => simp [m42, hs, hp1, (hp2 rfl).1, (hp2 rfl).2, hdr, q1', q2, stx, ldnx, hYb, hset, partC, hq, l0, kRun, kSleep, kLock, hl, n1']
          · have hr1' : ¬ h0 = [114, 117, 110] := hr1
            have hr2' : ¬ h0 = [115, 108, 101, 101, 112] := hr2
            by_cases hr3 : h0 = kLock
            · subst hr3
              by_cases hl : ns.length = 2
              · obtain ⟨x, y, rfl⟩ : ∃ x y, ns = [x, y] := by
                  match ns, hl with
                  | [x, y], _ => exact ⟨x, y, rfl⟩
                obtain ⟨b1, o1, rfl, l1, _⟩ := row_get r2 (k := 0) (x := .int .i64 x) rfl
                obtain ⟨b2, o2, e2, l2, _⟩ := row_get r2 (k := 1) (x := .int .i64 y) rfl
                cases e2
                simp at l1 l2 hn2
                subst hn2
                refine ⟨_, ?_, fin Y hXYe hYlt (.cells ⟨0, true, false⟩ [.int .i64 3, .int .i64 y, .int .i64 x])⟩
                rw [R_code P.h]
                cases bp with
                | false => simp [m42, hs, hp1, q1', q2, stx, ldnx, hYb, hset, partC, hq, l0, kRun, kSleep, kLock, l1, l2, mdraw_plain]
                | true => simp [m42, hs, hp1, (hp2 rfl).1, (hp2 rfl).2, hdr, q1', q2, stx, ldnx, hYb, hset, partC, hq, l0, kRun, kSleep, kLock, l1, l2, mdraw_plain]
              · have n1' := hn1 2 hl
                simp at n1'
                refine ⟨_, ?_, e10⟩
                rw [R_code P.h]
                cases bp with
                | false => simp [m42, hs, hp1, q1', q2, stx, ldnx, hYb, hset, partC, hq, l0, kRun, kSleep, kLock, hl, n1']
                | true => simp [m42, hs, hp1, (hp2 rfl).1, (hp2 rfl).2, hdr, q1', q2, stx, ldnx, hYb, hset, partC, hq, l0, kRun, kSleep, kLock, hl, n1']
            · have hr3' : ¬ h0 = [108, 111, 99, 107] := hr3
              refine ⟨_, ?_, e10⟩
              rw [R_code P.h]
              cases bp with
              | false => simp [m42, hs, hp1, q1', q2, stx, ldnx, hYb, hset, partC, hq, l0, kRun, kSleep, kLock, hr1', hr2', hr3']
              | true => simp [m42, hs, hp1, (hp2 rfl).1, (hp2 rfl).2, hdr, q1', q2, stx, ldnx, hYb, hset, partC, hq, l0, kRun, kSleep, kLock, hr1', hr2', hr3']
end
end Go.Mod

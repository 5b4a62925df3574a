/- Evaluation of the model's code by rewriting; rows of cells. Printed by wip/tool/genx.py. -/
import Derived.Test.YtpdkmcnoidbjoaaFwW
set_option linter.unusedVariables false
set_option linter.unusedSimpArgs false
namespace Go.Mod

@[simp] theorem ev_mov {v : Value} : mpure .mov [v] = some v := Eq.trans rfl rfl
@[simp] theorem ev_pick {t : Bool} {x y : Value} : mpure .pick [.bool t, x, y] = some (if t then x else y) := Eq.trans rfl rfl
@[simp] theorem ev_nilck {a : Addr} : mpure .nilck [.pointer (some a)] = some (.pointer (some a)) := Eq.trans rfl rfl
@[simp] theorem ev_nilckf {f : FuncId} {x y : Array Value} : mpure .nilck [.func (.func f) x y] = some (.func (.func f) x y) := Eq.trans rfl rfl
@[simp] theorem ev_bin {op : BinOp} {x y : Value} : mpure (.bin op) [x, y] = mbin op x y := Eq.trans rfl rfl
@[simp] theorem ev_not {x : Bool} : mpure (.un .not) [.bool x] = some (.bool !x) := Eq.trans rfl rfl
@[simp] theorem ev_neg {k : IntKind} {n : Int} : mpure (.un .neg) [.int k n] = some (.int k (k.wrap (0 - n))) := Eq.trans rfl rfl
@[simp] theorem ev_conv {k j : IntKind} {n : Int} : mpure (.conv k) [.int j n] = some (.int k (k.wrap n)) := Eq.trans rfl rfl
@[simp] theorem ev_fa {f b o : Nat} : mpure (.fa f) [.pointer (some ⟨b, o, none⟩)] = some (.pointer (some ⟨b, o + f, none⟩)) := Eq.trans rfl rfl
@[simp] theorem ev_fld0 {f : Nat} {cs : Array Value} : mpure (.fld f none) [.agg cs] = cs[f]? := Eq.trans rfl rfl
@[simp] theorem ev_fldn {f n : Nat} {cs : Array Value} : mpure (.fld f (some n)) [.agg cs] = if f + n ≤ cs.size then some (.agg (cs.extract f (f + n))) else none := Eq.trans rfl rfl
@[simp] theorem ev_ia {es b o n c : Nat} {k : IntKind} {i : Int} : mpure (.ia es) [.slice (some ⟨b, o, none⟩) n c, .int k i] = if 0 ≤ i ∧ i < (n : Int) then some (.pointer (some ⟨b, o + i.toNat * es, none⟩)) else none := Eq.trans rfl rfl
@[simp] theorem ev_iarr {m es b o : Nat} {k : IntKind} {i : Int} : mpure (.iarr m es) [.pointer (some ⟨b, o, none⟩), .int k i] = if 0 ≤ i ∧ i < (m : Int) then some (.pointer (some ⟨b, o + i.toNat * es, none⟩)) else none := Eq.trans rfl rfl
@[simp] theorem ev_idxs {s : ByteArray} {k : IntKind} {i : Int} : mpure .idxs [.string s, .int k i] = if 0 ≤ i then (s[i.toNat]?).map fun b => .int .u8 b.toNat else none := Eq.trans rfl rfl
@[simp] theorem ev_extract {i : Nat} {ts : Array Value} : mpure (.extract i) [.tuple ts] = ts[i]? := Eq.trans rfl rfl
@[simp] theorem ev_len {a : Option Addr} {n c : Nat} : mpure .len [.slice a n c] = some (.int .i64 n) := Eq.trans rfl rfl
@[simp] theorem ev_lens {s : ByteArray} : mpure .lens [.string s] = some (.int .i64 s.size) := Eq.trans rfl rfl
@[simp] theorem ev_minmax {m : Bool} {vs : List Value} : mpure (.minmax m) vs = mmin m vs := Eq.trans rfl rfl
@[simp] theorem ev_mkfunc {f : FuncId} {vs : List Value} : mpure (.mkfunc f) vs = some (.func (.func f) #[] vs.toArray) := Eq.trans rfl rfl
@[simp] theorem ev_build {z : List Value} {ps : List (Nat × Nat)} {vs : List Value} : mpure (.build z ps) vs = (fillAll z ps vs).map fun c => .agg c.toArray := Eq.trans rfl rfl
@[simp] theorem ev_eqv {n : Bool} {e : EqK} {x y : Value} : mpure (.eqv n e) [x, y] = (meq e x y).map fun b => .bool (if n then !b else b) := Eq.trans rfl rfl
@[simp] theorem ev_slstr_tt {s : ByteArray} {k j : IntKind} {l h : Int} : mpure (.slstr true true) [.string s, .int k l, .int j h] = if 0 ≤ l ∧ l ≤ h ∧ h ≤ (s.size : Int) then some (.string (s.extract l.toNat h.toNat)) else none := Eq.trans rfl rfl
@[simp] theorem ev_slstr_tf {s : ByteArray} {k : IntKind} {l : Int} : mpure (.slstr true false) [.string s, .int k l] = if 0 ≤ l ∧ l ≤ (s.size : Int) then some (.string (s.extract l.toNat s.size)) else none := Eq.trans rfl rfl
@[simp] theorem ev_slstr_ft {s : ByteArray} {k : IntKind} {h : Int} : mpure (.slstr false true) [.string s, .int k h] = if 0 ≤ h ∧ h ≤ (s.size : Int) then some (.string (s.extract 0 h.toNat)) else none := Eq.trans rfl rfl
@[simp] theorem ev_i_eql {k : IntKind} {a b : Int} : mbin .eql (.int k a) (.int k b) = some (.bool (a == b)) := by cases k <;> rfl
@[simp] theorem ev_i_neq {k : IntKind} {a b : Int} : mbin .neq (.int k a) (.int k b) = some (.bool (a != b)) := by cases k <;> rfl
@[simp] theorem ev_i_lss {k : IntKind} {a b : Int} : mbin .lss (.int k a) (.int k b) = some (.bool (decide (a < b))) := by cases k <;> rfl
@[simp] theorem ev_i_leq {k : IntKind} {a b : Int} : mbin .leq (.int k a) (.int k b) = some (.bool (decide (a ≤ b))) := by cases k <;> rfl
@[simp] theorem ev_i_gtr {k : IntKind} {a b : Int} : mbin .gtr (.int k a) (.int k b) = some (.bool (decide (b < a))) := by cases k <;> rfl
@[simp] theorem ev_i_geq {k : IntKind} {a b : Int} : mbin .geq (.int k a) (.int k b) = some (.bool (decide (b ≤ a))) := by cases k <;> rfl
@[simp] theorem ev_i_add {k : IntKind} {a b : Int} : mbin .add (.int k a) (.int k b) = some (.int k (k.wrap (a + b))) := by cases k <;> rfl
@[simp] theorem ev_i_sub {k : IntKind} {a b : Int} : mbin .sub (.int k a) (.int k b) = some (.int k (k.wrap (a - b))) := by cases k <;> rfl
@[simp] theorem ev_i_mul {k : IntKind} {a b : Int} : mbin .mul (.int k a) (.int k b) = some (.int k (k.wrap (a * b))) := by cases k <;> rfl
@[simp] theorem ev_i_quo {k : IntKind} {a b : Int} : mbin .quo (.int k a) (.int k b) = if b = 0 then none else some (.int k (k.wrap (a.tdiv b))) := by cases k <;> rfl
@[simp] theorem ev_i_rem {k : IntKind} {a b : Int} : mbin .rem (.int k a) (.int k b) = if b = 0 then none else some (.int k (a.tmod b)) := by cases k <;> rfl
@[simp] theorem ev_i_and {k : IntKind} {a b : Int} : mbin .and (.int k a) (.int k b) = some (.int k (k.wrap (BitVec.ofInt k.bits a &&& BitVec.ofInt k.bits b).toNat)) := by cases k <;> rfl
@[simp] theorem ev_i_or {k : IntKind} {a b : Int} : mbin .or (.int k a) (.int k b) = some (.int k (k.wrap (BitVec.ofInt k.bits a ||| BitVec.ofInt k.bits b).toNat)) := by cases k <;> rfl
@[simp] theorem ev_i_shl {k j : IntKind} {a b : Int} : mbin .shl (.int k a) (.int j b) = if b < 0 then none else some (.int k (k.wrap (a * 2 ^ (min b.toNat k.bits)))) := Eq.trans rfl rfl
@[simp] theorem ev_i_shr {k j : IntKind} {a b : Int} : mbin .shr (.int k a) (.int j b) = if b < 0 then none else some (.int k (a.fdiv (2 ^ (min b.toNat k.bits)))) := Eq.trans rfl rfl
@[simp] theorem ev_s_add {a b : ByteArray} : mbin .add (.string a) (.string b) = if a.size + b.size ≤ 9223372036854775807 then some (.string (a ++ b)) else none := Eq.trans rfl rfl
@[simp] theorem ev_s_eql {a b : ByteArray} : mbin .eql (.string a) (.string b) = some (.bool (a.toList == b.toList)) := Eq.trans rfl rfl
@[simp] theorem ev_s_neq {a b : ByteArray} : mbin .neq (.string a) (.string b) = some (.bool !(a.toList == b.toList)) := Eq.trans rfl rfl
@[simp] theorem ev_q_bool {a b : Bool} : meq .bool (.bool a) (.bool b) = some (a == b) := Eq.trans rfl rfl
@[simp] theorem ev_q_ptr0 {b : Option Addr} : meq .ptr (.pointer none) (.pointer b) = some b.isNone := Eq.trans rfl rfl
@[simp] theorem ev_q_ptr1 {a : Addr} : meq .ptr (.pointer (some a)) (.pointer none) = some false := Eq.trans rfl rfl
@[simp] theorem ev_q_sl1 {a : Addr} {l c l' c' : Nat} : meq .slice (.slice (some a) l c) (.slice none l' c') = some false := Eq.trans rfl rfl
@[simp] theorem ev_q_sl0 {b : Option Addr} {l c l' c' : Nat} : meq .slice (.slice none l c) (.slice b l' c') = some b.isNone := Eq.trans rfl rfl
@[simp] theorem ev_q_if0 {t : TypeId} {v : Value} : meq .iface .nilIface (.iface t v) = some false := Eq.trans rfl rfl
@[simp] theorem ev_q_if1 {t : TypeId} {v : Value} : meq .iface (.iface t v) .nilIface = some false := Eq.trans rfl rfl
@[simp] theorem ev_q_agg {ks : List CK} {xs ys : Array Value} : meq (.agg ks) (.agg xs) (.agg ys) = ceqs ks xs.toList ys.toList := Eq.trans rfl rfl

/-! ### one operation behind another: what is not known stays small -/
section
variable {call : CallF} {T : Reg} {H : MH} {l : List MOper} {d : Option Nat} {op : MOp} {as : List Arg} {ks : List Nat} {vs : List Value} {v : Value}

/-- What is put where, and what is forgotten. -/
def putK (d : Option Nat) (ks : List Nat) (T : Reg) (v : Value) : Reg := match d with
  | some d => rkill (rput T d v) ks
  | none => rkill T ks
@[simp] theorem putK_some {d : Nat} : putK (some d) ks T v = rkill (rput T d v) ks := Eq.trans rfl rfl
@[simp] theorem putK_none : putK none ks T v = rkill T ks := Eq.trans rfl rfl
def kO (d : Option Nat) (ks : List Nat) (T : Reg) : Option (Value × MH) → Option (Reg × MH)
  | some (v, H) => some (putK d ks T v, H)
  | none => none
@[simp] theorem kO_some : kO d ks T (some (v, H)) = some (putK d ks T v, H) := Eq.trans rfl rfl
def kM (call : CallF) (op : MOp) (H : MH) (b : Option Nat) : Option (List Value) → Option (Value × MH)
  | some vs => mop call op vs H b
  | none => none
@[simp] theorem kM_some {b : Option Nat} : kM call op H b (some vs) = mop call op vs H b := Eq.trans rfl rfl
def kW (call : CallF) (d : Option Nat) (op : MOp) (as : List Arg) (ks : List Nat) (T : Reg) (H : MH) (b : Option Nat) : Option Value → Bool → Option (Reg × MH)
  | some (.bool x), y => if x = y then kO d ks T (kM call op H b (evs T as)) else some (putK d ks T (.tuple #[]), H)
  | some (.tuple _), _ => some (putK d ks T (.tuple #[]), H)
  | _, _ => none
@[simp] theorem kW_bool {b : Option Nat} {x y : Bool} : kW call d op as ks T H b (some (.bool x)) y = if x = y then kO d ks T (kM call op H b (evs T as)) else some (putK d ks T (.tuple #[]), H) := Eq.trans rfl rfl
@[simp] theorem kW_tuple {b : Option Nat} {xs : Array Value} {y : Bool} : kW call d op as ks T H b (some (.tuple xs)) y = some (putK d ks T (.tuple #[]), H) := Eq.trans rfl rfl
def kL (call : CallF) (l : List MOper) : Option (Reg × MH) → Option (Reg × MH)
  | some (T, H) => mops call l T H
  | none => none
@[simp] theorem kL_some : kL call l (some (T, H)) = mops call l T H := Eq.trans rfl rfl

theorem mstep_plain {b : Option Nat} : mstep call ⟨d, op, as, none, ks⟩ T H b = kO d ks T (kM call op H b (evs T as)) := by
  unfold mstep
  simp only [mwant]
  cases evs T as with
  | none => rfl
  | some vs =>
    simp only [kM]
    cases mop call op vs H b with
    | none => rfl
    | some x => rfl
theorem mstep_guard {b : Option Nat} {r : Nat} {y : Bool} : mstep call ⟨d, op, as, some (r, y), ks⟩ T H b = kW call d op as ks T H b (rget T r) y := by
  unfold mstep
  simp only [mwant]
  cases rget T r with
  | none => rfl
  | some v =>
    cases v <;> try rfl
    rename_i x
    simp only [kW]
    by_cases h : x = y
    · subst h
      simp only [beq_self_eq_true, if_true]
      cases evs T as with
      | none => rfl
      | some vs =>
        simp only [kM]
        cases mop call op vs H b with
        | none => rfl
        | some x => rfl
    · have : (x == y) = false := by simpa using h
      simp only [this, if_neg h]
      rfl
@[simp] theorem mops_nil : mops call [] T H = some (T, H) := Eq.trans rfl rfl
@[simp] theorem mops_plain : mops call (⟨d, op, as, none, ks⟩ :: l) T H = kL call l (kO d ks T (kM call op H none (evs T as))) := by
  simp only [mops, mstep_plain]
  cases kO d ks T (kM call op H none (evs T as)) <;> rfl
@[simp] theorem mops_guard {r : Nat} {y : Bool} : mops call (⟨d, op, as, some (r, y), ks⟩ :: l) T H = kL call l (kW call d op as ks T H none (rget T r) y) := by
  simp only [mops, mstep_guard]
  cases kW call d op as ks T H none (rget T r) y <;> rfl

def consO : Option Value → Option (List Value) → Option (List Value)
  | some v, some vs => some (v :: vs)
  | _, _ => none
@[simp] theorem consO_some : consO (some v) (some vs) = some (v :: vs) := Eq.trans rfl rfl
@[simp] theorem evs_nil : evs T [] = some [] := Eq.trans rfl rfl
@[simp] theorem evs_r {t : Nat} {as : List Arg} : evs T (.r t :: as) = consO (rget T t) (evs T as) := by
  simp only [evs, Arg.ev]; cases rget T t <;> cases evs T as <;> rfl
@[simp] theorem evs_k {as : List Arg} : evs T (.k v :: as) = consO (some v) (evs T as) := by
  simp only [evs, Arg.ev]; cases evs T as <;> rfl
@[simp] theorem ev_r {t : Nat} : Arg.ev T (.r t) = rget T t := Eq.trans rfl rfl
@[simp] theorem ev_k : Arg.ev T (.k v) = some v := Eq.trans rfl rfl

/-! operations by their kind -/
def pairO (H : MH) : Option Value → Option (Value × MH)
  | some v => some (v, H)
  | none => none
@[simp] theorem pairO_some : pairO H (some v) = some (v, H) := Eq.trans rfl rfl
theorem mop_pure {b : Option Nat} (h : op.kind = .pure) : mop call op vs H b = pairO H (mpure op vs) := by
  unfold mop; simp only [h]; cases mpure op vs <;> rfl
theorem mop_read {b : Option Nat} (h : op.kind = .read) : mop call op vs H b = pairO H (mread op vs H) := by
  unfold mop; simp only [h]; cases mread op vs H <;> rfl
theorem mop_eff {b : Option Nat} (h : op.kind = .eff) : mop call op vs H b = meff op vs H := by
  unfold mop; simp only [h]
def newO (H : MH) : Option (MObj × Value) → Option (Value × MH)
  | some (o, v) => some (v, H ++ [o])
  | none => none
@[simp] theorem newO_some {o : MObj} : newO H (some (o, v)) = some (v, H ++ [o]) := Eq.trans rfl rfl
theorem mop_alloc (h : op.kind = .alloc) : mop call op vs H none = newO H (malloc op vs H.length) := by
  unfold mop; simp only [h]; cases malloc op vs H.length <;> rfl
def putO (H : MH) (b : Nat) : Option (MObj × Value) → Option (Value × MH)
  | some (o, v) => some (v, H.set b o)
  | none => none
@[simp] theorem putO_some {b : Nat} {o : MObj} : putO H b (some (o, v)) = some (v, H.set b o) := Eq.trans rfl rfl
theorem mop_alloc' {b : Nat} (h : op.kind = .alloc) : mop call op vs H (some b) = putO H b (malloc op vs b) := by
  unfold mop; simp only [h]; cases malloc op vs b <;> rfl
section
variable {b : Option Nat} {n m : Nat} {x y z : Bool} {c : List Value} {ps : List (Nat × Nat)} {k : IntKind} {bop : BinOp} {uop : UnOp} {e : EqK} {s : Option Nat} {f : FuncId} {u : Value}
@[simp] theorem mop_mov : mop call .mov vs H b = pairO H (mpure .mov vs) := mop_pure rfl
@[simp] theorem mop_pick : mop call .pick vs H b = pairO H (mpure .pick vs) := mop_pure rfl
@[simp] theorem mop_build : mop call (.build c ps) vs H b = pairO H (mpure (.build c ps) vs) := mop_pure rfl
@[simp] theorem mop_nilck : mop call .nilck vs H b = pairO H (mpure .nilck vs) := mop_pure rfl
@[simp] theorem mop_bin : mop call (.bin bop) vs H b = pairO H (mpure (.bin bop) vs) := mop_pure rfl
@[simp] theorem mop_eqv : mop call (.eqv x e) vs H b = pairO H (mpure (.eqv x e) vs) := mop_pure rfl
@[simp] theorem mop_un : mop call (.un uop) vs H b = pairO H (mpure (.un uop) vs) := mop_pure rfl
@[simp] theorem mop_conv : mop call (.conv k) vs H b = pairO H (mpure (.conv k) vs) := mop_pure rfl
@[simp] theorem mop_fa : mop call (.fa n) vs H b = pairO H (mpure (.fa n) vs) := mop_pure rfl
@[simp] theorem mop_fld : mop call (.fld n s) vs H b = pairO H (mpure (.fld n s) vs) := mop_pure rfl
@[simp] theorem mop_ia : mop call (.ia n) vs H b = pairO H (mpure (.ia n) vs) := mop_pure rfl
@[simp] theorem mop_iarr : mop call (.iarr n m) vs H b = pairO H (mpure (.iarr n m) vs) := mop_pure rfl
@[simp] theorem mop_idxs : mop call .idxs vs H b = pairO H (mpure .idxs vs) := mop_pure rfl
@[simp] theorem mop_idxa : mop call (.idxa n m s) vs H b = pairO H (mpure (.idxa n m s) vs) := mop_pure rfl
@[simp] theorem mop_slstr : mop call (.slstr x y) vs H b = pairO H (mpure (.slstr x y) vs) := mop_pure rfl
@[simp] theorem mop_extract : mop call (.extract n) vs H b = pairO H (mpure (.extract n) vs) := mop_pure rfl
@[simp] theorem mop_len : mop call .len vs H b = pairO H (mpure .len vs) := mop_pure rfl
@[simp] theorem mop_lens : mop call .lens vs H b = pairO H (mpure .lens vs) := mop_pure rfl
@[simp] theorem mop_minmax : mop call (.minmax x) vs H b = pairO H (mpure (.minmax x) vs) := mop_pure rfl
@[simp] theorem mop_mkfunc : mop call (.mkfunc f) vs H b = pairO H (mpure (.mkfunc f) vs) := mop_pure rfl
@[simp] theorem mop_ld : mop call (.ld s) vs H b = pairO H (mread (.ld s) vs H) := mop_read rfl
@[simp] theorem mop_sl : mop call (.sl n x y z) vs H b = pairO H (mread (.sl n x y z) vs H) := mop_read rfl
@[simp] theorem mop_look : mop call (.look u x) vs H b = pairO H (mread (.look u x) vs H) := mop_read rfl
@[simp] theorem mop_cap : mop call .cap vs H b = pairO H (mread .cap vs H) := mop_read rfl
@[simp] theorem mop_lenm : mop call .lenm vs H b = pairO H (mread .lenm vs H) := mop_read rfl
@[simp] theorem mop_st : mop call (.st n) vs H b = meff (.st n) vs H := mop_eff rfl
@[simp] theorem mop_app : mop call (.app n m) vs H b = meff (.app n m) vs H := mop_eff rfl
@[simp] theorem mop_appz : mop call (.appz n m c) vs H b = meff (.appz n m c) vs H := mop_eff rfl
@[simp] theorem mop_copy : mop call (.copy n) vs H b = meff (.copy n) vs H := mop_eff rfl
@[simp] theorem mop_clear : mop call (.clear n c) vs H b = meff (.clear n c) vs H := mop_eff rfl
@[simp] theorem mop_mset : mop call .mset vs H b = meff .mset vs H := mop_eff rfl
@[simp] theorem mop_mdel : mop call .mdel vs H b = meff .mdel vs H := mop_eff rfl
@[simp] theorem mop_new : mop call (.new n c) vs H none = newO H (malloc (.new n c) vs H.length) := mop_alloc rfl
@[simp] theorem mop_box : mop call .box vs H none = newO H (malloc .box vs H.length) := mop_alloc rfl
@[simp] theorem mop_bslice : mop call (.bslice n m c ps) vs H none = newO H (malloc (.bslice n m c ps) vs H.length) := mop_alloc rfl
@[simp] theorem mop_mslice : mop call (.mslice n m c) vs H none = newO H (malloc (.mslice n m c) vs H.length) := mop_alloc rfl
@[simp] theorem mop_mkmap : mop call .mkmap vs H none = newO H (malloc .mkmap vs H.length) := mop_alloc rfl
section
variable {b : Nat}
@[simp] theorem mop_new' : mop call (.new n c) vs H (some b) = putO H b (malloc (.new n c) vs b) := mop_alloc' rfl
@[simp] theorem mop_box' : mop call .box vs H (some b) = putO H b (malloc .box vs b) := mop_alloc' rfl
@[simp] theorem mop_bslice' : mop call (.bslice n m c ps) vs H (some b) = putO H b (malloc (.bslice n m c ps) vs b) := mop_alloc' rfl
@[simp] theorem mop_mslice' : mop call (.mslice n m c) vs H (some b) = putO H b (malloc (.mslice n m c) vs b) := mop_alloc' rfl
@[simp] theorem mop_mkmap' : mop call .mkmap vs H (some b) = putO H b (malloc .mkmap vs b) := mop_alloc' rfl
end
@[simp] theorem mop_call : mop call (.call f) vs H b = call f vs H := Eq.trans rfl rfl
@[simp] theorem mop_callv {a c : Array Value} {args : List Value} : mop call .callv (.func (.func f) a c :: args) H b = call f (a.toList ++ args ++ c.toList) H := Eq.trans rfl rfl
end
end

/-! ### values that are known -/
section
variable {k : IntKind} {n : Int} {b : Bool} {s : ByteArray} {a : Option Addr} {l c : Nat} {r : Option Nat} {f : Fn} {x y : Array Value} {t : TypeId} {v : Value}
@[simp] theorem isUnk_bool : isUnk (.bool b) = false := Eq.trans rfl rfl
@[simp] theorem isUnk_int : isUnk (.int k n) = false := Eq.trans rfl rfl
@[simp] theorem isUnk_string : isUnk (.string s) = false := Eq.trans rfl rfl
@[simp] theorem isUnk_pointer : isUnk (.pointer a) = false := Eq.trans rfl rfl
@[simp] theorem isUnk_slice : isUnk (.slice a l c) = false := Eq.trans rfl rfl
@[simp] theorem isUnk_map : isUnk (.map r) = false := Eq.trans rfl rfl
@[simp] theorem isUnk_chan : isUnk (.chan r) = false := Eq.trans rfl rfl
@[simp] theorem isUnk_func : isUnk (.func f x y) = false := Eq.trans rfl rfl
@[simp] theorem isUnk_nilFunc : isUnk .nilFunc = false := Eq.trans rfl rfl
@[simp] theorem isUnk_nilIface : isUnk .nilIface = false := Eq.trans rfl rfl
@[simp] theorem isUnk_iface : isUnk (.iface t v) = false := Eq.trans rfl rfl
@[simp] theorem isUnk_agg : isUnk (.agg x) = false := Eq.trans rfl rfl
@[simp] theorem isUnk_tuple : isUnk (.tuple x) = false := Eq.trans rfl rfl

/-- A value of one cell, known. -/
def one : Value → Bool
  | .agg _ | .tuple _ | .complex .. => false
  | _ => true
@[simp] theorem one_bool : one (.bool b) = true := Eq.trans rfl rfl
@[simp] theorem one_int : one (.int k n) = true := Eq.trans rfl rfl
@[simp] theorem one_string : one (.string s) = true := Eq.trans rfl rfl
@[simp] theorem one_pointer : one (.pointer a) = true := Eq.trans rfl rfl
@[simp] theorem one_slice : one (.slice a l c) = true := Eq.trans rfl rfl
@[simp] theorem one_map : one (.map r) = true := Eq.trans rfl rfl
@[simp] theorem one_chan : one (.chan r) = true := Eq.trans rfl rfl
@[simp] theorem one_func : one (.func f x y) = true := Eq.trans rfl rfl
@[simp] theorem one_nilFunc : one .nilFunc = true := Eq.trans rfl rfl
@[simp] theorem one_nilIface : one .nilIface = true := Eq.trans rfl rfl
@[simp] theorem one_iface : one (.iface t v) = true := Eq.trans rfl rfl
@[simp] theorem one_agg : one (.agg x) = false := Eq.trans rfl rfl
@[simp] theorem one_tuple : one (.tuple x) = false := Eq.trans rfl rfl

@[simp] theorem cells_bool : (Value.bool b).cells = #[.bool b] := Eq.trans rfl rfl
@[simp] theorem cells_int : (Value.int k n).cells = #[.int k n] := Eq.trans rfl rfl
@[simp] theorem cells_string : (Value.string s).cells = #[.string s] := Eq.trans rfl rfl
@[simp] theorem cells_pointer : (Value.pointer a).cells = #[.pointer a] := Eq.trans rfl rfl
@[simp] theorem cells_slice : (Value.slice a l c).cells = #[.slice a l c] := Eq.trans rfl rfl
@[simp] theorem cells_map : (Value.map r).cells = #[.map r] := Eq.trans rfl rfl
@[simp] theorem cells_chan : (Value.chan r).cells = #[.chan r] := Eq.trans rfl rfl
@[simp] theorem cells_func : (Value.func f x y).cells = #[.func f x y] := Eq.trans rfl rfl
@[simp] theorem cells_nilFunc : Value.nilFunc.cells = #[.nilFunc] := Eq.trans rfl rfl
@[simp] theorem cells_nilIface : Value.nilIface.cells = #[.nilIface] := Eq.trans rfl rfl
@[simp] theorem cells_iface : (Value.iface t v).cells = #[.iface t v] := Eq.trans rfl rfl
@[simp] theorem cells_agg : (Value.agg x).cells = x := Eq.trans rfl rfl

theorem one_cells (h : one v = true) : v.cells = #[v] := by cases v <;> first | rfl | (cases h)
theorem one_unk (h : one v = true) : isUnk v = false := by cases v <;> first | rfl | (cases h)
theorem one_okc (h : one v = true) : okc [v] = true := by cases v <;> first | rfl | (cases h)
theorem okc_one {l : List Value} : okc l = l.all one := by
  induction l with
  | nil => rfl
  | cons v l ih =>
    simp only [okc, List.all_cons] at ih ⊢
    rw [ih]
    cases v <;> rfl
theorem all_unk {l : List Value} (h : l.all one = true) : l.all (fun v => !isUnk v) = true := by
  rw [List.all_eq_true] at h ⊢
  intro x hx; rw [one_unk (h x hx)]; rfl
end

section
variable {T : Reg} {t u n : Nat} {v x : Value} {vs : List Value} {ks : List Nat}
@[simp] theorem rget_nil : rget [] t = none := Eq.trans rfl rfl
@[simp] theorem rget_cons : rget ((u, v) :: T) t = if t = u then some v else rget T t := Eq.trans rfl rfl
@[simp] theorem rput_nil : rput [] t v = [(t, v)] := Eq.trans rfl rfl
@[simp] theorem rput_cons : rput ((u, x) :: T) t v = if t = u then (t, v) :: T else if t < u then (t, v) :: (u, x) :: T else (u, x) :: rput T t v := Eq.trans rfl rfl
@[simp] theorem rkill_nil : rkill [] ks = [] := Eq.trans rfl rfl
@[simp] theorem rkill_cons : rkill ((u, x) :: T) ks = if ks.elem u = true then rkill T ks else (u, x) :: rkill T ks := Eq.trans rfl rfl
@[simp] theorem init_nil : initRegs n [] = [] := Eq.trans rfl rfl
@[simp] theorem init_cons : initRegs n (v :: vs) = (n, v) :: initRegs (n + 1) vs := Eq.trans rfl rfl
end
attribute [simp] fillAll fillAt
@[simp] theorem ev_min2 {k : IntKind} {a b : Int} : mmin false [.int k a, .int k b] = some (.int k (min a b)) := by
  simp only [mmin, mmin1, if_true, Bool.false_eq_true, if_false]; congr 2; split <;> omega
@[simp] theorem ev_max2 {k : IntKind} {a b : Int} : mmin true [.int k a, .int k b] = some (.int k (max a b)) := by
  simp only [mmin, mmin1, if_true]; congr 2; split <;> omega
@[simp] theorem ev_min3 {k : IntKind} {a b c : Int} : mmin false [.int k a, .int k b, .int k c] = some (.int k (min (min a b) c)) := by
  simp only [mmin, mmin1, if_true, Bool.false_eq_true, if_false]; congr 2; split <;> split <;> omega
@[simp] theorem ev_max3 {k : IntKind} {a b c : Int} : mmin true [.int k a, .int k b, .int k c] = some (.int k (max (max a b) c)) := by
  simp only [mmin, mmin1, if_true]; congr 2; split <;> split <;> omega

/-! ### reading, writing, new objects -/
section
variable {H : MH} {b o : Nat} {i : Info} {c : List Value} {v : Value} {vs : List Value}
def knownO : Option Value → Option Value
  | some v => if isUnk v then none else some v
  | none => none
@[simp] theorem knownO_some : knownO (some v) = if isUnk v then none else some v := Eq.trans rfl rfl
theorem ld_at (h : H[b]? = some (.cells i c)) (o : Nat) : mread (.ld none) [.pointer (some ⟨b, o, none⟩)] H = knownO c[o]? := by
  simp only [mread, h]; cases c[o]? <;> rfl
theorem ldn_at (h : H[b]? = some (.cells i c)) (o n : Nat) (hn : o + n ≤ c.length) (hu : ((c.drop o).take n).all one = true) : mread (.ld (some n)) [.pointer (some ⟨b, o, none⟩)] H = some (.agg ((c.drop o).take n).toArray) := by
  simp only [mread, h]
  rw [if_pos ⟨hn, all_unk hu⟩]
theorem fillAt_one : ∀ (c : List Value) (o : Nat), o < c.length → fillAt c o [v] = c.set o v
  | [], o, h => by simp at h
  | x :: c, 0, h => by simp [fillAt]
  | x :: c, o + 1, h => by
    have := fillAt_one c o (by simpa using h)
    simp only [fillAt, List.set_cons_succ] at this ⊢
    rw [← this]
    simp
/-- A one-cell value is stored. -/
theorem st_at (h : H[b]? = some (.cells i c)) (hrw : i.rw = true) (o : Nat) (v : Value) (hv : one v = true) (ho : o < c.length) : meff (.st 1) [.pointer (some ⟨b, o, none⟩), v] H = some (.tuple #[], H.set b (.cells i (c.set o v))) := by
  simp only [meff, h, hrw, one_cells hv, one_okc hv]
  rw [if_pos ⟨trivial, rfl, by omega, trivial⟩, fillAt_one c o ho]
/-! Reading and writing by what stands at a place. -/
def ldO1 (o : Nat) : Option MObj → Option Value
  | some (.cells _ c) => knownO c[o]?
  | _ => none
@[simp] theorem ldO1_cells : ldO1 o (some (.cells i c)) = knownO c[o]? := Eq.trans rfl rfl
theorem ldx : mread (.ld none) [.pointer (some ⟨b, o, none⟩)] H = ldO1 o H[b]? := by
  simp only [mread]
  cases H[b]? with
  | none => rfl
  | some x => cases x <;> first | rfl | (rename_i i c; simp only [ldO1]; cases c[o]? <;> rfl)
@[simp] theorem cap_none : mread .cap [.slice none 0 0] H = some (.int .i64 0) := Eq.trans rfl rfl
theorem cap_at (h : H[b]? = some (.cells i c)) (hx : i.ex = true) (o n m : Nat) : mread .cap [.slice (some ⟨b, o, none⟩) n m] H = some (.int .i64 m) := by
  simp only [mread, h]; rw [if_pos hx]
def ldOn (o n : Nat) : Option MObj → Option Value
  | some (.cells _ c) => if o + n ≤ c.length ∧ ((c.drop o).take n).all (fun v => !isUnk v) = true then some (.agg ((c.drop o).take n).toArray) else none
  | _ => none
@[simp] theorem ldOn_cells {n : Nat} : ldOn o n (some (.cells i c)) = if o + n ≤ c.length ∧ ((c.drop o).take n).all (fun v => !isUnk v) = true then some (.agg ((c.drop o).take n).toArray) else none := Eq.trans rfl rfl
theorem ldnx {n : Nat} : mread (.ld (some n)) [.pointer (some ⟨b, o, none⟩)] H = ldOn o n H[b]? := by
  simp only [mread]
  cases H[b]? with
  | none => rfl
  | some x => cases x <;> rfl
def stO (H : MH) (b sz o : Nat) (v : Value) : Option MObj → Option (Value × MH)
  | some (.cells i c) => if i.rw = true ∧ v.cells.toList.length = sz ∧ o + sz ≤ c.length ∧ okc v.cells.toList = true then some (.tuple #[], H.set b (.cells i (fillAt c o v.cells.toList))) else none
  | _ => none
@[simp] theorem stO_cells {sz : Nat} : stO H b sz o v (some (.cells i c)) = if i.rw = true ∧ v.cells.toList.length = sz ∧ o + sz ≤ c.length ∧ okc v.cells.toList = true then some (.tuple #[], H.set b (.cells i (fillAt c o v.cells.toList))) else none := Eq.trans rfl rfl
theorem stx {sz : Nat} : meff (.st sz) [.pointer (some ⟨b, o, none⟩), v] H = stO H b sz o v H[b]? := by
  simp only [meff]
  cases H[b]? with
  | none => rfl
  | some x => cases x <;> rfl
@[simp] theorem okc_nil : okc [] = true := Eq.trans rfl rfl
@[simp] theorem okc_cons {l : List Value} : okc (v :: l) = (one v && okc l) := by
  simp only [okc_one, List.all_cons]
/-- A row of cells is stored. -/
theorem stn_at (h : H[b]? = some (.cells i c)) (hrw : i.rw = true) (xs : Array Value) (n o : Nat) (hn : xs.toList.length = n) (hv : xs.toList.all one = true) (ho : o + n ≤ c.length) : meff (.st n) [.pointer (some ⟨b, o, none⟩), .agg xs] H = some (.tuple #[], H.set b (.cells i (c.take o ++ xs.toList ++ c.drop (o + n)))) := by
  simp only [meff, h, hrw, cells_agg, okc_one, hv]
  rw [if_pos ⟨trivial, hn, ho, trivial⟩]
  simp only [fillAt, hn]
@[simp] theorem box_one : malloc .box [v] b = if isUnk v then none else some (.cells ⟨0, true, false⟩ v.cells.toList, .pointer (some ⟨b, 0, none⟩)) := Eq.trans rfl rfl
@[simp] theorem new_one {es : Nat} : malloc (.new es c) [] b = some (.cells ⟨es, true, false⟩ c, .pointer (some ⟨b, 0, none⟩)) := Eq.trans rfl rfl
@[simp] theorem mkmap_one : malloc .mkmap [] b = some (.map [], .map (some b)) := Eq.trans rfl rfl
end

/-! ### code -/
section
variable {mp : FuncId → Option MDef} {T : Reg} {H : MH} {g : Reg → MH → Option (MExit × Reg × MH)} {id : Nat}
@[simp] theorem thenN_some : thenN (some (T, H)) = some (.normal, T, H) := Eq.trans rfl rfl
@[simp] theorem andThen_normal : andThen (some (.normal, T, H)) g = g T H := Eq.trans rfl rfl
@[simp] theorem andThen_exit : andThen (some (.exit id, T, H)) g = some (.exit id, T, H) := Eq.trans rfl rfl
@[simp] theorem andThen_ret : andThen (some (.ret, T, H)) g = some (.ret, T, H) := Eq.trans rfl rfl
@[simp] theorem blockEnd_normal : blockEnd id (some (.normal, T, H)) = some (.normal, T, H) := Eq.trans rfl rfl
@[simp] theorem blockEnd_ret : blockEnd id (some (.ret, T, H)) = some (.ret, T, H) := Eq.trans rfl rfl
@[simp] theorem blockEnd_exit {id' : Nat} : blockEnd id (some (.exit id', T, H)) = if id' = id then some (.normal, T, H) else some (.exit id', T, H) := Eq.trans rfl rfl
def valO (H : MH) : Option Value → Option (Value × MH)
  | some v => some (v, H)
  | none => none
@[simp] theorem valO_some {v : Value} : valO H (some v) = some (v, H) := Eq.trans rfl rfl
@[simp] theorem fnEnd_normal {rs : List MRes} : fnEnd rs (some (.normal, T, H)) = valO H (resOf T H rs) := by simp only [fnEnd]; cases h : resOf T H rs <;> simp only [h] <;> rfl
@[simp] theorem fnEnd_ret {rs : List MRes} : fnEnd rs (some (.ret, T, H)) = valO H (resOf T H rs) := by simp only [fnEnd]; cases h : resOf T H rs <;> simp only [h] <;> rfl
@[simp] theorem resV_tmp {t : Nat} : resV T H (.tmp t) = rget T t := Eq.trans rfl rfl
def ldV (H : MH) (l : Option Nat) : Option Value → Option Value
  | some v => mread (.ld l) [v] H
  | none => none
@[simp] theorem ldV_some {l : Option Nat} {v : Value} : ldV H l (some v) = mread (.ld l) [v] H := Eq.trans rfl rfl
@[simp] theorem resV_cell {t : Nat} {l : Option Nat} : resV T H (.cell t l) = ldV H l (rget T t) := by simp only [resV]; cases rget T t <;> rfl
@[simp] theorem resVs_nil : resVs T H [] = some [] := Eq.trans rfl rfl
@[simp] theorem resVs_cons {a : MRes} {l : List MRes} : resVs T H (a :: l) = consO (resV T H a) (resVs T H l) := by
  simp only [resVs]; cases resV T H a <;> cases resVs T H l <;> rfl
def resO : Option (List Value) → Option Value
  | some [v] => some v
  | some vs => some (.tuple vs.toArray)
  | none => none
@[simp] theorem resO_0 : resO (some []) = some (.tuple #[]) := Eq.trans rfl rfl
@[simp] theorem resO_1 {v : Value} : resO (some [v]) = some v := Eq.trans rfl rfl
@[simp] theorem resO_2 {u v : Value} {l : List Value} : resO (some (u :: v :: l)) = some (.tuple (u :: v :: l).toArray) := Eq.trans rfl rfl
@[simp] theorem resOf_eq {l : List MRes} : resOf T H l = resO (resVs T H l) := by
  unfold resOf
  cases resVs T H l with
  | none => rfl
  | some vs => match vs with
    | [] => rfl
    | [_] => rfl
    | _ :: _ :: _ => rfl
def condO (x y : Option (MExit × Reg × MH)) : Option Value → Option (MExit × Reg × MH)
  | some (.bool true) => x
  | some (.bool false) => y
  | _ => none
attribute [simp] Rc_seq Rc_ops Rc_draw Rc_skip Rc_exit Rc_ret Rc_block Rc_true Rc_false

theorem mtrace_mops {call : CallF} : ∀ {l : List MOper} {b : Nat} {T : Reg} {H : MH}, nalloc l = 0 → mops call l T H = (mtrace call l b T H).bind fun tr => tr.getLast?
  | [], b, T, H, _ => rfl
  | m :: l, b, T, H, h => by
    simp only [nalloc] at h
    have hk : ¬ m.op.kind = .alloc := by intro e; rw [if_pos e] at h; omega
    rw [if_neg hk] at h
    simp only [mops, mtrace, if_neg hk]
    cases mstep call m T H none with
    | none => rfl
    | some x =>
      simp only []
      rw [mtrace_mops (b := b) (by omega)]
      cases hx : mtrace call l b x.1 x.2 with
      | none => rfl
      | some tr =>
        simp only [Option.bind_some]
        cases tr with
        | nil => cases l <;> simp [mtrace] at hx <;> (repeat' split at hx) <;> simp at hx
        | cons y ys => simp [List.getLast?_cons_cons]
/-- A drawn region without new objects and without pairs to look at. -/
theorem mdraw_plain {call : CallF} {l : List MOper} (h : nalloc l = 0) : mdraw call l [] T H = mops call l T H := by
  unfold mdraw
  rw [h, mtrace_mops (b := H.length) h]
  simp only [List.replicate_zero, List.append_nil, List.all_nil, if_true]
  cases mtrace call l H.length T H <;> rfl
end

/-! ### drawn regions, in full -/
section
variable {call : CallF} {T : Reg} {H : MH} {l : List MOper} {d : Option Nat} {op : MOp} {as : List Arg} {ks : List Nat}
def consT (s : Reg × MH) : Option (List (Reg × MH)) → Option (List (Reg × MH))
  | some tr => some (s :: tr)
  | none => none
@[simp] theorem consT_some {s : Reg × MH} {tr : List (Reg × MH)} : consT s (some tr) = some (s :: tr) := Eq.trans rfl rfl
def kT (call : CallF) (l : List MOper) (b : Nat) (s : Reg × MH) : Option (Reg × MH) → Option (List (Reg × MH))
  | some (T, H) => consT s (mtrace call l b T H)
  | none => none
@[simp] theorem kT_some {b : Nat} {s : Reg × MH} : kT call l b s (some (T, H)) = consT s (mtrace call l b T H) := Eq.trans rfl rfl
@[simp] theorem mtrace_nil {b : Nat} : mtrace call [] b T H = some [(T, H)] := Eq.trans rfl rfl
theorem mtrace_cons {b : Nat} {m : MOper} : mtrace call (m :: l) b T H = kT call l (if m.op.kind = .alloc then b + 1 else b) (T, H) (mstep call m T H (if m.op.kind = .alloc then some b else none)) := by
  simp only [mtrace]
  cases mstep call m T H (if m.op.kind = .alloc then some b else none) with
  | none => rfl
  | some x =>
    show (match mtrace call l (if m.op.kind = .alloc then b + 1 else b) x.1 x.2 with | some tr => some ((T, H) :: tr) | none => none) = consT (T, H) (mtrace call l _ x.1 x.2)
    cases mtrace call l (if m.op.kind = .alloc then b + 1 else b) x.1 x.2 <;> rfl
@[simp] theorem mtrace_plain {b : Nat} : mtrace call (⟨d, op, as, none, ks⟩ :: l) b T H = kT call l (if op.kind = .alloc then b + 1 else b) (T, H) (kO d ks T (kM call op H (if op.kind = .alloc then some b else none) (evs T as))) := by
  rw [mtrace_cons, mstep_plain]
@[simp] theorem mtrace_guard {b r : Nat} {y : Bool} : mtrace call (⟨d, op, as, some (r, y), ks⟩ :: l) b T H = kT call l (if op.kind = .alloc then b + 1 else b) (T, H) (kW call d op as ks T H (if op.kind = .alloc then some b else none) (rget T r) y) := by
  rw [mtrace_cons, mstep_guard]
def drawO (l : List MOper) (b : Nat) (ps : List (Nat × Nat)) : Option (List (Reg × MH)) → Option (Reg × MH)
  | some tr => if ps.all (pairOk l b tr) = true then tr.getLast? else none
  | none => none
@[simp] theorem drawO_some {b : Nat} {ps : List (Nat × Nat)} {tr : List (Reg × MH)} : drawO l b ps (some tr) = if ps.all (pairOk l b tr) = true then tr.getLast? else none := Eq.trans rfl rfl
theorem mdraw_full {ps : List (Nat × Nat)} : mdraw call l ps T H = drawO l H.length ps (mtrace call l H.length T (H ++ List.replicate (nalloc l) .dead)) := by
  unfold mdraw
  cases mtrace call l H.length T (H ++ List.replicate (nalloc l) .dead) <;> rfl
end
section
variable {T : Reg} {r : Nat} {b x : Bool} {xs : Array Value}
def wantO (b : Bool) : Option Value → Option Bool
  | some (.bool x) => some (x == b)
  | some (.tuple _) => some false
  | _ => none
@[simp] theorem wantO_bool : wantO b (some (.bool x)) = some (x == b) := Eq.trans rfl rfl
@[simp] theorem wantO_tuple : wantO b (some (.tuple xs)) = some false := Eq.trans rfl rfl
@[simp] theorem mwant_none : mwant T none = some true := Eq.trans rfl rfl
@[simp] theorem mwant_some : mwant T (some (r, b)) = wantO b (rget T r) := by
  simp only [mwant]; cases rget T r with
  | none => rfl
  | some v => cases v <;> rfl
end
attribute [simp] nalloc MOp.kind pairOk veqo veq1 veq veqs oeq allocAt

theorem wrap_i64 {n : Int} (h0 : -9223372036854775808 ≤ n) (h1 : n < 9223372036854775808) : IntKind.i64.wrap n = n := by
  unfold IntKind.wrap
  simp only [IntKind.signed, IntKind.bits]
  simp
  omega

/-- A slice's cells. -/
def Row (es : Nat) (H : MH) (v : Value) (l : List Value) : Prop :=
  (v = .slice none 0 0 ∧ l = []) ∨ ∃ b o n c i cs, v = .slice (some ⟨b, o, none⟩) n c ∧ n ≤ c ∧ H[b]? = some (.cells i cs) ∧ i.es = es ∧ o + n * es ≤ cs.length ∧ (cs.drop o).take (n * es) = l

theorem Row.keep {es : Nat} {H H' : MH} {v : Value} {l : List Value} (h : Row es H v l) (hk : ∀ (b : Nat) i cs, H[b]? = some (.cells i cs) → i.es = es → H'[b]? = some (.cells i cs)) : Row es H' v l := by
  rcases h with h | ⟨b, o, n, c, i, cs, h1, h2, h3, h4, h5, h6⟩
  · exact .inl h
  · exact .inr ⟨b, o, n, c, i, cs, h1, h2, hk b i cs h3 h4, h4, h5, h6⟩
def Ext (H H' : MH) : Prop := ∃ X, H' = H ++ X
theorem Ext.refl (H : MH) : Ext H H := ⟨[], by simp⟩
theorem Ext.trans {H H1 H2 : MH} (h : Ext H H1) (g : Ext H1 H2) : Ext H H2 := by
  obtain ⟨X, rfl⟩ := h; obtain ⟨Y, rfl⟩ := g; exact ⟨X ++ Y, by simp⟩
theorem get_app {H X : MH} {b : Nat} {o : MObj} (h : H[b]? = some o) : (H ++ X)[b]? = some o := by
  rw [List.getElem?_append_left (List.getElem?_eq_some_iff.1 h).1]; exact h
theorem Row.app {es : Nat} {H X : MH} {v : Value} {l : List Value} (h : Row es H v l) : Row es (H ++ X) v l := h.keep fun b i cs h _ => get_app h
theorem Ext.get {H H' : MH} (h : Ext H H') {b : Nat} {o : MObj} (hb : H[b]? = some o) : H'[b]? = some o := by
  obtain ⟨X, rfl⟩ := h; exact get_app hb
theorem Ext.row {H H' : MH} (h : Ext H H') {es : Nat} {v : Value} {l : List Value} (hr : Row es H v l) : Row es H' v l := by
  obtain ⟨X, rfl⟩ := h; exact hr.app
theorem Ext.len {H H' : MH} (h : Ext H H') : H.length ≤ H'.length := by obtain ⟨X, rfl⟩ := h; simp

theorem Row.slice {es : Nat} {H : MH} {v : Value} {l : List Value} (h : Row es H v l) : ∃ a n c, v = .slice a n c ∧ n * es = l.length := by
  rcases h with ⟨h1, h2⟩ | ⟨b, o, n, c, i, cs, h1, h2, h3, h4, h5, h6⟩
  · exact ⟨none, 0, 0, h1, by simp [h2]⟩
  · refine ⟨_, n, c, h1, ?_⟩
    rw [← h6]; simp; omega

theorem Row.src {es : Nat} {H : MH} {a : Option Addr} {n c : Nat} {l : List Value} (h : Row es H (.slice a n c) l) : srcCells es H (.slice a n c) = some (n, l) := by
  rcases h with ⟨h1, h2⟩ | ⟨b, o, m, d, i, cs, h1, h2, h3, h4, h5, h6⟩
  · cases h1; subst h2; rfl
  · cases h1
    simp only [srcCells, h3]
    rw [if_pos h5, h6]

section
variable {H : MH} {b o es bytes n len cap : Nat} {i : Info} {c ys : List Value} {v y : Value} {vs : List Value}
def bsO (es len : Nat) (z : List Value) (b : Nat) : Option (List Value) → Option (MObj × Value)
  | some c => if z.length = es ∧ len * es ≤ 16777216 then some (.cells ⟨es, true, true⟩ c, .slice (some ⟨b, 0, none⟩) len len) else none
  | none => none
@[simp] theorem bsO_some {z : List Value} : bsO es len z b (some c) = if z.length = es ∧ len * es ≤ 16777216 then some (.cells ⟨es, true, true⟩ c, .slice (some ⟨b, 0, none⟩) len len) else none := Eq.trans rfl rfl
@[simp] theorem malloc_bs {z : List Value} {ps : List (Nat × Nat)} : malloc (.bslice es len z ps) vs b = bsO es len z b (fillAll (List.replicate len z).flatten ps vs) := by
  simp only [malloc]; cases fillAll (List.replicate len z).flatten ps vs <;> rfl
theorem sl_at (h : H[b]? = some (.cells i c)) (he : i.es = es) (lo hi mx : Bool) (o len cap : Nat) (bs : List Value) :
    mread (.sl es lo hi mx) (.slice (some ⟨b, o, none⟩) len cap :: bs) H = (slBound lo hi mx len cap bs).map fun p => .slice (some ⟨b, o + p.1 * es, none⟩) (p.2.1 - p.1) (p.2.2 - p.1) := by
  simp only [mread, h, he]
  cases slBound lo hi mx len cap bs with
  | none => rfl
  | some p => rfl
@[simp] theorem sl_nil {lo hi mx : Bool} {bs : List Value} : mread (.sl es lo hi mx) (.slice none 0 0 :: bs) H = (slBound lo hi mx 0 0 bs).map fun _ => .slice none 0 0 := by
  simp only [mread]
  cases slBound lo hi mx 0 0 bs <;> rfl
section
variable {j k l : IntKind} {x y z : Int}
@[simp] theorem slb_ttt : slBound true true true len cap [.int j x, .int k y, .int l z] = if 0 ≤ x ∧ x ≤ y ∧ y ≤ z ∧ z ≤ (cap : Int) then some (x.toNat, y.toNat, z.toNat) else none := Eq.trans rfl rfl
@[simp] theorem slb_ttf : slBound true true false len cap [.int j x, .int k y] = if 0 ≤ x ∧ x ≤ y ∧ y ≤ (cap : Int) then some (x.toNat, y.toNat, cap) else none := Eq.trans rfl rfl
@[simp] theorem slb_tff : slBound true false false len cap [.int j x] = if 0 ≤ x ∧ x ≤ (len : Int) then some (x.toNat, len, cap) else none := Eq.trans rfl rfl
@[simp] theorem slb_ftf : slBound false true false len cap [.int j x] = if 0 ≤ x ∧ x ≤ (cap : Int) then some (0, x.toNat, cap) else none := Eq.trans rfl rfl
@[simp] theorem slb_fff : slBound false false false len cap [] = some (0, len, cap) := Eq.trans rfl rfl
end
theorem clear_at {z : List Value} (h : H[b]? = some (.cells i c)) (hrw : i.rw = true) (hz : z.length = es) (hz1 : z.all one = true) (o n cap : Nat) (hn : n ≠ 0) (ho : o + n * es ≤ c.length) :
    meff (.clear es z) [.slice (some ⟨b, o, none⟩) n cap] H = some (.tuple #[], H.set b (.cells i (fillAt c o (List.replicate n z).flatten))) := by
  simp only [meff, h, if_neg hn]
  rw [if_pos ⟨hrw, hz, ho, by rw [okc_one]; exact hz1⟩]
theorem clear_none {z : List Value} (a : Option Addr) (cap : Nat) : meff (.clear es z) [.slice a 0 cap] H = some (.tuple #[], H) := by
  simp only [meff, if_true]
/-- Append of nothing. -/
theorem app_zero {a : Option Addr} (h : a = none → len = 0 ∧ cap = 0) (ha : ∀ x, a = some x → ∃ i c, x.spot = none ∧ H[x.block]? = some (.cells i c)) (hs : srcCells es H y = some (0, ys)) : meff (.app es bytes) [.slice a len cap, y] H = some (.slice a len cap, H) := by
  cases a with
  | none => obtain ⟨rfl, rfl⟩ := h rfl; simp only [meff, hs]; rfl
  | some x =>
    obtain ⟨i, c, h1, h2⟩ := ha x rfl
    obtain ⟨xb, xo, xs⟩ := x
    simp only [] at h1 h2
    subst h1
    simp only [meff, hs, h2]; rfl
/-- Append to no slice. -/
theorem app_nil (hs : srcCells es H y = some (n, ys)) (hn : n ≠ 0) (h1 : n ≤ 4294967296) (h2 : bytes ≤ 4096) : meff (.app es bytes) [.slice none 0 0, y] H = some (.slice (some ⟨H.length, 0, none⟩) n n, H ++ [.cells ⟨es, true, false⟩ ys]) := by
  simp only [meff, hs, if_neg hn]; rw [if_pos ⟨h1, h2⟩]
/-- Append where there is room. -/
theorem app_in (hb : H[b]? = some (.cells i c)) (hs : srcCells es H y = some (n, ys)) (hn : n ≠ 0) (he : i.es = es) (hl : len + n ≤ cap) (hrw : i.rw = true) (hc : o + (len + n) * es ≤ c.length) (hy : ys.all one = true) :
    meff (.app es bytes) [.slice (some ⟨b, o, none⟩) len cap, y] H = some (.slice (some ⟨b, o, none⟩) (len + n) cap, H.set b (.cells i (fillAt c (o + len * es) ys))) := by
  simp only [meff, hs, hb, if_neg hn]
  rw [if_pos ⟨he, by omega⟩, if_pos hl, if_pos ⟨hrw, hc, by rw [okc_one]; exact hy⟩]
/-- Append where there is none: the slice moves. -/
theorem app_mv (hb : H[b]? = some (.cells i c)) (hs : srcCells es H y = some (n, ys)) (hn : n ≠ 0) (he : i.es = es) (hlc : len ≤ cap) (hl : ¬ len + n ≤ cap) (h1 : len + n ≤ 4294967296) (h2 : bytes ≤ 4096) (hex : i.ex = false) (hrw : i.rw = true) (hc : o + cap * es = c.length) (hy : ys.all one = true) :
    meff (.app es bytes) [.slice (some ⟨b, o, none⟩) len cap, y] H = some (.slice (some ⟨H.length, 0, none⟩) (len + n) (len + n), H.set b .dead ++ [.cells ⟨es, true, false⟩ ((c.drop o).take (len * es) ++ ys)]) := by
  have : len * es ≤ cap * es := Nat.mul_le_mul_right es hlc
  simp only [meff, hs, hb, if_neg hn]
  rw [if_pos ⟨he, hlc⟩, if_neg hl, if_pos ⟨h1, h2, by omega, by rw [okc_one]; exact hy⟩, hex]
  simp only [Bool.false_eq_true, if_false]
  rw [if_pos ⟨hrw, hc⟩]
theorem app_ex (hb : H[b]? = some (.cells i c)) (hs : srcCells es H y = some (n, ys)) (hn : n ≠ 0) (he : i.es = es) (hlc : len ≤ cap) (hl : ¬ len + n ≤ cap) (h1 : len + n ≤ 4294967296) (h2 : bytes ≤ 4096) (hex : i.ex = true) (hc : o + len * es ≤ c.length) (hy : ys.all one = true) :
    meff (.app es bytes) [.slice (some ⟨b, o, none⟩) len cap, y] H = some (.slice (some ⟨H.length, 0, none⟩) (len + n) (len + n), H ++ [.cells ⟨es, true, false⟩ ((c.drop o).take (len * es) ++ ys)]) := by
  simp only [meff, hs, hb, if_neg hn]
  rw [if_pos ⟨he, hlc⟩, if_neg hl, if_pos ⟨h1, h2, hc, by rw [okc_one]; exact hy⟩, hex]
  rfl
end

/-! ### a closed run, done once by the kernel -/
def constS (v : Value) : List Value → MH → Option (Value × MH) := fun vs H => if vs.isEmpty = true then some (v, H) else none
@[simp] theorem constS_nil {v : Value} {H : MH} : constS v [] H = some (v, H) := Eq.trans rfl rfl
def isTrue : Option (Value × MH) → Bool
  | some (.bool b, _) => b
  | _ => false
@[simp] theorem isTrue_some {b : Bool} {H : MH} : isTrue (some (.bool b, H)) = b := Eq.trans rfl rfl
theorem isTrue_ex {x : Option (Value × MH)} (h : isTrue x = true) : ∃ H', x = some (.bool true, H') := by
  unfold isTrue at h
  split at h
  · subst h; exact ⟨_, rfl⟩
  · cases h
theorem known_of {mp : FuncId → Option MDef} {k : Nat} {f : FuncId} (h : isTrue (mcall mp k f [] []) = true) : ∃ H0, R mp f [] [] = some (.bool true, H0) := by
  unfold isTrue at h
  split at h
  · rename_i b H0 hm
    subst h
    exact ⟨H0, R_of_mcall hm⟩
  · cases h
theorem scalar_eq {φ : Ren} {v u : Value} (hv : scalarV v = true) (h : VRel φ v u) : u = v := by
  cases h <;> first | rfl | (cases hv; done)
theorem plain_eq {φ : Ren} {v u : Value} (hv : plainV v = true) (h : VRel φ v u) : u = v := by
  cases h with
  | agg ha h =>
    rename_i a a'
    have : a' = a := by
      apply Array.ext (by omega)
      intro i h1 h2
      have hx := h i a[i] a'[i] (Array.getElem?_eq_getElem h2) (Array.getElem?_eq_getElem h1)
      refine scalar_eq ?_ hx
      simp only [plainV] at hv
      exact List.all_eq_true.1 hv _ (by simp)
    rw [this]
  | _ => first | rfl | (exact scalar_eq hv ‹_›) | (cases hv; done)
theorem closed_intr {P : Program} {mp : FuncId → Option MDef} (hm : MapOk P mp) {f : FuncId} {v : Value} {H0 : MH} (hr : R mp f [] [] = some (v, H0)) (hv : plainV v = true) :
    IntrOk P f (constS v) := by
  refine ⟨fun vs H r H' h φ w args hh hrel => ?_, fun vs H r H' h => ?_⟩
  · unfold constS at h
    split at h <;> first | contradiction | skip
    rename_i he
    cases h
    have : vs = [] := by simpa using he
    subst this
    cases hrel
    have := R_ok hm f [] [] v H0 hr (fun _ => none) w [] ⟨fun id pl h => (by cases h), fun id pl h => (by cases h), fun i j pi pj oi oj h => (by cases h)⟩ .nil
    have key : ∀ u w', (∃ φ', VRel φ' v u ∧ Step (List.length ([] : MH)) (fun _ => none) (hp []) w φ' (hp H0) w') → ∃ φ', VRel φ' v u ∧ Step H.length φ (hp H) w φ' (hp H) w' := by
      rintro u w' ⟨φ', h1, h2⟩
      have hb : ∀ b, b < w.heap.size → w'.heap[b]? = w.heap[b]? := fun b hb => h2.fr.block b hb fun id pl o h => by cases h
      refine ⟨φ, ?_, hh.world h2.fr.size (fun id pl hφ => hb _ (hh.lt id pl hφ)), Ren.le.refl φ, ⟨h2.fr.os, h2.fr.tape, h2.fr.output, h2.fr.size, fun b hb' _ => hb b hb'⟩, fun id pl o h1 h2 h3 _ => ⟨id, pl, o, h1, h2, h3, rfl⟩, fun id pl h1 h2 => (by rw [h2] at h1; cases h1), fun id pl h => .inl h⟩
      have : u = v := by
        have hx := VRel.plain (φ := φ') hv
        exact plain_eq hv h1
      subst this
      exact VRel.plain hv
    rcases this with ⟨hc, hcall⟩ | ⟨u, w', h1, h2⟩
    · exact .inl ⟨hc, hcall.mono fun e w' ⟨u, he, hR⟩ => ⟨u, he, key u w' hR⟩⟩
    · exact .inr ⟨u, w', h1, key u w' h2⟩
  · unfold constS at h
    split at h <;> first | contradiction | skip
    cases h; exact Keeps.refl _
end Go.Mod


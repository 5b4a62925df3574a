/- The model interpreter: a deterministic reading of loaded Go code over a heap of numbered objects. Definitions alone; what they have to do with the machine is proved in the texts behind this one. -/
import Derived.Calls
import Derived.Laws.Sem
import Derived.Laws.Append
import Derived.KernelRfl
import Derived.Laws.StructEq
set_option linter.unusedVariables false
namespace Go.Mod

/-! ### values, objects -/
/-- A cell of which nothing is known. -/
def unk : Value := .complex .f32 0 0
def isUnk : Value → Bool
  | .complex .. => true
  | _ => false
/-- May it lie in one cell? -/
def flat : Value → Bool
  | .agg _ | .tuple _ => false
  | _ => true

/-- Values of one cell each, known. -/
def okc (l : List Value) : Bool := l.all fun v => flat v && !isUnk v

/-- Is each slice's capacity told; of which type the cells are (where it is told). -/
structure Exa where
  on : Bool
  el : Option Nat
  deriving DecidableEq, Repr
@[reducible] instance : Coe Bool Exa := ⟨fun b => ⟨b, none⟩⟩

structure Info where
  es : Nat
  rw : Bool
  ex : Exa
  deriving DecidableEq, Repr

inductive MObj where
  | cells (i : Info) (c : List Value)
  | map (es : List (Int × Value))
  | rmap (es : List (Int × Value))
  | chan (cap : Nat) (buf : List Value)
  | dead
  deriving Inhabited

abbrev MH := List MObj

def MObj.mut : MObj → Bool
  | .cells i _ => i.rw
  | .map _ | .chan .. => true
  | .dead | .rmap _ => false
def MObj.live : MObj → Bool
  | .dead => false
  | _ => true

/-! ### registers -/
abbrev Reg := List (Nat × Value)
def rget : Reg → Nat → Option Value
  | [], _ => none
  | (u, v) :: T, t => if t = u then some v else rget T t
def rput : Reg → Nat → Value → Reg
  | [], t, v => [(t, v)]
  | (u, x) :: T, t, v => if t = u then (t, v) :: T else if t < u then (t, v) :: (u, x) :: T else (u, x) :: rput T t v
def rkill : Reg → List Nat → Reg
  | [], _ => []
  | (u, x) :: T, ks => if ks.elem u then rkill T ks else (u, x) :: rkill T ks

inductive Arg where
  | r (t : Nat)
  | k (v : Value)
  deriving Inhabited
def Arg.ev (T : Reg) : Arg → Option Value
  | .r t => rget T t
  | .k v => some v
def evs (T : Reg) : List Arg → Option (List Value)
  | [] => some []
  | a :: l => match a.ev T, evs T l with
    | some v, some vs => some (v :: vs)
    | _, _ => none

/-! ### operations: their operands stand apart -/
/-- What '==' looks at. -/
inductive CK where
  | int | bool | str
  deriving DecidableEq, Inhabited
inductive EqK where
  | bool | ptr | slice | iface | ifc
  | agg (ks : List CK)
  deriving Inhabited
inductive MOp where
  | mov
  | pick
  | new (es : Nat) (c : List Value)
  | newt (t : Nat) (c : List Value)
  | box
  | build (zero : List Value) (parts : List (Nat × Nat))
  | bslice (es len : Nat) (zero : List Value) (parts : List (Nat × Nat))
  | ld (sz : Option Nat)
  | st (sz : Nat)
  | nilck
  | bin (op : BinOp)
  | eqv (neg : Bool) (e : EqK)
  | un (op : UnOp)
  | conv (k : IntKind)
  | strb
  | fa (off : Nat)
  | fld (off : Nat) (sz : Option Nat)
  | ia (es : Nat)
  | iarr (n es : Nat)
  | idxs
  | idxa (n es : Nat) (sz : Option Nat)
  | sl (es : Nat) (lo hi mx : Bool)
  | slstr (lo hi : Bool)
  | mslice (es bytes : Nat) (zero : List Value)
  | extract (i : Nat)
  | len
  | lens
  | lenm
  | cap
  | app (es bytes : Nat)
  | appb (t bytes : Nat)
  | s2b
  | appz (es bytes : Nat) (zero : List Value)
  | copy (es : Nat)
  | clear (es : Nat) (zero : List Value)
  | minmax (isMax : Bool)
  | mkfunc (f : FuncId)
  | mkmap
  | look (zero : Value) (ok : Bool)
  | mset
  | mdel
  | mkchan (bytes : Nat)
  | call (f : FuncId)
  | callv
  | snd
  | rcv (zero : Value) (ok : Bool)
  | sel1 (send : Bool) (zero : Value) (blocking : Bool)
  deriving Inhabited

structure MOper where
  dst : Option Nat
  op : MOp
  args : List Arg
  guard : Option (Nat × Bool) := none
  kill : List Nat := []
  deriving Inhabited

inductive MCode where
  | skip
  | ops (l : List MOper)
  | draw (l : List MOper) (pairs : List (Nat × Nat))
  | seq (a b : MCode)
  | cond (c : Arg) (x y : MCode)
  | block (id : Nat) (c : MCode)
  | loop (c : MCode)
  | exit (id : Nat)
  | ret
  deriving Inhabited

/-! ### what operations yield -/
def natOf : Value → Option Int
  | .int _ n => some n
  | _ => none

/-- Parts laid over cells. -/
def fillAt (cells : List Value) (off : Nat) (c : List Value) : List Value := cells.take off ++ c ++ cells.drop (off + c.length)
def fillAll : List Value → List (Nat × Nat) → List Value → Option (List Value)
  | cells, [], [] => some cells
  | cells, (off, sz) :: ps, v :: vs => if v.cells.toList.length = sz ∧ off + sz ≤ cells.length then fillAll (fillAt cells off v.cells.toList) ps vs else none
  | _, _, _ => none

def mbin (op : BinOp) (x y : Value) : Option Value :=
  match x, y with
  | .int k a, .int k' b =>
    match op with
    | .shl => if b < 0 then none else some (.int k (k.wrap (a * 2 ^ (min b.toNat k.bits))))
    | .shr => if b < 0 then none else some (.int k (a.fdiv (2 ^ (min b.toNat k.bits))))
    | _ =>
      if k ≠ k' then none else
      match op with
      | .add => some (.int k (k.wrap (a + b)))
      | .sub => some (.int k (k.wrap (a - b)))
      | .mul => some (.int k (k.wrap (a * b)))
      | .quo => if b = 0 then none else some (.int k (k.wrap (a.tdiv b)))
      | .rem => if b = 0 then none else some (.int k (a.tmod b))
      | .and => some (.int k (k.wrap (BitVec.ofInt k.bits a &&& BitVec.ofInt k.bits b).toNat))
      | .or => some (.int k (k.wrap (BitVec.ofInt k.bits a ||| BitVec.ofInt k.bits b).toNat))
      | .xor => some (.int k (k.wrap (BitVec.ofInt k.bits a ^^^ BitVec.ofInt k.bits b).toNat))
      | .eql => some (.bool (a == b))
      | .neq => some (.bool (a != b))
      | .lss => some (.bool (a < b))
      | .leq => some (.bool (a ≤ b))
      | .gtr => some (.bool (a > b))
      | .geq => some (.bool (a ≥ b))
      | _ => none
  | .string a, .string b =>
    match op with
    | .add => if a.size + b.size ≤ 9223372036854775807 then some (.string (a ++ b)) else none
    | .eql => some (.bool (a.toList == b.toList))
    | .neq => some (.bool !(a.toList == b.toList))
    | .lss => some (.bool (Op.bytesLess a.toList b.toList))
    | .leq => some (.bool (Op.bytesLess a.toList b.toList || a.toList == b.toList))
    | .gtr => some (.bool !(Op.bytesLess a.toList b.toList || a.toList == b.toList))
    | .geq => some (.bool !(Op.bytesLess a.toList b.toList))
    | _ => none
  | _, _ => none

/-- Equality of cells: whole numbers, bools, strings. -/
def ceq : CK → Value → Value → Option Bool
  | .int, .int k a, .int k' b => if k = k' then some (a == b) else none
  | .bool, .bool a, .bool b => some (a == b)
  | .str, .string a, .string b => some (a == b)
  | _, _, _ => none
def ceqs : List CK → List Value → List Value → Option Bool
  | [], [], [] => some true
  | k :: ks, x :: xs, y :: ys => match ceq k x y, ceqs ks xs ys with
    | some a, some b => some (a && b)
    | _, _ => none
  | _, _, _ => none

def meq : EqK → Value → Value → Option Bool
  | .bool, .bool a, .bool b => some (a == b)
  | .ptr, .pointer none, .pointer b => some b.isNone
  | .ptr, .pointer (some _), .pointer none => some false
  | .slice, .slice none _ _, .slice b _ _ => some b.isNone
  | .slice, .slice (some _) _ _, .slice none _ _ => some false
  | .iface, .nilIface, .iface _ _ => some false
  | .iface, .iface _ _, .nilIface => some false
  | .agg ks, .agg xs, .agg ys => ceqs ks xs.toList ys.toList
  | .ifc, .nilIface, .nilIface => some true
  | .ifc, .nilIface, .iface _ _ => some false
  | .ifc, .iface _ _, .nilIface => some false
  | _, _, _ => none

def mmin1 (isMax : Bool) (k : IntKind) (x : Int) : List Value → Option Value
  | [] => some (.int k x)
  | .int k' y :: l => if k = k' then mmin1 isMax k (if isMax then (if y > x then y else x) else (if y < x then y else x)) l else none
  | _ => none
def mmin (isMax : Bool) : List Value → Option Value
  | .int k x :: l => mmin1 isMax k x l
  | _ => none

/-- What hangs on the operands alone. -/
def mpure (op : MOp) (vs : List Value) : Option Value :=
  match op, vs with
  | .mov, [v] => some v
  | .pick, [.bool t, a, b] => some (if t then a else b)
  | .build zero parts, vs => (fillAll zero parts vs).map fun c => .agg c.toArray
  | .nilck, [.pointer (some a)] => some (.pointer (some a))
  | .nilck, [.func (.func f) a b] => some (.func (.func f) a b)
  | .bin op, [x, y] => mbin op x y
  | .eqv neg e, [x, y] => (meq e x y).map fun b => .bool (if neg then !b else b)
  | .un .not, [.bool b] => some (.bool !b)
  | .un .neg, [.int k n] => some (.int k (k.wrap (0 - n)))
  | .conv k, [.int _ n] => some (.int k (k.wrap n))
  | .fa off, [.pointer (some ⟨b, o, none⟩)] => some (.pointer (some ⟨b, o + off, none⟩))
  | .fld off none, [.agg cs] => cs[off]?
  | .fld off (some n), [.agg cs] => if off + n ≤ cs.size then some (.agg (cs.extract off (off + n))) else none
  | .ia es, [.slice (some ⟨b, o, none⟩) len _, .int _ i] => if 0 ≤ i ∧ i < (len : Int) then some (.pointer (some ⟨b, o + i.toNat * es, none⟩)) else none
  | .iarr n es, [.pointer (some ⟨b, o, none⟩), .int _ i] => if 0 ≤ i ∧ i < (n : Int) then some (.pointer (some ⟨b, o + i.toNat * es, none⟩)) else none
  | .idxs, [.string s, .int _ i] => if 0 ≤ i then (s[i.toNat]?).map fun b => .int .u8 b.toNat else none
  | .idxa n es none, [.agg cs, .int _ i] => if 0 ≤ i ∧ i < (n : Int) then cs[i.toNat * es]? else none
  | .idxa n es (some sz), [.agg cs, .int _ i] => if 0 ≤ i ∧ i < (n : Int) ∧ i.toNat * es + sz ≤ cs.size then some (.agg (cs.extract (i.toNat * es) (i.toNat * es + sz))) else none
  | .slstr lo hi, .string s :: bs =>
    match lo, hi, bs with
    | true, true, [.int _ l, .int _ h] => if 0 ≤ l ∧ l ≤ h ∧ h ≤ (s.size : Int) then some (.string (s.extract l.toNat h.toNat)) else none
    | true, false, [.int _ l] => if 0 ≤ l ∧ l ≤ (s.size : Int) then some (.string (s.extract l.toNat s.size)) else none
    | false, true, [.int _ h] => if 0 ≤ h ∧ h ≤ (s.size : Int) then some (.string (s.extract 0 h.toNat)) else none
    | false, false, [] => some (.string (s.extract 0 s.size))
    | _, _, _ => none
  | .extract i, [.tuple ts] => ts[i]?
  | .len, [.slice _ n _] => some (.int .i64 n)
  | .lens, [.string s] => some (.int .i64 s.size)
  | .minmax m, vs => mmin m vs
  | .mkfunc f, vs => some (.func (.func f) #[] vs.toArray)
  | _, _ => none

def slBound (lo hi mx : Bool) (len cap : Nat) (bs : List Value) : Option (Nat × Nat × Nat) :=
  match lo, hi, mx, bs with
  | true, true, true, [.int _ l, .int _ h, .int _ m] => if 0 ≤ l ∧ l ≤ h ∧ h ≤ m ∧ m ≤ (cap : Int) then some (l.toNat, h.toNat, m.toNat) else none
  | true, true, false, [.int _ l, .int _ h] => if 0 ≤ l ∧ l ≤ h ∧ h ≤ (cap : Int) then some (l.toNat, h.toNat, cap) else none
  | true, false, false, [.int _ l] => if 0 ≤ l ∧ l ≤ (len : Int) then some (l.toNat, len, cap) else none
  | false, true, false, [.int _ h] => if 0 ≤ h ∧ h ≤ (cap : Int) then some (0, h.toNat, cap) else none
  | false, false, false, [] => some (0, len, cap)
  | _, _, _, _ => none

def mlook (k : Int) : List (Int × Value) → Option Value
  | [] => none
  | (j, v) :: l => if k = j then some v else mlook k l
def mupd (k : Int) (v : Value) : List (Int × Value) → List (Int × Value)
  | [] => [(k, v)]
  | (j, x) :: l => if k = j then (j, v) :: l else (j, x) :: mupd k v l
def mera (k : Int) : List (Int × Value) → List (Int × Value)
  | [] => []
  | (j, x) :: l => if k = j then l else (j, x) :: mera k l

/-- Bytes behind a string. -/
def strOf : ByteArray → List Value → Option ByteArray
  | s, [] => some s
  | s, .int .u8 n :: l => strOf (s.push (UInt8.ofNat n.toNat)) l
  | _, _ => none
/-- The bytes that a slice leads to. -/
def bytesAt (H : MH) : Option Addr → Nat → Option (List Value)
  | none, _ => some []
  | some ⟨b, o, none⟩, n => match H[b]? with
    | some (.cells _ c) => if o + n ≤ c.length then some ((c.drop o).take n) else none
    | _ => none
  | _, _ => none

/-- What looks at the heap. -/
def mread (op : MOp) (vs : List Value) (H : MH) : Option Value :=
  match op, vs with
  | .ld none, [.pointer (some ⟨b, o, none⟩)] =>
    match H[b]? with
    | some (.cells _ c) => match c[o]? with
      | some v => if isUnk v then none else some v
      | none => none
    | _ => none
  | .ld (some n), [.pointer (some ⟨b, o, none⟩)] =>
    match H[b]? with
    | some (.cells _ c) => if o + n ≤ c.length ∧ ((c.drop o).take n).all (fun v => !isUnk v) = true then some (.agg ((c.drop o).take n).toArray) else none
    | _ => none
  | .sl es lo hi mx, .slice none 0 0 :: bs =>
    match slBound lo hi mx 0 0 bs with
    | some _ => some (.slice none 0 0)
    | none => none
  | .sl es lo hi mx, .slice (some ⟨b, o, none⟩) len cap :: bs =>
    match H[b]? with
    | some (.cells i _) =>
      if i.es = es then
        match slBound lo hi mx len cap bs with
        | some (l, h, m) => some (.slice (some ⟨b, o + l * es, none⟩) (h - l) (m - l))
        | none => none
      else none
    | _ => none
  | .look zero ok, [.map none, .int .i64 _] => some (if ok then .tuple #[zero, .bool false] else zero)
  | .look zero ok, [.map (some b), .int .i64 k] =>
    match H[b]? with
    | some (.map es) =>
      match mlook k es with
      | some v => some (if ok then .tuple #[v, .bool true] else v)
      | none => some (if ok then .tuple #[zero, .bool false] else zero)
    | some (.rmap es) =>
      match mlook k es with
      | some v => some (if ok then .tuple #[v, .bool true] else v)
      | none => some (if ok then .tuple #[zero, .bool false] else zero)
    | _ => none
  | .strb, [.slice a n _] => match bytesAt H a n with
    | some l => (strOf .empty l).map .string
    | none => none
  | .lenm, [.map none] => some (.int .i64 0)
  | .lenm, [.map (some b)] => match H[b]? with
    | some (.map es) => some (.int .i64 es.length)
    | some (.rmap es) => some (.int .i64 es.length)
    | _ => none
  | .cap, [.slice none 0 0] => some (.int .i64 0)
  | .cap, [.slice (some ⟨b, _, none⟩) _ c] => match H[b]? with
    | some (.cells i _) => if i.ex = true then some (.int .i64 c) else none
    | _ => none
  | _, _ => none

/-- What makes ONE new object: the object, the value that leads to it. -/
def malloc (op : MOp) (vs : List Value) (b : Nat) : Option (MObj × Value) :=
  match op, vs with
  | .new es c, [] => some (.cells ⟨es, true, false⟩ c, .pointer (some ⟨b, 0, none⟩))
  | .newt t c, [] => some (.cells ⟨0, true, ⟨false, some t⟩⟩ c, .pointer (some ⟨b, 0, none⟩))
  | .box, [v] => if isUnk v then none else some (.cells ⟨0, true, false⟩ v.cells.toList, .pointer (some ⟨b, 0, none⟩))
  | .bslice es len zero parts, vs =>
    match fillAll (List.replicate len zero).flatten parts vs with
    | some c => if zero.length = es ∧ len * es ≤ 16777216 then some (.cells ⟨es, true, true⟩ c, .slice (some ⟨b, 0, none⟩) len len) else none
    | none => none
  | .mslice es bytes zero, [.int _ l, .int _ c] =>
    if 0 ≤ l ∧ l ≤ c ∧ c ≤ 1073741824 ∧ bytes ≤ 4096 ∧ zero.length = es then
      some (.cells ⟨es, true, true⟩ (List.replicate c.toNat zero).flatten, .slice (some ⟨b, 0, none⟩) l.toNat c.toNat) else none
  | .mkmap, [] => some (.map [], .map (some b))
  | .mkchan bytes, [.int _ n] => if 0 ≤ n ∧ n ≤ 1048576 ∧ bytes ≤ 4096 then some (.chan n.toNat [], .chan (some b)) else none
  | _, _ => none

/-- The cells of a slice, of a string's bytes. -/
def srcCells (es : Nat) (H : MH) : Value → Option (Nat × List Value)
  | .slice none _ _ => some (0, [])
  | .slice (some ⟨b, o, none⟩) n _ =>
    match H[b]? with
    | some (.cells _ c) => if o + n * es ≤ c.length then some (n, (c.drop o).take (n * es)) else none
    | _ => none
  | .string s => if es = 1 then some (s.size, s.data.toList.map fun b => .int .u8 b.toNat) else none
  | _ => none

/-- Appending; 'x': what is told of a new row. -/
def mapp (es bytes : Nat) (x : Exa) (vs : List Value) (H : MH) : Option (Value × MH) :=
  match vs with
  | [.slice none 0 0, y] =>
    match srcCells es H y with
    | some (n, c) =>
      if n = 0 then some (.slice none 0 0, H) else
      if n ≤ 4294967296 ∧ bytes ≤ 4096 then some (.slice (some ⟨H.length, 0, none⟩) n n, H ++ [.cells ⟨es, true, x⟩ c]) else none
    | none => none
  | [.slice (some ⟨b, o, none⟩) len cap, y] =>
    match srcCells es H y, H[b]? with
    | some (n, ys), some (.cells i c) =>
      if n = 0 then some (.slice (some ⟨b, o, none⟩) len cap, H) else
      if i.es = es ∧ len ≤ cap then
        if len + n ≤ cap then
          if i.rw = true ∧ o + (len + n) * es ≤ c.length ∧ okc ys = true then some (.slice (some ⟨b, o, none⟩) (len + n) cap, H.set b (.cells i (fillAt c (o + len * es) ys))) else none
        else if len + n ≤ 4294967296 ∧ bytes ≤ 4096 ∧ o + len * es ≤ c.length ∧ okc ys = true then
          if i.ex = true then some (.slice (some ⟨H.length, 0, none⟩) (len + n) (len + n), H ++ [.cells ⟨es, true, x⟩ ((c.drop o).take (len * es) ++ ys)])
          else if i.rw = true ∧ o + cap * es = c.length ∧ (x.el = none ∨ i.ex.el = x.el) then
            some (.slice (some ⟨H.length, 0, none⟩) (len + n) (len + n), H.set b .dead ++ [.cells ⟨es, true, x⟩ ((c.drop o).take (len * es) ++ ys)]) else none
        else none
      else none
    | _, _ => none
  | _ => none

/-- What writes (calls apart). -/
def meff (op : MOp) (vs : List Value) (H : MH) : Option (Value × MH) :=
  match op, vs with
  | .st sz, [.pointer (some ⟨b, o, none⟩), v] =>
    match H[b]? with
    | some (.cells i c) =>
      if i.rw = true ∧ v.cells.toList.length = sz ∧ o + sz ≤ c.length ∧ okc v.cells.toList = true then
        some (.tuple #[], H.set b (.cells i (fillAt c o v.cells.toList))) else none
    | _ => none
  | .app es bytes, vs => mapp es bytes false vs H
  | .appb t bytes, vs => mapp 1 bytes ⟨false, some t⟩ vs H
  | .s2b, [.string s] =>
    if s.size = 0 then none else some (.slice (some ⟨H.length, 0, none⟩) s.size s.size, H ++ [.cells ⟨1, true, false⟩ (s.data.toList.map fun b => .int .u8 b.toNat)])
  | .appz es bytes zero, [.slice (some ⟨b, o, none⟩) len cap, .int _ n] =>
    match H[b]? with
    | some (.cells i c) =>
      if 0 ≤ n ∧ i.es = es ∧ i.ex = true ∧ len ≤ cap ∧ cap < len + n.toNat ∧ len + n.toNat ≤ 4294967296 ∧ bytes ≤ 4096 ∧ o + len * es ≤ c.length ∧ zero.length = es then
        some (.slice (some ⟨H.length, 0, none⟩) (len + n.toNat) (len + n.toNat), H ++ [.cells ⟨es, true, false⟩ ((c.drop o).take (len * es) ++ (List.replicate n.toNat zero).flatten)])
      else none
    | _ => none
  | .copy es, [.slice a dl dc, y] =>
    match srcCells es H y with
    | some (sn, sc) =>
      let n := min sn dl
      if n = 0 then some (.int .i64 0, H) else
      match a with
      | some ⟨b, o, none⟩ =>
        match H[b]? with
        | some (.cells i c) =>
          if i.rw = true ∧ o + n * es ≤ c.length ∧ okc (sc.take (n * es)) = true then some (.int .i64 n, H.set b (.cells i (fillAt c o (sc.take (n * es))))) else none
        | _ => none
      | _ => none
    | none => none
  | .clear es zero, [.slice a n _] =>
    if n = 0 then some (.tuple #[], H) else
    match a with
    | some ⟨b, o, none⟩ =>
      match H[b]? with
      | some (.cells i c) =>
        if i.rw = true ∧ zero.length = es ∧ o + n * es ≤ c.length ∧ okc zero = true then some (.tuple #[], H.set b (.cells i (fillAt c o (List.replicate n zero).flatten))) else none
      | _ => none
    | _ => none
  | .mset, [.map (some b), .int .i64 k, v] =>
    match H[b]? with
    | some (.map es) => if isUnk v then none else some (.tuple #[], H.set b (.map (mupd k v es)))
    | _ => none
  | .mdel, [.map none, .int .i64 _] => some (.tuple #[], H)
  | .mdel, [.map (some b), .int .i64 k] =>
    match H[b]? with
    | some (.map es) => some (.tuple #[], H.set b (.map (mera k es)))
    | _ => none
  | .snd, [.chan (some b), v] =>
    match H[b]? with
    | some (.chan cap buf) => if buf.length < cap then some (.tuple #[], H.set b (.chan cap (buf ++ [v]))) else none
    | _ => none
  | .rcv _ ok, [.chan (some b)] =>
    match H[b]? with
    | some (.chan cap (v :: buf)) => some (if ok then .tuple #[v, .bool true] else v, H.set b (.chan cap buf))
    | _ => none
  | .sel1 true _ false, [.chan (some b), v] =>
    match H[b]? with
    | some (.chan cap buf) => if buf.length < cap then some (.tuple #[.int .i64 0, .bool false], H.set b (.chan cap (buf ++ [v])))
      else some (.tuple #[.int .i64 (-1), .bool false], H)
    | _ => none
  | _, _ => none

/-! ### kinds of operations -/
inductive Kind where
  | pure | read | alloc | eff | call | callv | comm
  deriving DecidableEq
def MOp.kind : MOp → Kind
  | .ld _ | .sl .. | .look .. | .lenm | .cap | .strb => .read
  | .new .. | .newt .. | .box | .bslice .. | .mslice .. | .mkmap | .mkchan _ => .alloc
  | .st _ | .app .. | .appb .. | .s2b | .appz .. | .copy _ | .clear .. | .mset | .mdel => .eff
  | .call _ => .call
  | .callv => .callv
  | .snd | .rcv .. | .sel1 .. => .comm
  | _ => .pure

abbrev CallF := FuncId → List Value → MH → Option (Value × MH)

/-- An operation; 'b': where a new object lies ('none': at the heap's end). -/
def mop (call : CallF) (op : MOp) (vs : List Value) (H : MH) (b : Option Nat) : Option (Value × MH) :=
  match op.kind with
  | .pure => match mpure op vs with
    | some v => some (v, H)
    | none => none
  | .read => match mread op vs H with
    | some v => some (v, H)
    | none => none
  | .alloc => match b with
    | none => match malloc op vs H.length with
      | some (o, v) => some (v, H ++ [o])
      | none => none
    | some b => match malloc op vs b with
      | some (o, v) => some (v, H.set b o)
      | none => none
  | .eff | .comm => meff op vs H
  | .call => match op with
    | .call f => call f vs H
    | _ => none
  | .callv => match vs with
    | .func (.func f) a c :: args => call f (a.toList ++ args ++ c.toList) H
    | _ => none

/-- Is it wanted? -/
def mwant (T : Reg) : Option (Nat × Bool) → Option Bool
  | none => some true
  | some (r, b) => match rget T r with
    | some (.bool x) => some (x == b)
    | some (.tuple _) => some false
    | _ => none

def mdst (T : Reg) (o : MOper) (v : Value) : Reg :=
  match o.dst with
  | some d => rkill (rput T d v) o.kill
  | none => rkill T o.kill

def mstep (call : CallF) (o : MOper) (T : Reg) (H : MH) (b : Option Nat) : Option (Reg × MH) :=
  match mwant T o.guard with
  | some true =>
    match evs T o.args with
    | some vs =>
      match mop call o.op vs H b with
      | some (v, H') => some (mdst T o v, H')
      | none => none
    | none => none
  | some false => some (mdst T o (.tuple #[]), H)
  | none => none

def mops (call : CallF) : List MOper → Reg → MH → Option (Reg × MH)
  | [], T, H => some (T, H)
  | o :: l, T, H => match mstep call o T H none with
    | some (T', H') => mops call l T' H'
    | none => none

/-! ### a region whose order is drawn: the states of a run in the text's order, then the checks -/
def nalloc : List MOper → Nat
  | [] => 0
  | o :: l => (if o.op.kind = .alloc then 1 else 0) + nalloc l
/-- The states ahead of each operation, and the last; 'b': the next place kept for a new object. -/
def mtrace (call : CallF) : List MOper → Nat → Reg → MH → Option (List (Reg × MH))
  | [], _, T, H => some [(T, H)]
  | o :: l, b, T, H =>
    match mstep call o T H (if o.op.kind = .alloc then some b else none) with
    | some (T', H') => match mtrace call l (if o.op.kind = .alloc then b + 1 else b) T' H' with
      | some tr => some ((T, H) :: tr)
      | none => none
    | none => none

/-- Equality of one-cell values and of rows of them, yes only where it is so. -/
def veq : Value → Value → Bool
  | .int k a, .int k' b => k == k' && a == b
  | .bool a, .bool b => a == b
  | .string a, .string b => a == b
  | .pointer a, .pointer b => a == b
  | .slice a l c, .slice b m d => a == b && l == m && c == d
  | .map a, .map b => a == b
  | .chan a, .chan b => a == b
  | .nilIface, .nilIface => true
  | .nilFunc, .nilFunc => true
  | _, _ => false
def veqs : List Value → List Value → Bool
  | [], [] => true
  | x :: xs, y :: ys => veq x y && veqs xs ys
  | _, _ => false
def veq1 (x y : Value) : Bool :=
  match x, y with
  | .agg a, .agg b => veqs a.toList b.toList
  | .tuple a, .tuple b => veqs a.toList b.toList
  | x, y => veq x y
def veqo : Option Value → Option Value → Bool
  | some x, some y => veq1 x y
  | _, _ => false
/-- Of objects: rows of cells alone. -/
def oeq : Option MObj → Option MObj → Bool
  | some (.cells i c), some (.cells j d) => i == j && veqs c d
  | some .dead, some .dead => true
  | some (.map []), some (.map []) => true
  | _, _ => false

/-- The place kept for the new object of operation i. -/
def allocAt : List MOper → Nat → Nat → Nat
  | [], b, _ => b
  | _ :: _, b, 0 => b
  | o :: l, b, i + 1 => allocAt l (if o.op.kind = .alloc then b + 1 else b) i

def argHas : List Arg → Nat → Bool
  | [], _ => false
  | .r t :: l, u => t == u || argHas l u
  | .k _ :: l, u => argHas l u
/-- Does operation k make the object that operation i is handed? -/
def feeds (l : List MOper) (k i : Nat) : Bool :=
  match l[k]?, l[i]? with
  | some a, some c => decide (a.op.kind = .alloc) && (match a.dst with | some t => argHas c.args t | none => false)
  | _, _ => false
/-- Ahead of operation j: does operation i read the same there, once the object that is made for it between is there? -/
def earlyOk (l : List MOper) (b : Nat) (tr : List (Reg × MH)) (j i : Nat) (op : MOp) (vs : List Value) (H Hj : MH) : Bool :=
  (List.range i).any fun k => decide (j < k) && feeds l k i && (match tr[k + 1]? with
    | some (_, H1) => (match H1[allocAt l b k]? with
      | some ob => veqo (mread op vs (Hj.set (allocAt l b k) ob)) (mread op vs H)
      | none => false)
    | none => false)

def pairOk (l : List MOper) (b : Nat) (tr : List (Reg × MH)) (ij : Nat × Nat) : Bool :=
  match l[ij.1]?, tr[ij.1]?, tr[ij.2]?, tr[ij.2 + 1]? with
  | some o, some (T, H), some (_, Hj), some (_, Hj') =>
    match o.op.kind with
    | .read =>
      match mwant T o.guard with
      | some true =>
        match evs T o.args with
        | some vs => veqo (mread o.op vs Hj) (mread o.op vs H) && veqo (mread o.op vs Hj') (mread o.op vs H) || earlyOk l b tr ij.2 ij.1 o.op vs H Hj
        | none => false
      | _ => true
    | .alloc =>
      if ij.1 < ij.2 then
        match tr[ij.1 + 1]? with
        | some (_, H1) => oeq Hj'[allocAt l b ij.1]? H1[allocAt l b ij.1]? && oeq Hj[allocAt l b ij.1]? H1[allocAt l b ij.1]?
        | none => false
      else oeq Hj'[allocAt l b ij.1]? (some .dead)
    | _ => false
  | _, _, _, _ => false

def mdraw (call : CallF) (l : List MOper) (pairs : List (Nat × Nat)) (T : Reg) (H : MH) : Option (Reg × MH) :=
  match mtrace call l H.length T (H ++ List.replicate (nalloc l) .dead) with
  | some tr => if pairs.all (pairOk l H.length tr) then tr.getLast? else none
  | none => none

/-! ### code -/
inductive MExit where
  | normal
  | exit (id : Nat)
  | ret
  deriving DecidableEq

def mloop (f : Reg → MH → Option (MExit × Reg × MH)) : Nat → Reg → MH → Option (MExit × Reg × MH)
  | 0, _, _ => none
  | k + 1, T, H => match f T H with
    | some (.normal, T', H') => mloop f k T' H'
    | r => r

def mcode (call : CallF) (k : Nat) : MCode → Reg → MH → Option (MExit × Reg × MH)
  | .skip, T, H => some (.normal, T, H)
  | .ops l, T, H => match mops call l T H with
    | some (T', H') => some (.normal, T', H')
    | none => none
  | .draw l ps, T, H => match mdraw call l ps T H with
    | some (T', H') => some (.normal, T', H')
    | none => none
  | .seq a b, T, H => match mcode call k a T H with
    | some (.normal, T', H') => mcode call k b T' H'
    | r => r
  | .cond c x y, T, H => match c.ev T with
    | some (.bool true) => mcode call k x T H
    | some (.bool false) => mcode call k y T H
    | _ => none
  | .block id c, T, H => match mcode call k c T H with
    | some (.exit id', T', H') => if id' = id then some (.normal, T', H') else some (.exit id', T', H')
    | r => r
  | .loop c, T, H => mloop (mcode call k c) k T H
  | .exit id, T, H => some (.exit id, T, H)
  | .ret, T, H => some (.ret, T, H)

/-- Where a result lies: a register, a variable that a register leads to. -/
inductive MRes where
  | tmp (t : Nat)
  | cell (t : Nat) (l : Option Nat)
  deriving Inhabited
structure MFn where
  results : List MRes
  body : MCode

inductive MDef where
  | code (f : MFn)
  | intr (s : List Value → MH → Option (Value × MH))

def initRegs : Nat → List Value → Reg
  | _, [] => []
  | n, v :: vs => (n, v) :: initRegs (n + 1) vs

def resV (T : Reg) (H : MH) : MRes → Option Value
  | .tmp t => rget T t
  | .cell t l => match rget T t with
    | some v => mread (.ld l) [v] H
    | none => none
def resVs (T : Reg) (H : MH) : List MRes → Option (List Value)
  | [] => some []
  | a :: l => match resV T H a, resVs T H l with
    | some v, some vs => some (v :: vs)
    | _, _ => none
def resOf (T : Reg) (H : MH) (l : List MRes) : Option Value :=
  match resVs T H l with
  | some [v] => some v
  | some vs => some (.tuple vs.toArray)
  | none => none

def mfn (call : CallF) (k : Nat) (f : MFn) (vs : List Value) (H : MH) : Option (Value × MH) :=
  match mcode call k f.body (initRegs 0 vs) H with
  | some (.exit _, _, _) => none
  | some (_, T, H') => match resOf T H' f.results with
    | some v => some (v, H')
    | none => none
  | none => none

def mcall (mp : FuncId → Option MDef) : Nat → CallF
  | 0, _, _, _ => none
  | k + 1, f, vs, H => match mp f with
    | some (.code fn) => mfn (mcall mp k) k fn vs H
    | some (.intr s) => s vs H
    | none => none

end Go.Mod
/- From loaded Go code to the model's code: a function that the kernel runs once for each Go function; where it answers, the model's reading is the machine's (proved behind). -/
set_option linter.unusedVariables false
namespace Go.Mod

def scalarV : Value → Bool
  | .bool _ | .int .. | .string _ | .pointer none | .slice none 0 0 | .map none | .chan none | .nilFunc | .nilIface => true
  | _ => false
def plainV : Value → Bool
  | .agg cs => cs.toList.all scalarV
  | v => scalarV v

def cArg : Operand → Option Arg
  | .tmp t => some (.r t)
  | .const v => if plainV v then some (.k v) else none
  | .func f => some (.k (.func (.func f) #[] #[]))
  | .global _ => none
def cArgs : List Operand → Option (List Arg)
  | [] => some []
  | x :: xs => match cArg x, cArgs xs with
    | some a, some as => some (a :: as)
    | _, _ => none

def szOf (P : Program) (t : TypeId) : Option Nat := (P.info? t).map (·.size)
def bytesOf' (P : Program) (t : TypeId) : Option Nat := (P.info? t).map (·.bytes)
def aggOf (P : Program) (t : TypeId) : Option Bool :=
  match P.underlying t with
  | some (.struct _) | some (.array ..) => some true
  | some _ => some false
  | none => none
/-- How a variable of a type is read: 'none': one cell. -/
def ldOf (P : Program) (t : TypeId) : Option (Option Nat) :=
  match aggOf P t, szOf P t with
  | some true, some n => some (some n)
  | some false, _ => some none
  | _, _ => none
def zeroOf (P : Program) (t : TypeId) : Option Value :=
  match (P.info? t).bind (·.zero) with
  | some z => if plainV z then some z else none
  | none => none

def placesOf (P : Program) (fs : Array Field) : List (Nat × Operand) → Option (List (Nat × Nat))
  | [] => some []
  | (i, _) :: ps => match fs[i]?, placesOf P fs ps with
    | some f, some l => match szOf P f.type with
      | some n => some ((f.offset, n) :: l)
      | none => none
    | _, _ => none
def rowPlaces (n : Nat) (ps : List (Nat × Operand)) : List (Nat × Nat) := ps.map fun p => (p.1 * n, n)

/-- A struct of one-cell fields that '==' compares cell by cell. -/
def cellK (P : Program) (t : TypeId) : Option CK :=
  match P.underlying t with
  | some (.int _) => some .int
  | some .bool => some .bool
  | some .string => some .str
  | _ => none
def fieldKs (P : Program) : Nat → List Field → Option (List CK)
  | _, [] => some []
  | i, f :: fs => if f.name != "_" && f.offset == i then match cellK P f.type, fieldKs P (i + 1) fs with
    | some k, some ks => some (k :: ks)
    | _, _ => none else none
def eqTy (P : Program) (t : TypeId) : Option EqK :=
  match P.underlying t with
  | some .bool => some .bool
  | some (.pointer _) => some .ptr
  | some (.slice _) => some .slice
  | some (.interface _) => some .iface
  | some (.struct fs) => if !P.stoodInHeld t && !P.eqGuardType P.depth t then (fieldKs P 0 fs.toList).map .agg else none
  | _ => none
/-- An interface value beside the word 'nil'. -/
def isC : Operand → Bool
  | .const _ => true
  | _ => false
def eqTyC (P : Program) (t : TypeId) (x y : Operand) : Option EqK :=
  match eqTy P t with
  | some .iface => if isC x || isC y then some .ifc else some .iface
  | e => e
def isIntStr (P : Program) (t : TypeId) : Bool :=
  match P.underlying t with
  | some (.int _) | some .string => true
  | _ => false

def isIntD : TypeDesc → Bool
  | .int _ => true
  | _ => false
def isU8D : Option TypeDesc → Bool
  | some (.int .u8) => true
  | _ => false
def cSlice (n : Nat) (x : Operand) (lo hi mx : Option Operand) : MOp × List Operand :=
  (.sl n lo.isSome hi.isSome mx.isSome, x :: (lo.toList ++ hi.toList ++ mx.toList))

def cBuiltin (P : Program) (b : Builtin) (c : Call) : Option (MOp × List Operand) :=
  let args := c.args.toList
  match b with
  | .len => match (c.argTypes[0]?).bind P.underlying with
    | some (.slice _) => some (.len, args)
    | some .string => some (.lens, args)
    | some (.map ..) => some (.lenm, args)
    | _ => none
  | .cap => match (c.argTypes[0]?).bind P.underlying with
    | some (.slice _) => some (.cap, args)
    | _ => none
  | .append => match (c.argTypes[0]?).bind P.underlying, (c.argTypes[1]?).bind P.underlying with
    | some (.slice e), some u => match isIntD u, szOf P e, bytesOf' P e, zeroOf P e with
      | false, some n, some b, some z => if args.length = 2 ∧ z.cells.toList.length = n then (if isU8D (P.underlying e) && n == 1 then some (.appb e b, args) else some (.app n b, args)) else none
      | true, some n, some b, some z => if args.length = 2 ∧ z.cells.toList.length = n then some (.appz n b z.cells.toList, args) else none
      | _, _, _, _ => none
    | _, _ => none
  | .copy => match (c.argTypes[0]?).bind P.underlying with
    | some (.slice e) => match szOf P e with
      | some n => if args.length = 2 then some (.copy n, args) else none
      | none => none
    | _ => none
  | .clear => match (c.argTypes[0]?).bind P.underlying with
    | some (.slice e) => match szOf P e, zeroOf P e with
      | some n, some z => if args.length = 1 then some (.clear n z.cells.toList, args) else none
      | _, _ => none
    | _ => none
  | .min => some (.minmax false, args)
  | .max => some (.minmax true, args)
  | .delete => match (c.argTypes[0]?).bind P.underlying with
    | some (.map k _) => match P.underlying k with
      | some (.int .i64) => if args.length = 2 then some (.mdel, args) else none
      | _ => none
    | _ => none
  | _ => none

/-- A strings.Builder's cells. -/
def isBld : List Value → Bool
  | [.pointer none, .slice none 0 0] => true
  | _ => false
def cOp (P : Program) (op : Op) : Option (MOp × List Operand) :=
  match op with
  | .move x | .assign x => some (.mov, [x])
  | .pick c a b => some (.pick, [c, a, b])
  | .alloc e => match zeroOf P e, P.underlying e with
    | some z, some (.array _ el) => (szOf P el).map fun n => (.new n z.cells.toList, [])
    | some z, some _ => if isBld z.cells.toList then some (.newt e z.cells.toList, []) else some (.new 0 z.cells.toList, [])
    | _, _ => none
  | .box _ x => some (.box, [x])
  | .build t parts => match zeroOf P t, P.underlying t with
    | some z, some (.struct fs) => if fs.toList.all (fun f => (szOf P f.type).isSome) then
        (placesOf P fs parts.toList).map fun l => (.build z.cells.toList l, parts.toList.map (·.2)) else none
    | some z, some (.array _ e) => (szOf P e).map fun n => (.build z.cells.toList (rowPlaces n parts.toList), parts.toList.map (·.2))
    | _, _ => none
  | .buildSlice t len parts => match P.underlying t with
    | some (.slice e) => match szOf P e, zeroOf P e with
      | some n, some z => some (.bslice n len z.cells.toList (rowPlaces n parts.toList), parts.toList.map (·.2))
      | _, _ => none
    | _ => none
  | .load t a => (ldOf P t).map fun l => (.ld l, [a])
  | .store t a x => (szOf P t).map fun n => (.st n, [a, x])
  | .nilCheck x => some (.nilck, [x])
  | .binOp op t x y _ => match op with
    | .eql => if isIntStr P t then some (.bin .eql, [x, y]) else (eqTyC P t x y).map fun e => (.eqv false e, [x, y])
    | .neq => if isIntStr P t then some (.bin .neq, [x, y]) else (eqTyC P t x y).map fun e => (.eqv true e, [x, y])
    | op => some (.bin op, [x, y])
  | .unOp op _ x => some (.un op, [x])
  | .convert src dst x => match P.underlying src, P.underlying dst with
    | some _, some (.int k) => some (.conv k, [x])
    | some (.slice e), some .string => match P.underlying e with
      | some (.int .u8) => some (.strb, [x])
      | _ => none
    | some .string, some (.slice e) => match P.underlying e with
      | some (.int .u8) => some (.s2b, [x])
      | _ => none
    | _, _ => none
  | .makeFunc (.func f) first captured => if first.isEmpty then some (.mkfunc f, captured.toList) else none
  | .makeMap _ none => some (.mkmap, [])
  | .makeChan t s => match P.underlying t with
    | some (.chan _ e) => (bytesOf' P e).map fun b => (.mkchan b, [s])
    | _ => none
  | .makeSlice t l c => match P.underlying t with
    | some (.slice e) => match szOf P e, bytesOf' P e, zeroOf P e with
      | some n, some b, some z => if n = 0 then none else some (.mslice n b z.cells.toList, [l, c])
      | _, _, _ => none
    | _ => none
  | .slice t x lo hi mx => match P.underlying t with
    | some (.slice e) => (szOf P e).map fun n => cSlice n x lo hi mx
    | some .string => if mx.isSome then none else some (.slstr lo.isSome hi.isSome, x :: (lo.toList ++ hi.toList))
    | _ => none
  | .fieldAddr t x f => match P.underlying t with
    | some (.struct fs) => match fs[f]? with
      | some f => match szOf P f.type with
        | some (_ + 1) => some (.fa f.offset, [x])
        | _ => none
      | none => none
    | _ => none
  | .field t x f => match P.underlying t with
    | some (.struct fs) => match fs[f]? with
      | some f => (ldOf P f.type).map fun l => (.fld f.offset l, [x])
      | none => none
    | _ => none
  | .indexAddr t x i => match P.underlying t with
    | some (.slice e) => (szOf P e).map fun n => (.ia n, [x, i])
    | some (.array k e) => (szOf P e).map fun n => (.iarr k n, [x, i])
    | _ => none
  | .index t x i => match P.underlying t with
    | some .string => some (.idxs, [x, i])
    | some (.array k e) => match szOf P e, ldOf P e with
      | some n, some l => some (.idxa k n l, [x, i])
      | _, _ => none
    | _ => none
  | .lookup t m k ok => match P.underlying t with
    | some (.map kt e) => match P.underlying kt, zeroOf P e with
      | some (.int .i64), some z => some (.look z ok, [m, k])
      | _, _ => none
    | _ => none
  | .mapUpdate t m k v => match P.underlying t with
    | some (.map kt _) => match P.underlying kt with
      | some (.int .i64) => some (.mset, [m, k, v])
      | _ => none
    | _ => none
  | .extract t i => some (.extract i, [t])
  | .call c => match c.callee with
    | .builtin b => cBuiltin P b c
    | .value (.func f) => some (.call f, c.args.toList)
    | .value x => some (.callv, x :: c.args.toList)
    | .invoke .. => none
  | .send ch x => some (.snd, [ch, x])
  | .recv t ch ok => match P.underlying t with
    | some (.chan _ e) => (zeroOf P e).map fun z => (.rcv z ok, [ch])
    | _ => none
  | .select cases blocking => match cases.toList with
    | [c] => match c.send, zeroOf P c.elem with
      | some x, some z => some (.sel1 true z blocking, [c.chan, x])
      | _, _ => none
    | _ => none
  | _ => none

def cGuard (ops : Array Oper) : Option (Nat × Bool) → Option (Option (Nat × Bool))
  | none => some none
  | some (j, b) => ((ops[j]?).bind (·.dst)).map fun r => some (r, b)
def cDst (n : Nat) : Option Nat → Bool
  | none => true
  | some d => d < n

def cOper (P : Program) (n : Nat) (ops : Array Oper) (o : Oper) : Option MOper :=
  match cOp P o.op, cGuard ops o.guard with
  | some (op, xs), some g => match cArgs xs with
    | some as => if cDst n o.dst then some { dst := o.dst, op, args := as, guard := g } else none
    | none => none
  | _, _ => none
def cOpers (P : Program) (n : Nat) (ops : Array Oper) : List Oper → Option (List MOper)
  | [] => some []
  | o :: l => match cOper P n ops o, cOpers P n ops l with
    | some m, some ms => some (m :: ms)
    | _, _ => none

/-! ### the order of a drawn region -/
def direct (o : Oper) : List Nat := (o.after.toList.filter (Region.binds .any)).map (·.on)
def addAll : List Nat → List Nat → List Nat
  | [], acc => acc
  | x :: xs, acc => addAll xs (if acc.elem x then acc else x :: acc)
/-- For each operation the operations that are surely ahead of it. -/
def ancOf (acc : List (List Nat)) (o : Oper) : List Nat := (direct o).foldl (fun l e => addAll (e :: acc.getD e []) l) []
def ancs : List Oper → List (List Nat) → List (List Nat)
  | [], acc => acc
  | o :: l, acc => ancs l (acc ++ [ancOf acc o])
def argRegs : List Arg → List Nat
  | [] => []
  | .r t :: l => t :: argRegs l
  | .k _ :: l => argRegs l
def uses (m : MOper) : List Nat := argRegs m.args ++ (match m.guard with | some (r, _) => [r] | none => []) ++ m.dst.toList
def clash (a b : MOper) : Bool := (match a.dst with | some d => (uses b).elem d | none => false) || (match b.dst with | some d => (uses a).elem d | none => false)
def isEff (m : MOper) : Bool := match m.op.kind with | .eff | .call | .callv | .comm => true | _ => false
def isRA (m : MOper) : Bool := match m.op.kind with | .read | .alloc => true | _ => false

/-- Operation j (number jn) behind operation i (number i): what must be ordered is. -/
def okPair (anc : List (List Nat)) (i : Nat) (a : MOper) (j : Nat) (b : MOper) : Bool :=
  (anc.getD j []).elem i || !(clash a b || (isEff a && isEff b))
def okLater (anc : List (List Nat)) (i : Nat) (a : MOper) : Nat → List MOper → Bool
  | _, [] => true
  | j, b :: l => okPair anc i a j b && okLater anc i a (j + 1) l
def okAll (anc : List (List Nat)) : Nat → List MOper → Bool
  | _, [] => true
  | i, a :: l => okLater anc i a (i + 1) l && okAll anc (i + 1) l
def edgesBack : Nat → List Oper → Bool
  | _, [] => true
  | i, o :: l => (direct o).all (· < i) && edgesBack (i + 1) l

/-- The pairs (i, j): i reads or allocates, j writes, neither surely ahead of the other. -/
def pairs1 (anc : List (List Nat)) (i : Nat) (a : MOper) : Nat → List MOper → List (Nat × Nat)
  | _, [] => []
  | j, b :: l => if isRA a && isEff b && i != j && !(anc.getD j []).elem i && !(anc.getD i []).elem j then (i, j) :: pairs1 anc i a (j + 1) l else pairs1 anc i a (j + 1) l
def pairsAll (anc : List (List Nat)) (all : List MOper) : Nat → List MOper → List (Nat × Nat)
  | _, [] => []
  | i, a :: l => pairs1 anc i a 0 all ++ pairsAll anc all (i + 1) l

def cDraw (P : Program) (n : Nat) (ops : Array Oper) : Option (List MOper × List (Nat × Nat)) :=
  match cOpers P n ops ops.toList with
  | some l =>
    let anc := ancs ops.toList []
    if edgesBack 0 ops.toList && okAll anc 0 l then some (l, pairsAll anc l 0 l) else none
  | none => none

def cCode (P : Program) (n : Nat) : Code → Option MCode
  | .skip | .label _ => some .skip
  | .region _ ops false => (cOpers P n ops ops.toList).map .ops
  | .region _ ops true => (cDraw P n ops).map fun p => .draw p.1 p.2
  | .seq a b => match cCode P n a, cCode P n b with
    | some x, some y => some (.seq x y)
    | _, _ => none
  | .cond c a b => match cArg c, cCode P n a, cCode P n b with
    | some c, some x, some y => some (.cond c x y)
    | _, _, _ => none
  | .block id c => (cCode P n c).map (.block id)
  | .loop c => (cCode P n c).map .loop
  | .scope c => cCode P n c
  | .exit id => some (.exit id)
  | .ret => some .ret
  | _ => none

def cRes (P : Program) : List ResultVar → Option (List MRes)
  | [] => some []
  | .tmp t :: l => (cRes P l).map (.tmp t :: ·)
  | .cell t ty :: l => match ldOf P ty, cRes P l with
    | some z, some rs => some (.cell t z :: rs)
    | _, _ => none

/-- A function that the model may call: its text, under a name that the machine gives no meaning of its own. -/
def cFn (P : Program) (f : FuncId) : Option MFn :=
  match P.funcs[f]? with
  | some fn => match fn.body with
    | some c => if fn.name == "runtime.NumGoroutine" then none else
      match cRes P fn.results.toList, cCode P fn.ntmps c with
      | some rs, some b => some { results := rs, body := b }
      | _, _ => none
    | none => none
  | none => none

/-! ### without the words on what is forgotten -/
def MOper.bare (o : MOper) : MOper := { o with kill := [] }
def MCode.bare : MCode → MCode
  | .ops l => .ops (l.map MOper.bare)
  | .draw l ps => .draw (l.map MOper.bare) ps
  | .seq a b => .seq a.bare b.bare
  | .cond c x y => .cond c x.bare y.bare
  | .block id c => .block id c.bare
  | .loop c => .loop c.bare
  | c => c
def MFn.bare (f : MFn) : MFn := { f with body := f.body.bare }

end Go.Mod
/- What a model's value, object and heap have to do with the machine's; operations that hang on their operands alone. -/
set_option linter.unusedVariables false
set_option linter.unusedSimpArgs false
namespace Go.Mod

/-- Where a model's object lies: block, first cell, how many cells may be used, the size of an element, is each slice's capacity told. -/
structure Place where
  block : Nat
  base : Nat
  room : Nat
  es : Nat
  ex : Exa

abbrev Ren := Nat → Option Place

inductive VRel (φ : Ren) : Value → Value → Prop
  | bool (b : Bool) : VRel φ (.bool b) (.bool b)
  | int (k : IntKind) (n : Int) : VRel φ (.int k n) (.int k n)
  | string (s : ByteArray) : VRel φ (.string s) (.string s)
  | ptr0 : VRel φ (.pointer none) (.pointer none)
  | ptr {id o : Nat} {pl : Place} (h : φ id = some pl) : VRel φ (.pointer (some ⟨id, o, none⟩)) (.pointer (some ⟨pl.block, pl.base + o, none⟩))
  | slice0 : VRel φ (.slice none 0 0) (.slice none 0 0)
  | slice {id o n c c' b' : Nat} {pl : Place} (h : φ id = some pl) (hn : n ≤ c) (hc : c ≤ c') (hex : pl.ex = true → c' = c) (hroom : o + c' * pl.es ≤ pl.room) (ha : 0 < c' → b' = pl.base + o) :
      VRel φ (.slice (some ⟨id, o, none⟩) n c) (.slice (some ⟨pl.block, b', none⟩) n c')
  | slicee {id o : Nat} {a : Addr} : VRel φ (.slice (some ⟨id, o, none⟩) 0 0) (.slice (some a) 0 0)
  | map0 : VRel φ (.map none) (.map none)
  | map {id : Nat} {pl : Place} (h : φ id = some pl) : VRel φ (.map (some id)) (.map (some pl.block))
  | chan0 : VRel φ (.chan none) (.chan none)
  | chan {id : Nat} {pl : Place} (h : φ id = some pl) : VRel φ (.chan (some id)) (.chan (some pl.block))
  | func (fn : Fn) {a a' c c' : Array Value} (ha : a.size = a'.size) (hc : c.size = c'.size)
      (h : ∀ (i : Nat) (x x' : Value), a[i]? = some x → a'[i]? = some x' → VRel φ x x') (g : ∀ (i : Nat) (x x' : Value), c[i]? = some x → c'[i]? = some x' → VRel φ x x') : VRel φ (.func fn a c) (.func fn a' c')
  | nilFunc : VRel φ .nilFunc .nilFunc
  | nilIface : VRel φ .nilIface .nilIface
  | iface (t : TypeId) {v v' : Value} (h : VRel φ v v') : VRel φ (.iface t v) (.iface t v')
  | agg {a a' : Array Value} (ha : a.size = a'.size) (h : ∀ (i : Nat) (x x' : Value), a[i]? = some x → a'[i]? = some x' → VRel φ x x') : VRel φ (.agg a) (.agg a')
  | tuple {a a' : Array Value} (ha : a.size = a'.size) (h : ∀ (i : Nat) (x x' : Value), a[i]? = some x → a'[i]? = some x' → VRel φ x x') : VRel φ (.tuple a) (.tuple a')

def Ren.le (φ ψ : Ren) : Prop := ∀ id pl, φ id = some pl → ψ id = some pl
theorem Ren.le.refl (φ : Ren) : φ.le φ := fun _ _ h => h
theorem Ren.le.trans {φ ψ χ : Ren} (h : φ.le ψ) (g : ψ.le χ) : φ.le χ := fun i p e => g i p (h i p e)

theorem VRel.mono {φ ψ : Ren} (hle : φ.le ψ) {v v' : Value} (h : VRel φ v v') : VRel ψ v v' := by
  induction h with
  | bool b => exact .bool b
  | int k n => exact .int k n
  | string s => exact .string s
  | ptr0 => exact .ptr0
  | ptr h => exact .ptr (hle _ _ h)
  | slice0 => exact .slice0
  | slice h hn hc hex hroom ha => exact .slice (hle _ _ h) hn hc hex hroom ha
  | slicee => exact .slicee
  | map0 => exact .map0
  | map h => exact .map (hle _ _ h)
  | chan0 => exact .chan0
  | chan h => exact .chan (hle _ _ h)
  | func fn ha hc h g ih ig => exact .func fn ha hc ih ig
  | nilFunc => exact .nilFunc
  | nilIface => exact .nilIface
  | iface t h ih => exact .iface t ih
  | agg ha h ih => exact .agg ha ih
  | tuple ha h ih => exact .tuple ha ih

theorem VRel.notUnk {φ : Ren} {v v' : Value} (h : VRel φ v v') : isUnk v = false := by cases h <;> rfl
theorem VRel.flat {φ : Ren} {v v' : Value} (h : VRel φ v v') : flat v' = flat v := by cases h <;> rfl

/-- Rows of values, pairwise. -/
inductive Rels (R : Value → Value → Prop) : List Value → List Value → Prop
  | nil : Rels R [] []
  | cons {x y : Value} {xs ys : List Value} (h : R x y) (t : Rels R xs ys) : Rels R (x :: xs) (y :: ys)

theorem Rels.imp {R S : Value → Value → Prop} (f : ∀ x y, R x y → S x y) {xs ys : List Value} (h : Rels R xs ys) : Rels S xs ys := by
  induction h with
  | nil => exact .nil
  | cons h t ih => exact .cons (f _ _ h) ih
theorem Rels.length {R : Value → Value → Prop} {xs ys : List Value} (h : Rels R xs ys) : ys.length = xs.length := by
  induction h with
  | nil => rfl
  | cons h t ih => simp [ih]
theorem Rels.get {R : Value → Value → Prop} {xs ys : List Value} (h : Rels R xs ys) : ∀ (i : Nat) (x : Value), xs[i]? = some x → ∃ y, ys[i]? = some y ∧ R x y := by
  induction h with
  | nil => intro i x hx; simp at hx
  | cons h t ih =>
    intro i x hx
    cases i with
    | zero => simp at hx; subst hx; exact ⟨_, by simp, h⟩
    | succ i => simp at hx; obtain ⟨y, hy, hr⟩ := ih i x hx; exact ⟨y, by simpa using hy, hr⟩
theorem Rels.of_get {R : Value → Value → Prop} : ∀ {xs ys : List Value}, ys.length = xs.length → (∀ (i : Nat) (x y : Value), xs[i]? = some x → ys[i]? = some y → R x y) → Rels R xs ys
  | [], [], _, _ => .nil
  | [], _ :: _, h, _ => by simp at h
  | _ :: _, [], h, _ => by simp at h
  | x :: xs, y :: ys, h, g => .cons (g 0 x y (by simp) (by simp)) (Rels.of_get (by simpa using h) fun i a b ha hb => g (i + 1) a b (by simpa using ha) (by simpa using hb))
theorem Rels.append {R : Value → Value → Prop} {xs ys xs' ys' : List Value} (h : Rels R xs ys) (g : Rels R xs' ys') : Rels R (xs ++ xs') (ys ++ ys') := by
  induction h with
  | nil => exact g
  | cons h t ih => exact .cons h ih
theorem Rels.take {R : Value → Value → Prop} (n : Nat) {xs ys : List Value} (h : Rels R xs ys) : Rels R (xs.take n) (ys.take n) := by
  induction h generalizing n with
  | nil => simp; exact .nil
  | cons h t ih => cases n with
    | zero => exact .nil
    | succ n => exact .cons h (ih n)
theorem Rels.drop {R : Value → Value → Prop} (n : Nat) {xs ys : List Value} (h : Rels R xs ys) : Rels R (xs.drop n) (ys.drop n) := by
  induction h generalizing n with
  | nil => simp; exact .nil
  | cons h t ih => cases n with
    | zero => exact .cons h t
    | succ n => exact ih n
theorem Rels.refl {R : Value → Value → Prop} : ∀ {xs : List Value}, (∀ x ∈ xs, R x x) → Rels R xs xs
  | [], _ => .nil
  | x :: xs, h => .cons (h x (by simp)) (Rels.refl fun y hy => h y (by simp [hy]))

theorem VRel.rels {φ : Ren} {a a' : Array Value} (hs : a.size = a'.size) (h : ∀ (i : Nat) (x x' : Value), a[i]? = some x → a'[i]? = some x' → VRel φ x x') : Rels (VRel φ) a.toList a'.toList :=
  Rels.of_get (by simp [hs]) fun i x y hx hy => h i x y (by simpa using hx) (by simpa using hy)
theorem VRel.agg_of {φ : Ren} {xs ys : List Value} (h : Rels (VRel φ) xs ys) : VRel φ (.agg xs.toArray) (.agg ys.toArray) :=
  .agg (by simp [h.length]) fun i x x' hx hx' => by
    simp at hx hx'
    obtain ⟨y, hy, hr⟩ := h.get i x hx
    rw [hy] at hx'; cases hx'; exact hr
theorem VRel.tuple_of {φ : Ren} {xs ys : List Value} (h : Rels (VRel φ) xs ys) : VRel φ (.tuple xs.toArray) (.tuple ys.toArray) :=
  .tuple (by simp [h.length]) fun i x x' hx hx' => by
    simp at hx hx'
    obtain ⟨y, hy, hr⟩ := h.get i x hx
    rw [hy] at hx'; cases hx'; exact hr
/-- The cells of related values are related. -/
theorem VRel.cells {φ : Ren} {v v' : Value} (h : VRel φ v v') : Rels (VRel φ) v.cells.toList v'.cells.toList := by
  cases h with
  | agg ha h => exact VRel.rels ha h
  | tuple ha h => exact .cons (.tuple ha h) .nil
  | bool b => exact .cons (.bool b) .nil
  | int k n => exact .cons (.int k n) .nil
  | string s => exact .cons (.string s) .nil
  | ptr0 => exact .cons .ptr0 .nil
  | ptr h => exact .cons (.ptr h) .nil
  | slice0 => exact .cons .slice0 .nil
  | slice h hn hc hex hroom ha => exact .cons (.slice h hn hc hex hroom ha) .nil
  | slicee => exact .cons .slicee .nil
  | map0 => exact .cons .map0 .nil
  | map h => exact .cons (.map h) .nil
  | chan0 => exact .cons .chan0 .nil
  | chan h => exact .cons (.chan h) .nil
  | func fn ha hc h g => exact .cons (.func fn ha hc h g) .nil
  | nilFunc => exact .cons .nilFunc .nil
  | nilIface => exact .cons .nilIface .nil
  | iface t h => exact .cons (.iface t h) .nil

theorem VRel.scalar {φ : Ren} {v : Value} (h : scalarV v = true) : VRel φ v v := by
  unfold scalarV at h
  split at h <;> first | (constructor; done) | exact VRel.bool _ | exact VRel.int _ _ | exact VRel.string _ | simp at h
theorem VRel.plain {φ : Ren} {v : Value} (h : plainV v = true) : VRel φ v v := by
  unfold plainV at h
  split at h
  · rename_i cs
    refine .agg rfl fun i x x' hx hx' => ?_
    rw [hx] at hx'; cases hx'
    exact VRel.scalar (List.all_eq_true.1 h x (by rw [Array.mem_toList_iff]; exact Array.mem_of_getElem? hx))
  · exact VRel.scalar h
theorem VRel.undef {φ : Ren} : VRel φ (.tuple #[]) undef := .tuple rfl fun i x x' hx _ => by simp at hx

/-- A cell's content, where something is known of it. -/
def CRel (φ : Ren) (c v : Value) : Prop := isUnk c = true ∨ VRel φ c v
theorem CRel.mono {φ ψ : Ren} (hle : φ.le ψ) {c v : Value} (h : CRel φ c v) : CRel ψ c v := h.imp id (VRel.mono hle)

/-- The operands. -/
theorem cArgs_length : ∀ {xs : List Operand} {as : List Arg}, cArgs xs = some as → as.length = xs.length
  | [], as, h => by simp [cArgs] at h; subst h; rfl
  | x :: xs, as, h => by
    simp only [cArgs] at h
    split at h
    · rename_i a as' ha has
      cases h
      simp [cArgs_length has]
    · cases h

end Go.Mod
/- Operations that hang on their operands alone: where the model answers, the machine answers alike. -/
set_option linter.unusedVariables false
set_option linter.unusedSimpArgs false
namespace Go.Mod

section
variable {P : Program} {o : Oper} {ρ : Operand → Value} {w : World} {φ : Ren}

/-- What an operation comes to: a value, the world as it was. -/
def Yields (P : Program) (o : Oper) (ρ : Operand → Value) (w : World) (φ : Ren) (v : Value) : Prop :=
  ∃ v', (execOp ρ o).run P w = .ok (.value v') w ∧ VRel φ v v'

theorem rels1 {R : Value → Value → Prop} {xs : List Value} {y : Value} (h : Rels R xs [y]) : ∃ x, xs = [x] ∧ R x y := by
  cases h with | cons h t => cases t; exact ⟨_, rfl, h⟩
theorem rels2 {R : Value → Value → Prop} {xs : List Value} {y z : Value} (h : Rels R xs [y, z]) : ∃ x u, xs = [x, u] ∧ R x y ∧ R u z := by
  cases h with | cons h t => obtain ⟨u, rfl, hu⟩ := rels1 t; exact ⟨_, _, rfl, h, hu⟩
theorem rels3 {R : Value → Value → Prop} {xs : List Value} {y z a : Value} (h : Rels R xs [y, z, a]) : ∃ x u b, xs = [x, u, b] ∧ R x y ∧ R u z ∧ R b a := by
  cases h with | cons h t => obtain ⟨u, b, rfl, hu, hb⟩ := rels2 t; exact ⟨_, _, _, rfl, h, hu, hb⟩

theorem mbin_sim {op : BinOp} {a b v : Value} {a' b' : Value} {t : TypeId} {x y : Operand} (ha : VRel φ a a') (hb : VRel φ b b') (h : mbin op a b = some v) :
    ∃ v', (do eqGuard op t x y a' b'; binOp op t a' b' : Sem Value).run P w = .ok v' w ∧ VRel φ v v' := by
  unfold mbin at h
  split at h
  · rename_i k m k' n
    cases ha; cases hb
    have hg : (eqGuard op t x y (.int k m) (.int k' n)).run P w = .ok () w := by
      unfold eqGuard; split <;> rfl
    rw [Sem.run_bind, hg]
    simp only [Result.andThen_ok]
    split at h
    · split at h <;> first | (cases h; done) | skip
      rename_i hn
      cases h
      exact ⟨_, by simp [binOp, Op.shift, hn], .int ..⟩
    · split at h <;> first | (cases h; done) | skip
      rename_i hn
      cases h
      exact ⟨_, by simp [binOp, Op.shift, hn], .int ..⟩
    · rename_i h1 h2
      split at h
      · cases h
      · rename_i hk
        have hk : k = k' := by simpa using hk
        subst hk
        split at h <;> first
          | (cases h; exact ⟨_, by simp [binOp, Op.intArith, Op.intBits, Op.intCmp]; rfl, by constructor⟩)
          | (split at h <;> first | (cases h; done) | (rename_i hz; cases h; exact ⟨_, by simp [binOp, Op.intDiv, hz]; rfl, by constructor⟩))
          | (cases h; done)
  · rename_i s u
    cases ha; cases hb
    have hg : (eqGuard op t x y (.string s) (.string u)).run P w = .ok () w := by
      unfold eqGuard; split <;> rfl
    rw [Sem.run_bind, hg]
    simp only [Result.andThen_ok]
    split at h <;> first
      | (cases h; exact ⟨_, rfl, by constructor⟩)
      | (split at h <;> first | (cases h; done) | (rename_i hz; cases h; refine ⟨_, ?_, .string _⟩; simp only [binOp, Op.stringOp]; rw [if_neg (by simp only [show IntKind.i64.max = 9223372036854775807 from by decide]; omega)]; rfl))
      | (cases h; done)
  · cases h

theorem ceq_sim {d : Nat} {t : TypeId} {k : CK} {a b a' b' : Value} {r : Bool} (ht : cellK P t = some k) (ha : VRel φ a a') (hb : VRel φ b b') (h : ceq k a b = some r) :
    (Op.equalIn (d + 1) t a' b').run P w = .ok r w := by
  unfold cellK at ht
  unfold ceq at h
  split at h
  · split at h <;> first | (cases h; done) | skip
    rename_i k m k' n hk
    cases h; cases ha; cases hb; subst hk
    split at ht <;> first | (cases ht; done) | skip
    rename_i hu
    simp [Op.equalIn, underlying, hu]
  · cases h; cases ha; cases hb
    split at ht <;> first | (cases ht; done) | skip
    rename_i hu
    simp [Op.equalIn, underlying, hu]
  · cases h; cases ha; cases hb
    split at ht <;> first | (cases ht; done) | skip
    rename_i hu
    simp [Op.equalIn, underlying, hu]
  · cases h

theorem part_cell {t : TypeId} {ck : CK} (ht : cellK P t = some ck) {cs : Array Value} {i : Nat} {x : Value} (hx : cs[i]? = some x) : (part t cs i).run P w = .ok x w := by
  unfold cellK at ht
  split at ht <;> first | (cases ht; done) | skip
  all_goals
    rename_i hu
    simp [part, isAgg, underlying, hu, hx]

theorem ceqs_sim {d : Nat} {xs ys : Array Value} {xs' ys' : List Value} : ∀ (fs : List Field) (i : Nat) (ks : List CK) (r : Bool), fieldKs P i fs = some ks →
    Rels (VRel φ) (xs'.drop i) (xs.toList.drop i) → Rels (VRel φ) (ys'.drop i) (ys.toList.drop i) → ceqs ks (xs'.drop i) (ys'.drop i) = some r →
    (Op.eqFields (d + 1) xs ys fs).run P w = .ok r w
  | [], i, ks, r, hk, hx, hy, h => by
    simp only [fieldKs] at hk; cases hk
    unfold ceqs at h
    split at h <;> first | (cases h; done) | (rename_i h1 _; cases h1; done) | skip
    · cases h; simp [Op.eqFields]
    · simp at *
  | f :: fs, i, ks, r, hk, hx, hy, h => by
    simp only [fieldKs] at hk
    split at hk <;> first | (cases hk; done) | skip
    rename_i hn
    have hn := Bool.and_eq_true_iff.1 hn
    have hname : f.name ≠ "_" := by simpa using hn.1
    have hoff : f.offset = i := by simpa using hn.2
    split at hk <;> first | (cases hk; done) | skip
    rename_i k ks' hck hks
    cases hk
    unfold ceqs at h
    split at h <;> first | (cases h; done) | (rename_i h1 _ _; cases h1; done) | skip
    rename_i k0 ks0 x0 xs0 y0 ys0 hk0 hxs hys
    cases hk0
    split at h <;> first | (cases h; done) | skip
    rename_i a b ha hb
    cases h
    rw [hxs] at hx; rw [hys] at hy
    generalize hX : xs.toList.drop i = X at hx
    generalize hY : ys.toList.drop i = Y at hy
    cases hx with
    | cons rx tx =>
    rename_i x1 X1
    cases hy with
    | cons ry ty =>
    rename_i y1 Y1
    have ex : xs[i]? = some x1 := by
      have := congrArg (fun l => l[0]?) hX
      simpa using this
    have ey : ys[i]? = some y1 := by
      have := congrArg (fun l => l[0]?) hY
      simpa using this
    have hX1 : xs.toList.drop (i + 1) = X1 := by
      have := congrArg (List.drop 1) hX
      simpa [List.drop_drop, Nat.add_comm] using this
    have hY1 : ys.toList.drop (i + 1) = Y1 := by
      have := congrArg (List.drop 1) hY
      simpa [List.drop_drop, Nat.add_comm] using this
    have hxs1 : xs'.drop (i + 1) = xs0 := by
      have := congrArg (List.drop 1) hxs
      simpa [List.drop_drop, Nat.add_comm] using this
    have hys1 : ys'.drop (i + 1) = ys0 := by
      have := congrArg (List.drop 1) hys
      simpa [List.drop_drop, Nat.add_comm] using this
    have ih := ceqs_sim (d := d) (xs := xs) (ys := ys) (xs' := xs') (ys' := ys') fs (i + 1) ks' b hks (by rw [hX1, hxs1]; exact tx) (by rw [hY1, hys1]; exact ty) (by rw [hxs1, hys1]; exact hb)
    simp only [Op.eqFields, hoff]
    rw [if_pos hname]
    simp only [Sem.run_bind, part_cell hck ex, part_cell hck ey, Result.andThen_ok, ceq_sim hck rx ry ha]
    cases a
    · simp
    · simpa using ih

theorem meq_sim' (d : Nat) {e : EqK} {t : TypeId} {a b a' b' : Value} {r : Bool} (ht : eqTy P t = some e) (ha : VRel φ a a') (hb : VRel φ b b') (h : meq e a b = some r) :
    (Op.equalIn (d + 2) t a' b').run P w = .ok r w := by
  unfold eqTy at ht
  split at ht
  · rename_i hu; cases ht
    unfold meq at h; split at h <;> first | (cases h; done) | skip
    all_goals first | (rename_i he _ _; cases he; done) | (rename_i he; cases he; done) | skip
    cases h; cases ha; cases hb
    simp only [Op.equalIn, Sem.run_bind, run_underlying hu, Result.andThen_ok, Sem.run_pure]
  · rename_i hu; cases ht
    unfold meq at h; split at h <;> first | (cases h; done) | skip
    all_goals first | contradiction | (cases h; cases ha <;> cases hb <;> (unfold Op.equalIn; rw [Sem.run_bind, run_underlying hu]; rfl))
  · rename_i hu; cases ht
    unfold meq at h; split at h <;> first | (cases h; done) | skip
    all_goals first | contradiction | (cases h; cases ha <;> cases hb <;> (unfold Op.equalIn; rw [Sem.run_bind, run_underlying hu]; rfl))
  · rename_i hu; cases ht
    unfold meq at h; split at h <;> first | (cases h; done) | skip
    all_goals first | contradiction | (cases h; cases ha <;> cases hb <;> (unfold Op.equalIn; rw [Sem.run_bind, run_underlying hu]; rfl))
  · rename_i fs hu
    split at ht <;> first | (cases ht; done) | skip
    rename_i hg
    have hg := Bool.and_eq_true_iff.1 hg
    cases hk : fieldKs P 0 fs.toList with
    | none => simp [hk] at ht
    | some ks =>
      simp [hk] at ht; subst ht
      unfold meq at h; split at h <;> first | (cases h; done) | skip
      all_goals first | (rename_i he; cases he; done) | skip
      rename_i he; cases he
      cases ha with
      | agg sa ha =>
      cases hb with
      | agg sb hb =>
      have hf : P.fieldsOf t = fs := by simp [Program.fieldsOf, hu]
      rw [run_equalIn_struct w _ t _ _ (by rw [hf]; exact hu) (by simpa using hg.1), hf]
      exact ceqs_sim fs.toList 0 ks r hk (by simpa using VRel.rels sa ha) (by simpa using VRel.rels sb hb) (by simpa using h)
  · cases ht

theorem meq_sim {e : EqK} {t : TypeId} {a b a' b' : Value} {r : Bool} (ht : eqTy P t = some e) (ha : VRel φ a a') (hb : VRel φ b b') (h : meq e a b = some r) :
    (Op.equal t a' b').run P w = .ok r w := meq_sim' 9998 ht ha hb h

theorem eqTy_ne {t : TypeId} : eqTy P t ≠ some .ifc := by
  intro he
  unfold eqTy at he
  split at he <;> first | (cases he; done) | skip
  split at he <;> first | (cases he; done) | skip
  obtain ⟨ks, _, hk⟩ := Option.map_eq_some_iff.1 he
  cases hk
theorem eqGuard_ok {e : EqK} {op : BinOp} {t : TypeId} {x y : Operand} {a b a' b' : Value} {r : Bool} (ht : eqTy P t = some e) (ha : VRel φ a a') (hb : VRel φ b b') (h : meq e a b = some r) :
    (eqGuard op t x y a' b').run P w = .ok () w := by
  have key : (match a', b' with
      | .nilIface, .nilIface => False
      | .agg _, .agg _ => P.eqGuardType P.depth t = false
      | _, _ => True) := by
    unfold meq at h
    split at h <;> first | (cases h; done) | (exact absurd ht eqTy_ne) | skip
    case h_8 ks xs ys =>
      cases ha; cases hb
      unfold eqTy at ht
      split at ht <;> first | (cases ht; done) | skip
      split at ht <;> first | (cases ht; done) | skip
      rename_i hg
      have hg := Bool.and_eq_true_iff.1 hg
      have hg2 : P.eqGuardType P.depth t = false := by simpa using hg.2
      simp [hg2]
    all_goals (cases ha <;> cases hb <;> trivial)
  unfold eqGuard
  cases op <;> first
    | rfl
    | (rw [if_neg (by simp)]
       split
       · exact key.elim
       · simp only [] at key
         simp [key]
       · rfl)

theorem eqTyC_cases {t : TypeId} {e : EqK} {x y : Operand} (h : eqTyC P t x y = some e) : eqTy P t = some e ∨ (e = .ifc ∧ (∃ ms, P.underlying t = some (.interface ms)) ∧ (isC x || isC y) = true) := by
  unfold eqTyC at h
  split at h
  · rename_i he
    split at h
    · rename_i hc
      cases h
      refine .inr ⟨rfl, ?_, hc⟩
      unfold eqTy at he
      split at he <;> first | (cases he; done) | skip
      · rename_i ms hu; exact ⟨ms, hu⟩
      · split at he <;> first | (cases he; done) | skip
        obtain ⟨ks, _, hk⟩ := Option.map_eq_some_iff.1 he
        cases hk
    · cases h; exact .inl he
  · exact .inl h
theorem meqC_sim {e : EqK} {t : TypeId} {x y : Operand} {a b a' b' : Value} {r : Bool} (ht : eqTyC P t x y = some e) (ha : VRel φ a a') (hb : VRel φ b b') (h : meq e a b = some r) :
    (Op.equal t a' b').run P w = .ok r w := by
  rcases eqTyC_cases ht with ht | ⟨rfl, ⟨ms, hu⟩, _⟩
  · exact meq_sim ht ha hb h
  · unfold meq at h; split at h <;> first | (cases h; done) | skip
    all_goals first | contradiction | (cases h; cases ha <;> cases hb <;> (show (Op.equalIn (9998 + 2) t _ _).run P w = _; unfold Op.equalIn; rw [Sem.run_bind, run_underlying hu]; rfl))
theorem eqGuardC_ok {e : EqK} {op : BinOp} {t : TypeId} {x y : Operand} {a b a' b' : Value} {r : Bool} (ht : eqTyC P t x y = some e) (ha : VRel φ a a') (hb : VRel φ b b') (h : meq e a b = some r) :
    (eqGuard op t x y a' b').run P w = .ok () w := by
  rcases eqTyC_cases ht with ht | ⟨rfl, ⟨ms, hu⟩, hc⟩
  · exact eqGuard_ok ht ha hb h
  · unfold meq at h; split at h <;> first | (cases h; done) | skip
    all_goals first | contradiction | skip
    all_goals
      cases ha; cases hb
      cases op <;> cases x <;> cases y <;> first
        | (simp [isC] at hc; done)
        | rfl

theorem mmin1_sim {m : Bool} {k : IntKind} : ∀ {l : List Value} {l' : List Value} {x : Int} {v : Value}, Rels (VRel φ) l l' → mmin1 m k x l = some v →
    ∃ n, v = .int k n ∧ ((l'.foldlM (if m then Builtin.max2 else Builtin.min2) (.int k x) : Sem Value)).run P w = .ok (.int k n) w
  | [], l', x, v, hl, h => by
    cases hl; simp only [mmin1] at h; cases h
    exact ⟨x, rfl, by simp⟩
  | y :: l, l', x, v, hl, h => by
    cases hl with
    | cons hy ht =>
    unfold mmin1 at h
    split at h
    · rename_i heq; cases heq
    · rename_i k' n l0 heq
      cases heq
      cases hy
      split at h <;> first | (cases h; done) | skip
      rename_i hk
      subst hk
      obtain ⟨r, hr, hrun⟩ := mmin1_sim ht h
      refine ⟨r, hr, ?_⟩
      cases m
      · simp only [Bool.false_eq_true, if_false] at hrun ⊢
        simp only [List.foldlM_cons, Sem.run_bind, Builtin.min2, Sem.run_pure, Result.andThen_ok]
        exact hrun
      · simp only [if_true] at hrun ⊢
        simp only [List.foldlM_cons, Sem.run_bind, Builtin.max2, Sem.run_pure, Result.andThen_ok]
        exact hrun
    · cases h
end
end Go.Mod
/- Operations that hang on their operands alone, joined. -/
set_option linter.unusedVariables false
set_option linter.unusedSimpArgs false
namespace Go.Mod

theorem foldl_fill (off : Nat) : ∀ (l : List Value) (k : Nat) (cs : Array Value), off + k + l.length ≤ cs.size →
    ((l.zipIdx k).foldl (fun (cs : Array Value) (p : Value × Nat) => cs.setIfInBounds (off + p.2) p.1) cs).toList = cs.toList.take (off + k) ++ l ++ cs.toList.drop (off + k + l.length)
  | [], k, cs, h => by simp
  | x :: l, k, cs, h => by
    simp only [List.length_cons] at h
    rw [List.zipIdx_cons, List.foldl_cons, foldl_fill off l (k + 1) _ (by simp; omega)]
    simp only [Array.toList_setIfInBounds, List.length_cons]
    have h1 : List.take (off + (k + 1)) (cs.toList.set (off + k) x) = List.take (off + k) cs.toList ++ [x] := by
      rw [show off + (k + 1) = off + k + 1 by omega, List.take_add_one]
      rw [List.take_set_of_le (by omega)]
      rw [List.getElem?_set_self (by simp; omega)]
      rfl
    have h2 : List.drop (off + (k + 1) + l.length) (cs.toList.set (off + k) x) = List.drop (off + k + (l.length + 1)) cs.toList := by
      rw [List.drop_set_of_lt (by omega)]
      congr 1; omega
    rw [h1, h2]; simp

theorem fill_sim {φ : Ren} {ρ : Operand → Value} {place : Nat → Option (Nat × Nat)} : ∀ (ps : List (Nat × Operand)) (l : List (Nat × Nat)) (vs cells c : List Value) (cells' : Array Value),
    (l.length = ps.length) → (∀ (i : Nat) p q, ps[i]? = some p → l[i]? = some q → place p.1 = some q) →
    Rels (VRel φ) vs (ps.map (fun p => ρ p.2)) → Rels (VRel φ) cells cells'.toList → fillAll cells l vs = some c →
    ∃ c', Instr.fill place cells' (ps.map fun p => (p.1, ρ p.2)) = some c' ∧ Rels (VRel φ) c c'.toList
  | [], l, vs, cells, c, cells', hl, hp, hv, hc, h => by
    cases l with
    | cons => simp at hl
    | nil =>
      cases hv
      simp only [fillAll] at h; cases h
      exact ⟨cells', by simp [Instr.fill], hc⟩
  | p :: ps, l, vs, cells, c, cells', hl, hp, hv, hc, h => by
    cases l with
    | nil => simp at hl
    | cons q l =>
      obtain ⟨off, sz⟩ := q
      simp only [List.map_cons] at hv
      cases hv with
      | cons rv tv =>
      rename_i v vs
      simp only [fillAll] at h
      split at h <;> first | (cases h; done) | skip
      rename_i hcond
      have hcells := rv.cells
      have hlen : (ρ p.2).cells.size = sz := by
        have := hcells.length; simp only [Array.length_toList] at this; rw [this]; exact hcond.1
      have hsz : cells'.size = cells.length := by have := hc.length; simpa using this
      obtain ⟨c', h1, h2⟩ := fill_sim ps l vs (fillAt cells off v.cells.toList) c ⟨fillAt cells'.toList off (ρ p.2).cells.toList⟩ (by simpa using hl)
        (fun i a b ha hb => hp (i + 1) a b (by simpa using ha) (by simpa using hb)) tv
        (by unfold fillAt; rw [hcells.length]; exact ((hc.take _).append hcells).append (hc.drop _)) h
      refine ⟨c', ?_, h2⟩
      simp only [List.map_cons, Instr.fill, hp 0 p (off, sz) (by simp) (by simp)]
      rw [if_neg (by simp only [hlen, ne_eq, not_true_eq_false, decide_false, Bool.false_or, decide_eq_true_eq]; omega)]
      have hf := foldl_fill off (ρ p.2).cells.toList 0 cells' (by simp only [Array.length_toList]; omega)
      rw [show ((ρ p.2).cells.zipIdx.foldl (fun cs (x : Value × Nat) => cs.setIfInBounds (off + x.2) x.1) cells') = ⟨fillAt cells'.toList off (ρ p.2).cells.toList⟩ from ?_]
      · exact h1
      · apply Array.ext'
        rw [← Array.foldl_toList, Array.toList_zipIdx, hf]
        simp [fillAt]

section
variable {P : Program} {o : Oper} {ρ : Operand → Value} {w : World} {φ : Ren}

theorem zeroOf_sim {t : TypeId} {z : Value} (h : zeroOf P t = some z) : (zeroValue t).run P w = .ok z w ∧ VRel φ z z := by
  unfold zeroOf at h
  split at h <;> first | (cases h; done) | skip
  rename_i z0 hz
  split at h <;> first | (cases h; done) | skip
  rename_i hp
  cases h
  cases hi : P.info? t with
  | none => simp [hi] at hz
  | some i =>
    simp [hi] at hz
    exact ⟨by simp [zeroValue, typeInfo, hi, hz], VRel.plain hp⟩

theorem szOf_sim {t : TypeId} {n : Nat} (h : szOf P t = some n) : (sizeOf t).run P w = .ok n w := by
  unfold szOf at h
  cases hi : P.info? t with
  | none => simp [hi] at h
  | some i => simp [hi] at h; simp [sizeOf, typeInfo, hi, h]

theorem bytesOf_sim {t : TypeId} {n : Nat} (h : bytesOf' P t = some n) : ∃ i, (typeInfo t).run P w = .ok i w ∧ i.bytes = n := by
  unfold bytesOf' at h
  cases hi : P.info? t with
  | none => simp [hi] at h
  | some i => simp [hi] at h; exact ⟨i, by simp [typeInfo, hi], h⟩

theorem aggOf_sim {t : TypeId} {b : Bool} (h : aggOf P t = some b) : (isAgg t).run P w = .ok b w := by
  unfold aggOf at h
  split at h <;> first | (cases h; done) | skip
  · cases h; rename_i hu; simp [isAgg, underlying, hu]
  · cases h; rename_i hu; simp [isAgg, underlying, hu]
  · cases h
    rename_i d hn1 hn2 hu
    simp only [isAgg, Sem.run_bind, run_underlying hu, Result.andThen_ok]
    rfl

theorem ldOf_cases {t : TypeId} {l : Option Nat} (h : ldOf P t = some l) : (l = none ∧ aggOf P t = some false) ∨ (∃ n, l = some n ∧ aggOf P t = some true ∧ szOf P t = some n) := by
  unfold ldOf at h
  split at h <;> first | (cases h; done) | skip
  · cases h; rename_i ha hs; exact .inr ⟨_, rfl, ha, hs⟩
  · cases h; rename_i ha; exact .inl ⟨rfl, ha⟩

theorem part_none {t : TypeId} {cs : Array Value} {i : Nat} {x : Value} (ht : ldOf P t = some none) (hx : cs[i]? = some x) : (part t cs i).run P w = .ok x w := by
  rcases ldOf_cases ht with ⟨_, ha⟩ | ⟨n, h, _⟩
  · simp [part, aggOf_sim ha, hx]
  · cases h
theorem part_some {t : TypeId} {cs : Array Value} {i n : Nat} (ht : ldOf P t = some (some n)) : (part t cs i).run P w = .ok (.agg (cs.extract i (i + n))) w := by
  rcases ldOf_cases ht with ⟨h, _⟩ | ⟨m, h, ha, hs⟩
  · cases h
  · cases h; simp [part, aggOf_sim ha, szOf_sim hs]

theorem VRel.extract {φ : Ren} {a a' : Array Value} (hs : a.size = a'.size) (h : ∀ (i : Nat) (x x' : Value), a[i]? = some x → a'[i]? = some x' → VRel φ x x') (m n : Nat) :
    VRel φ (.agg (a.extract m n)) (.agg (a'.extract m n)) :=
  .agg (by simp [hs]) fun i x x' hx hx' => by
    rw [Array.getElem?_extract] at hx hx'
    split at hx <;> first | (cases hx; done) | skip
    split at hx' <;> first | (cases hx'; done) | skip
    exact h _ _ _ hx hx'
theorem VRel.at {φ : Ren} {a a' : Array Value} (hs : a.size = a'.size) (h : ∀ (i : Nat) (x x' : Value), a[i]? = some x → a'[i]? = some x' → VRel φ x x') {i : Nat} {v : Value} (hv : a[i]? = some v) :
    ∃ v', a'[i]? = some v' ∧ VRel φ v v' := by
  have hi := (Array.getElem?_eq_some_iff.1 hv).1
  exact ⟨a'[i]'(by omega), by rw [Array.getElem?_eq_getElem], h i _ _ hv (by rw [Array.getElem?_eq_getElem])⟩

theorem Addr.add_eq (b o n : Nat) : (⟨b, o, none⟩ : Addr).add n = ⟨b, o + n, none⟩ := by
  unfold Addr.add; split
  · subst_vars; rfl
  · rfl
end
end Go.Mod
/- Operations that hang on their operands alone, case by case. -/
set_option linter.unusedVariables false
set_option linter.unusedSimpArgs false
namespace Go.Mod

section
variable {P : Program} {o : Oper} {ρ : Operand → Value} {w : World} {φ : Ren} {vs : List Value} {v : Value}

theorem pick_sim {c a b : Operand} (ho : o.op = .pick c a b) (hr : Rels (VRel φ) vs ([c, a, b].map ρ)) (hm : mpure .pick vs = some v) : Yields P o ρ w φ v := by
  obtain ⟨x, y, z, rfl, hx, hy, hz⟩ := rels3 hr
  unfold mpure at hm
  split at hm <;> first | contradiction | skip
  rename_i t a' b' _ heq
  cases heq
  cases hm
  generalize hc : ρ c = c' at hx
  cases hx with
  | bool t =>
  refine ⟨if t then ρ a else ρ b, ?_, ?_⟩
  · simp [execOp, ho, hc, asBool]
  · cases t <;> simp [hy, hz]

theorem nilck_sim {x : Operand} (ho : o.op = .nilCheck x) (hr : Rels (VRel φ) vs ([x].map ρ)) (hm : mpure .nilck vs = some v) : Yields P o ρ w φ v := by
  obtain ⟨x, rfl, hx⟩ := rels1 hr
  unfold mpure at hm
  split at hm <;> first | contradiction | skip
  · rename_i heq
    cases heq; cases hm
    generalize hv : ρ _ = v' at hx
    cases hx with
    | ptr h => exact ⟨_, by simp [execOp, ho, hv], .ptr h⟩
  · rename_i heq
    cases heq; cases hm
    generalize hv : ρ _ = v' at hx
    cases hx with
    | func fn ha hc h g => exact ⟨_, by simp [execOp, ho, hv], .func _ ha hc h g⟩

theorem bin_sim {op : BinOp} {t u : TypeId} {x y : Operand} (ho : o.op = .binOp op t x y u) (hr : Rels (VRel φ) vs ([x, y].map ρ)) (hm : mpure (.bin op) vs = some v) : Yields P o ρ w φ v := by
  obtain ⟨a, b, rfl, ha, hb⟩ := rels2 hr
  simp only [mpure] at hm
  obtain ⟨v', h1, h2⟩ := mbin_sim (P := P) (w := w) (t := t) (x := x) (y := y) ha hb hm
  refine ⟨v', ?_, h2⟩
  simp only [execOp, ho]
  rw [Sem.run_bind, h1]; rfl

theorem eqv_sim {op : BinOp} {t u : TypeId} {x y : Operand} {e : EqK} {neg : Bool} (ho : o.op = .binOp op t x y u) (hop : op = if neg then .neq else .eql) (hi : isIntStr P t = false) (he : eqTyC P t x y = some e)
    (hr : Rels (VRel φ) vs ([x, y].map ρ)) (hm : mpure (.eqv neg e) vs = some v) : Yields P o ρ w φ v := by
  obtain ⟨a, b, rfl, ha, hb⟩ := rels2 hr
  simp only [mpure] at hm
  cases hq : meq e a b with
  | none => simp [hq] at hm
  | some r =>
    simp [hq] at hm
    subst hm
    have h1 := eqGuardC_ok (w := w) (op := op) (x := x) (y := y) he ha hb hq
    have h2 := meqC_sim (w := w) he ha hb hq
    have hns : (∀ k k' m n, ¬ (ρ x = .int k m ∧ ρ y = .int k' n)) ∧ (∀ s u, ¬ (ρ x = .string s ∧ ρ y = .string u)) ∧ (∀ k a k' b, ¬ (ρ x = .float k a ∧ ρ y = .float k' b)) ∧ (∀ k a c k' b d, ¬ (ρ x = .complex k a c ∧ ρ y = .complex k' b d)) := by
      unfold meq at hq
      split at hq <;> first | (cases hq; done) | skip
      all_goals (generalize ρ x = a' at ha; generalize ρ y = b' at hb; cases ha <;> cases hb <;> simp)
    refine ⟨.bool (if neg then !r else r), ?_, ?_⟩
    · simp only [execOp, ho]
      rw [Sem.run_bind, Sem.run_bind, h1]
      simp only [Result.andThen_ok]
      have hb : (binOp op t (ρ x) (ρ y)).run P w = .ok (.bool (if neg then !r else r)) w := by
        generalize hX : ρ x = X at *
        generalize hY : ρ y = Y at *
        cases neg
        · simp only [Bool.false_eq_true, if_false] at hop; subst hop
          unfold binOp
          split <;> first
            | (exfalso; exact hns.1 _ _ _ _ ⟨rfl, rfl⟩)
            | (exfalso; exact hns.2.1 _ _ ⟨rfl, rfl⟩)
            | (exfalso; exact hns.2.2.1 _ _ _ _ ⟨rfl, rfl⟩)
            | (exfalso; exact hns.2.2.2 _ _ _ _ _ _ ⟨rfl, rfl⟩)
            | (simp [h2]; done)
            | contradiction
            | (exfalso; exact (‹BinOp.eql = BinOp.eql → False› rfl))
        · simp only [if_true] at hop; subst hop
          unfold binOp
          split <;> first
            | (exfalso; exact hns.1 _ _ _ _ ⟨rfl, rfl⟩)
            | (exfalso; exact hns.2.1 _ _ ⟨rfl, rfl⟩)
            | (exfalso; exact hns.2.2.1 _ _ _ _ ⟨rfl, rfl⟩)
            | (exfalso; exact hns.2.2.2 _ _ _ _ _ _ ⟨rfl, rfl⟩)
            | (simp [h2]; done)
            | contradiction
            | (exfalso; exact (‹BinOp.neq = BinOp.neq → False› rfl))
      rw [hb]; rfl
    · cases neg <;> simp <;> exact .bool _

theorem un_sim {op : UnOp} {t : TypeId} {x : Operand} (ho : o.op = .unOp op t x) (hr : Rels (VRel φ) vs ([x].map ρ)) (hm : mpure (.un op) vs = some v) : Yields P o ρ w φ v := by
  obtain ⟨a, rfl, ha⟩ := rels1 hr
  unfold mpure at hm
  split at hm <;> first | contradiction | skip
  · rename_i h1 h2; cases h1; cases h2; cases hm
    generalize hv : ρ _ = v' at ha; cases ha
    exact ⟨_, by simp [execOp, ho, hv, Op.unary], .bool _⟩
  · rename_i h1 h2; cases h1; cases h2; cases hm
    generalize hv : ρ _ = v' at ha; cases ha
    exact ⟨_, by simp [execOp, ho, hv, Op.unary, Op.intArith], .int ..⟩

theorem conv_sim {s d : TypeId} {ds : TypeDesc} {k : IntKind} {x : Operand} (ho : o.op = .convert s d x) (hs : P.underlying s = some ds) (hd : P.underlying d = some (.int k)) (hr : Rels (VRel φ) vs ([x].map ρ)) (hm : mpure (.conv k) vs = some v) : Yields P o ρ w φ v := by
  obtain ⟨a, rfl, ha⟩ := rels1 hr
  unfold mpure at hm
  split at hm <;> first | contradiction | skip
  rename_i h1 h2; cases h1; cases h2; cases hm
  generalize hv : ρ _ = v' at ha; cases ha
  refine ⟨_, ?_, .int ..⟩
  simp only [execOp, ho, hv]
  rw [Sem.run_bind]
  unfold convert
  simp only [Sem.run_bind, run_underlying hs, run_underlying hd, Result.andThen_ok]
  rfl

theorem fa_sim {t : TypeId} {x : Operand} {i n : Nat} {fs : Array Field} {f : Field} (ho : o.op = .fieldAddr t x i) (ht : P.underlying t = some (.struct fs)) (hf : fs[i]? = some f) (hs : szOf P f.type = some (n + 1))
    (hr : Rels (VRel φ) vs ([x].map ρ)) (hm : mpure (.fa f.offset) vs = some v) : Yields P o ρ w φ v := by
  obtain ⟨a, rfl, ha⟩ := rels1 hr
  unfold mpure at hm
  split at hm <;> first | contradiction | skip
  rename_i h1 h2; cases h1; cases h2; cases hm
  generalize hv : ρ _ = v' at ha
  cases ha with
  | ptr h =>
  refine ⟨_, ?_, .ptr h⟩
  simp [execOp, ho, hv, Instr.fieldAt, run_underlying ht, hf, Instr.sureAddr, fieldPlace, szOf_sim hs, Addr.add_eq, Nat.add_assoc]

theorem fld_sim {t : TypeId} {x : Operand} {i : Nat} {l : Option Nat} {fs : Array Field} {f : Field} (ho : o.op = .field t x i) (ht : P.underlying t = some (.struct fs)) (hf : fs[i]? = some f) (hl : ldOf P f.type = some l)
    (hr : Rels (VRel φ) vs ([x].map ρ)) (hm : mpure (.fld f.offset l) vs = some v) : Yields P o ρ w φ v := by
  obtain ⟨a, rfl, ha⟩ := rels1 hr
  unfold mpure at hm
  split at hm <;> first | contradiction | skip
  · rename_i h1 h2; cases h1; cases h2
    generalize hv : ρ _ = v' at ha
    cases ha with
    | agg hs h =>
    obtain ⟨y, hy, hrel⟩ := VRel.at hs h hm
    exact ⟨y, by simp [execOp, ho, hv, Instr.field, run_underlying ht, hf, asAgg, part_none hl hy], hrel⟩
  · rename_i h1 h2; cases h1; cases h2
    split at hm <;> first | contradiction | skip
    cases hm
    generalize hv : ρ _ = v' at ha
    cases ha with
    | agg hs h =>
    exact ⟨_, by simp [execOp, ho, hv, Instr.field, run_underlying ht, hf, asAgg, part_some hl], VRel.extract hs h _ _⟩

theorem ia_sim {t e : TypeId} {x i : Operand} {n : Nat} (ho : o.op = .indexAddr t x i) (ht : P.underlying t = some (.slice e)) (hs : szOf P e = some n)
    (hr : Rels (VRel φ) vs ([x, i].map ρ)) (hm : mpure (.ia n) vs = some v) : Yields P o ρ w φ v := by
  obtain ⟨a, b, rfl, ha, hb⟩ := rels2 hr
  unfold mpure at hm
  split at hm <;> first | contradiction | skip
  rename_i h1 h2; cases h1; cases h2
  split at hm <;> first | contradiction | skip
  rename_i hc
  cases hm
  generalize hv : ρ x = v' at ha
  generalize hu : ρ i = u' at hb
  cases hb
  cases ha with
  | slicee => omega
  | slice h hn hcc hex hroom haa =>
  have hb' := haa (by omega)
  subst hb'
  refine ⟨_, ?_, .ptr h⟩
  simp [execOp, ho, hv, hu, Instr.indexAt, asIntOf, run_underlying ht, hc, szOf_sim hs, Addr.add_eq, Nat.add_assoc]

theorem iarr_sim {t e : TypeId} {x i : Operand} {n k : Nat} (ho : o.op = .indexAddr t x i) (ht : P.underlying t = some (.array k e)) (hs : szOf P e = some n)
    (hr : Rels (VRel φ) vs ([x, i].map ρ)) (hm : mpure (.iarr k n) vs = some v) : Yields P o ρ w φ v := by
  obtain ⟨a, b, rfl, ha, hb⟩ := rels2 hr
  unfold mpure at hm
  split at hm <;> first | contradiction | skip
  rename_i h1 h2; cases h1; cases h2
  split at hm <;> first | contradiction | skip
  rename_i hc
  cases hm
  generalize hv : ρ x = v' at ha
  generalize hu : ρ i = u' at hb
  cases hb
  cases ha with
  | ptr h =>
  refine ⟨_, ?_, .ptr h⟩
  simp [execOp, ho, hv, hu, Instr.indexAt, asIntOf, run_underlying ht, hc, szOf_sim hs, Addr.add_eq, Nat.add_assoc, Instr.sureAddr]

theorem idxs_sim {t : TypeId} {x i : Operand} (ho : o.op = .index t x i) (ht : P.underlying t = some .string)
    (hr : Rels (VRel φ) vs ([x, i].map ρ)) (hm : mpure .idxs vs = some v) : Yields P o ρ w φ v := by
  obtain ⟨a, b, rfl, ha, hb⟩ := rels2 hr
  unfold mpure at hm
  split at hm <;> first | contradiction | skip
  rename_i heq; cases heq
  split at hm <;> first | contradiction | skip
  rename_i s k n _ hc
  generalize hv : ρ x = v' at ha
  generalize hu : ρ i = u' at hb
  cases hb; cases ha
  cases hg : s[n.toNat]? with
  | none => simp [hg] at hm
  | some b =>
    simp [hg] at hm; subst hm
    exact ⟨_, by simp [execOp, ho, hv, hu, Instr.index, asIntOf, run_underlying ht, hc, hg], .int ..⟩

theorem idxa_sim {t e : TypeId} {x i : Operand} {n k : Nat} {l : Option Nat} (ho : o.op = .index t x i) (ht : P.underlying t = some (.array k e)) (hs : szOf P e = some n) (hl : ldOf P e = some l)
    (hr : Rels (VRel φ) vs ([x, i].map ρ)) (hm : mpure (.idxa k n l) vs = some v) : Yields P o ρ w φ v := by
  obtain ⟨a, b, rfl, ha, hb⟩ := rels2 hr
  unfold mpure at hm
  split at hm <;> first | contradiction | skip
  · rename_i h1 h2; cases h1; cases h2
    split at hm <;> first | contradiction | skip
    rename_i hc
    generalize hv : ρ x = v' at ha
    generalize hu : ρ i = u' at hb
    cases hb
    cases ha with
    | agg hs' h =>
    obtain ⟨y, hy, hrel⟩ := VRel.at hs' h hm
    exact ⟨y, by simp [execOp, ho, hv, hu, Instr.index, asIntOf, run_underlying ht, hc, szOf_sim hs, part_none hl hy], hrel⟩
  · rename_i h1 h2; cases h1; cases h2
    split at hm <;> first | contradiction | skip
    rename_i hc
    cases hm
    generalize hv : ρ x = v' at ha
    generalize hu : ρ i = u' at hb
    cases hb
    cases ha with
    | agg hs' h =>
    exact ⟨_, by simp [execOp, ho, hv, hu, Instr.index, asIntOf, run_underlying ht, hc, szOf_sim hs, part_some hl], VRel.extract hs' h _ _⟩

theorem extract_sim {x : Operand} {i : Nat} (ho : o.op = .extract x i) (hr : Rels (VRel φ) vs ([x].map ρ)) (hm : mpure (.extract i) vs = some v) : Yields P o ρ w φ v := by
  obtain ⟨a, rfl, ha⟩ := rels1 hr
  unfold mpure at hm
  split at hm <;> first | contradiction | skip
  rename_i h1 h2; cases h1; cases h2
  generalize hv : ρ _ = v' at ha
  cases ha with
  | tuple hs h =>
  obtain ⟨y, hy, hrel⟩ := VRel.at hs h hm
  exact ⟨y, by simp [execOp, ho, hv, Instr.extract, hy], hrel⟩

theorem mpure_mkfunc (f : FuncId) (vs : List Value) : mpure (.mkfunc f) vs = some (.func (.func f) #[] vs.toArray) := by
  rcases vs with _ | ⟨a, _ | ⟨b, _ | ⟨c, _⟩⟩⟩ <;> rfl
theorem mpure_build (z : List Value) (l : List (Nat × Nat)) (vs : List Value) : mpure (.build z l) vs = (fillAll z l vs).map fun c => .agg c.toArray := by
  rcases vs with _ | ⟨a, _ | ⟨b, _ | ⟨c, _⟩⟩⟩ <;> rfl
theorem mpure_minmax (m : Bool) (vs : List Value) : mpure (.minmax m) vs = mmin m vs := by
  rcases vs with _ | ⟨a, _ | ⟨b, _ | ⟨c, _⟩⟩⟩ <;> rfl

theorem mkfunc_sim {f : FuncId} {c : Array Operand} (ho : o.op = .makeFunc (.func f) #[] c) (hr : Rels (VRel φ) vs (c.toList.map ρ)) (hm : mpure (.mkfunc f) vs = some v) : Yields P o ρ w φ v := by
  rw [mpure_mkfunc] at hm
  cases hm
  refine ⟨.func (.func f) #[] (c.map ρ), by simp [execOp, ho, Instr.makeFunc], .func _ rfl ?_ (fun i x x' hx _ => by simp at hx) ?_⟩
  · have := hr.length; simp at this; simp [this]
  · intro i x x' hx hx'
    simp only [List.getElem?_toArray] at hx
    obtain ⟨y, hy, hrel⟩ := hr.get i x hx
    have : (c.map ρ)[i]? = some y := by simpa using hy
    rw [this] at hx'; cases hx'; exact hrel

theorem slice_arms {s : ByteArray} {l h : Option Value} {L H : Nat} (hl : l = none ∧ L = 0 ∨ ∃ k, l = some (.int k L)) (hh : h = none ∧ H = s.size ∨ ∃ k, h = some (.int k H)) (h1 : L ≤ H) (h2 : H ≤ s.size) :
    (Instr.sliceBounds false s.size s.size l h none).run P w = .ok (L, H, s.size) w := by
  rcases hl with ⟨rfl, rfl⟩ | ⟨k, rfl⟩ <;> rcases hh with ⟨rfl, rfl⟩ | ⟨k', rfl⟩ <;>
    simp [Instr.sliceBounds, Instr.sliceBound, asIntOf, h1, h2]

theorem slstr_sim {t : TypeId} {x : Operand} {lo hi : Option Operand} (ho : o.op = .slice t x lo hi none) (ht : P.underlying t = some .string)
    (hr : Rels (VRel φ) vs ((x :: (lo.toList ++ hi.toList)).map ρ)) (hm : mpure (.slstr lo.isSome hi.isSome) vs = some v) : Yields P o ρ w φ v := by
  simp only [List.map_cons] at hr
  cases hr with
  | cons hx hr =>
  rename_i a bs
  have run : ∀ (s : ByteArray) (L H : Nat), ρ x = .string s → (Instr.sliceBounds false s.size s.size (lo.map ρ) (hi.map ρ) none).run P w = .ok (L, H, s.size) w →
      (execOp ρ o).run P w = .ok (.value (.string (s.extract L H))) w := by
    intro s L H hs hb
    simp [execOp, ho, hs, Instr.sliceAt, Instr.slice, run_underlying ht, hb]
  cases lo with
  | none =>
    cases hi with
    | none =>
      simp at hr; cases hr
      unfold mpure at hm
      split at hm <;> first | contradiction | skip
      rename_i h1 h2; cases h1; cases h2
      simp at hm
      subst hm
      generalize hv : ρ x = v' at hx; cases hx
      exact ⟨_, run _ 0 _ hv (slice_arms (.inl ⟨rfl, rfl⟩) (.inl ⟨rfl, rfl⟩) (Nat.zero_le _) (Nat.le_refl _)), by simp; exact .string _⟩
    | some y =>
      simp at hr
      obtain ⟨b, rfl, hb⟩ := rels1 hr
      unfold mpure at hm
      split at hm <;> first | contradiction | skip
      rename_i h1 h2; cases h1; cases h2
      simp at hm
      split at hm <;> first | contradiction | skip
      rename_i heq; cases heq
      split at hm <;> first | contradiction | skip
      rename_i hc
      cases hm
      generalize hv : ρ x = v' at hx; cases hx
      generalize hu : ρ y = u' at hb; cases hb
      rename_i h hh
      obtain ⟨n, rfl⟩ := Int.eq_ofNat_of_zero_le hc.1
      exact ⟨_, run _ 0 n hv (slice_arms (.inl ⟨rfl, rfl⟩) (.inr ⟨_, by rw [Option.map_some, hu]⟩) (Nat.zero_le _) (by omega)), .string _⟩
  | some z =>
    cases hi with
    | none =>
      simp at hr
      obtain ⟨b, rfl, hb⟩ := rels1 hr
      unfold mpure at hm
      split at hm <;> first | contradiction | skip
      rename_i h1 h2; cases h1; cases h2
      simp at hm
      split at hm <;> first | contradiction | skip
      rename_i heq; cases heq
      split at hm <;> first | contradiction | skip
      rename_i hc
      cases hm
      generalize hv : ρ x = v' at hx; cases hx
      generalize hu : ρ z = u' at hb; cases hb
      rename_i h hh
      obtain ⟨n, rfl⟩ := Int.eq_ofNat_of_zero_le hc.1
      exact ⟨_, run _ n _ hv (slice_arms (.inr ⟨_, by rw [Option.map_some, hu]⟩) (.inl ⟨rfl, rfl⟩) (by omega) (Nat.le_refl _)), .string _⟩
    | some y =>
      simp at hr
      obtain ⟨b, c, rfl, hb, hc'⟩ := rels2 hr
      unfold mpure at hm
      split at hm <;> first | contradiction | skip
      rename_i h1 h2; cases h1; cases h2
      simp at hm
      split at hm <;> first | contradiction | skip
      rename_i heq; cases heq
      split at hm <;> first | contradiction | skip
      rename_i hc
      cases hm
      generalize hv : ρ x = v' at hx; cases hx
      generalize hu : ρ z = u' at hb; cases hb
      generalize hq : ρ y = q' at hc'; cases hc'
      rename_i l _ h _ _
      obtain ⟨n, rfl⟩ := Int.eq_ofNat_of_zero_le hc.1
      obtain ⟨m, rfl⟩ := Int.eq_ofNat_of_zero_le (show 0 ≤ h by omega)
      exact ⟨_, run _ n m hv (slice_arms (.inr ⟨_, by rw [Option.map_some, hu]⟩) (.inr ⟨_, by rw [Option.map_some, hq]⟩) (by omega) (by omega)), .string _⟩
end
end Go.Mod
/- Operations that hang on their operands alone: the whole. -/
set_option linter.unusedVariables false
set_option linter.unusedSimpArgs false
namespace Go.Mod

section
variable {P : Program} {o : Oper} {ρ : Operand → Value} {w : World} {φ : Ren} {vs : List Value} {v : Value}

theorem mov_sim {x : Operand} (ho : o.op = .move x ∨ o.op = .assign x) (hr : Rels (VRel φ) vs ([x].map ρ)) (hm : mpure .mov vs = some v) : Yields P o ρ w φ v := by
  obtain ⟨a, rfl, ha⟩ := rels1 hr
  simp only [mpure] at hm; cases hm
  rcases ho with ho | ho <;> exact ⟨_, by simp [execOp, ho], ha⟩

/-- The one operand of a call of a builtin. -/
theorem one_arg {c : Call} {x' : Value} (h : (c.args.map ρ).toList = [x']) : (c.args.map ρ)[0]? = some x' := by
  have := congrArg (fun l => l[0]?) h; simpa using this
theorem type_arg {c : Call} {d : TypeDesc} {i : Nat} (hd : (c.argTypes[i]?).bind P.underlying = some d) : ∃ t, c.argTypes[i]? = some t ∧ P.underlying t = some d := by
  cases h : c.argTypes[i]? with
  | none => simp [h] at hd
  | some t => exact ⟨t, rfl, by simpa [h] using hd⟩

theorem run_builtin {c : Call} {b : Builtin} {x : Value} (ho : o.op = .call c) (hc : c.callee = .builtin b)
    (h : (builtin b c.argTypes o.type (c.args.map fun | .const _ => true | _ => false) (c.args.map ρ)).run P w = .ok (.value x) w) : (execOp ρ o).run P w = .ok (.value x) w := by
  simp only [execOp, ho, resolve, hc]
  exact h

theorem len_sim {c : Call} {e : TypeId} (ho : o.op = .call c) (hc : c.callee = .builtin .len) (hd : (c.argTypes[0]?).bind P.underlying = some (.slice e))
    (hr : Rels (VRel φ) vs (c.args.toList.map ρ)) (hm : mpure .len vs = some v) : Yields P o ρ w φ v := by
  obtain ⟨t, ht, hu⟩ := type_arg hd
  unfold mpure at hm
  split at hm <;> first | contradiction | skip
  cases hm
  rw [show c.args.toList.map ρ = (c.args.map ρ).toList by simp] at hr
  generalize hA : (c.args.map ρ).toList = A at hr
  cases hr with
  | cons hx tl =>
  cases tl
  have h0 := one_arg hA
  cases hx with
  | slice0 =>
    refine ⟨_, run_builtin ho hc ?_, .int ..⟩
    simp only [builtin, Builtin.len_, ht, h0, Sem.run_bind, run_underlying hu, Result.andThen_ok]
    rfl
  | slicee =>
    refine ⟨_, run_builtin ho hc ?_, .int ..⟩
    simp only [builtin, Builtin.len_, ht, h0, Sem.run_bind, run_underlying hu, Result.andThen_ok]
    rfl
  | slice h hn hcc hex hroom ha =>
    refine ⟨_, run_builtin ho hc ?_, .int ..⟩
    simp only [builtin, Builtin.len_, ht, h0, Sem.run_bind, run_underlying hu, Result.andThen_ok]
    rfl

theorem lens_sim {c : Call} (ho : o.op = .call c) (hc : c.callee = .builtin .len) (hd : (c.argTypes[0]?).bind P.underlying = some .string)
    (hr : Rels (VRel φ) vs (c.args.toList.map ρ)) (hm : mpure .lens vs = some v) : Yields P o ρ w φ v := by
  obtain ⟨t, ht, hu⟩ := type_arg hd
  unfold mpure at hm
  split at hm <;> first | contradiction | skip
  cases hm
  rw [show c.args.toList.map ρ = (c.args.map ρ).toList by simp] at hr
  generalize hA : (c.args.map ρ).toList = A at hr
  cases hr with
  | cons hx tl =>
  cases tl
  have h0 := one_arg hA
  cases hx with
  | string s =>
    refine ⟨_, run_builtin ho hc ?_, .int ..⟩
    simp only [builtin, Builtin.len_, ht, h0, Sem.run_bind, run_underlying hu, Result.andThen_ok]
    rfl

theorem minmax_sim {c : Call} {m : Bool} (ho : o.op = .call c) (hc : c.callee = .builtin (if m then .max else .min))
    (hr : Rels (VRel φ) vs (c.args.toList.map ρ)) (hm : mpure (.minmax m) vs = some v) : Yields P o ρ w φ v := by
  rw [mpure_minmax] at hm
  unfold mmin at hm
  split at hm <;> first | contradiction | skip
  rename_i k x l
  rw [show c.args.toList.map ρ = (c.args.map ρ).toList by simp] at hr
  generalize hA : (c.args.map ρ).toList = A at hr
  cases hr with
  | cons hx tl =>
  cases hx
  obtain ⟨n, rfl, hrun⟩ := mmin1_sim (P := P) (w := w) tl hm
  refine ⟨_, run_builtin ho hc ?_, .int ..⟩
  cases m
  · simp only [Bool.false_eq_true, if_false] at hrun ⊢
    simp only [builtin, Builtin.min_, hA, Sem.run_bind, hrun, Result.andThen_ok]
    rfl
  · simp only [if_true] at hrun ⊢
    simp only [builtin, Builtin.max_, hA, Sem.run_bind, hrun, Result.andThen_ok]
    rfl

theorem mapM_places (P : Program) (w : World) : ∀ (fs : List Field), fs.all (fun f => (szOf P f.type).isSome) = true →
    ∃ l, (fs.mapM (fun f => do pure (f.offset, ← sizeOf f.type) : Field → Sem (Nat × Nat))).run P w = .ok l w ∧ ∀ (i : Nat) f n, fs[i]? = some f → szOf P f.type = some n → l[i]? = some (f.offset, n)
  | [], _ => ⟨[], by simp, fun i f n h => by simp at h⟩
  | f :: fs, h => by
    simp only [List.all_cons, Bool.and_eq_true] at h
    obtain ⟨l, h1, h2⟩ := mapM_places P w fs h.2
    obtain ⟨n, hn⟩ := Option.isSome_iff_exists.1 h.1
    refine ⟨(f.offset, n) :: l, by rw [List.mapM_cons]; simp only [Sem.run_bind, Sem.run_pure, szOf_sim hn, h1, Result.andThen_ok], fun i g m hg hm => ?_⟩
    cases i with
    | zero => simp at hg; subst hg; rw [hn] at hm; cases hm; simp
    | succ i => simpa using h2 i g m (by simpa using hg) hm

theorem placesOf_sim {fs : Array Field} : ∀ {ps : List (Nat × Operand)} {l : List (Nat × Nat)}, placesOf P fs ps = some l →
    l.length = ps.length ∧ ∀ (i : Nat) p q, ps[i]? = some p → l[i]? = some q → ∃ f, fs[p.1]? = some f ∧ q.1 = f.offset ∧ szOf P f.type = some q.2
  | [], l, h => by simp only [placesOf] at h; cases h; exact ⟨rfl, fun i p q hp => by simp at hp⟩
  | (j, x) :: ps, l, h => by
    simp only [placesOf] at h
    split at h <;> first | contradiction | skip
    rename_i f l' hf hl'
    split at h <;> first | contradiction | skip
    rename_i n hn
    cases h
    obtain ⟨h1, h2⟩ := placesOf_sim hl'
    refine ⟨by simp [h1], fun i p q hp hq => ?_⟩
    cases i with
    | zero => simp at hp hq; subst hp; subst hq; exact ⟨f, hf, rfl, hn⟩
    | succ i => exact h2 i p q (by simpa using hp) (by simpa using hq)

theorem rowPlaces_sim (n : Nat) (ps : List (Nat × Operand)) : (rowPlaces n ps).length = ps.length ∧ ∀ (i : Nat) p q, ps[i]? = some p → (rowPlaces n ps)[i]? = some q → some (p.1 * n, n) = some q := by
  refine ⟨by simp [rowPlaces], fun i p q hp hq => ?_⟩
  simp [rowPlaces, hp] at hq
  simp [hq]

theorem build_sim {t : TypeId} {parts : Array (Nat × Operand)} {z : Value} {l : List (Nat × Nat)} (ho : o.op = .build t parts) (hz : zeroOf P t = some z)
    (hl : (∃ fs, P.underlying t = some (.struct fs) ∧ fs.toList.all (fun f => (szOf P f.type).isSome) = true ∧ placesOf P fs parts.toList = some l) ∨
      (∃ k e n, P.underlying t = some (.array k e) ∧ szOf P e = some n ∧ l = rowPlaces n parts.toList))
    (hr : Rels (VRel φ) vs ((parts.toList.map (·.2)).map ρ)) (hm : mpure (.build z.cells.toList l) vs = some v) : Yields P o ρ w φ v := by
  rw [mpure_build] at hm
  cases hf : fillAll z.cells.toList l vs with
  | none => simp [hf] at hm
  | some c =>
  simp [hf] at hm
  subst hm
  rw [List.map_map] at hr
  obtain ⟨hz1, hz2⟩ := zeroOf_sim (w := w) (φ := φ) hz
  have hparts : (parts.map fun (x : Nat × Operand) => (x.1, ρ x.2)).toList = parts.toList.map fun p => (p.1, ρ p.2) := by simp
  rcases hl with ⟨fs, hu, hall, hp⟩ | ⟨k, e, n, hu, hn, rfl⟩
  · obtain ⟨pl, hpl, hget⟩ := mapM_places P w fs.toList hall
    obtain ⟨hlen, hq⟩ := placesOf_sim hp
    obtain ⟨c', h1, h2⟩ := fill_sim (place := (pl.toArray[·]?)) parts.toList l vs z.cells.toList c z.cells hlen
      (fun i p q hpi hqi => by
        obtain ⟨f, ha, hb, hc⟩ := hq i p q hpi hqi
        have := hget p.1 f q.2 (by simpa using ha) hc
        show pl.toArray[p.1]? = some q
        rw [List.getElem?_toArray, this, ← hb]) hr hz2.cells hf
    refine ⟨.agg c', ?_, ?_⟩
    · simp only [execOp, ho, Instr.build, Sem.run_bind, hz1, Result.andThen_ok, run_underlying hu]
      have hm' : (fs.mapM (fun f => do pure (f.offset, ← sizeOf f.type) : Field → Sem (Nat × Nat))).run P w = .ok pl.toArray w := by
        have e : fs = fs.toList.toArray := by simp
        rw [e, List.mapM_toArray, Sem.run_map, hpl]
        rfl
      rw [hm']
      simp only [Result.andThen_ok]
      rw [hparts, h1]
      rfl
    · have := VRel.agg_of h2; simpa using this
  · obtain ⟨hlen, hq⟩ := rowPlaces_sim n parts.toList
    obtain ⟨c', h1, h2⟩ := fill_sim (place := fun i => some (i * n, n)) parts.toList _ vs z.cells.toList c z.cells hlen
      (fun i p q hpi hqi => hq i p q hpi hqi) hr hz2.cells hf
    refine ⟨.agg c', ?_, ?_⟩
    · simp only [execOp, ho, Instr.build, Sem.run_bind, hz1, Result.andThen_ok, run_underlying hu, szOf_sim hn]
      rw [hparts, h1]
      rfl
    · have := VRel.agg_of h2; simpa using this
end
end Go.Mod
/- Operations that hang on their operands alone: the whole; the reading of memory. -/
set_option linter.unusedVariables false
set_option linter.unusedSimpArgs false
namespace Go.Mod

section
variable {P : Program} {o : Oper} {ρ : Operand → Value} {w : World} {φ : Ren} {vs : List Value} {v : Value} {op : MOp} {xs : List Operand}

theorem pure_sim (hc : cOp P o.op = some (op, xs)) (hk : op.kind = .pure) (hr : Rels (VRel φ) vs (xs.map ρ)) (hm : mpure op vs = some v) : Yields P o ρ w φ v := by
  unfold cOp at hc
  split at hc
  · rename_i ho; cases hc; exact mov_sim (.inl ho) hr hm
  · rename_i ho; cases hc; exact mov_sim (.inr ho) hr hm
  · rename_i ho; cases hc; exact pick_sim ho hr hm
  · -- alloc
    split at hc <;> first | contradiction | skip
    · rename_i el _ _
      cases hs : szOf P el with
      | none => simp [hs] at hc
      | some n => simp [hs] at hc; obtain ⟨rfl, rfl⟩ := hc; cases hk
    · split at hc <;> (cases hc; cases hk)
  · cases hc; cases hk
  · rename_i t parts ho
    split at hc <;> first | contradiction | skip
    · rename_i z fs hz hu
      split at hc <;> first | contradiction | skip
      rename_i hall
      cases hp : placesOf P fs parts.toList with
      | none => simp [hp] at hc
      | some l => simp [hp] at hc; obtain ⟨rfl, rfl⟩ := hc; exact build_sim ho hz (.inl ⟨fs, hu, hall, hp⟩) (by simpa using hr) (by simpa using hm)
    · rename_i z k e hz hu
      cases hs : szOf P e with
      | none => simp [hs] at hc
      | some n => simp [hs] at hc; obtain ⟨rfl, rfl⟩ := hc; exact build_sim ho hz (.inr ⟨k, e, n, hu, hs, rfl⟩) (by simpa using hr) (by simpa using hm)
  · -- buildSlice
    split at hc <;> first | contradiction | skip
    split at hc <;> first | contradiction | skip
    cases hc; cases hk
  · rename_i t a ho
    cases hl : ldOf P t with
    | none => simp [hl] at hc
    | some l => simp [hl] at hc; obtain ⟨rfl, rfl⟩ := hc; cases l <;> cases hk
  · rename_i t a x ho
    cases hl : szOf P t with
    | none => simp [hl] at hc
    | some l => simp [hl] at hc; obtain ⟨rfl, rfl⟩ := hc; cases hk
  · rename_i ho; cases hc; exact nilck_sim ho hr hm
  · rename_i bop t x y u ho
    split at hc
    · split at hc
      · cases hc; exact bin_sim ho hr hm
      · rename_i hi
        cases he : eqTyC P t x y with
        | none => simp [he] at hc
        | some e => simp [he] at hc; obtain ⟨rfl, rfl⟩ := hc; exact eqv_sim (neg := false) ho rfl (by simpa using hi) he hr hm
    · split at hc
      · cases hc; exact bin_sim ho hr hm
      · rename_i hi
        cases he : eqTyC P t x y with
        | none => simp [he] at hc
        | some e => simp [he] at hc; obtain ⟨rfl, rfl⟩ := hc; exact eqv_sim (neg := true) ho rfl (by simpa using hi) he hr hm
    · cases hc; exact bin_sim ho hr hm
  · rename_i ho; cases hc; exact un_sim ho hr hm
  · rename_i s d x ho
    split at hc <;> first | contradiction | skip
    · rename_i ds k hs hd
      cases hc; exact conv_sim ho hs hd hr hm
    · split at hc <;> first | contradiction | skip
      cases hc; cases hk
    · split at hc <;> first | contradiction | skip
      cases hc; cases hk
  · rename_i f first captured ho
    split at hc <;> first | contradiction | skip
    rename_i he
    cases hc
    have : first = #[] := by simpa using he
    subst this
    exact mkfunc_sim ho hr hm
  · cases hc; cases hk
  · rename_i t s ho
    split at hc <;> first | contradiction | skip
    rename_i e _
    cases hb : bytesOf' P e with
    | none => simp [hb] at hc
    | some b => simp [hb] at hc; obtain ⟨rfl, rfl⟩ := hc; cases hk
  · split at hc <;> first | contradiction | skip
    split at hc <;> first | contradiction | skip
    split at hc <;> first | contradiction | skip
    cases hc; cases hk
  · rename_i t x lo hi mx ho
    split at hc <;> first | contradiction | skip
    · rename_i e _
      cases hb : szOf P e with
      | none => simp [hb] at hc
      | some b => simp [hb, cSlice] at hc; obtain ⟨rfl, rfl⟩ := hc; cases hk
    · rename_i hu
      split at hc <;> first | contradiction | skip
      rename_i hmx
      cases hc
      have : mx = none := by simpa using hmx
      subst this
      exact slstr_sim ho hu hr hm
  · rename_i t x i ho
    split at hc <;> first | contradiction | skip
    rename_i fs hu
    split at hc <;> first | contradiction | skip
    rename_i f hf
    split at hc <;> first | contradiction | skip
    rename_i n hs
    cases hc
    exact fa_sim ho hu hf hs hr hm
  · rename_i t x i ho
    split at hc <;> first | contradiction | skip
    rename_i fs hu
    split at hc <;> first | contradiction | skip
    rename_i f hf
    cases hl : ldOf P f.type with
    | none => simp [hl] at hc
    | some l => simp [hl] at hc; obtain ⟨rfl, rfl⟩ := hc; exact fld_sim ho hu hf hl hr hm
  · rename_i t x i ho
    split at hc <;> first | contradiction | skip
    · rename_i e hu
      cases hs : szOf P e with
      | none => simp [hs] at hc
      | some n => simp [hs] at hc; obtain ⟨rfl, rfl⟩ := hc; exact ia_sim ho hu hs hr hm
    · rename_i k e hu
      cases hs : szOf P e with
      | none => simp [hs] at hc
      | some n => simp [hs] at hc; obtain ⟨rfl, rfl⟩ := hc; exact iarr_sim ho hu hs hr hm
  · rename_i t x i ho
    split at hc <;> first | contradiction | skip
    · rename_i hu; cases hc; exact idxs_sim ho hu hr hm
    · rename_i k e hu
      split at hc <;> first | contradiction | skip
      rename_i n l hs hl
      cases hc; exact idxa_sim ho hu hs hl hr hm
  · split at hc <;> first | contradiction | skip
    split at hc <;> first | contradiction | skip
    cases hc; cases hk
  · split at hc <;> first | contradiction | skip
    split at hc <;> first | contradiction | skip
    cases hc; cases hk
  · rename_i ho; cases hc; exact extract_sim ho hr hm
  · rename_i c ho
    split at hc <;> first | contradiction | skip
    · rename_i b hcal
      unfold cBuiltin at hc
      simp only [] at hc
      split at hc <;> first | contradiction | skip
      · split at hc <;> first | contradiction | skip
        · rename_i e hd; cases hc; exact len_sim ho hcal hd hr hm
        · rename_i hd; cases hc; exact lens_sim ho hcal hd hr hm
        · cases hc; cases hk
      · split at hc <;> first | contradiction | skip
        cases hc; cases hk
      · split at hc <;> first | contradiction | skip
        split at hc <;> first | contradiction | skip
        all_goals (split at hc <;> first | contradiction | skip)
        all_goals first
          | (split at hc <;> (cases hc; cases hk); done)
          | (cases hc; cases hk; done)
      · split at hc <;> first | contradiction | skip
        split at hc <;> first | contradiction | skip
        split at hc <;> first | contradiction | skip
        cases hc; cases hk
      · split at hc <;> first | contradiction | skip
        split at hc <;> first | contradiction | skip
        split at hc <;> first | contradiction | skip
        cases hc; cases hk
      · cases hc; exact minmax_sim (m := false) ho hcal hr hm
      · cases hc; exact minmax_sim (m := true) ho hcal hr hm
      · split at hc <;> first | contradiction | skip
        split at hc <;> first | contradiction | skip
        split at hc <;> first | contradiction | skip
        cases hc; cases hk
    · cases hc; cases hk
    · cases hc; cases hk
  · cases hc; cases hk
  · split at hc <;> first | contradiction | skip
    rename_i e _
    cases hb : zeroOf P e with
    | none => simp [hb] at hc
    | some b => simp [hb] at hc; obtain ⟨rfl, rfl⟩ := hc; cases hk
  · split at hc <;> first | contradiction | skip
    split at hc <;> first | contradiction | skip
    cases hc; cases hk
  · cases hc
end
end Go.Mod
/- The model's heap and the machine's memory; operations that read. -/
set_option linter.unusedVariables false
set_option linter.unusedSimpArgs false
namespace Go.Mod
/-- Blocks that stay as they are (package variables): what each holds. -/
class Glob where
  G : Nat → Option Obj
instance (priority := low) noGlob : Glob := ⟨fun _ => none⟩
variable [Glob]
set_option linter.unusedSectionVars false

/-- What a model's object has to do with the block where it lies. -/
def ORel (φ : Ren) (w : World) (pl : Place) : MObj → Prop
  | .cells i c => i.es = pl.es ∧ i.ex = pl.ex ∧ ∃ rc elem lo hi, w.heap[pl.block]? = some (.cells rc elem (lo, hi)) ∧ c.length ≤ pl.room ∧ pl.base + pl.room ≤ rc.size ∧
      (∀ (j : Nat) (x : Value), c[j]? = some x → ∃ y, rc[pl.base + j]? = some y ∧ CRel φ x y) ∧ (i.rw = true → hi ≤ lo ∨ (pl.base + pl.room ≤ lo ∧ i.es = 1)) ∧ (∀ t, i.ex.el = some t → elem = t ∧ (i.es = 0 → pl.base = 0 ∧ rc.size = c.length))
  | .map es => ∃ entries clock, w.heap[pl.block]? = some (.map entries clock) ∧ entries.size = es.length ∧ ∀ (j : Nat) (p : Int × Value) (e : MapEntry), es[j]? = some p → entries[j]? = some e → e.key = .int .i64 p.1 ∧ VRel φ p.2 e.val
  | .rmap es => ∃ entries clock, w.heap[pl.block]? = some (.map entries clock) ∧ entries.size = es.length ∧ ∀ (j : Nat) (p : Int × Value) (e : MapEntry), es[j]? = some p → entries[j]? = some e → e.key = .int .i64 p.1 ∧ VRel φ p.2 e.val
  | .chan cap buf => ∃ rb s r, w.heap[pl.block]? = some (.chan cap rb false s r false) ∧ Rels (VRel φ) buf rb.toList
  | .dead => True

structure HRel (φ : Ren) (h : Nat → Option MObj) (w : World) : Prop where
  obj : ∀ id pl, φ id = some pl → ∃ o, h id = some o ∧ ORel φ w pl o
  lt : ∀ id pl, φ id = some pl → pl.block < w.heap.size
  sep : ∀ i j pi pj oi oj, φ i = some pi → φ j = some pj → h i = some oi → h j = some oj → oi.mut = true → oj.live = true → pi.block = pj.block → i = j
  glob : ∀ b o, Glob.G b = some o → w.heap[b]? = some o ∧ ∀ id pl ob, φ id = some pl → h id = some ob → ob.mut = true → pl.block ≠ b

def hp (H : MH) : Nat → Option MObj := fun i => H[i]?

theorem ORel.mono {φ ψ : Ren} {w w' : World} {pl : Place} {o : MObj} (hle : φ.le ψ) (hb : w'.heap[pl.block]? = w.heap[pl.block]?) (h : ORel φ w pl o) : ORel ψ w' pl o := by
  cases o with
  | cells i c =>
    obtain ⟨h1, h2, rc, elem, lo, hi, h3, h4, h5, h6, h7⟩ := h
    exact ⟨h1, h2, rc, elem, lo, hi, by rw [hb]; exact h3, h4, h5, fun j x hx => by obtain ⟨y, hy, hr⟩ := h6 j x hx; exact ⟨y, hy, hr.mono hle⟩, h7⟩
  | map es =>
    obtain ⟨en, cl, h1, h2, h3⟩ := h
    exact ⟨en, cl, by rw [hb]; exact h1, h2, fun j p e hp he => ⟨(h3 j p e hp he).1, (h3 j p e hp he).2.mono hle⟩⟩
  | rmap es =>
    obtain ⟨en, cl, h1, h2, h3⟩ := h
    exact ⟨en, cl, by rw [hb]; exact h1, h2, fun j p e hp he => ⟨(h3 j p e hp he).1, (h3 j p e hp he).2.mono hle⟩⟩
  | chan cap buf =>
    obtain ⟨rb, s, r, h1, h2⟩ := h
    exact ⟨rb, s, r, by rw [hb]; exact h1, h2.imp fun _ _ => VRel.mono hle⟩
  | dead => trivial

section
variable {P : Program} {o : Oper} {ρ : Operand → Value} {w : World} {φ : Ren} {vs : List Value} {v : Value} {op : MOp} {xs : List Operand} {H : MH}

theorem HRel.cells (h : HRel φ (hp H) w) {id : Nat} {pl : Place} (hφ : φ id = some pl) {i : Info} {c : List Value} (hH : H[id]? = some (.cells i c)) : ORel φ w pl (.cells i c) := by
  obtain ⟨ob, h1, h2⟩ := h.obj id pl hφ
  unfold hp at h1
  rw [hH] at h1; cases h1; exact h2
theorem HRel.at (h : HRel φ (hp H) w) {id : Nat} {pl : Place} (hφ : φ id = some pl) {ob : MObj} (hH : H[id]? = some ob) : ORel φ w pl ob := by
  obtain ⟨ob', h1, h2⟩ := h.obj id pl hφ
  unfold hp at h1
  rw [hH] at h1; cases h1; exact h2

/-- A cell of a block. -/
theorem cell_of {rc : Array Value} {elem : TypeId} {lo hi b i : Nat} {y : Value} (hb : w.heap[b]? = some (.cells rc elem (lo, hi))) (hy : rc[i]? = some y) : w.cell? ⟨b, i, none⟩ = some y := by
  simp [World.cell?, hb, hy]

theorem ORel.cell {pl : Place} {i : Info} {c : List Value} (h : ORel φ w pl (.cells i c)) {j : Nat} {x : Value} (hx : c[j]? = some x) : ∃ y, w.cell? ⟨pl.block, pl.base + j, none⟩ = some y ∧ CRel φ x y := by
  obtain ⟨_, _, rc, elem, lo, hi, h3, h4, h5, h6, h7⟩ := h
  obtain ⟨y, hy, hr⟩ := h6 j x hx
  exact ⟨y, cell_of h3 hy, hr⟩

/-- A row of cells that is loaded. -/
theorem ORel.row {pl : Place} {i : Info} {c : List Value} (h : ORel φ w pl (.cells i c)) (o n : Nat) (hn : o + n ≤ c.length) :
    ∃ ys, (loadCells ⟨pl.block, pl.base + o, none⟩ n).run P w = .ok ys.toArray w ∧ Rels (CRel φ) ((c.drop o).take n) ys := by
  have key : ∀ j, j < n → ∃ y, w.cell? ⟨pl.block, pl.base + o + j, none⟩ = some y ∧ CRel φ (c.getD (o + j) undef) y := by
    intro j hj
    obtain ⟨y, hy, hr⟩ := h.cell (j := o + j) (x := c.getD (o + j) undef) (by simp [List.getElem?_eq_getElem (show o + j < c.length by omega)])
    exact ⟨y, by rw [← hy, Nat.add_assoc], hr⟩
  let f : Nat → Value := fun j => (w.cell? ⟨pl.block, pl.base + o + j, none⟩).getD undef
  refine ⟨(List.range n).map f, ?_, ?_⟩
  · rw [run_loadCells w _ n f]
    intro j hj
    obtain ⟨y, hy, _⟩ := key j hj
    rw [Addr.add_eq, hy]
    simp [f, hy]
  · refine Rels.of_get (by simp; omega) fun j x y hx hy => ?_
    have hj : j < n := by
      have := (List.getElem?_eq_some_iff.1 hy).1
      simpa using this
    obtain ⟨y', hy', hr⟩ := key j hj
    simp only [List.getElem?_map, List.getElem?_range hj, Option.map_some, Option.some.injEq] at hy
    rw [List.getElem?_take_of_lt hj, List.getElem?_drop] at hx
    have hx' : c.getD (o + j) undef = x := by simp [List.getD, hx]
    subst hy
    rw [← hx']
    simpa [f, hy'] using hr

theorem Rels.toV {xs ys : List Value} (h : Rels (CRel φ) xs ys) (hu : xs.all (fun v => !isUnk v) = true) : Rels (VRel φ) xs ys := by
  induction h with
  | nil => exact .nil
  | cons h t ih =>
    simp only [List.all_cons, Bool.and_eq_true] at hu
    refine .cons ?_ (ih hu.2)
    rcases h with h | h
    · simp [h] at hu
    · exact h

theorem ld_sim {t : TypeId} {a : Operand} {l : Option Nat} (ho : o.op = .load t a) (hl : ldOf P t = some l) (hh : HRel φ (hp H) w) (hr : Rels (VRel φ) vs ([a].map ρ)) (hm : mread (.ld l) vs H = some v) : Yields P o ρ w φ v := by
  obtain ⟨x, rfl, hx⟩ := rels1 hr
  unfold mread at hm
  split at hm <;> first | contradiction | skip
  · rename_i heq hv; cases heq; cases hv
    split at hm <;> first | contradiction | skip
    rename_i i c hH
    split at hm <;> first | contradiction | skip
    rename_i y hy
    split at hm <;> first | contradiction | skip
    rename_i hu
    cases hm
    generalize hva : ρ a = a' at hx
    cases hx with
    | ptr hφ =>
    obtain ⟨y', hy', hrel⟩ := (hh.cells hφ hH).cell hy
    rcases ldOf_cases hl with ⟨_, ha⟩ | ⟨n, h, _⟩
    · refine ⟨y', ?_, hrel.resolve_left hu⟩
      simp [execOp, ho, hva, Instr.loadAt, Instr.sureAddr, loadVar, aggOf_sim ha, hy']
    · cases h
  · rename_i heq hv; cases heq; cases hv
    split at hm <;> first | contradiction | skip
    rename_i i c hH
    split at hm <;> first | contradiction | skip
    rename_i hc
    cases hm
    generalize hva : ρ a = a' at hx
    cases hx with
    | ptr hφ =>
    rcases ldOf_cases hl with ⟨h, _⟩ | ⟨m, h, ha, hs⟩
    · cases h
    · cases h
      obtain ⟨ys, hrun, hrel⟩ := (hh.cells hφ hH).row (P := P) _ _ hc.1
      refine ⟨.agg ys.toArray, ?_, VRel.agg_of (hrel.toV hc.2)⟩
      simp [execOp, ho, hva, Instr.loadAt, Instr.sureAddr, loadVar, aggOf_sim ha, szOf_sim hs, hrun]

theorem slBounds_sim {lo hi mx : Option Operand} {bs : List Value} {len cap cap' l h m : Nat} (hr : Rels (VRel φ) bs ((lo.toList ++ hi.toList ++ mx.toList).map ρ)) (hcap : cap ≤ cap') (hlen : len ≤ cap)
    (hb : slBound lo.isSome hi.isSome mx.isSome len cap bs = some (l, h, m)) :
    ∃ m', (Instr.sliceBounds true len cap' (lo.map ρ) (hi.map ρ) (mx.map ρ)).run P w = .ok (l, h, m') w ∧ l ≤ h ∧ h ≤ m ∧ m ≤ cap ∧ m ≤ m' ∧ m' ≤ cap' ∧ (cap' = cap → m' = m) := by
  unfold slBound at hb
  split at hb <;> first | contradiction | skip
  · rename_i hlo hhi hmx
    split at hb <;> first | contradiction | skip
    rename_i hc
    cases hb
    obtain ⟨x, rfl⟩ := Option.isSome_iff_exists.1 hlo
    obtain ⟨y, rfl⟩ := Option.isSome_iff_exists.1 hhi
    obtain ⟨z, rfl⟩ := Option.isSome_iff_exists.1 hmx
    simp at hr
    obtain ⟨_, _, _, heq, r1, r2, r3⟩ := rels3 hr
    cases heq
    generalize ho1 : ρ x = x' at r1; generalize ho2 : ρ y = y' at r2; generalize ho3 : ρ z = z' at r3
    cases r1; cases r2; cases r3
    refine ⟨_, ?_, by omega, by omega, by omega, Nat.le_refl _, by omega, fun _ => rfl⟩
    simp only [Option.map_some, ho1, ho2, ho3, Instr.sliceBounds, Instr.sliceBound, asIntOf, Sem.run_bind, Sem.run_pure, Result.andThen_ok]
    rw [if_pos (by omega)]
    simp only [Sem.run_pure, Result.andThen_ok]
    rw [if_pos (by omega)]
    simp only [Sem.run_pure, Result.andThen_ok]
    rw [if_pos (by omega)]
    rfl
  · rename_i hlo hhi hmx
    split at hb <;> first | contradiction | skip
    rename_i hc
    cases hb
    obtain ⟨x, rfl⟩ := Option.isSome_iff_exists.1 hlo
    obtain ⟨y, rfl⟩ := Option.isSome_iff_exists.1 hhi
    have hz : mx = none := by cases mx <;> simp_all
    subst hz
    simp at hr
    obtain ⟨_, _, heq, r1, r2⟩ := rels2 hr
    cases heq
    generalize ho1 : ρ x = x' at r1; generalize ho2 : ρ y = y' at r2
    cases r1; cases r2
    refine ⟨cap', ?_, by omega, by omega, Nat.le_refl _, hcap, Nat.le_refl _, fun h => h⟩
    simp only [Option.map_some, Option.map_none, ho1, ho2, Instr.sliceBounds, Instr.sliceBound, asIntOf, Sem.run_bind, Sem.run_pure, Result.andThen_ok]
    rw [if_pos (by omega)]
    simp only [Sem.run_pure, Result.andThen_ok]
    rw [if_pos (by omega)]
    rfl
  · rename_i hlo hhi hmx
    split at hb <;> first | contradiction | skip
    rename_i hc
    cases hb
    obtain ⟨x, rfl⟩ := Option.isSome_iff_exists.1 hlo
    have hy : hi = none := by cases hi <;> simp_all
    have hz : mx = none := by cases mx <;> simp_all
    subst hy; subst hz
    simp at hr
    obtain ⟨_, heq, r1⟩ := rels1 hr
    cases heq
    generalize ho1 : ρ x = x' at r1
    cases r1
    refine ⟨cap', ?_, by omega, by omega, Nat.le_refl _, hcap, Nat.le_refl _, fun h => h⟩
    simp only [Option.map_some, Option.map_none, ho1, Instr.sliceBounds, Instr.sliceBound, asIntOf, Sem.run_bind, Sem.run_pure, Result.andThen_ok]
    rw [if_pos (by omega)]
    rfl
  · rename_i hlo hhi hmx
    split at hb <;> first | contradiction | skip
    rename_i hc
    cases hb
    obtain ⟨y, rfl⟩ := Option.isSome_iff_exists.1 hhi
    have hx : lo = none := by cases lo <;> simp_all
    have hz : mx = none := by cases mx <;> simp_all
    subst hx; subst hz
    simp at hr
    obtain ⟨_, heq, r1⟩ := rels1 hr
    cases heq
    generalize ho1 : ρ y = x' at r1
    cases r1
    refine ⟨cap', ?_, by omega, by omega, Nat.le_refl _, hcap, Nat.le_refl _, fun h => h⟩
    simp only [Option.map_some, Option.map_none, ho1, Instr.sliceBounds, Instr.sliceBound, asIntOf, Sem.run_bind, Sem.run_pure, Result.andThen_ok]
    rw [if_pos (by omega)]
    rfl
  · rename_i hlo hhi hmx
    cases hb
    have hx : lo = none := by cases lo <;> simp_all
    have hy : hi = none := by cases hi <;> simp_all
    have hz : mx = none := by cases mx <;> simp_all
    subst hx; subst hy; subst hz
    refine ⟨cap', ?_, by omega, by omega, Nat.le_refl _, hcap, Nat.le_refl _, fun h => h⟩
    simp [Instr.sliceBounds]

theorem sl_sim {t e : TypeId} {x : Operand} {lo hi mx : Option Operand} {n : Nat} (ho : o.op = .slice t x lo hi mx) (ht : P.underlying t = some (.slice e)) (hs : szOf P e = some n)
    (hh : HRel φ (hp H) w) (hr : Rels (VRel φ) vs ((x :: (lo.toList ++ hi.toList ++ mx.toList)).map ρ)) (hm : mread (.sl n lo.isSome hi.isSome mx.isSome) vs H = some v) : Yields P o ρ w φ v := by
  simp only [List.map_cons] at hr
  cases hr with
  | cons hx hr =>
  have run : ∀ a len cap l h m, ρ x = .slice a len cap → (Instr.sliceBounds true len cap (lo.map ρ) (hi.map ρ) (mx.map ρ)).run P w = .ok (l, h, m) w →
      (execOp ρ o).run P w = .ok (.value (.slice (if m = l then a else a.map (·.add (l * n))) (h - l) (m - l))) w := by
    intro a len cap l h m hs' hb
    simp [execOp, ho, hs', Instr.sliceAt, Instr.slice, run_underlying ht, hb, szOf_sim hs]
  unfold mread at hm
  split at hm <;> first | contradiction | skip
  · rename_i h1 h2; cases h1; cases h2
    split at hm <;> first | contradiction | skip
    rename_i q hb
    obtain ⟨l, h, m⟩ := q
    cases hm
    obtain ⟨m', hrun, hl1, hl2, hl3, hl4, hl5, hl6⟩ := slBounds_sim (P := P) (w := w) hr (Nat.le_refl 0) (Nat.le_refl 0) hb
    generalize hva : ρ x = a' at hx
    cases hx
    refine ⟨_, run none 0 0 l h m' hva hrun, ?_⟩
    have : l = 0 := by omega
    have : h = 0 := by omega
    have : m' = 0 := by omega
    subst_vars
    exact .slice0
  · rename_i h1 h2; cases h1; cases h2
    split at hm <;> first | contradiction | skip
    rename_i i c hH
    split at hm <;> first | contradiction | skip
    rename_i hes
    split at hm <;> first | contradiction | skip
    rename_i l h m hb
    cases hm
    generalize hva : ρ x = a' at hx
    cases hx with
    | slicee =>
      obtain ⟨m', hrun, hl1, hl2, hl3, hl4, hl5, hl6⟩ := slBounds_sim (P := P) (w := w) hr (Nat.le_refl 0) (Nat.le_refl 0) hb
      refine ⟨_, run _ _ _ l h m' hva hrun, ?_⟩
      have : l = 0 := by omega
      have : h = 0 := by omega
      have : m' = 0 := by omega
      have : m = 0 := by omega
      subst_vars
      simp only [if_true, Nat.sub_self, Nat.zero_mul, Nat.add_zero]
      exact .slicee
    | slice hφ hn hc hex hroom ha =>
    obtain ⟨m', hrun, hl1, hl2, hl3, hl4, hl5, hl6⟩ := slBounds_sim (P := P) (w := w) hr hc hn hb
    have hrow := hh.cells hφ hH
    have he1 := hrow.1
    clear hrow
    refine ⟨_, run _ _ _ l h m' hva hrun, ?_⟩
    rename_i pl
    have hpe : pl.es = n := by rw [← he1, hes]
    by_cases hml : m' = l
    · rw [if_pos hml]
      subst hml
      refine .slice hφ (by omega) (by omega) (fun hx => by have := hl6 (hex hx); omega) ?_ (fun h => by omega)
      simp only [Nat.sub_self, Nat.zero_mul, Nat.add_zero]
      refine Nat.le_trans ?_ hroom
      rw [hpe]
      exact Nat.add_le_add_left (Nat.mul_le_mul_right _ (by omega)) _
    · rw [if_neg hml]
      simp only [Option.map_some, Addr.add_eq]
      have hb' := ha (by omega)
      subst hb'
      rw [Nat.add_assoc]
      refine .slice hφ (by omega) (by omega) (fun hx => by have := hl6 (hex hx); omega) ?_ (fun h => rfl)
      refine Nat.le_trans ?_ hroom
      rw [hpe, Nat.add_assoc, ← Nat.add_mul]
      exact Nat.add_le_add_left (Nat.mul_le_mul_right _ (by omega)) _

/-- Entries of a map, pairwise. -/
def Ents (φ : Ren) (es : List (Int × Value)) (en : List MapEntry) : Prop := en.length = es.length ∧ ∀ (j : Nat) (p : Int × Value) (e : MapEntry), es[j]? = some p → en[j]? = some e → e.key = .int .i64 p.1 ∧ VRel φ p.2 e.val
theorem Ents.tail {p : Int × Value} {es : List (Int × Value)} {e : MapEntry} {en : List MapEntry} (h : Ents φ (p :: es) (e :: en)) : e.key = .int .i64 p.1 ∧ VRel φ p.2 e.val ∧ Ents φ es en :=
  ⟨(h.2 0 p e (by simp) (by simp)).1, (h.2 0 p e (by simp) (by simp)).2, by have := h.1; simpa using this, fun j q f hq hf => h.2 (j + 1) q f (by simpa using hq) (by simpa using hf)⟩

/-- Where a key stands. -/
def mpos (k : Int) : List (Int × Value) → Option Nat
  | [] => none
  | (j, _) :: l => if k = j then some 0 else (mpos k l).map (· + 1)

theorem findNow_sim {k0 : IntKind} (k : Int) : ∀ (es : List (Int × Value)) (en : List MapEntry) (i : Nat), Ents φ es en →
    (mpos k es = none ∧ mlook k es = none ∧ Instr.findNow (.int k0) (.int .i64 k) en i = some none) ∨
    (∃ j v v', mpos k es = some j ∧ mlook k es = some v ∧ VRel φ v v' ∧ Instr.findNow (.int k0) (.int .i64 k) en i = some (some (i + j, v')))
  | [], en, i, h => by
    have : en = [] := List.eq_nil_of_length_eq_zero (by simpa using h.1)
    subst this
    exact .inl ⟨rfl, rfl, rfl⟩
  | (q, x) :: es, [], i, h => by have := h.1; simp at this
  | (q, x) :: es, e :: en, i, h => by
    obtain ⟨hk, hv, ht⟩ := h.tail
    by_cases hkq : k = q
    · subst hkq
      refine .inr ⟨0, x, e.val, by simp [mpos], by simp [mlook], hv, ?_⟩
      simp [Instr.findNow, hk, Instr.sameNow]
    · rcases findNow_sim (k0 := k0) k es en (i + 1) ht with ⟨h1, h2, h3⟩ | ⟨j, v, v', h1, h2, h3, h4⟩
      · refine .inl ⟨by simp [mpos, hkq, h1], by simp [mlook, hkq, h2], ?_⟩
        simp only [Instr.findNow, hk, Instr.sameNow, if_true, show (k == q) = false from by simpa using hkq]
        exact h3
      · refine .inr ⟨j + 1, v, v', by simp [mpos, hkq, h1], by simp [mlook, hkq, h2], h3, ?_⟩
        simp only [Instr.findNow, hk, Instr.sameNow, if_true, show (k == q) = false from by simpa using hkq]
        rw [h4, show i + 1 + j = i + (j + 1) by omega]

theorem run_checkKey {kt : TypeId} (hk : P.underlying kt = some (.int .i64)) (b : Bool) (n : Nat) (x : Int) : (Instr.checkKey b (n + 1) kt (.int .i64 x)).run P w = .ok () w := by
  unfold Instr.checkKey
  rw [Sem.run_bind, run_underlying hk]
  rfl

theorem run_getObj_map {b : Nat} {en : Array MapEntry} {cl : Nat} (h : w.heap[b]? = some (.map en cl)) : (getObj b).run P w = .ok (.map en cl) w := by
  simp [getObj, Sem.run, h]

theorem ents_of {pl : Place} {es : List (Int × Value)} (h : ORel φ w pl (.map es)) : ∃ en cl, w.heap[pl.block]? = some (.map en cl) ∧ Ents φ es en.toList := by
  obtain ⟨en, cl, h1, h2, h3⟩ := h
  exact ⟨en, cl, h1, by simpa using h2, fun j p e hp he => h3 j p e hp (by simpa using he)⟩

theorem look_sim {t kt e : TypeId} {m k : Operand} {ok : Bool} {z : Value} (ho : o.op = .lookup t m k ok) (ht : P.underlying t = some (.map kt e)) (hk : P.underlying kt = some (.int .i64)) (hz : zeroOf P e = some z)
    (hh : HRel φ (hp H) w) (hr : Rels (VRel φ) vs ([m, k].map ρ)) (hm : mread (.look z ok) vs H = some v) : Yields P o ρ w φ v := by
  obtain ⟨x, y, rfl, hx, hy⟩ := rels2 hr
  obtain ⟨hz1, hz2⟩ := zeroOf_sim (w := w) (φ := φ) hz
  have fin : ∀ (a a' : Value) (b : Bool), VRel φ a a' → VRel φ (if ok then .tuple #[a, .bool b] else a) (if ok then .tuple #[a', .bool b] else a') := by
    intro a a' b h
    cases ok
    · simpa using h
    · simp only [if_true]
      have := VRel.tuple_of (Rels.cons h (Rels.cons (VRel.bool b) .nil))
      simpa using this
  unfold mread at hm
  split at hm <;> first | contradiction | skip
  · rename_i h1 h2; cases h1; cases h2; cases hm
    generalize hX : ρ m = x' at hx; generalize hY : ρ k = y' at hy
    cases hx; cases hy
    refine ⟨_, ?_, fin z z false hz2⟩
    simp only [execOp, ho, hX, hY, Instr.lookup, Sem.run_bind, run_underlying ht, Result.andThen_ok, Sem.run_pure, run_checkKey hk _ 9999, Instr.findKey, run_underlying hk]
    simp only [Instr.findNow, Sem.run_bind, Sem.run_pure, Result.andThen_ok, hz1]
  · rename_i h1 h2; cases h1; cases h2
    have key : ∀ (b : Nat) (k0 : Int) (es : List (Int × Value)), ρ m = ρ m → VRel φ (.map (some b)) (ρ m) → VRel φ (.int .i64 k0) (ρ k) → (∀ pl, φ b = some pl → ORel φ w pl (.map es)) →
        (match mlook k0 es with
          | some v => some (if ok then Value.tuple #[v, .bool true] else v)
          | none => some (if ok then Value.tuple #[z, .bool false] else z)) = some v → Yields P o ρ w φ v := by
      intro b k0 es _ hx hy hO hm
      generalize hX : ρ m = x' at hx; generalize hY : ρ k = y' at hy
      cases hx with
      | map hφ =>
      cases hy
      obtain ⟨en, cl, hb, hen⟩ := ents_of (hO _ hφ)
      rcases findNow_sim (k0 := .i64) _ es en.toList 0 hen with ⟨h1, h2, h3⟩ | ⟨j, u, u', h1, h2, h3, h4⟩
      · rw [h2] at hm; cases hm
        refine ⟨_, ?_, fin z z false hz2⟩
        simp only [execOp, ho, hX, hY, Instr.lookup, Sem.run_bind, run_underlying ht, Result.andThen_ok, Sem.run_pure, run_getObj_map hb, run_checkKey hk _ 9999, Instr.findKey, run_underlying hk, h3, hz1]
      · rw [h2] at hm; cases hm
        refine ⟨_, ?_, fin u u' true h3⟩
        simp only [execOp, ho, hX, hY, Instr.lookup, Sem.run_bind, run_underlying ht, Result.andThen_ok, Sem.run_pure, run_getObj_map hb, run_checkKey hk _ 9999, Instr.findKey, run_underlying hk, h4]
    split at hm <;> first | contradiction | skip
    · rename_i es hH
      exact key _ _ es rfl hx hy (fun pl hφ => hh.at hφ hH) hm
    · rename_i es hH
      exact key _ _ es rfl hx hy (fun pl hφ => (show ORel φ w pl (.rmap es) from hh.at hφ hH)) hm

theorem lenm_sim {c : Call} {kt e : TypeId} (ho : o.op = .call c) (hc : c.callee = .builtin .len) (hd : (c.argTypes[0]?).bind P.underlying = some (.map kt e))
    (hh : HRel φ (hp H) w) (hr : Rels (VRel φ) vs (c.args.toList.map ρ)) (hm : mread .lenm vs H = some v) : Yields P o ρ w φ v := by
  obtain ⟨t, ht, hu⟩ := type_arg hd
  rw [show c.args.toList.map ρ = (c.args.map ρ).toList by simp] at hr
  generalize hA : (c.args.map ρ).toList = A at hr
  unfold mread at hm
  split at hm <;> first | contradiction | skip
  · rename_i h2; cases hm
    cases hr with
    | cons hx tl =>
    cases tl
    have h0 := one_arg hA
    cases hx
    refine ⟨_, run_builtin ho hc ?_, .int ..⟩
    simp only [builtin, Builtin.len_, ht, h0, Sem.run_bind, run_underlying hu, Result.andThen_ok]
    rfl
  · rename_i h2
    cases hr with
    | cons hx tl =>
    cases tl
    have h0 := one_arg hA
    cases hx with
    | map hφ =>
    rename_i pl
    have key : ∀ es : List (Int × Value), ORel φ w pl (.map es) → some (Value.int .i64 es.length) = some v → Yields P o ρ w φ v := by
      intro es hO hm
      cases hm
      obtain ⟨en, cl, hb, hen⟩ := ents_of hO
      refine ⟨_, run_builtin ho hc ?_, .int ..⟩
      simp only [builtin, Builtin.len_, ht, h0, Sem.run_bind, run_underlying hu, Result.andThen_ok, run_getObj_map hb, Sem.run_pure]
      rw [show en.size = es.length by simpa using hen.1]
      rfl
    split at hm <;> first | contradiction | skip
    · rename_i es hH
      exact key es (hh.at hφ hH) hm
    · rename_i es hH
      exact key es (show ORel φ w pl (.rmap es) from hh.at hφ hH) hm

theorem cap_sim {c : Call} {e : TypeId} (ho : o.op = .call c) (hc : c.callee = .builtin .cap) (hd : (c.argTypes[0]?).bind P.underlying = some (.slice e))
    (hh : HRel φ (hp H) w) (hr : Rels (VRel φ) vs (c.args.toList.map ρ)) (hm : mread .cap vs H = some v) : Yields P o ρ w φ v := by
  obtain ⟨t, ht, hu⟩ := type_arg hd
  rw [show c.args.toList.map ρ = (c.args.map ρ).toList by simp] at hr
  generalize hA : (c.args.map ρ).toList = A at hr
  unfold mread at hm
  split at hm <;> first | contradiction | skip
  · rename_i h2; cases hm
    cases hr with
    | cons hx tl =>
    cases tl
    have h0 := one_arg hA
    cases hx
    refine ⟨_, run_builtin ho hc ?_, .int ..⟩
    simp only [builtin, Builtin.cap_, ht, h0, Sem.run_bind, run_underlying hu, Result.andThen_ok]
    rfl
  · rename_i h2
    split at hm <;> first | contradiction | skip
    rename_i i cs hH
    split at hm <;> first | contradiction | skip
    rename_i hex
    cases hm
    cases hr with
    | cons hx tl =>
    cases tl
    have h0 := one_arg hA
    cases hx with
    | slicee =>
      refine ⟨_, run_builtin ho hc ?_, .int ..⟩
      simp only [builtin, Builtin.cap_, ht, h0, Sem.run_bind, run_underlying hu, Result.andThen_ok]
      rfl
    | slice hφ hn hcc hpx hroom ha =>
      have hrow := hh.cells hφ hH
      have := hpx (by rw [← hrow.2.1]; exact hex)
      subst this
      refine ⟨_, run_builtin ho hc ?_, .int ..⟩
      simp only [builtin, Builtin.cap_, ht, h0, Sem.run_bind, run_underlying hu, Result.andThen_ok]
      rfl

theorem run_strOf {l ys : List Value} (h : Rels (CRel φ) l ys) : ∀ (s t : ByteArray), strOf s l = some t →
    (forIn (m := Sem) ys s fun (c : Value) (r : ByteArray) => match c with
      | .int .u8 n => pure (ForInStep.yield (r.push (UInt8.ofNat n.toNat)))
      | _ => do (stuck "bytesToString: byte expected" : Sem PUnit); pure (ForInStep.yield r)).run P w = .ok t w := by
  induction h with
  | nil => intro s t hs; cases hs; rfl
  | cons hx tl ih =>
    intro s t hs
    unfold strOf at hs
    split at hs <;> first | contradiction | skip
    rename_i n l0 h1
    cases h1
    rcases hx with hx | hx
    · cases hx
    · cases hx
      rw [List.forIn_cons, Sem.run_bind]
      exact ih _ _ hs

theorem strb_sim {s t e : TypeId} {x : Operand} (ho : o.op = .convert s t x) (hs : P.underlying s = some (.slice e)) (ht : P.underlying t = some .string) (he : P.underlying e = some (.int .u8))
    (hh : HRel φ (hp H) w) (hr : Rels (VRel φ) vs ([x].map ρ)) (hm : mread .strb vs H = some v) : Yields P o ρ w φ v := by
  obtain ⟨y, rfl, hx⟩ := rels1 hr
  have go : ∀ (y' : Value) (z : Value), ρ x = y' → (Conv.bytesToString y').run P w = .ok z w → (∃ a n c, y' = .slice a n c) → VRel φ v z → Yields P o ρ w φ v := by
    rintro y' z hy hz ⟨a, n, c, rfl⟩ hv
    refine ⟨z, ?_, hv⟩
    simp only [execOp, ho, hy, convert, Sem.run_bind, run_underlying hs, run_underlying ht, Result.andThen_ok, run_underlying he, hz, Sem.run_pure]
  unfold mread at hm
  split at hm <;> first | contradiction | skip
  rename_i a n c h1 h2
  cases h2
  split at hm <;> first | contradiction | skip
  rename_i l hl
  obtain ⟨t0, ht0, rfl⟩ := Option.map_eq_some_iff.1 hm
  generalize hX : ρ x = x' at hx
  unfold bytesAt at hl
  split at hl <;> first | contradiction | skip
  · cases hl; cases ht0
    cases hx
    exact go _ _ hX rfl ⟨_, _, _, rfl⟩ (.string _)
  · split at hl <;> first | contradiction | skip
    rename_i i c0 hH
    split at hl <;> first | contradiction | skip
    rename_i hle
    cases hl
    cases hx with
    | slicee =>
      rw [List.take_zero] at ht0; cases ht0
      exact go _ _ hX rfl ⟨_, _, _, rfl⟩ (.string _)
    | slice hφ hn hc hex hroom ha =>
      by_cases h0 : n = 0
      · subst h0
        rw [List.take_zero] at ht0; cases ht0
        exact go _ _ hX rfl ⟨_, _, _, rfl⟩ (.string _)
      · have hb := ha (by omega)
        subst hb
        obtain ⟨ys, hrun, hrel⟩ := (hh.cells hφ hH).row (P := P) _ n hle
        refine go _ _ hX ?_ ⟨_, _, _, rfl⟩ (.string t0)
        simp only [Conv.bytesToString, Sem.run_bind, hrun, Result.andThen_ok, List.forIn_toArray]
        have := run_strOf (P := P) (w := w) hrel .empty t0 ht0
        refine Eq.trans (congrArg (Result.andThen · _) this) rfl

/-- What the compiler's answer says, but of operations that hang on their operands alone. -/
inductive COp (P : Program) : Op → MOp → List Operand → Prop
  | pure {op : Op} {m : MOp} {xs : List Operand} (hk : m.kind = .pure) : COp P op m xs
  | new0 {e : TypeId} {z : Value} (hz : zeroOf P e = some z) (n : Nat) : COp P (.alloc e) (.new n z.cells.toList) []
  | newt {e : TypeId} {z : Value} (hz : zeroOf P e = some z) : COp P (.alloc e) (.newt e z.cells.toList) []
  | box {e : TypeId} {x : Operand} : COp P (.box e x) .box [x]
  | bslice {t e : TypeId} {len n : Nat} {parts : Array (Nat × Operand)} {z : Value} (hu : P.underlying t = some (.slice e)) (hs : szOf P e = some n) (hz : zeroOf P e = some z) :
      COp P (.buildSlice t len parts) (.bslice n len z.cells.toList (rowPlaces n parts.toList)) (parts.toList.map (·.2))
  | ld {t : TypeId} {a : Operand} {l : Option Nat} (hl : ldOf P t = some l) : COp P (.load t a) (.ld l) [a]
  | st {t : TypeId} {a x : Operand} {n : Nat} (hs : szOf P t = some n) : COp P (.store t a x) (.st n) [a, x]
  | mkmap {t : TypeId} : COp P (.makeMap t none) .mkmap []
  | mkchan {t e : TypeId} {d : ChanDir} {s : Operand} {n : Nat} (hu : P.underlying t = some (.chan d e)) (hb : bytesOf' P e = some n) : COp P (.makeChan t s) (.mkchan n) [s]
  | mslice {t e : TypeId} {l c : Operand} {n b : Nat} {z : Value} (hu : P.underlying t = some (.slice e)) (hs : szOf P e = some n) (hb : bytesOf' P e = some b) (hz : zeroOf P e = some z) (hn : n ≠ 0) :
      COp P (.makeSlice t l c) (.mslice n b z.cells.toList) [l, c]
  | sl {t e : TypeId} {x : Operand} {lo hi mx : Option Operand} {n : Nat} (hu : P.underlying t = some (.slice e)) (hs : szOf P e = some n) :
      COp P (.slice t x lo hi mx) (.sl n lo.isSome hi.isSome mx.isSome) (x :: (lo.toList ++ hi.toList ++ mx.toList))
  | look {t kt e : TypeId} {m k : Operand} {ok : Bool} {z : Value} (hu : P.underlying t = some (.map kt e)) (hk : P.underlying kt = some (.int .i64)) (hz : zeroOf P e = some z) : COp P (.lookup t m k ok) (.look z ok) [m, k]
  | mset {t kt e : TypeId} {m k v : Operand} (hu : P.underlying t = some (.map kt e)) (hk : P.underlying kt = some (.int .i64)) : COp P (.mapUpdate t m k v) .mset [m, k, v]
  | strb {s t e : TypeId} {x : Operand} (hs : P.underlying s = some (.slice e)) (ht : P.underlying t = some .string) (he : P.underlying e = some (.int .u8)) : COp P (.convert s t x) .strb [x]
  | s2b {s t e : TypeId} {x : Operand} (hs : P.underlying s = some .string) (ht : P.underlying t = some (.slice e)) (he : P.underlying e = some (.int .u8)) : COp P (.convert s t x) .s2b [x]
  | lenm {c : Call} {kt e : TypeId} (hc : c.callee = .builtin .len) (hd : (c.argTypes[0]?).bind P.underlying = some (.map kt e)) : COp P (.call c) .lenm c.args.toList
  | cap {c : Call} {e : TypeId} (hc : c.callee = .builtin .cap) (hd : (c.argTypes[0]?).bind P.underlying = some (.slice e)) : COp P (.call c) .cap c.args.toList
  | app {c : Call} {e : TypeId} {u : TypeDesc} {n b : Nat} {z : Value} (hc : c.callee = .builtin .append) (hd : (c.argTypes[0]?).bind P.underlying = some (.slice e)) (hu : (c.argTypes[1]?).bind P.underlying = some u)
      (hi : isIntD u = false) (hs : szOf P e = some n) (hb : bytesOf' P e = some b) (hz : zeroOf P e = some z) (hl : c.args.toList.length = 2) (hzl : z.cells.toList.length = n) : COp P (.call c) (.app n b) c.args.toList
  | appb {c : Call} {e : TypeId} {u : TypeDesc} {n b : Nat} {z : Value} (hc : c.callee = .builtin .append) (hd : (c.argTypes[0]?).bind P.underlying = some (.slice e)) (hu : (c.argTypes[1]?).bind P.underlying = some u)
      (hn : n = 1) (hi : isIntD u = false) (hs : szOf P e = some n) (hb : bytesOf' P e = some b) (hz : zeroOf P e = some z) (hl : c.args.toList.length = 2) (hzl : z.cells.toList.length = n) : COp P (.call c) (.appb e b) c.args.toList
  | appz {c : Call} {e : TypeId} {u : TypeDesc} {n b : Nat} {z : Value} (hc : c.callee = .builtin .append) (hd : (c.argTypes[0]?).bind P.underlying = some (.slice e)) (hu : (c.argTypes[1]?).bind P.underlying = some u)
      (hi : isIntD u = true) (hs : szOf P e = some n) (hb : bytesOf' P e = some b) (hz : zeroOf P e = some z) (hl : c.args.toList.length = 2) (hzl : z.cells.toList.length = n) : COp P (.call c) (.appz n b z.cells.toList) c.args.toList
  | copy {c : Call} {e : TypeId} {n : Nat} (hc : c.callee = .builtin .copy) (hd : (c.argTypes[0]?).bind P.underlying = some (.slice e)) (hs : szOf P e = some n) (hl : c.args.toList.length = 2) : COp P (.call c) (.copy n) c.args.toList
  | clear {c : Call} {e : TypeId} {n : Nat} {z : Value} (hc : c.callee = .builtin .clear) (hd : (c.argTypes[0]?).bind P.underlying = some (.slice e)) (hs : szOf P e = some n) (hz : zeroOf P e = some z) (hl : c.args.toList.length = 1) :
      COp P (.call c) (.clear n z.cells.toList) c.args.toList
  | mdel {c : Call} {kt e : TypeId} (hc : c.callee = .builtin .delete) (hd : (c.argTypes[0]?).bind P.underlying = some (.map kt e)) (hk : P.underlying kt = some (.int .i64)) (hl : c.args.toList.length = 2) : COp P (.call c) .mdel c.args.toList
  | call {c : Call} {f : FuncId} (hc : c.callee = .value (.func f)) : COp P (.call c) (.call f) c.args.toList
  | callv {c : Call} {x : Operand} (hc : c.callee = .value x) : COp P (.call c) .callv (x :: c.args.toList)
  | snd {ch x : Operand} : COp P (.send ch x) .snd [ch, x]
  | rcv {t e : TypeId} {d : ChanDir} {ch : Operand} {ok : Bool} {z : Value} (hu : P.underlying t = some (.chan d e)) (hz : zeroOf P e = some z) : COp P (.recv t ch ok) (.rcv z ok) [ch]
  | sel1 {cases : Array SelectCase} {b : Bool} {c : SelectCase} {x : Operand} {z : Value} (hc : cases.toList = [c]) (hs : c.send = some x) (hz : zeroOf P c.elem = some z) : COp P (.select cases b) (.sel1 true z b) [c.chan, x]

theorem cOp_inv {op : Op} {m : MOp} {xs : List Operand} (hc : cOp P op = some (m, xs)) : COp P op m xs := by
  unfold cOp at hc
  split at hc
  · cases hc; exact .pure rfl
  · cases hc; exact .pure rfl
  · cases hc; exact .pure rfl
  · split at hc <;> first | contradiction | skip
    · rename_i z k el hz hu
      cases hs : szOf P el with
      | none => simp [hs] at hc
      | some n => simp [hs] at hc; obtain ⟨rfl, rfl⟩ := hc; exact .new0 hz n
    · rename_i z _ hz hu
      split at hc
      · cases hc; exact .newt hz
      · cases hc; exact .new0 hz 0
  · cases hc; exact .box
  · split at hc <;> first | contradiction | skip
    · rename_i z fs hz hu
      split at hc <;> first | contradiction | skip
      obtain ⟨l, _, hc⟩ := Option.map_eq_some_iff.1 hc
      cases hc; exact .pure rfl
    · obtain ⟨l, _, hc⟩ := Option.map_eq_some_iff.1 hc
      cases hc; exact .pure rfl
  · split at hc <;> first | contradiction | skip
    rename_i hu
    split at hc <;> first | contradiction | skip
    rename_i hs hz
    cases hc; exact .bslice hu hs hz
  · obtain ⟨l, hl, hc⟩ := Option.map_eq_some_iff.1 hc
    cases hc; exact .ld hl
  · obtain ⟨l, hl, hc⟩ := Option.map_eq_some_iff.1 hc
    cases hc; exact .st hl
  · cases hc; exact .pure rfl
  · split at hc
    · split at hc
      · cases hc; exact .pure rfl
      · obtain ⟨l, hl, hc⟩ := Option.map_eq_some_iff.1 hc
        cases hc; exact .pure rfl
    · split at hc
      · cases hc; exact .pure rfl
      · obtain ⟨l, hl, hc⟩ := Option.map_eq_some_iff.1 hc
        cases hc; exact .pure rfl
    · cases hc; exact .pure rfl
  · cases hc; exact .pure rfl
  · split at hc <;> first | contradiction | skip
    · cases hc; exact .pure rfl
    · rename_i h1 h2
      split at hc <;> first | contradiction | skip
      rename_i h3
      cases hc; exact .strb h1 h2 h3
    · rename_i h1 h2
      split at hc <;> first | contradiction | skip
      rename_i h3
      cases hc; exact .s2b h1 h2 h3
  · split at hc <;> first | contradiction | skip
    cases hc; exact .pure rfl
  · cases hc; exact .mkmap
  · split at hc <;> first | contradiction | skip
    rename_i hu
    obtain ⟨l, hl, hc⟩ := Option.map_eq_some_iff.1 hc
    cases hc; exact .mkchan hu hl
  · split at hc <;> first | contradiction | skip
    rename_i hu
    split at hc <;> first | contradiction | skip
    rename_i hs hb hz
    split at hc <;> first | contradiction | skip
    rename_i hn
    cases hc; exact .mslice hu hs hb hz hn
  · split at hc <;> first | contradiction | skip
    · rename_i hu
      obtain ⟨l, hl, hc⟩ := Option.map_eq_some_iff.1 hc
      cases hc; exact .sl hu hl
    · split at hc <;> first | contradiction | skip
      cases hc; exact .pure rfl
  · split at hc <;> first | contradiction | skip
    split at hc <;> first | contradiction | skip
    split at hc <;> first | contradiction | skip
    cases hc; exact .pure rfl
  · split at hc <;> first | contradiction | skip
    split at hc <;> first | contradiction | skip
    obtain ⟨l, hl, hc⟩ := Option.map_eq_some_iff.1 hc
    cases hc; cases l <;> exact .pure rfl
  · split at hc <;> first | contradiction | skip
    all_goals
      obtain ⟨l, hl, hc⟩ := Option.map_eq_some_iff.1 hc
      cases hc; exact .pure rfl
  · split at hc <;> first | contradiction | skip
    · cases hc; exact .pure rfl
    · split at hc <;> first | contradiction | skip
      rename_i l _ _
      cases hc; cases l <;> exact .pure rfl
  · split at hc <;> first | contradiction | skip
    rename_i hu
    split at hc <;> first | contradiction | skip
    rename_i hk' hz
    cases hc; exact .look hu hk' hz
  · split at hc <;> first | contradiction | skip
    rename_i hu
    split at hc <;> first | contradiction | skip
    rename_i hk'
    cases hc; exact .mset hu hk'
  · cases hc; exact .pure rfl
  · split at hc <;> first | contradiction | skip
    · rename_i b hcal
      unfold cBuiltin at hc
      simp only [] at hc
      split at hc <;> first | contradiction | skip
      · split at hc <;> first | contradiction | skip
        · cases hc; exact .pure rfl
        · cases hc; exact .pure rfl
        · rename_i hd; cases hc; exact .lenm hcal hd
      · split at hc <;> first | contradiction | skip
        rename_i hd; cases hc; exact .cap hcal hd
      · split at hc <;> first | contradiction | skip
        rename_i hd hu
        split at hc <;> first | contradiction | skip
        · rename_i hi hs hb hz
          split at hc <;> first | contradiction | skip
          rename_i hl
          split at hc
          · rename_i hu8
            cases hc; exact .appb hcal hd hu (by simp only [Bool.and_eq_true, beq_iff_eq] at hu8; exact hu8.2) hi hs hb hz hl.1 hl.2
          · cases hc; exact .app hcal hd hu hi hs hb hz hl.1 hl.2
        · rename_i hi hs hb hz
          split at hc <;> first | contradiction | skip
          rename_i hl
          cases hc; exact .appz hcal hd hu hi hs hb hz hl.1 hl.2
      · split at hc <;> first | contradiction | skip
        rename_i hd
        split at hc <;> first | contradiction | skip
        rename_i hs
        split at hc <;> first | contradiction | skip
        rename_i hl
        cases hc; exact .copy hcal hd hs hl
      · split at hc <;> first | contradiction | skip
        rename_i hd
        split at hc <;> first | contradiction | skip
        rename_i hs hz
        split at hc <;> first | contradiction | skip
        rename_i hl
        cases hc; exact .clear hcal hd hs hz hl
      · cases hc; exact .pure rfl
      · cases hc; exact .pure rfl
      · split at hc <;> first | contradiction | skip
        rename_i hd
        split at hc <;> first | contradiction | skip
        rename_i hk
        split at hc <;> first | contradiction | skip
        rename_i hl
        cases hc; exact .mdel hcal hd hk hl
    · rename_i hcal; cases hc; exact .call hcal
    · rename_i hcal; cases hc; exact .callv hcal
  · cases hc; exact .snd
  · split at hc <;> first | contradiction | skip
    rename_i hu
    obtain ⟨l, hl, hc⟩ := Option.map_eq_some_iff.1 hc
    cases hc; exact .rcv hu hl
  · split at hc <;> first | contradiction | skip
    rename_i hcs
    split at hc <;> first | contradiction | skip
    rename_i hs hz
    cases hc; exact .sel1 hcs hs hz
  · cases hc

theorem read_sim (hc : cOp P o.op = some (op, xs)) (hk : op.kind = .read) (hh : HRel φ (hp H) w) (hr : Rels (VRel φ) vs (xs.map ρ)) (hm : mread op vs H = some v) : Yields P o ρ w φ v := by
  have hi := cOp_inv hc
  generalize ho : o.op = oo at hi
  cases hi <;> first | (cases hk; done) | skip
  case pure h => rw [h] at hk; cases hk
  case ld hl => exact ld_sim ho hl hh hr hm
  case sl hu hs => exact sl_sim ho hu hs hh hr hm
  case look hu hk' hz => exact look_sim ho hu hk' hz hh hr hm
  case lenm hc' hd => exact lenm_sim ho hc' hd hh hr hm
  case strb hs ht he => exact strb_sim ho hs ht he hh hr hm
  case cap hc' hd => exact cap_sim ho hc' hd hh hr hm
end
end Go.Mod
/- Operations that make one new object. -/
set_option linter.unusedVariables false
set_option linter.unusedSimpArgs false
namespace Go.Mod
variable [Glob]
set_option linter.unusedSectionVars false

def Ren.set (φ : Ren) (b : Nat) (pl : Place) : Ren := fun i => if i = b then some pl else φ i
theorem Ren.set_self (φ : Ren) (b : Nat) (pl : Place) : φ.set b pl b = some pl := by simp [Ren.set]
theorem Ren.set_ne (φ : Ren) {b i : Nat} (pl : Place) (h : i ≠ b) : φ.set b pl i = φ i := by simp [Ren.set, h]
theorem Ren.le_set {φ : Ren} {b : Nat} (pl : Place) (h : φ b = none) : φ.le (φ.set b pl) := fun i p hi => by
  by_cases e : i = b
  · subst e; rw [h] at hi; cases hi
  · rw [Ren.set_ne _ _ e]; exact hi

theorem range_mod (z : List Value) (n : Nat) (hn : z.length = n) : ∀ len : Nat, (List.range (len * n)).map (fun i => z[i % n]!) = (List.replicate len z).flatten
  | 0 => by simp
  | len + 1 => by
    rw [List.replicate_succ', List.flatten_append, ← range_mod z n hn len, Nat.succ_mul, List.range_add, List.map_append]
    congr 1
    simp only [List.map_map, List.flatten_cons, List.flatten_nil, List.append_nil]
    apply List.ext_getElem?
    intro i
    by_cases hi : i < n
    · simp only [List.getElem?_map, List.getElem?_range hi, Option.map_some, Function.comp_apply]
      rw [show (len * n + i) % n = i by rw [Nat.mul_comm, Nat.mul_add_mod, Nat.mod_eq_of_lt hi]]
      simp [List.getElem?_eq_getElem (show i < z.length by omega), List.getElem!_eq_getElem?_getD]
    · rw [List.getElem?_eq_none (by simp; omega), List.getElem?_eq_none (by omega)]

theorem zeros_row (z : Array Value) (n len : Nat) (hn : z.toList.length = n) : ((Array.range (len * n)).map (fun i => z[i % z.size]!)).toList = (List.replicate len z.toList).flatten := by
  rw [← range_mod z.toList n hn len]
  simp only [Array.toList_map, Array.toList_range]
  apply List.map_congr_left
  intro i _
  have : z.size = n := by simpa using hn
  rw [this]
  simp [Array.getElem!_eq_getD, Array.getD_eq_getD_getElem?]

theorem rels_flatten {R : Value → Value → Prop} {xs ys : List Value} (h : Rels R xs ys) : ∀ n : Nat, Rels R (List.replicate n xs).flatten (List.replicate n ys).flatten
  | 0 => .nil
  | n + 1 => by simp only [List.replicate_succ, List.flatten_cons]; exact h.append (rels_flatten h n)

theorem wrap_small {n : Int} (h0 : 0 ≤ n) (h1 : n ≤ 1073741824) : IntKind.i64.wrap n = n := by
  simp only [IntKind.wrap, IntKind.bits, IntKind.signed]
  simp
  omega

section
variable {P : Program} {o : Oper} {ρ : Operand → Value} {w : World} {φ : Ren} {vs : List Value} {v : Value} {op : MOp} {xs : List Operand} {H : MH}

theorem heap_new (w : World) (ob : Obj) : (w.alloc ob).heap[w.heap.size]? = some ob := by
  show (w.heap.push ob)[w.heap.size]? = some ob
  simp

/-- A new row of cells. -/
theorem ORel.new {c : List Value} {rc : Array Value} {elem : TypeId} (i : Info) (hr : Rels (CRel φ) c rc.toList) (hel : i.ex.el = none ∨ i.ex.el = some elem := by exact .inl rfl) :
    ORel φ (w.alloc (.cells rc elem)) ⟨w.heap.size, 0, rc.size, i.es, i.ex⟩ (.cells i c) := by
  refine ⟨rfl, rfl, rc, elem, 0, 0, heap_new .., ?_, by simp, fun j x hx => ?_, fun _ => .inl (Nat.le_refl _), fun t h => by
    rcases hel with g | g <;> rw [g] at h <;> cases h
    exact ⟨rfl, fun _ => ⟨rfl, by have := hr.length; simpa using this⟩⟩⟩
  · have := hr.length; simp at this; simp [this]
  · obtain ⟨y, hy, hrel⟩ := hr.get j x hx
    exact ⟨y, by simpa using hy, hrel⟩

theorem malloc_bslice (es len : Nat) (zero : List Value) (l : List (Nat × Nat)) (vs : List Value) (b : Nat) : malloc (.bslice es len zero l) vs b =
    match fillAll (List.replicate len zero).flatten l vs with
    | some c => if zero.length = es ∧ len * es ≤ 16777216 then some (.cells ⟨es, true, true⟩ c, .slice (some ⟨b, 0, none⟩) len len) else none
    | none => none := by
  rcases vs with _ | ⟨a, _ | ⟨c, _ | ⟨d, _⟩⟩⟩ <;> rfl
theorem fillAll_length : ∀ (ps : List (Nat × Nat)) (us cells c : List Value), fillAll cells ps us = some c → c.length = cells.length := by
  intro ps
  induction ps with
  | nil => intro us cells c h; cases us <;> simp [fillAll] at h; rw [h]
  | cons p ps ih =>
    intro us cells c h
    cases us with
    | nil => simp [fillAll] at h
    | cons u us =>
      obtain ⟨off, sz⟩ := p
      simp only [fillAll] at h
      split at h <;> first | contradiction | skip
      rename_i hcc
      rw [ih _ _ _ h]
      simp only [fillAt, List.length_append, List.length_take, List.length_drop]
      omega
theorem flat_length (z : List Value) : ∀ n : Nat, (List.replicate n z).flatten.length = n * z.length
  | 0 => by simp
  | n + 1 => by simp only [List.replicate_succ, List.flatten_cons, List.length_append, flat_length z n, Nat.succ_mul]; omega

def Allocs (P : Program) (o : Oper) (ρ : Operand → Value) (w : World) (φ : Ren) (b : Nat) (ob : MObj) (v : Value) : Prop :=
  ∃ v' blk pl, (execOp ρ o).run P w = .ok (.value v') (w.alloc blk) ∧ pl.block = w.heap.size ∧ ORel φ (w.alloc blk) pl ob ∧ VRel (φ.set b pl) v v'

theorem alloc_sim {b : Nat} {ob : MObj} (hc : cOp P o.op = some (op, xs)) (hk : op.kind = .alloc) (hr : Rels (VRel φ) vs (xs.map ρ)) (hm : malloc op vs b = some (ob, v)) : Allocs P o ρ w φ b ob v := by
  have hi := cOp_inv hc
  generalize ho : o.op = oo at hi
  cases hi <;> first | (cases hk; done) | skip
  case pure h => rw [h] at hk; cases hk
  case new0 e z hz n =>
    cases hr
    simp only [malloc] at hm
    cases hm
    obtain ⟨hz1, hz2⟩ := zeroOf_sim (w := w) (φ := φ) hz
    refine ⟨.pointer (some ⟨w.heap.size, 0, none⟩), .cells z.cells e, ⟨w.heap.size, 0, z.cells.size, n, false⟩, ?_, rfl, ORel.new ⟨n, true, false⟩ (hz2.cells.imp fun _ _ => .inr), ?_⟩
    · simp only [execOp, ho, Instr.alloc, Sem.run_bind, hz1, Result.andThen_ok, newVar, newRow, run_newObj, Sem.run_pure]
      rfl
    · exact .ptr (pl := ⟨w.heap.size, 0, z.cells.size, n, false⟩) (o := 0) (Ren.set_self ..)
  case newt e z hz =>
    cases hr
    simp only [malloc] at hm
    cases hm
    obtain ⟨hz1, hz2⟩ := zeroOf_sim (w := w) (φ := φ) hz
    refine ⟨.pointer (some ⟨w.heap.size, 0, none⟩), .cells z.cells e, ⟨w.heap.size, 0, z.cells.size, 0, ⟨false, some e⟩⟩, ?_, rfl, ORel.new ⟨0, true, ⟨false, some e⟩⟩ (hz2.cells.imp fun _ _ => .inr) (.inr rfl), ?_⟩
    · simp only [execOp, ho, Instr.alloc, Sem.run_bind, hz1, Result.andThen_ok, newVar, newRow, run_newObj, Sem.run_pure]
      rfl
    · exact .ptr (pl := ⟨w.heap.size, 0, z.cells.size, 0, ⟨false, some e⟩⟩) (o := 0) (Ren.set_self ..)
  case box e x =>
    obtain ⟨y, rfl, hy⟩ := rels1 hr
    simp only [malloc] at hm
    split at hm <;> first | contradiction | skip
    cases hm
    refine ⟨.pointer (some ⟨w.heap.size, 0, none⟩), .cells (ρ x).cells e, ⟨w.heap.size, 0, (ρ x).cells.size, 0, false⟩, ?_, rfl, ORel.new ⟨0, true, false⟩ (hy.cells.imp fun _ _ => .inr), ?_⟩
    · simp only [execOp, ho, Instr.box, Sem.run_bind, Result.andThen_ok, newVar, newRow, run_newObj, Sem.run_pure]
      rfl
    · exact .ptr (pl := ⟨w.heap.size, 0, (ρ x).cells.size, 0, false⟩) (o := 0) (Ren.set_self ..)
  case bslice t e len n parts z hu hs hz =>
    rw [List.map_map] at hr
    rw [malloc_bslice] at hm
    split at hm <;> first | contradiction | skip
    rename_i c hf
    split at hm <;> first | contradiction | skip
    rename_i hcond
    cases hm
    obtain ⟨hz1, hz2⟩ := zeroOf_sim (w := w) (φ := φ) hz
    obtain ⟨hlen, hq⟩ := rowPlaces_sim n parts.toList
    have hparts : (parts.map fun (x : Nat × Operand) => (x.1, ρ x.2)).toList = parts.toList.map fun p => (p.1, ρ p.2) := by simp
    -- the zero row
    let Z : Array Value := if len * n = 0 then #[] else z.cells
    have hZ : ((Array.range (len * n)).map (fun i => Z[i % Z.size]!)).toList = (List.replicate len z.cells.toList).flatten := by
      by_cases h0 : len * n = 0
      · have : (List.replicate len z.cells.toList).flatten = [] := by
          rcases Nat.mul_eq_zero.1 h0 with h | h
          · subst h; rfl
          · have hz0 : z.cells.toList = [] := List.eq_nil_of_length_eq_zero (by rw [hcond.1, h])
            rw [hz0]; simp
        rw [this, h0]; simp
      · simp only [Z, if_neg h0]
        exact zeros_row z.cells n len hcond.1
    have hrel : Rels (VRel φ) (List.replicate len z.cells.toList).flatten ((Array.range (len * n)).map (fun i => Z[i % Z.size]!)).toList := by
      rw [hZ]; exact rels_flatten hz2.cells len
    obtain ⟨c', h1, h2⟩ := fill_sim (place := fun i => some (i * n, n)) parts.toList _ vs _ c _ hlen
      (fun i p q hpi hqi => hq i p q hpi hqi) hr hrel hf
    refine ⟨.slice (some ⟨w.heap.size, 0, none⟩) len len, .cells c' e, ⟨w.heap.size, 0, c'.size, n, true⟩, ?_, rfl, ORel.new ⟨n, true, true⟩ (h2.imp fun _ _ => .inr), ?_⟩
    · simp only [execOp, ho, Instr.buildSlice, Sem.run_bind, run_underlying hu, Result.andThen_ok, szOf_sim hs]
      rw [if_neg (by omega)]
      by_cases h0 : len * n = 0
      · simp only [Z, if_pos h0] at h1
        rw [if_pos h0]
        simp only [Sem.run_bind, Sem.run_pure, Result.andThen_ok]
        rw [hparts, h1]
        simp only [newRow, Sem.run_bind, run_newObj, Result.andThen_ok, Sem.run_pure]
        rfl
      · simp only [Z, if_neg h0] at h1
        rw [if_neg h0]
        simp only [Sem.run_bind, hz1, Sem.run_pure, Result.andThen_ok]
        rw [hparts, h1]
        simp only [newRow, Sem.run_bind, run_newObj, Result.andThen_ok, Sem.run_pure]
        rfl
    · refine .slice (pl := ⟨w.heap.size, 0, c'.size, n, true⟩) (o := 0) (Ren.set_self ..) (Nat.le_refl _) (Nat.le_refl _) (fun _ => rfl) ?_ (fun _ => rfl)
      have hl := h2.length
      have hlc : c.length = len * n := by
        rw [fillAll_length _ _ _ _ hf, flat_length, hcond.1]
      simp only [Nat.zero_add]
      simp at hl
      omega
  case mslice t e l cc n bb z hu hs hb hz hn =>
    obtain ⟨x, y, rfl, hx, hy⟩ := rels2 hr
    unfold malloc at hm
    split at hm <;> first | contradiction | skip
    rename_i h1 h2; cases h1; cases h2
    split at hm <;> first | contradiction | skip
    rename_i hcond
    cases hm
    obtain ⟨hz1, hz2⟩ := zeroOf_sim (w := w) (φ := φ) hz
    obtain ⟨inf, hinf, hbytes⟩ := bytesOf_sim (w := w) hb
    generalize hX : ρ l = x' at hx; generalize hY : ρ cc = y' at hy
    cases hx; cases hy
    rename_i _ m _ k'
    obtain ⟨c1, c2, c3, c4, c5⟩ := hcond
    obtain ⟨m, rfl⟩ := Int.eq_ofNat_of_zero_le c1
    obtain ⟨q, rfl⟩ := Int.eq_ofNat_of_zero_le (show 0 ≤ k' by omega)
    have hbq : bb * q ≤ 4096 * 1073741824 := Nat.mul_le_mul c4 (by omega)
    have hl1 : ¬ (m : Int) < 0 := by omega
    have hbig : ∀ r : Nat, r ≤ q → (decide ((r : Int) < 0) || decide (((inf.bytes : Nat) : Int) * (r : Int) > 2 ^ 48)) = false := by
      intro r hr
      have h1 : bb * r ≤ 4096 * 1073741824 := Nat.le_trans (Nat.mul_le_mul_left _ hr) hbq
      rw [hbytes]
      simp only [Bool.or_eq_false_iff, decide_eq_false_iff_not]
      refine ⟨by omega, ?_⟩
      have : ((bb : Int) * (r : Int)) = ((bb * r : Nat) : Int) := by simp
      rw [this]
      omega
    refine ⟨.slice (some ⟨w.heap.size, 0, none⟩) m q, .cells ((Array.range (q * n)).map (fun i => z.cells[i % z.cells.size]!)) e, ⟨w.heap.size, 0, ((Array.range (q * n)).map (fun i => z.cells[i % z.cells.size]!)).size, n, true⟩, ?_, rfl, ?_, ?_⟩
    · simp only [execOp, ho, hX, hY, Instr.makeSlice, Sem.run_bind, run_underlying hu, Result.andThen_ok, asInt, asIntOf, Sem.run_pure, hinf, wrap_small c1 (by omega), wrap_small (show (0 : Int) ≤ (q : Int) by omega) (by omega)]
      have e1 := hbig q (Nat.le_refl _)
      simp only [e1, Bool.false_or]
      rw [if_neg (by simp only [Bool.or_eq_true, decide_eq_true_eq]; omega)]
      simp only [Sem.run_bind, run_askRoom, szOf_sim hs, Result.andThen_ok, Int.toNat_natCast]
      by_cases h0 : q * n = 0
      · rw [if_pos h0]
        have hq0 : q = 0 := by
          rcases Nat.mul_eq_zero.1 h0 with h | h
          · exact h
          · exact absurd h hn
        subst hq0
        simp only [Sem.run_bind, Sem.run_pure, Result.andThen_ok, newRow, run_newObj, Nat.zero_mul]
        simp [Array.range]
      · rw [if_neg h0]
        simp only [Sem.run_bind, hz1, Sem.run_pure, Result.andThen_ok, newRow, run_newObj]
        rfl
    · refine ORel.new ⟨n, true, true⟩ ?_
      rw [zeros_row z.cells n q c5]
      simp only [Int.toNat_natCast]
      exact (rels_flatten hz2.cells q).imp fun _ _ => .inr
    · refine .slice (pl := ⟨w.heap.size, 0, _, n, true⟩) (o := 0) (Ren.set_self ..) (by omega) (by omega) (fun _ => by simp) ?_ (fun _ => rfl)
      simp
  case mkmap t =>
    cases hr
    simp only [malloc] at hm
    cases hm
    refine ⟨.map (some w.heap.size), .map #[] 0, ⟨w.heap.size, 0, 0, 0, false⟩, ?_, rfl, ⟨#[], 0, heap_new .., rfl, fun j p e hp => by simp at hp⟩, ?_⟩
    · simp only [execOp, ho, Instr.makeMap, Option.map_none, Sem.run_bind, run_newObj, Sem.run_pure, Result.andThen_ok]; rfl
    · exact .map (pl := ⟨w.heap.size, 0, 0, 0, false⟩) (Ren.set_self ..)
  case mkchan t e d s n hu hb =>
    obtain ⟨x, rfl, hx⟩ := rels1 hr
    unfold malloc at hm
    split at hm <;> first | contradiction | skip
    rename_i h1 h2; cases h1; cases h2
    split at hm <;> first | contradiction | skip
    rename_i hcond
    cases hm
    obtain ⟨inf, hinf, hbytes⟩ := bytesOf_sim (w := w) hb
    generalize hX : ρ s = x' at hx
    cases hx
    rename_i m _
    obtain ⟨c1, c2, c3⟩ := hcond
    obtain ⟨m, rfl⟩ := Int.eq_ofNat_of_zero_le c1
    have hbq : n * m ≤ 4096 * 1048576 := Nat.mul_le_mul c3 (by omega)
    refine ⟨.chan (some w.heap.size), .chan m #[] false 0 0 false, ⟨w.heap.size, 0, 0, 0, false⟩, ?_, rfl, ⟨#[], 0, 0, heap_new .., .nil⟩, ?_⟩
    · simp only [execOp, ho, hX, Instr.makeChan, Sem.run_bind, run_underlying hu, Result.andThen_ok, asInt, asIntOf, Sem.run_pure, hinf]
      have hmul : ((inf.bytes : Nat) : Int) * (m : Int) = ((n * m : Nat) : Int) := by rw [hbytes]; simp
      rw [if_neg (by rw [hmul]; simp only [show IntKind.i64.max = 9223372036854775807 from by decide]; omega)]
      simp only [Sem.run_bind, run_newObj, Sem.run_pure, Result.andThen_ok, Int.toNat_natCast]
      rfl
    · exact .chan (pl := ⟨w.heap.size, 0, 0, 0, false⟩) (Ren.set_self ..)
end
end Go.Mod
/- Operations that write. -/
set_option linter.unusedVariables false
set_option linter.unusedSimpArgs false
namespace Go.Mod
variable [Glob]
set_option linter.unusedSectionVars false

/-- What a piece of a run leaves alone. -/
structure Fr (φ : Ren) (h : Nat → Option MObj) (w w' : World) : Prop where
  os : w'.os = w.os
  tape : w'.tape = w.tape
  output : w'.output = w.output
  size : w.heap.size ≤ w'.heap.size
  block : ∀ b, b < w.heap.size → (∀ id pl o, φ id = some pl → h id = some o → o.mut = true → pl.block ≠ b) → w'.heap[b]? = w.heap[b]?

/-- From one heap and its renaming to the next: 'n': the model's ids from there on are new. -/
structure Step (n : Nat) (φ : Ren) (h : Nat → Option MObj) (w : World) (φ' : Ren) (h' : Nat → Option MObj) (w' : World) : Prop where
  rel : HRel φ' h' w'
  le : φ.le φ'
  fr : Fr φ h w w'
  new : ∀ id pl o', φ' id = some pl → h' id = some o' → o'.mut = true → pl.block < w.heap.size → ∃ id0 pl0 o, φ id0 = some pl0 ∧ h id0 = some o ∧ o.mut = true ∧ pl0.block = pl.block
  fresh : ∀ id pl, φ' id = some pl → φ id = none → pl.block < w.heap.size → ∃ id0 pl0 o, φ id0 = some pl0 ∧ h id0 = some o ∧ o.mut = true ∧ pl0.block = pl.block
  dom : ∀ id pl, φ' id = some pl → φ id = some pl ∨ (φ id = none ∧ n ≤ id)

theorem Fr.refl (φ : Ren) (h : Nat → Option MObj) (w : World) : Fr φ h w w := ⟨rfl, rfl, rfl, Nat.le_refl _, fun _ _ _ => rfl⟩
theorem Step.refl {n : Nat} {φ : Ren} {h : Nat → Option MObj} {w : World} (hr : HRel φ h w) : Step n φ h w φ h w :=
  ⟨hr, Ren.le.refl φ, Fr.refl φ h w, fun id pl o h1 h2 h3 _ => ⟨id, pl, o, h1, h2, h3, rfl⟩, fun id pl h1 h2 => (by rw [h2] at h1; cases h1), fun id pl h => .inl h⟩

theorem Step.trans {n n' : Nat} {φ φ₁ φ₂ : Ren} {h h₁ h₂ : Nat → Option MObj} {w w₁ w₂ : World} (a : Step n φ h w φ₁ h₁ w₁) (b : Step n' φ₁ h₁ w₁ φ₂ h₂ w₂) (hn : n ≤ n') : Step n φ h w φ₂ h₂ w₂ := by
  refine ⟨b.rel, a.le.trans b.le, ⟨b.fr.os.trans a.fr.os, b.fr.tape.trans a.fr.tape, b.fr.output.trans a.fr.output, Nat.le_trans a.fr.size b.fr.size, ?_⟩, ?_, ?_, ?_⟩
  · intro k hk hnot
    rw [b.fr.block k (Nat.lt_of_lt_of_le hk a.fr.size) ?_, a.fr.block k hk hnot]
    intro id pl o hφ ho hm he
    obtain ⟨id0, pl0, o0, h1, h2, h3, h4⟩ := a.new id pl o hφ ho hm (by rw [he]; exact hk)
    exact hnot id0 pl0 o0 h1 h2 h3 (h4.trans he)
  · intro id pl o hφ ho hm hlt
    obtain ⟨id1, pl1, o1, h1, h2, h3, h4⟩ := b.new id pl o hφ ho hm (Nat.lt_of_lt_of_le hlt a.fr.size)
    obtain ⟨id0, pl0, o0, g1, g2, g3, g4⟩ := a.new id1 pl1 o1 h1 h2 h3 (by rw [h4]; exact hlt)
    exact ⟨id0, pl0, o0, g1, g2, g3, g4.trans h4⟩
  · intro id pl hφ hno hlt
    cases h1 : φ₁ id with
    | some p =>
      have := b.le id p h1
      rw [hφ] at this; cases this
      exact a.fresh id pl h1 hno hlt
    | none =>
      obtain ⟨id1, pl1, o1, h1, h2, h3, h4⟩ := b.fresh id pl hφ h1 (Nat.lt_of_lt_of_le hlt a.fr.size)
      obtain ⟨id0, pl0, o0, g1, g2, g3, g4⟩ := a.new id1 pl1 o1 h1 h2 h3 (by rw [h4]; exact hlt)
      exact ⟨id0, pl0, o0, g1, g2, g3, g4.trans h4⟩
  · intro id pl hφ
    rcases b.dom id pl hφ with h | ⟨h, hle⟩
    · exact a.dom id pl h
    · refine .inr ⟨?_, Nat.le_trans hn hle⟩
      cases hc : φ id with
      | none => rfl
      | some p => have := a.le id p hc; rw [h] at this; cases this

/-- The world may have drawn meanwhile. -/
theorem HRel.world {φ : Ren} {h : Nat → Option MObj} {w w' : World} (hr : HRel φ h w) (hs : w.heap.size ≤ w'.heap.size) (hb : ∀ id pl, φ id = some pl → w'.heap[pl.block]? = w.heap[pl.block]?) (hg : ∀ b o, Glob.G b = some o → w'.heap[b]? = w.heap[b]?) : HRel φ h w' :=
  ⟨fun id pl hφ => by obtain ⟨o, h1, h2⟩ := hr.obj id pl hφ; exact ⟨o, h1, h2.mono (Ren.le.refl φ) (hb id pl hφ)⟩,
   fun id pl hφ => Nat.lt_of_lt_of_le (hr.lt id pl hφ) hs, hr.sep, fun b o hb' => ⟨(hg b o hb').trans (hr.glob b o hb').1, (hr.glob b o hb').2⟩⟩

/-- One object is written anew where it lies. -/
theorem Step.write {n : Nat} {φ : Ren} {H : MH} {w w' : World} {id : Nat} {pl : Place} {ob ob' : MObj} (hr : HRel φ (hp H) w) (hφ : φ id = some pl) (hH : H[id]? = some ob) (hm : ob.mut = true) (hm' : ob'.live = true)
    (hos : w'.os = w.os) (htp : w'.tape = w.tape) (hout : w'.output = w.output) (hsz : w'.heap.size = w.heap.size) (hbl : ∀ b, b ≠ pl.block → w'.heap[b]? = w.heap[b]?) (ho : ORel φ w' pl ob') :
    Step n φ (hp H) w φ (hp (H.set id ob')) w' := by
  have hid : id < H.length := (List.getElem?_eq_some_iff.1 hH).1
  have hlive : ob.live = true := by cases ob <;> first | rfl | (simp [MObj.mut] at hm)
  have get : ∀ j o, (H.set id ob')[j]? = some o → (j = id ∧ o = ob') ∨ (j ≠ id ∧ H[j]? = some o) := by
    intro j o hj
    by_cases e : j = id
    · subst e; rw [List.getElem?_set_self hid] at hj; cases hj; exact .inl ⟨rfl, rfl⟩
    · rw [List.getElem?_set_ne (fun h => e h.symm)] at hj; exact .inr ⟨e, hj⟩
  refine ⟨⟨?_, ?_, ?_, fun b o hG => ⟨(hbl b fun e => (hr.glob b o hG).2 id pl ob hφ hH hm e.symm).trans (hr.glob b o hG).1, fun j pj oj hj hoj hmj => by
    rcases get j oj hoj with ⟨rfl, rfl⟩ | ⟨hj', hoj'⟩
    · rw [hφ] at hj; cases hj; exact (hr.glob b o hG).2 _ _ ob hφ hH hm
    · exact (hr.glob b o hG).2 j pj oj hj hoj' hmj⟩⟩, Ren.le.refl φ, ⟨hos, htp, hout, by omega, ?_⟩, ?_, fun id pl h1 h2 => (by rw [h2] at h1; cases h1), fun _ _ h => .inl h⟩
  · intro j pj hj
    obtain ⟨o, h1, h2⟩ := hr.obj j pj hj
    by_cases e : j = id
    · subst e
      rw [hφ] at hj; cases hj
      exact ⟨ob', by show (H.set _ _)[_]? = _; rw [List.getElem?_set_self hid], ho⟩
    · refine ⟨o, by show (H.set _ _)[_]? = _; rw [List.getElem?_set_ne (fun h => e h.symm)]; exact h1, ?_⟩
      by_cases hl : o.live = true
      · have : pj.block ≠ pl.block := fun hh => e (hr.sep id j pl pj ob o hφ hj hH h1 hm hl hh.symm).symm
        exact h2.mono (Ren.le.refl φ) (hbl _ this)
      · cases o <;> first | trivial | (simp [MObj.live] at hl)
  · intro j pj hj; rw [hsz]; exact hr.lt j pj hj
  · intro i j pi pj oi oj hi hj hoi hoj hmi hlj hb
    rcases get i oi hoi with ⟨rfl, rfl⟩ | ⟨hi', hoi'⟩ <;> rcases get j oj hoj with ⟨rfl, rfl⟩ | ⟨hj', hoj'⟩
    · rfl
    · exact hr.sep i j pi pj ob oj hi hj hH hoj' hm hlj hb
    · exact hr.sep i j pi pj oi ob hi hj hoi' hH hmi hlive hb
    · exact hr.sep i j pi pj oi oj hi hj hoi' hoj' hmi hlj hb
  · intro b hb hnot
    exact hbl b (fun e => hnot id pl ob hφ hH hm e.symm)
  · intro j pj o' hj ho' hmo hlt
    rcases get j o' ho' with ⟨rfl, rfl⟩ | ⟨hj', hoj'⟩
    · exact ⟨j, pj, ob, hj, hH, hm, rfl⟩
    · exact ⟨j, pj, o', hj, hoj', hmo, rfl⟩

/-- One object is new, at the heap's end. -/
theorem Step.push {n : Nat} {φ : Ren} {H : MH} {w w' : World} {pl : Place} {ob : MObj} (hr : HRel φ (hp H) w) (hn : n ≤ H.length) (hpl : pl.block = w.heap.size)
    (hos : w'.os = w.os) (htp : w'.tape = w.tape) (hout : w'.output = w.output) (hsz : w'.heap.size = w.heap.size + 1) (hbl : ∀ b, b < w.heap.size → w'.heap[b]? = w.heap[b]?) (ho : ORel φ w' pl ob) :
    Step n φ (hp H) w (φ.set H.length pl) (hp (H ++ [ob])) w' := by
  have hno : φ H.length = none := by
    cases h : φ H.length with
    | none => rfl
    | some p => obtain ⟨o, h1, _⟩ := hr.obj _ p h; unfold hp at h1; simp at h1
  have hle := Ren.le_set pl hno
  have get : ∀ j o, (H ++ [ob])[j]? = some o → (j = H.length ∧ o = ob) ∨ (j ≠ H.length ∧ H[j]? = some o) := by
    intro j o hj
    by_cases e : j = H.length
    · subst e; simp at hj; exact .inl ⟨rfl, hj.symm⟩
    · refine .inr ⟨e, ?_⟩
      by_cases hlt : j < H.length
      · rwa [List.getElem?_append_left hlt] at hj
      · have : (H ++ [ob])[j]? = none := List.getElem?_eq_none (by simp; omega)
        rw [this] at hj; cases hj
  have old : ∀ j pj, j ≠ H.length → (φ.set H.length pl) j = some pj → φ j = some pj := fun j pj e h => by rwa [Ren.set_ne _ _ e] at h
  have self : ∀ pj, (φ.set H.length pl) H.length = some pj → pj = pl := fun pj h => by rw [Ren.set_self] at h; cases h; rfl
  have hglt : ∀ b o, Glob.G b = some o → b < w.heap.size := fun b o hG => (Array.getElem?_eq_some_iff.1 (hr.glob b o hG).1).1
  refine ⟨⟨?_, ?_, ?_, fun b o hG => ⟨(hbl b (hglt b o hG)).trans (hr.glob b o hG).1, fun j pj oj hj hoj hmj => by
    rcases get j oj hoj with ⟨rfl, rfl⟩ | ⟨hj', hoj'⟩
    · obtain rfl := self pj hj; have := hglt b o hG; omega
    · exact (hr.glob b o hG).2 j pj oj (old j pj hj' hj) hoj' hmj⟩⟩, hle, ⟨hos, htp, hout, by omega, fun b hb _ => hbl b hb⟩, ?_, ?_, ?_⟩
  · intro j pj hj
    by_cases e : j = H.length
    · subst e
      obtain rfl := self pj hj
      exact ⟨ob, by show (H ++ [ob])[H.length]? = _; simp, ho.mono hle rfl⟩
    · have hj' := old j pj e hj
      obtain ⟨o, h1, h2⟩ := hr.obj j pj hj'
      have hlt := (List.getElem?_eq_some_iff.1 (show H[j]? = some o from h1)).1
      exact ⟨o, by show (H ++ [ob])[j]? = _; rw [List.getElem?_append_left hlt]; exact h1, h2.mono hle (hbl _ (hr.lt j pj hj'))⟩
  · intro j pj hj
    by_cases e : j = H.length
    · subst e; obtain rfl := self pj hj; omega
    · have := hr.lt j pj (old j pj e hj); omega
  · intro i j pi pj oi oj hi hj hoi hoj hmi hlj hb
    rcases get i oi hoi with ⟨rfl, rfl⟩ | ⟨hi', hoi'⟩ <;> rcases get j oj hoj with ⟨rfl, rfl⟩ | ⟨hj', hoj'⟩
    · rfl
    · obtain rfl := self pi hi
      have := hr.lt j pj (old j pj hj' hj); omega
    · obtain rfl := self pj hj
      have := hr.lt i pi (old i pi hi' hi); omega
    · exact hr.sep i j pi pj oi oj (old i pi hi' hi) (old j pj hj' hj) hoi' hoj' hmi hlj hb
  · intro j pj o' hj ho' hmo hlt
    rcases get j o' ho' with ⟨rfl, rfl⟩ | ⟨hj', hoj'⟩
    · obtain rfl := self pj hj; omega
    · exact ⟨j, pj, o', old j pj hj' hj, hoj', hmo, rfl⟩
  · intro j pj hj hnj hlt
    by_cases e : j = H.length
    · subst e; obtain rfl := self pj hj; omega
    · have := old j pj e hj; rw [hnj] at this; cases this
  · intro j pj hj
    by_cases e : j = H.length
    · subst e; exact .inr ⟨hno, hn⟩
    · exact .inl (old j pj e hj)

section
variable {P : Program} {o : Oper} {ρ : Operand → Value} {w : World} {φ : Ren} {vs : List Value} {v : Value} {op : MOp} {xs : List Operand} {H : MH}

/-- The world behind a row of stores into one block. -/
def setRow' (w : World) (b : Nat) (rc : Array Value) (elem : TypeId) (lo hi : Nat) : World := { w with heap := w.heap.setIfInBounds b (.cells rc elem (lo, hi)) }

theorem storeCells_sim {b : Nat} {elem : TypeId} {lo hi : Nat} : ∀ (ys : List Value) (off i : Nat) (rc : Array Value) (w : World), w.heap[b]? = some (.cells rc elem (lo, hi)) → off + i + ys.length ≤ rc.size → ys.all flat = true →
    (∀ j, off + i ≤ j → j < off + i + ys.length → ¬ (lo ≤ j ∧ j < hi)) →
    ∃ rc', (storeCells ⟨b, off, none⟩ ys i).run P w = .ok () (setRow' w b rc' elem lo hi) ∧ rc'.size = rc.size ∧ ∀ j : Nat, rc'[j]? = if off + i ≤ j ∧ j < off + i + ys.length then ys[j - (off + i)]? else rc[j]?
  | [], off, i, rc, w, hb, hl, hf, hfr => by
    refine ⟨rc, ?_, rfl, fun j => by rw [if_neg (by simp)]⟩
    simp only [storeCells, Sem.run_pure]
    congr 1
    unfold setRow'
    have hlt := (Array.getElem?_eq_some_iff.1 hb)
    obtain ⟨hlt, he⟩ := hlt
    have : w.heap.setIfInBounds b (.cells rc elem (lo, hi)) = w.heap := by
      apply Array.ext_getElem?
      intro k
      rw [Array.getElem?_setIfInBounds]
      split
      · rename_i e; subst e; simp [hlt, he]
      · rfl
    rw [this]
  | y :: ys, off, i, rc, w, hb, hl, hf, hfr => by
    simp only [List.length_cons] at hl hfr
    simp only [List.all_cons, Bool.and_eq_true] at hf
    have hc : w.cell? ⟨b, off + i, none⟩ = some (rc[off + i]'(by omega)) := cell_of hb (Array.getElem?_eq_getElem (by omega))
    have hz : w.frozen? ⟨b, off + i, none⟩ = false := by
      have := hfr (off + i) (by omega) (by omega)
      simp only [World.frozen?, hb]
      simp only [Bool.and_eq_false_iff, decide_eq_false_iff_not]
      omega
    have hone : y.oneCell' = true := by cases y <;> first | rfl | (simp [flat] at hf)
    have hset : w.setCell ⟨b, off + i, none⟩ y = setRow' w b (rc.setIfInBounds (off + i) y) elem lo hi := by
      unfold World.setCell setRow'
      congr 1
      apply Array.ext_getElem?
      intro k
      rw [Array.getElem?_modify, Array.getElem?_setIfInBounds]
      by_cases e : b = k
      · subst e
        obtain ⟨hlt, he⟩ := Array.getElem?_eq_some_iff.1 hb
        simp [hlt, he]
      · simp [e]
    have hb' : (setRow' w b (rc.setIfInBounds (off + i) y) elem lo hi).heap[b]? = some (.cells (rc.setIfInBounds (off + i) y) elem (lo, hi)) := by
      simp [setRow', (Array.getElem?_eq_some_iff.1 hb).1]
    obtain ⟨rc', h1, h2, h3⟩ := storeCells_sim ys off (i + 1) (rc.setIfInBounds (off + i) y) _ hb' (by simp; omega) hf.2 (fun j h1 h2 => hfr j (by omega) (by omega))
    refine ⟨rc', ?_, by simpa using h2, fun j => ?_⟩
    · simp only [storeCells, Sem.run_bind, Addr.add_eq, run_store P w _ y .plain hone, hc, hz, Bool.false_eq_true, if_false, Result.andThen_ok, hset, h1]
      congr 1
      unfold setRow'
      simp
    · rw [h3 j]
      by_cases hj : off + i = j
      · subst hj
        rw [if_neg (by omega), if_pos (by simp), Array.getElem?_setIfInBounds, if_pos rfl, if_pos (by omega)]
        simp
      · by_cases hj2 : off + (i + 1) ≤ j ∧ j < off + (i + 1) + ys.length
        · rw [if_pos hj2, if_pos (by simp only [List.length_cons]; omega)]
          rw [show j - (off + i) = j - (off + (i + 1)) + 1 by omega, List.getElem?_cons_succ]
        · rw [if_neg hj2, if_neg (by simp only [List.length_cons]; omega)]
          rw [Array.getElem?_setIfInBounds_ne hj]

theorem setRow'_heap {b : Nat} {rc : Array Value} {elem : TypeId} {lo hi : Nat} (hb : b < w.heap.size) : (setRow' w b rc elem lo hi).heap[b]? = some (.cells rc elem (lo, hi)) := by simp [setRow', hb]
theorem setRow'_ne {b k : Nat} {rc : Array Value} {elem : TypeId} {lo hi : Nat} (h : k ≠ b) : (setRow' w b rc elem lo hi).heap[k]? = w.heap[k]? := by
  simp only [setRow']; rw [Array.getElem?_setIfInBounds_ne (fun e => h e.symm)]

/-- A row of values written into a row of cells: at the machine, at the model. -/
theorem rowWrite {n : Nat} {id : Nat} {pl : Place} {i : Info} {c ys ys' : List Value} {off : Nat} (hr : HRel φ (hp H) w) (hφ : φ id = some pl) (hH : H[id]? = some (.cells i c)) (hrw : i.rw = true) (hl : off + ys.length ≤ c.length)
    (hrel : Rels (CRel φ) ys ys') (hf' : ys'.all flat = true) :
    ∃ w', (storeCells ⟨pl.block, pl.base + off, none⟩ ys').run P w = .ok () w' ∧ Step n φ (hp H) w φ (hp (H.set id (.cells i (fillAt c off ys)))) w' := by
  obtain ⟨h1, h2, rc, elem, lo, hi, h3, h4, h5, h6, h7⟩ := hr.cells hφ hH
  have hlen : ys'.length = ys.length := hrel.length
  obtain ⟨rc', g1, g2, g3⟩ := storeCells_sim (P := P) ys' (pl.base + off) 0 rc w h3 (by omega) hf' (fun j a b => by
    have := h7.1 hrw
    omega)
  refine ⟨_, g1, ?_⟩
  have hlt := (Array.getElem?_eq_some_iff.1 h3).1
  refine Step.write hr hφ hH (by simpa [MObj.mut] using hrw) rfl rfl rfl rfl (by simp [setRow']) (fun b hb => setRow'_ne hb) ⟨h1, h2, rc', elem, lo, hi, setRow'_heap hlt, ?_, by omega, ?_, h7.1, fun t ht => ⟨(h7.2 t ht).1, fun h0 => ⟨((h7.2 t ht).2 h0).1, ?_⟩⟩⟩
  rotate_left 2
  · have h8 := ((h7.2 t ht).2 h0).2
    simp only [fillAt, List.length_append, List.length_take, List.length_drop]; omega
  · simp only [fillAt, List.length_append, List.length_take, List.length_drop]; omega
  · intro j x hx
    have g := g3 (pl.base + j)
    simp only [Nat.add_zero] at g
    unfold fillAt at hx
    by_cases hj1 : j < off
    · rw [List.append_assoc, List.getElem?_append_left (by simp; omega), List.getElem?_take_of_lt hj1] at hx
      rw [if_neg (by omega)] at g
      rw [g]; exact h6 j x hx
    · by_cases hj2 : j < off + ys.length
      · rw [List.append_assoc, List.getElem?_append_right (by simp; omega), List.getElem?_append_left (by simp; omega)] at hx
        rw [show j - (c.take off).length = j - off by simp; omega] at hx
        rw [if_pos (by omega), show pl.base + j - (pl.base + off) = j - off by omega] at g
        obtain ⟨y, hy, hry⟩ := hrel.get _ x hx
        exact ⟨y, by rw [g, hy], hry⟩
      · rw [List.getElem?_append_right (by simp; omega)] at hx
        simp only [List.length_append, List.length_take, List.getElem?_drop] at hx
        rw [show off + ys.length + (j - (min off c.length + ys.length)) = j by omega] at hx
        rw [if_neg (by omega)] at g
        rw [g]; exact h6 j x hx

theorem Rels.flat' {xs ys : List Value} (h : Rels (VRel φ) xs ys) (hf : xs.all flat = true) : ys.all flat = true := by
  induction h with
  | nil => rfl
  | cons h t ih =>
    simp only [List.all_cons, Bool.and_eq_true] at hf ⊢
    exact ⟨by rw [h.flat]; exact hf.1, ih hf.2⟩

theorem okc_flat {l : List Value} (h : okc l = true) : l.all flat = true := by
  unfold okc at h
  rw [List.all_eq_true] at h ⊢
  intro x hx; have := h x hx; simp only [Bool.and_eq_true] at this; exact this.1
theorem okc_known {l : List Value} (h : okc l = true) : l.all (fun v => !isUnk v) = true := by
  unfold okc at h
  rw [List.all_eq_true] at h ⊢
  intro x hx; have := h x hx; simp only [Bool.and_eq_true] at this; exact this.2
theorem Rels.okc {xs ys : List Value} (h : Rels (CRel φ) xs ys) (ho : okc xs = true) : ys.all flat = true := (h.toV (okc_known ho)).flat' (okc_flat ho)

/-- What a writing operation comes to. -/
def Writes (P : Program) (o : Oper) (ρ : Operand → Value) (w : World) (φ : Ren) (H H' : MH) (v : Value) : Prop :=
  ∃ nx v' w' φ', (execOp ρ o).run P w = .ok nx w' ∧ (nx = .value v' ∨ (nx = .skip ∧ v' = undef)) ∧ VRel φ' v v' ∧ Step H.length φ (hp H) w φ' (hp H') w'

theorem st_sim {t : TypeId} {a x : Operand} {n : Nat} {H' : MH} (ho : o.op = .store t a x) (hs : szOf P t = some n) (hh : HRel φ (hp H) w) (hr : Rels (VRel φ) vs ([a, x].map ρ)) (hm : meff (.st n) vs H = some (v, H')) : Writes P o ρ w φ H H' v := by
  obtain ⟨p, y, rfl, hpp, hy⟩ := rels2 hr
  unfold meff at hm
  split at hm <;> first | contradiction | skip
  rename_i sz0 b0 o0 v0 h1 h2; cases h1; cases h2
  split at hm <;> first | contradiction | skip
  rename_i i c hH
  split at hm <;> first | contradiction | skip
  rename_i hcond
  cases hm
  obtain ⟨c1, c2, c3, c4⟩ := hcond
  generalize hA : ρ a = a' at hpp
  cases hpp with
  | ptr hφ =>
  have hcells := hy.cells
  obtain ⟨w', hrun, hstep⟩ := rowWrite (P := P) (n := H.length) (off := o0) hh hφ hH c1 (by omega) (hcells.imp fun _ _ => .inr) (hcells.flat' (okc_flat c4))
  refine ⟨.skip, undef, w', φ, ?_, .inr ⟨rfl, rfl⟩, VRel.undef, hstep⟩
  have hsz : (ρ x).cells.size = n := by have := hcells.length; simp at this; simp at c2; omega
  simp only [execOp, ho, hA, Instr.storeAt, Instr.sureAddr, storeVar, Sem.run_bind, Sem.run_pure, Result.andThen_ok, szOf_sim hs, hsz]
  simp only [ne_eq, not_true_eq_false, if_false, Sem.run_bind, Sem.run_pure, Result.andThen_ok, hrun]
end
end Go.Mod

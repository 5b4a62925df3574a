/- The model interpreter: a deterministic reading of loaded Go code over a heap of numbered objects. Definitions alone; what they have to do with the machine is proved in the texts behind this one. -/
import Derived.Calls
set_option linter.unusedVariables false
namespace Go.Mod

/-! ### values, objects -/
/-- A cell of which nothing is known. -/
def unk : Value := .complex .f32 0 0
def isUnk : Value → Bool
  | .complex .. => true
  | _ => false
/-- May it lie in one cell? -/
def flat : Value → Bool
  | .agg _ | .tuple _ => false
  | _ => true

/-- Values of one cell each, known. -/
def okc (l : List Value) : Bool := l.all fun v => flat v && !isUnk v

structure Info where
  es : Nat
  rw : Bool
  ex : Bool
  deriving DecidableEq, Repr

inductive MObj where
  | cells (i : Info) (c : List Value)
  | map (es : List (Int × Value))
  | chan (cap : Nat) (buf : List Value)
  | dead
  deriving Inhabited

abbrev MH := List MObj

def MObj.mut : MObj → Bool
  | .cells i _ => i.rw
  | .map _ | .chan .. => true
  | .dead => false
def MObj.live : MObj → Bool
  | .dead => false
  | _ => true

/-! ### registers -/
abbrev Reg := List (Nat × Value)
def rget : Reg → Nat → Option Value
  | [], _ => none
  | (u, v) :: T, t => if t = u then some v else rget T t
def rput : Reg → Nat → Value → Reg
  | [], t, v => [(t, v)]
  | (u, x) :: T, t, v => if t = u then (t, v) :: T else if t < u then (t, v) :: (u, x) :: T else (u, x) :: rput T t v
def rkill : Reg → List Nat → Reg
  | [], _ => []
  | (u, x) :: T, ks => if ks.elem u then rkill T ks else (u, x) :: rkill T ks

inductive Arg where
  | r (t : Nat)
  | k (v : Value)
  deriving Inhabited
def Arg.ev (T : Reg) : Arg → Option Value
  | .r t => rget T t
  | .k v => some v
def evs (T : Reg) : List Arg → Option (List Value)
  | [] => some []
  | a :: l => match a.ev T, evs T l with
    | some v, some vs => some (v :: vs)
    | _, _ => none

/-! ### operations: their operands stand apart -/
/-- What '==' looks at. -/
inductive CK where
  | int | bool | str
  deriving DecidableEq, Inhabited
inductive EqK where
  | bool | ptr | slice | iface
  | agg (ks : List CK)
  deriving Inhabited
inductive MOp where
  | mov
  | pick
  | new (es : Nat) (c : List Value)
  | box
  | build (zero : List Value) (parts : List (Nat × Nat))
  | bslice (es len : Nat) (zero : List Value) (parts : List (Nat × Nat))
  | ld (sz : Option Nat)
  | st (sz : Nat)
  | nilck
  | bin (op : BinOp)
  | eqv (neg : Bool) (e : EqK)
  | un (op : UnOp)
  | conv (k : IntKind)
  | fa (off : Nat)
  | fld (off : Nat) (sz : Option Nat)
  | ia (es : Nat)
  | iarr (n es : Nat)
  | idxs
  | idxa (n es : Nat) (sz : Option Nat)
  | sl (es : Nat) (lo hi mx : Bool)
  | slstr (lo hi : Bool)
  | mslice (es bytes : Nat) (zero : List Value)
  | extract (i : Nat)
  | len
  | lens
  | lenm
  | cap
  | app (es bytes : Nat)
  | appz (es bytes : Nat) (zero : List Value)
  | copy (es : Nat)
  | clear (es : Nat) (zero : List Value)
  | minmax (isMax : Bool)
  | mkfunc (f : FuncId)
  | mkmap
  | look (zero : Value) (ok : Bool)
  | mset
  | mdel
  | mkchan (bytes : Nat)
  | call (f : FuncId)
  | callv
  | snd
  | rcv (zero : Value) (ok : Bool)
  | sel1 (send : Bool) (zero : Value) (blocking : Bool)
  deriving Inhabited

structure MOper where
  dst : Option Nat
  op : MOp
  args : List Arg
  guard : Option (Nat × Bool) := none
  kill : List Nat := []
  deriving Inhabited

inductive MCode where
  | skip
  | ops (l : List MOper)
  | draw (l : List MOper) (pairs : List (Nat × Nat))
  | seq (a b : MCode)
  | cond (c : Arg) (x y : MCode)
  | block (id : Nat) (c : MCode)
  | loop (c : MCode)
  | exit (id : Nat)
  | ret
  deriving Inhabited

/-! ### what operations yield -/
def natOf : Value → Option Int
  | .int _ n => some n
  | _ => none

/-- Parts laid over cells. -/
def fillAt (cells : List Value) (off : Nat) (c : List Value) : List Value := cells.take off ++ c ++ cells.drop (off + c.length)
def fillAll : List Value → List (Nat × Nat) → List Value → Option (List Value)
  | cells, [], [] => some cells
  | cells, (off, sz) :: ps, v :: vs => if v.cells.toList.length = sz ∧ off + sz ≤ cells.length then fillAll (fillAt cells off v.cells.toList) ps vs else none
  | _, _, _ => none

def mbin (op : BinOp) (x y : Value) : Option Value :=
  match x, y with
  | .int k a, .int k' b =>
    match op with
    | .shl => if b < 0 then none else some (.int k (k.wrap (a * 2 ^ (min b.toNat k.bits))))
    | .shr => if b < 0 then none else some (.int k (a.fdiv (2 ^ (min b.toNat k.bits))))
    | _ =>
      if k ≠ k' then none else
      match op with
      | .add => some (.int k (k.wrap (a + b)))
      | .sub => some (.int k (k.wrap (a - b)))
      | .mul => some (.int k (k.wrap (a * b)))
      | .quo => if b = 0 then none else some (.int k (k.wrap (a.tdiv b)))
      | .rem => if b = 0 then none else some (.int k (a.tmod b))
      | .and => some (.int k (k.wrap (BitVec.ofInt k.bits a &&& BitVec.ofInt k.bits b).toNat))
      | .or => some (.int k (k.wrap (BitVec.ofInt k.bits a ||| BitVec.ofInt k.bits b).toNat))
      | .xor => some (.int k (k.wrap (BitVec.ofInt k.bits a ^^^ BitVec.ofInt k.bits b).toNat))
      | .eql => some (.bool (a == b))
      | .neq => some (.bool (a != b))
      | .lss => some (.bool (a < b))
      | .leq => some (.bool (a ≤ b))
      | .gtr => some (.bool (a > b))
      | .geq => some (.bool (a ≥ b))
      | _ => none
  | .string a, .string b =>
    match op with
    | .add => if a.size + b.size ≤ 9223372036854775807 then some (.string (a ++ b)) else none
    | .eql => some (.bool (a.toList == b.toList))
    | .neq => some (.bool !(a.toList == b.toList))
    | .lss => some (.bool (Op.bytesLess a.toList b.toList))
    | .leq => some (.bool (Op.bytesLess a.toList b.toList || a.toList == b.toList))
    | .gtr => some (.bool !(Op.bytesLess a.toList b.toList || a.toList == b.toList))
    | .geq => some (.bool !(Op.bytesLess a.toList b.toList))
    | _ => none
  | _, _ => none

/-- Equality of cells: whole numbers, bools, strings. -/
def ceq : CK → Value → Value → Option Bool
  | .int, .int k a, .int k' b => if k = k' then some (a == b) else none
  | .bool, .bool a, .bool b => some (a == b)
  | .str, .string a, .string b => some (a == b)
  | _, _, _ => none
def ceqs : List CK → List Value → List Value → Option Bool
  | [], [], [] => some true
  | k :: ks, x :: xs, y :: ys => match ceq k x y, ceqs ks xs ys with
    | some a, some b => some (a && b)
    | _, _ => none
  | _, _, _ => none

def meq : EqK → Value → Value → Option Bool
  | .bool, .bool a, .bool b => some (a == b)
  | .ptr, .pointer none, .pointer b => some b.isNone
  | .ptr, .pointer (some _), .pointer none => some false
  | .slice, .slice none _ _, .slice b _ _ => some b.isNone
  | .slice, .slice (some _) _ _, .slice none _ _ => some false
  | .iface, .nilIface, .iface _ _ => some false
  | .iface, .iface _ _, .nilIface => some false
  | .agg ks, .agg xs, .agg ys => ceqs ks xs.toList ys.toList
  | _, _, _ => none

def mmin1 (isMax : Bool) (k : IntKind) (x : Int) : List Value → Option Value
  | [] => some (.int k x)
  | .int k' y :: l => if k = k' then mmin1 isMax k (if isMax then (if y > x then y else x) else (if y < x then y else x)) l else none
  | _ => none
def mmin (isMax : Bool) : List Value → Option Value
  | .int k x :: l => mmin1 isMax k x l
  | _ => none

/-- What hangs on the operands alone. -/
def mpure (op : MOp) (vs : List Value) : Option Value :=
  match op, vs with
  | .mov, [v] => some v
  | .pick, [.bool t, a, b] => some (if t then a else b)
  | .build zero parts, vs => (fillAll zero parts vs).map fun c => .agg c.toArray
  | .nilck, [.pointer (some a)] => some (.pointer (some a))
  | .nilck, [.func (.func f) a b] => some (.func (.func f) a b)
  | .bin op, [x, y] => mbin op x y
  | .eqv neg e, [x, y] => (meq e x y).map fun b => .bool (if neg then !b else b)
  | .un .not, [.bool b] => some (.bool !b)
  | .un .neg, [.int k n] => some (.int k (k.wrap (0 - n)))
  | .conv k, [.int _ n] => some (.int k (k.wrap n))
  | .fa off, [.pointer (some ⟨b, o, none⟩)] => some (.pointer (some ⟨b, o + off, none⟩))
  | .fld off none, [.agg cs] => cs[off]?
  | .fld off (some n), [.agg cs] => if off + n ≤ cs.size then some (.agg (cs.extract off (off + n))) else none
  | .ia es, [.slice (some ⟨b, o, none⟩) len _, .int _ i] => if 0 ≤ i ∧ i < (len : Int) then some (.pointer (some ⟨b, o + i.toNat * es, none⟩)) else none
  | .iarr n es, [.pointer (some ⟨b, o, none⟩), .int _ i] => if 0 ≤ i ∧ i < (n : Int) then some (.pointer (some ⟨b, o + i.toNat * es, none⟩)) else none
  | .idxs, [.string s, .int _ i] => if 0 ≤ i then (s[i.toNat]?).map fun b => .int .u8 b.toNat else none
  | .idxa n es none, [.agg cs, .int _ i] => if 0 ≤ i ∧ i < (n : Int) then cs[i.toNat * es]? else none
  | .idxa n es (some sz), [.agg cs, .int _ i] => if 0 ≤ i ∧ i < (n : Int) ∧ i.toNat * es + sz ≤ cs.size then some (.agg (cs.extract (i.toNat * es) (i.toNat * es + sz))) else none
  | .slstr lo hi, .string s :: bs =>
    match lo, hi, bs with
    | true, true, [.int _ l, .int _ h] => if 0 ≤ l ∧ l ≤ h ∧ h ≤ (s.size : Int) then some (.string (s.extract l.toNat h.toNat)) else none
    | true, false, [.int _ l] => if 0 ≤ l ∧ l ≤ (s.size : Int) then some (.string (s.extract l.toNat s.size)) else none
    | false, true, [.int _ h] => if 0 ≤ h ∧ h ≤ (s.size : Int) then some (.string (s.extract 0 h.toNat)) else none
    | false, false, [] => some (.string (s.extract 0 s.size))
    | _, _, _ => none
  | .extract i, [.tuple ts] => ts[i]?
  | .len, [.slice _ n _] => some (.int .i64 n)
  | .lens, [.string s] => some (.int .i64 s.size)
  | .minmax m, vs => mmin m vs
  | .mkfunc f, vs => some (.func (.func f) #[] vs.toArray)
  | _, _ => none

def slBound (lo hi mx : Bool) (len cap : Nat) (bs : List Value) : Option (Nat × Nat × Nat) :=
  match lo, hi, mx, bs with
  | true, true, true, [.int _ l, .int _ h, .int _ m] => if 0 ≤ l ∧ l ≤ h ∧ h ≤ m ∧ m ≤ (cap : Int) then some (l.toNat, h.toNat, m.toNat) else none
  | true, true, false, [.int _ l, .int _ h] => if 0 ≤ l ∧ l ≤ h ∧ h ≤ (cap : Int) then some (l.toNat, h.toNat, cap) else none
  | true, false, false, [.int _ l] => if 0 ≤ l ∧ l ≤ (len : Int) then some (l.toNat, len, cap) else none
  | false, true, false, [.int _ h] => if 0 ≤ h ∧ h ≤ (cap : Int) then some (0, h.toNat, cap) else none
  | false, false, false, [] => some (0, len, cap)
  | _, _, _, _ => none

def mlook (k : Int) : List (Int × Value) → Option Value
  | [] => none
  | (j, v) :: l => if k = j then some v else mlook k l
def mupd (k : Int) (v : Value) : List (Int × Value) → List (Int × Value)
  | [] => [(k, v)]
  | (j, x) :: l => if k = j then (j, v) :: l else (j, x) :: mupd k v l
def mera (k : Int) : List (Int × Value) → List (Int × Value)
  | [] => []
  | (j, x) :: l => if k = j then l else (j, x) :: mera k l

/-- What looks at the heap. -/
def mread (op : MOp) (vs : List Value) (H : MH) : Option Value :=
  match op, vs with
  | .ld none, [.pointer (some ⟨b, o, none⟩)] =>
    match H[b]? with
    | some (.cells _ c) => match c[o]? with
      | some v => if isUnk v then none else some v
      | none => none
    | _ => none
  | .ld (some n), [.pointer (some ⟨b, o, none⟩)] =>
    match H[b]? with
    | some (.cells _ c) => if o + n ≤ c.length ∧ ((c.drop o).take n).all (fun v => !isUnk v) = true then some (.agg ((c.drop o).take n).toArray) else none
    | _ => none
  | .sl es lo hi mx, .slice none 0 0 :: bs =>
    match slBound lo hi mx 0 0 bs with
    | some _ => some (.slice none 0 0)
    | none => none
  | .sl es lo hi mx, .slice (some ⟨b, o, none⟩) len cap :: bs =>
    match H[b]? with
    | some (.cells i _) =>
      if i.es = es then
        match slBound lo hi mx len cap bs with
        | some (l, h, m) => some (.slice (some ⟨b, o + l * es, none⟩) (h - l) (m - l))
        | none => none
      else none
    | _ => none
  | .look zero ok, [.map none, .int .i64 _] => some (if ok then .tuple #[zero, .bool false] else zero)
  | .look zero ok, [.map (some b), .int .i64 k] =>
    match H[b]? with
    | some (.map es) =>
      match mlook k es with
      | some v => some (if ok then .tuple #[v, .bool true] else v)
      | none => some (if ok then .tuple #[zero, .bool false] else zero)
    | _ => none
  | .lenm, [.map none] => some (.int .i64 0)
  | .lenm, [.map (some b)] => match H[b]? with
    | some (.map es) => some (.int .i64 es.length)
    | _ => none
  | .cap, [.slice none 0 0] => some (.int .i64 0)
  | .cap, [.slice (some ⟨b, _, none⟩) _ c] => match H[b]? with
    | some (.cells i _) => if i.ex = true then some (.int .i64 c) else none
    | _ => none
  | _, _ => none

/-- What makes ONE new object: the object, the value that leads to it. -/
def malloc (op : MOp) (vs : List Value) (b : Nat) : Option (MObj × Value) :=
  match op, vs with
  | .new es c, [] => some (.cells ⟨es, true, false⟩ c, .pointer (some ⟨b, 0, none⟩))
  | .box, [v] => if isUnk v then none else some (.cells ⟨0, true, false⟩ v.cells.toList, .pointer (some ⟨b, 0, none⟩))
  | .bslice es len zero parts, vs =>
    match fillAll (List.replicate len zero).flatten parts vs with
    | some c => if zero.length = es ∧ len * es ≤ 16777216 then some (.cells ⟨es, true, true⟩ c, .slice (some ⟨b, 0, none⟩) len len) else none
    | none => none
  | .mslice es bytes zero, [.int _ l, .int _ c] =>
    if 0 ≤ l ∧ l ≤ c ∧ c ≤ 1073741824 ∧ bytes ≤ 4096 ∧ zero.length = es then
      some (.cells ⟨es, true, true⟩ (List.replicate c.toNat zero).flatten, .slice (some ⟨b, 0, none⟩) l.toNat c.toNat) else none
  | .mkmap, [] => some (.map [], .map (some b))
  | .mkchan bytes, [.int _ n] => if 0 ≤ n ∧ n ≤ 1048576 ∧ bytes ≤ 4096 then some (.chan n.toNat [], .chan (some b)) else none
  | _, _ => none

/-- The cells of a slice, of a string's bytes. -/
def srcCells (es : Nat) (H : MH) : Value → Option (Nat × List Value)
  | .slice none _ _ => some (0, [])
  | .slice (some ⟨b, o, none⟩) n _ =>
    match H[b]? with
    | some (.cells _ c) => if o + n * es ≤ c.length then some (n, (c.drop o).take (n * es)) else none
    | _ => none
  | .string s => if es = 1 then some (s.size, s.data.toList.map fun b => .int .u8 b.toNat) else none
  | _ => none

/-- What writes (calls apart). -/
def meff (op : MOp) (vs : List Value) (H : MH) : Option (Value × MH) :=
  match op, vs with
  | .st sz, [.pointer (some ⟨b, o, none⟩), v] =>
    match H[b]? with
    | some (.cells i c) =>
      if i.rw = true ∧ v.cells.toList.length = sz ∧ o + sz ≤ c.length ∧ okc v.cells.toList = true then
        some (.tuple #[], H.set b (.cells i (fillAt c o v.cells.toList))) else none
    | _ => none
  | .app es bytes, [.slice none 0 0, y] =>
    match srcCells es H y with
    | some (n, c) =>
      if n = 0 then some (.slice none 0 0, H) else
      if n ≤ 4294967296 ∧ bytes ≤ 4096 then some (.slice (some ⟨H.length, 0, none⟩) n n, H ++ [.cells ⟨es, true, false⟩ c]) else none
    | none => none
  | .app es bytes, [.slice (some ⟨b, o, none⟩) len cap, y] =>
    match srcCells es H y, H[b]? with
    | some (n, ys), some (.cells i c) =>
      if n = 0 then some (.slice (some ⟨b, o, none⟩) len cap, H) else
      if i.es = es ∧ len ≤ cap then
        if len + n ≤ cap then
          if i.rw = true ∧ o + (len + n) * es ≤ c.length ∧ okc ys = true then some (.slice (some ⟨b, o, none⟩) (len + n) cap, H.set b (.cells i (fillAt c (o + len * es) ys))) else none
        else if len + n ≤ 4294967296 ∧ bytes ≤ 4096 ∧ o + len * es ≤ c.length ∧ okc ys = true then
          if i.ex = true then some (.slice (some ⟨H.length, 0, none⟩) (len + n) (len + n), H ++ [.cells ⟨es, true, false⟩ ((c.drop o).take (len * es) ++ ys)])
          else if i.rw = true ∧ o + cap * es = c.length then
            some (.slice (some ⟨H.length, 0, none⟩) (len + n) (len + n), H.set b .dead ++ [.cells ⟨es, true, false⟩ ((c.drop o).take (len * es) ++ ys)]) else none
        else none
      else none
    | _, _ => none
  | .appz es bytes zero, [.slice (some ⟨b, o, none⟩) len cap, .int _ n] =>
    match H[b]? with
    | some (.cells i c) =>
      if 0 ≤ n ∧ i.es = es ∧ i.ex = true ∧ len ≤ cap ∧ cap < len + n.toNat ∧ len + n.toNat ≤ 4294967296 ∧ bytes ≤ 4096 ∧ o + len * es ≤ c.length ∧ zero.length = es then
        some (.slice (some ⟨H.length, 0, none⟩) (len + n.toNat) (len + n.toNat), H ++ [.cells ⟨es, true, false⟩ ((c.drop o).take (len * es) ++ (List.replicate n.toNat zero).flatten)])
      else none
    | _ => none
  | .copy es, [.slice a dl dc, y] =>
    match srcCells es H y with
    | some (sn, sc) =>
      let n := min sn dl
      if n = 0 then some (.int .i64 0, H) else
      match a with
      | some ⟨b, o, none⟩ =>
        match H[b]? with
        | some (.cells i c) =>
          if i.rw = true ∧ o + n * es ≤ c.length ∧ okc (sc.take (n * es)) = true then some (.int .i64 n, H.set b (.cells i (fillAt c o (sc.take (n * es))))) else none
        | _ => none
      | _ => none
    | none => none
  | .clear es zero, [.slice a n _] =>
    if n = 0 then some (.tuple #[], H) else
    match a with
    | some ⟨b, o, none⟩ =>
      match H[b]? with
      | some (.cells i c) =>
        if i.rw = true ∧ zero.length = es ∧ o + n * es ≤ c.length ∧ okc zero = true then some (.tuple #[], H.set b (.cells i (fillAt c o (List.replicate n zero).flatten))) else none
      | _ => none
    | _ => none
  | .mset, [.map (some b), .int .i64 k, v] =>
    match H[b]? with
    | some (.map es) => if isUnk v then none else some (.tuple #[], H.set b (.map (mupd k v es)))
    | _ => none
  | .mdel, [.map none, .int .i64 _] => some (.tuple #[], H)
  | .mdel, [.map (some b), .int .i64 k] =>
    match H[b]? with
    | some (.map es) => some (.tuple #[], H.set b (.map (mera k es)))
    | _ => none
  | .snd, [.chan (some b), v] =>
    match H[b]? with
    | some (.chan cap buf) => if buf.length < cap then some (.tuple #[], H.set b (.chan cap (buf ++ [v]))) else none
    | _ => none
  | .rcv _ ok, [.chan (some b)] =>
    match H[b]? with
    | some (.chan cap (v :: buf)) => some (if ok then .tuple #[v, .bool true] else v, H.set b (.chan cap buf))
    | _ => none
  | .sel1 true _ false, [.chan (some b), v] =>
    match H[b]? with
    | some (.chan cap buf) => if buf.length < cap then some (.tuple #[.int .i64 0, .bool false], H.set b (.chan cap (buf ++ [v])))
      else some (.tuple #[.int .i64 (-1), .bool false], H)
    | _ => none
  | _, _ => none

/-! ### kinds of operations -/
inductive Kind where
  | pure | read | alloc | eff | call | callv | comm
  deriving DecidableEq
def MOp.kind : MOp → Kind
  | .ld _ | .sl .. | .look .. | .lenm | .cap => .read
  | .new .. | .box | .bslice .. | .mslice .. | .mkmap | .mkchan _ => .alloc
  | .st _ | .app .. | .appz .. | .copy _ | .clear .. | .mset | .mdel => .eff
  | .call _ => .call
  | .callv => .callv
  | .snd | .rcv .. | .sel1 .. => .comm
  | _ => .pure

abbrev CallF := FuncId → List Value → MH → Option (Value × MH)

/-- An operation; 'b': where a new object lies ('none': at the heap's end). -/
def mop (call : CallF) (op : MOp) (vs : List Value) (H : MH) (b : Option Nat) : Option (Value × MH) :=
  match op.kind with
  | .pure => match mpure op vs with
    | some v => some (v, H)
    | none => none
  | .read => match mread op vs H with
    | some v => some (v, H)
    | none => none
  | .alloc => match b with
    | none => match malloc op vs H.length with
      | some (o, v) => some (v, H ++ [o])
      | none => none
    | some b => match malloc op vs b with
      | some (o, v) => some (v, H.set b o)
      | none => none
  | .eff | .comm => meff op vs H
  | .call => match op with
    | .call f => call f vs H
    | _ => none
  | .callv => match vs with
    | .func (.func f) a c :: args => call f (a.toList ++ args ++ c.toList) H
    | _ => none

/-- Is it wanted? -/
def mwant (T : Reg) : Option (Nat × Bool) → Option Bool
  | none => some true
  | some (r, b) => match rget T r with
    | some (.bool x) => some (x == b)
    | some (.tuple _) => some false
    | _ => none

def mdst (T : Reg) (o : MOper) (v : Value) : Reg :=
  match o.dst with
  | some d => rkill (rput T d v) o.kill
  | none => rkill T o.kill

def mstep (call : CallF) (o : MOper) (T : Reg) (H : MH) (b : Option Nat) : Option (Reg × MH) :=
  match mwant T o.guard with
  | some true =>
    match evs T o.args with
    | some vs =>
      match mop call o.op vs H b with
      | some (v, H') => some (mdst T o v, H')
      | none => none
    | none => none
  | some false => some (mdst T o (.tuple #[]), H)
  | none => none

def mops (call : CallF) : List MOper → Reg → MH → Option (Reg × MH)
  | [], T, H => some (T, H)
  | o :: l, T, H => match mstep call o T H none with
    | some (T', H') => mops call l T' H'
    | none => none

/-! ### a region whose order is drawn: the states of a run in the text's order, then the checks -/
def nalloc : List MOper → Nat
  | [] => 0
  | o :: l => (if o.op.kind = .alloc then 1 else 0) + nalloc l
/-- The states ahead of each operation, and the last; 'b': the next place kept for a new object. -/
def mtrace (call : CallF) : List MOper → Nat → Reg → MH → Option (List (Reg × MH))
  | [], _, T, H => some [(T, H)]
  | o :: l, b, T, H =>
    match mstep call o T H (if o.op.kind = .alloc then some b else none) with
    | some (T', H') => match mtrace call l (if o.op.kind = .alloc then b + 1 else b) T' H' with
      | some tr => some ((T, H) :: tr)
      | none => none
    | none => none

/-- Equality of one-cell values and of rows of them, yes only where it is so. -/
def veq : Value → Value → Bool
  | .int k a, .int k' b => k == k' && a == b
  | .bool a, .bool b => a == b
  | .string a, .string b => a == b
  | .pointer a, .pointer b => a == b
  | .slice a l c, .slice b m d => a == b && l == m && c == d
  | .map a, .map b => a == b
  | .chan a, .chan b => a == b
  | .nilIface, .nilIface => true
  | .nilFunc, .nilFunc => true
  | _, _ => false
def veqs : List Value → List Value → Bool
  | [], [] => true
  | x :: xs, y :: ys => veq x y && veqs xs ys
  | _, _ => false
def veq1 (x y : Value) : Bool :=
  match x, y with
  | .agg a, .agg b => veqs a.toList b.toList
  | .tuple a, .tuple b => veqs a.toList b.toList
  | x, y => veq x y
def veqo : Option Value → Option Value → Bool
  | some x, some y => veq1 x y
  | _, _ => false
/-- Of objects: rows of cells alone. -/
def oeq : Option MObj → Option MObj → Bool
  | some (.cells i c), some (.cells j d) => i == j && veqs c d
  | some .dead, some .dead => true
  | some (.map []), some (.map []) => true
  | _, _ => false

/-- The place kept for the new object of operation i. -/
def allocAt : List MOper → Nat → Nat → Nat
  | [], b, _ => b
  | _ :: _, b, 0 => b
  | o :: l, b, i + 1 => allocAt l (if o.op.kind = .alloc then b + 1 else b) i

def pairOk (l : List MOper) (b : Nat) (tr : List (Reg × MH)) (ij : Nat × Nat) : Bool :=
  match l[ij.1]?, tr[ij.1]?, tr[ij.2]?, tr[ij.2 + 1]? with
  | some o, some (T, H), some (_, Hj), some (_, Hj') =>
    match o.op.kind with
    | .read =>
      match mwant T o.guard with
      | some true =>
        match evs T o.args with
        | some vs => veqo (mread o.op vs Hj) (mread o.op vs H) && veqo (mread o.op vs Hj') (mread o.op vs H)
        | none => false
      | _ => true
    | .alloc =>
      if ij.1 < ij.2 then
        match tr[ij.1 + 1]? with
        | some (_, H1) => oeq Hj'[allocAt l b ij.1]? H1[allocAt l b ij.1]? && oeq Hj[allocAt l b ij.1]? H1[allocAt l b ij.1]?
        | none => false
      else oeq Hj'[allocAt l b ij.1]? (some .dead)
    | _ => false
  | _, _, _, _ => false

def mdraw (call : CallF) (l : List MOper) (pairs : List (Nat × Nat)) (T : Reg) (H : MH) : Option (Reg × MH) :=
  match mtrace call l H.length T (H ++ List.replicate (nalloc l) .dead) with
  | some tr => if pairs.all (pairOk l H.length tr) then tr.getLast? else none
  | none => none

/-! ### code -/
inductive MExit where
  | normal
  | exit (id : Nat)
  | ret
  deriving DecidableEq

def mloop (f : Reg → MH → Option (MExit × Reg × MH)) : Nat → Reg → MH → Option (MExit × Reg × MH)
  | 0, _, _ => none
  | k + 1, T, H => match f T H with
    | some (.normal, T', H') => mloop f k T' H'
    | r => r

def mcode (call : CallF) (k : Nat) : MCode → Reg → MH → Option (MExit × Reg × MH)
  | .skip, T, H => some (.normal, T, H)
  | .ops l, T, H => match mops call l T H with
    | some (T', H') => some (.normal, T', H')
    | none => none
  | .draw l ps, T, H => match mdraw call l ps T H with
    | some (T', H') => some (.normal, T', H')
    | none => none
  | .seq a b, T, H => match mcode call k a T H with
    | some (.normal, T', H') => mcode call k b T' H'
    | r => r
  | .cond c x y, T, H => match c.ev T with
    | some (.bool true) => mcode call k x T H
    | some (.bool false) => mcode call k y T H
    | _ => none
  | .block id c, T, H => match mcode call k c T H with
    | some (.exit id', T', H') => if id' = id then some (.normal, T', H') else some (.exit id', T', H')
    | r => r
  | .loop c, T, H => mloop (mcode call k c) k T H
  | .exit id, T, H => some (.exit id, T, H)
  | .ret, T, H => some (.ret, T, H)

/-- Where a result lies: a register, a variable that a register leads to. -/
inductive MRes where
  | tmp (t : Nat)
  | cell (t : Nat) (l : Option Nat)
  deriving Inhabited
structure MFn where
  results : List MRes
  body : MCode

inductive MDef where
  | code (f : MFn)
  | intr (s : List Value → MH → Option (Value × MH))

def initRegs : Nat → List Value → Reg
  | _, [] => []
  | n, v :: vs => (n, v) :: initRegs (n + 1) vs

def resV (T : Reg) (H : MH) : MRes → Option Value
  | .tmp t => rget T t
  | .cell t l => match rget T t with
    | some v => mread (.ld l) [v] H
    | none => none
def resVs (T : Reg) (H : MH) : List MRes → Option (List Value)
  | [] => some []
  | a :: l => match resV T H a, resVs T H l with
    | some v, some vs => some (v :: vs)
    | _, _ => none
def resOf (T : Reg) (H : MH) (l : List MRes) : Option Value :=
  match resVs T H l with
  | some [v] => some v
  | some vs => some (.tuple vs.toArray)
  | none => none

def mfn (call : CallF) (k : Nat) (f : MFn) (vs : List Value) (H : MH) : Option (Value × MH) :=
  match mcode call k f.body (initRegs 0 vs) H with
  | some (.exit _, _, _) => none
  | some (_, T, H') => match resOf T H' f.results with
    | some v => some (v, H')
    | none => none
  | none => none

def mcall (mp : FuncId → Option MDef) : Nat → CallF
  | 0, _, _, _ => none
  | k + 1, f, vs, H => match mp f with
    | some (.code fn) => mfn (mcall mp k) k fn vs H
    | some (.intr s) => s vs H
    | none => none

end Go.Mod

/- From loaded Go code to the model's code: a function that the kernel runs once for each Go function; where it answers, the model's reading is the machine's (proved behind). -/
import Derived.Test.YtpdkmcnoidbjoaaFwA
set_option linter.unusedVariables false
namespace Go.Mod

def scalarV : Value → Bool
  | .bool _ | .int .. | .string _ | .pointer none | .slice none 0 0 | .map none | .chan none | .nilFunc | .nilIface => true
  | _ => false
def plainV : Value → Bool
  | .agg cs => cs.toList.all scalarV
  | v => scalarV v

def cArg : Operand → Option Arg
  | .tmp t => some (.r t)
  | .const v => if plainV v then some (.k v) else none
  | .func f => some (.k (.func (.func f) #[] #[]))
  | .global _ => none
def cArgs : List Operand → Option (List Arg)
  | [] => some []
  | x :: xs => match cArg x, cArgs xs with
    | some a, some as => some (a :: as)
    | _, _ => none

def szOf (P : Program) (t : TypeId) : Option Nat := (P.info? t).map (·.size)
def bytesOf' (P : Program) (t : TypeId) : Option Nat := (P.info? t).map (·.bytes)
def aggOf (P : Program) (t : TypeId) : Option Bool :=
  match P.underlying t with
  | some (.struct _) | some (.array ..) => some true
  | some _ => some false
  | none => none
/-- How a variable of a type is read: 'none': one cell. -/
def ldOf (P : Program) (t : TypeId) : Option (Option Nat) :=
  match aggOf P t, szOf P t with
  | some true, some n => some (some n)
  | some false, _ => some none
  | _, _ => none
def zeroOf (P : Program) (t : TypeId) : Option Value :=
  match (P.info? t).bind (·.zero) with
  | some z => if plainV z then some z else none
  | none => none

def placesOf (P : Program) (fs : Array Field) : List (Nat × Operand) → Option (List (Nat × Nat))
  | [] => some []
  | (i, _) :: ps => match fs[i]?, placesOf P fs ps with
    | some f, some l => match szOf P f.type with
      | some n => some ((f.offset, n) :: l)
      | none => none
    | _, _ => none
def rowPlaces (n : Nat) (ps : List (Nat × Operand)) : List (Nat × Nat) := ps.map fun p => (p.1 * n, n)

/-- A struct of one-cell fields that '==' compares cell by cell. -/
def cellK (P : Program) (t : TypeId) : Option CK :=
  match P.underlying t with
  | some (.int _) => some .int
  | some .bool => some .bool
  | some .string => some .str
  | _ => none
def fieldKs (P : Program) : Nat → List Field → Option (List CK)
  | _, [] => some []
  | i, f :: fs => if f.name != "_" && f.offset == i then match cellK P f.type, fieldKs P (i + 1) fs with
    | some k, some ks => some (k :: ks)
    | _, _ => none else none
def eqTy (P : Program) (t : TypeId) : Option EqK :=
  match P.underlying t with
  | some .bool => some .bool
  | some (.pointer _) => some .ptr
  | some (.slice _) => some .slice
  | some (.interface _) => some .iface
  | some (.struct fs) => if !P.stoodInHeld t && !P.eqGuardType P.depth t then (fieldKs P 0 fs.toList).map .agg else none
  | _ => none
def isIntStr (P : Program) (t : TypeId) : Bool :=
  match P.underlying t with
  | some (.int _) | some .string => true
  | _ => false

def isIntD : TypeDesc → Bool
  | .int _ => true
  | _ => false
def cSlice (n : Nat) (x : Operand) (lo hi mx : Option Operand) : MOp × List Operand :=
  (.sl n lo.isSome hi.isSome mx.isSome, x :: (lo.toList ++ hi.toList ++ mx.toList))

def cBuiltin (P : Program) (b : Builtin) (c : Call) : Option (MOp × List Operand) :=
  let args := c.args.toList
  match b with
  | .len => match (c.argTypes[0]?).bind P.underlying with
    | some (.slice _) => some (.len, args)
    | some .string => some (.lens, args)
    | some (.map ..) => some (.lenm, args)
    | _ => none
  | .cap => match (c.argTypes[0]?).bind P.underlying with
    | some (.slice _) => some (.cap, args)
    | _ => none
  | .append => match (c.argTypes[0]?).bind P.underlying, (c.argTypes[1]?).bind P.underlying with
    | some (.slice e), some u => match isIntD u, szOf P e, bytesOf' P e, zeroOf P e with
      | false, some n, some b, some z => if args.length = 2 ∧ z.cells.toList.length = n then some (.app n b, args) else none
      | true, some n, some b, some z => if args.length = 2 ∧ z.cells.toList.length = n then some (.appz n b z.cells.toList, args) else none
      | _, _, _, _ => none
    | _, _ => none
  | .copy => match (c.argTypes[0]?).bind P.underlying with
    | some (.slice e) => match szOf P e with
      | some n => if args.length = 2 then some (.copy n, args) else none
      | none => none
    | _ => none
  | .clear => match (c.argTypes[0]?).bind P.underlying with
    | some (.slice e) => match szOf P e, zeroOf P e with
      | some n, some z => if args.length = 1 then some (.clear n z.cells.toList, args) else none
      | _, _ => none
    | _ => none
  | .min => some (.minmax false, args)
  | .max => some (.minmax true, args)
  | .delete => match (c.argTypes[0]?).bind P.underlying with
    | some (.map k _) => match P.underlying k with
      | some (.int .i64) => if args.length = 2 then some (.mdel, args) else none
      | _ => none
    | _ => none
  | _ => none

def cOp (P : Program) (op : Op) : Option (MOp × List Operand) :=
  match op with
  | .move x | .assign x => some (.mov, [x])
  | .pick c a b => some (.pick, [c, a, b])
  | .alloc e => match zeroOf P e, P.underlying e with
    | some z, some (.array _ el) => (szOf P el).map fun n => (.new n z.cells.toList, [])
    | some z, some _ => some (.new 0 z.cells.toList, [])
    | _, _ => none
  | .box _ x => some (.box, [x])
  | .build t parts => match zeroOf P t, P.underlying t with
    | some z, some (.struct fs) => if fs.toList.all (fun f => (szOf P f.type).isSome) then
        (placesOf P fs parts.toList).map fun l => (.build z.cells.toList l, parts.toList.map (·.2)) else none
    | some z, some (.array _ e) => (szOf P e).map fun n => (.build z.cells.toList (rowPlaces n parts.toList), parts.toList.map (·.2))
    | _, _ => none
  | .buildSlice t len parts => match P.underlying t with
    | some (.slice e) => match szOf P e, zeroOf P e with
      | some n, some z => some (.bslice n len z.cells.toList (rowPlaces n parts.toList), parts.toList.map (·.2))
      | _, _ => none
    | _ => none
  | .load t a => (ldOf P t).map fun l => (.ld l, [a])
  | .store t a x => (szOf P t).map fun n => (.st n, [a, x])
  | .nilCheck x => some (.nilck, [x])
  | .binOp op t x y _ => match op with
    | .eql => if isIntStr P t then some (.bin .eql, [x, y]) else (eqTy P t).map fun e => (.eqv false e, [x, y])
    | .neq => if isIntStr P t then some (.bin .neq, [x, y]) else (eqTy P t).map fun e => (.eqv true e, [x, y])
    | op => some (.bin op, [x, y])
  | .unOp op _ x => some (.un op, [x])
  | .convert src dst x => match P.underlying src, P.underlying dst with
    | some _, some (.int k) => some (.conv k, [x])
    | _, _ => none
  | .makeFunc (.func f) first captured => if first.isEmpty then some (.mkfunc f, captured.toList) else none
  | .makeMap _ none => some (.mkmap, [])
  | .makeChan t s => match P.underlying t with
    | some (.chan _ e) => (bytesOf' P e).map fun b => (.mkchan b, [s])
    | _ => none
  | .makeSlice t l c => match P.underlying t with
    | some (.slice e) => match szOf P e, bytesOf' P e, zeroOf P e with
      | some n, some b, some z => if n = 0 then none else some (.mslice n b z.cells.toList, [l, c])
      | _, _, _ => none
    | _ => none
  | .slice t x lo hi mx => match P.underlying t with
    | some (.slice e) => (szOf P e).map fun n => cSlice n x lo hi mx
    | some .string => if mx.isSome then none else some (.slstr lo.isSome hi.isSome, x :: (lo.toList ++ hi.toList))
    | _ => none
  | .fieldAddr t x f => match P.underlying t with
    | some (.struct fs) => match fs[f]? with
      | some f => match szOf P f.type with
        | some (_ + 1) => some (.fa f.offset, [x])
        | _ => none
      | none => none
    | _ => none
  | .field t x f => match P.underlying t with
    | some (.struct fs) => match fs[f]? with
      | some f => (ldOf P f.type).map fun l => (.fld f.offset l, [x])
      | none => none
    | _ => none
  | .indexAddr t x i => match P.underlying t with
    | some (.slice e) => (szOf P e).map fun n => (.ia n, [x, i])
    | some (.array k e) => (szOf P e).map fun n => (.iarr k n, [x, i])
    | _ => none
  | .index t x i => match P.underlying t with
    | some .string => some (.idxs, [x, i])
    | some (.array k e) => match szOf P e, ldOf P e with
      | some n, some l => some (.idxa k n l, [x, i])
      | _, _ => none
    | _ => none
  | .lookup t m k ok => match P.underlying t with
    | some (.map kt e) => match P.underlying kt, zeroOf P e with
      | some (.int .i64), some z => some (.look z ok, [m, k])
      | _, _ => none
    | _ => none
  | .mapUpdate t m k v => match P.underlying t with
    | some (.map kt _) => match P.underlying kt with
      | some (.int .i64) => some (.mset, [m, k, v])
      | _ => none
    | _ => none
  | .extract t i => some (.extract i, [t])
  | .call c => match c.callee with
    | .builtin b => cBuiltin P b c
    | .value (.func f) => some (.call f, c.args.toList)
    | .value x => some (.callv, x :: c.args.toList)
    | .invoke .. => none
  | .send ch x => some (.snd, [ch, x])
  | .recv t ch ok => match P.underlying t with
    | some (.chan _ e) => (zeroOf P e).map fun z => (.rcv z ok, [ch])
    | _ => none
  | .select cases blocking => match cases.toList with
    | [c] => match c.send, zeroOf P c.elem with
      | some x, some z => some (.sel1 true z blocking, [c.chan, x])
      | _, _ => none
    | _ => none
  | _ => none

def cGuard (ops : Array Oper) : Option (Nat × Bool) → Option (Option (Nat × Bool))
  | none => some none
  | some (j, b) => ((ops[j]?).bind (·.dst)).map fun r => some (r, b)
def cDst (n : Nat) : Option Nat → Bool
  | none => true
  | some d => d < n

def cOper (P : Program) (n : Nat) (ops : Array Oper) (o : Oper) : Option MOper :=
  match cOp P o.op, cGuard ops o.guard with
  | some (op, xs), some g => match cArgs xs with
    | some as => if cDst n o.dst then some { dst := o.dst, op, args := as, guard := g } else none
    | none => none
  | _, _ => none
def cOpers (P : Program) (n : Nat) (ops : Array Oper) : List Oper → Option (List MOper)
  | [] => some []
  | o :: l => match cOper P n ops o, cOpers P n ops l with
    | some m, some ms => some (m :: ms)
    | _, _ => none

/-! ### the order of a drawn region -/
def direct (o : Oper) : List Nat := (o.after.toList.filter (Region.binds .any)).map (·.on)
def addAll : List Nat → List Nat → List Nat
  | [], acc => acc
  | x :: xs, acc => addAll xs (if acc.elem x then acc else x :: acc)
/-- For each operation the operations that are surely ahead of it. -/
def ancOf (acc : List (List Nat)) (o : Oper) : List Nat := (direct o).foldl (fun l e => addAll (e :: acc.getD e []) l) []
def ancs : List Oper → List (List Nat) → List (List Nat)
  | [], acc => acc
  | o :: l, acc => ancs l (acc ++ [ancOf acc o])
def argRegs : List Arg → List Nat
  | [] => []
  | .r t :: l => t :: argRegs l
  | .k _ :: l => argRegs l
def uses (m : MOper) : List Nat := argRegs m.args ++ (match m.guard with | some (r, _) => [r] | none => []) ++ m.dst.toList
def clash (a b : MOper) : Bool := (match a.dst with | some d => (uses b).elem d | none => false) || (match b.dst with | some d => (uses a).elem d | none => false)
def isEff (m : MOper) : Bool := match m.op.kind with | .eff | .call | .callv => true | _ => false
def isRA (m : MOper) : Bool := match m.op.kind with | .read | .alloc => true | _ => false
def noComm (m : MOper) : Bool := match m.op.kind with | .comm => false | _ => true

/-- Operation j (number jn) behind operation i (number i): what must be ordered is. -/
def okPair (anc : List (List Nat)) (i : Nat) (a : MOper) (j : Nat) (b : MOper) : Bool :=
  (anc.getD j []).elem i || !(clash a b || (isEff a && isEff b))
def okLater (anc : List (List Nat)) (i : Nat) (a : MOper) : Nat → List MOper → Bool
  | _, [] => true
  | j, b :: l => okPair anc i a j b && okLater anc i a (j + 1) l
def okAll (anc : List (List Nat)) : Nat → List MOper → Bool
  | _, [] => true
  | i, a :: l => okLater anc i a (i + 1) l && okAll anc (i + 1) l
def edgesBack : Nat → List Oper → Bool
  | _, [] => true
  | i, o :: l => (direct o).all (· < i) && edgesBack (i + 1) l

/-- The pairs (i, j): i reads or allocates, j writes, neither surely ahead of the other. -/
def pairs1 (anc : List (List Nat)) (i : Nat) (a : MOper) : Nat → List MOper → List (Nat × Nat)
  | _, [] => []
  | j, b :: l => if isRA a && isEff b && i != j && !(anc.getD j []).elem i && !(anc.getD i []).elem j then (i, j) :: pairs1 anc i a (j + 1) l else pairs1 anc i a (j + 1) l
def pairsAll (anc : List (List Nat)) (all : List MOper) : Nat → List MOper → List (Nat × Nat)
  | _, [] => []
  | i, a :: l => pairs1 anc i a 0 all ++ pairsAll anc all (i + 1) l

def cDraw (P : Program) (n : Nat) (ops : Array Oper) : Option (List MOper × List (Nat × Nat)) :=
  match cOpers P n ops ops.toList with
  | some l =>
    let anc := ancs ops.toList []
    if edgesBack 0 ops.toList && okAll anc 0 l && l.all noComm then some (l, pairsAll anc l 0 l) else none
  | none => none

def cCode (P : Program) (n : Nat) : Code → Option MCode
  | .skip | .label _ => some .skip
  | .region _ ops false => (cOpers P n ops ops.toList).map .ops
  | .region _ ops true => (cDraw P n ops).map fun p => .draw p.1 p.2
  | .seq a b => match cCode P n a, cCode P n b with
    | some x, some y => some (.seq x y)
    | _, _ => none
  | .cond c a b => match cArg c, cCode P n a, cCode P n b with
    | some c, some x, some y => some (.cond c x y)
    | _, _, _ => none
  | .block id c => (cCode P n c).map (.block id)
  | .loop c => (cCode P n c).map .loop
  | .scope c => cCode P n c
  | .exit id => some (.exit id)
  | .ret => some .ret
  | _ => none

def cRes (P : Program) : List ResultVar → Option (List MRes)
  | [] => some []
  | .tmp t :: l => (cRes P l).map (.tmp t :: ·)
  | .cell t ty :: l => match ldOf P ty, cRes P l with
    | some z, some rs => some (.cell t z :: rs)
    | _, _ => none

/-- A function that the model may call: its text, under a name that the machine gives no meaning of its own. -/
def cFn (P : Program) (f : FuncId) : Option MFn :=
  match P.funcs[f]? with
  | some fn => match fn.body with
    | some c => if fn.name == "runtime.NumGoroutine" then none else
      match cRes P fn.results.toList, cCode P fn.ntmps c with
      | some rs, some b => some { results := rs, body := b }
      | _, _ => none
    | none => none
  | none => none

/-! ### without the words on what is forgotten -/
def MOper.bare (o : MOper) : MOper := { o with kill := [] }
def MCode.bare : MCode → MCode
  | .ops l => .ops (l.map MOper.bare)
  | .draw l ps => .draw (l.map MOper.bare) ps
  | .seq a b => .seq a.bare b.bare
  | .cond c x y => .cond c x.bare y.bare
  | .block id c => .block id c.bare
  | .loop c => .loop c.bare
  | c => c
def MFn.bare (f : MFn) : MFn := { f with body := f.body.bare }

end Go.Mod

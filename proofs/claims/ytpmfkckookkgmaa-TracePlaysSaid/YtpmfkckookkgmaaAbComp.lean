/-
  The machine's code brought into the small language.
-/
import Derived.Test.YtpmfkckookkgmaaAbVC
set_option linter.unusedSimpArgs false
set_option linter.unusedVariables false
namespace Go.Ab
open Go Go.RowKit

def ofCell : Value → Option V
  | .bool b => some (.bool b)
  | .int k n => some (.int k n)
  | .string s => some (.str s)
  | .pointer none => some (.ptr none)
  | .slice none 0 0 => some (.sl .nil [] 0)
  | .map none => some (.map none)
  | .nilFunc => some .nilf
  | _ => none

def ofCells : List Value → Option (List V)
  | [] => some []
  | x :: l => match ofCell x, ofCells l with
    | some v, some vs => some (v :: vs)
    | _, _ => none

def ofVal : Value → Option V
  | .agg xs => (ofCells xs.toList).map .agg
  | x => ofCell x

def ofX (n : Nat) : Operand → Option X
  | .tmp i => if i < n then some (.t i) else none
  | .const v => (ofVal v).map .k
  | .func f => some (.k (.func f []))
  | .global _ => none

def ofXs (n : Nat) : List Operand → Option (List X)
  | [] => some []
  | x :: l => match ofX n x, ofXs n l with
    | some v, some vs => some (v :: vs)
    | _, _ => none

def ofXo (n : Nat) : Option Operand → Option (Option X)
  | none => some none
  | some x => (ofX n x).map some

def szOf (P : Program) (t : TypeId) : Option Nat := (P.info? t).map (·.size)
def isAg (P : Program) (t : TypeId) : Option Bool := (P.underlying t).map fun | .struct _ | .array _ _ => true | _ => false
/-- How a type's value is read: as a struct or an array of so many cells, or as one cell. -/
def packOf (P : Program) (t : TypeId) : Option (Bool × Nat) :=
  match isAg P t, szOf P t with
  | some true, some s => some (true, s)
  | some false, _ => some (false, 1)
  | _, _ => none
def zeroOf (P : Program) (t : TypeId) : Option (List V) := ((P.info? t).bind (·.zero)).bind fun z => ofCells z.cells.toList
def zeroV (P : Program) (t : TypeId) : Option V := ((P.info? t).bind (·.zero)).bind ofVal

def flatFs (P : Program) (g : TypeId → Option Nat) : List Field → Nat → Option Nat
  | [], n => some n
  | f :: fs, n => if f.name = "_" || f.offset ≠ n then none else
    (g f.type).bind fun m => if szOf P f.type = some m then flatFs P g fs (n + m) else none

/-- A type whose cells are whole numbers alone: how many. -/
def flatTy (P : Program) : Nat → TypeId → Option Nat
  | 0, _ => none
  | d + 1, t =>
    match P.underlying t with
    | some (.int _) => if szOf P t = some 1 then some 1 else none
    | some (.struct fs) => if P.stoodInHeld t || P.eqGuardType P.depth t then none else (flatFs P (flatTy P d) fs.toList 0).bind fun n => if szOf P t = some n then some n else none
    | some (.array len e) => if P.eqGuardType P.depth t then none else
      (flatTy P d e).bind fun m => if szOf P e = some m && szOf P t = some (len * m) then some (len * m) else none
    | _ => none

def parts1 (n : Nat) (place : Nat → Option (Nat × Nat)) : List (Nat × Operand) → Option (List (Nat × Nat × X))
  | [] => some []
  | (i, x) :: l => match place i, ofX n x, parts1 n place l with
    | some (off, sz), some v, some vs => some ((off, sz, v) :: vs)
    | _, _, _ => none

structure An where
  /-- slots of slices that are made as objects -/
  obj : List Nat
  /-- slots of slices of arrays that are aliases -/
  al : List Nat
  /-- ahead of a region: slots whose objects nobody writes from then on -/
  frz : List (Nat × List Nat)
  /-- slots of slices beyond the length, or with three bounds that nobody looks at -/
  wide : List Nat
  /-- slots of what is appended to something that nobody writes from then on -/
  apz : List Nat
  deriving Inhabited

def compEq (P : Program) (t : TypeId) : Option (Option EK) :=
  match P.underlying t with
  | some (.int _) | some .string => some none
  | some .bool => some (some .bool)
  | some (.pointer e) => if (szOf P e).isSome then some (some .ptr) else none
  | some (.map ..) => some (some .map)
  | some (.func ..) => some (some .fn)
  | some (.struct _) | some (.array ..) => (flatTy P 20 t).map fun n => some (.agg n)
  | _ => none

def compKey (P : Program) (t : TypeId) : Option KK :=
  match P.underlying t with
  | some (.int _) => some .int
  | some .string => some .str
  | some (.struct _) | some (.array ..) => (flatTy P 20 t).map .agg
  | _ => none

def isU8 (P : Program) (e : TypeId) : Bool := match P.underlying e with | some (.int .u8) => true | _ => false

def compAppend (P : Program) (t u : TypeId) (x y : X) : Option POp :=
  match P.underlying t, P.underlying u with
  | some (.slice e), some (.slice e') => match P.info? e, P.info? e' with
    | some i, some i' => if 0 < i.size && 0 < i.bytes && i'.size = i.size && ((i.zero.map (·.cells.size)) = some i.size) && e = e' then some (.app i.size i.bytes x y) else none
    | _, _ => none
  | some (.slice e), some .string => match P.info? e with
    | some i => if i.size = 1 && 0 < i.bytes && ((i.zero.map (·.cells.size)) = some 1) && isU8 P e then some (.app i.size i.bytes x y) else none
    | none => none
  | _, _ => none

def compBuiltin (P : Program) (n : Nat) (b : Builtin) (ts : List TypeId) (xs : List X) : Option POp :=
  match b, ts, xs with
  | .len, [t], [x] =>
    match P.underlying t with
    | some .string => some (.lenStr x)
    | some (.array m _) => some (.lenK m)
    | some (.slice _) => some (.lenSl x)
    | some (.map ..) => some (.lenMap x)
    | _ => none
  | .max, _, x :: l => some (.max (x :: l))
  | .min, _, x :: l => some (.min (x :: l))
  | .append, [t, u], [x, y] => compAppend P t u x y
  | .clear, [t], [x] =>
    match P.underlying t with
    | some (.slice e) => match szOf P e, zeroOf P e with
      | some s, some z => some (.clear s z x)
      | _, _ => none
    | _ => none
  | .delete, [t, _], [m, k] =>
    match P.underlying t with
    | some (.map kt _) => (compKey P kt).map fun kk => .mdel kk m k
    | _ => none
  | _, _, _ => none

def POp.turnZ (z : Bool) : POp → POp
  | .app sz b x y => if z then .appz sz b x y else .app sz b x y
  | p => p

def compOp (P : Program) (n : Nat) (an : An) (o : Oper) : Option POp :=
  match o.op with
  | .move x | .assign x => (ofX n x).map .mv
  | .pick c a b => do some (.pick (← ofX n c) (← ofX n a) (← ofX n b))
  | .alloc e => (zeroOf P e).map .alloc
  | .box e x => (ofX n x).map .box
  | .build t ps => do
    let z ← zeroOf P t
    match P.underlying t with
    | some (.struct fs) => do
      if fs.toList.all (fun f => (szOf P f.type).isSome) then
        some (.build z (← parts1 n (fun i => (fs[i]?).bind fun f => (szOf P f.type).map fun s => (f.offset, s)) ps.toList))
      else none
    | some (.array _ e) => do
      let s ← szOf P e
      some (.build z (← parts1 n (fun i => some (i * s, s)) ps.toList))
    | _ => none
  | .buildSlice t len ps => do
    match P.underlying t with
    | some (.slice e) => do
      let s ← szOf P e
      let z ← zeroOf P e
      if z.length = s && 0 < s && len * s ≤ 16777216 then
        some (.bsl (o.dst.any (an.obj.contains ·)) s len z (← parts1 n (fun i => some (i * s, s)) ps.toList))
      else none
    | _ => none
  | .load t a => do
    let p ← packOf P t
    some (.load p.1 p.2 (← ofX n a))
  | .store t a v => do some (.store (← szOf P t) (← ofX n a) (← ofX n v))
  | .nilCheck x => (ofX n x).map .nilck
  | .binOp op t x y _ => do
    let a ← ofX n x
    let b ← ofX n y
    match op with
    | .eql => match ← compEq P t with | none => some (.bin .eql a b) | some e => some (.eqa e false a b)
    | .neq => match ← compEq P t with | none => some (.bin .neq a b) | some e => some (.eqa e true a b)
    | op => some (.bin op a b)
  | .unOp op _ x => do
    let a ← ofX n x
    match op with
    | .not => some (.not a)
    | .neg => some (.neg a)
    | .xor => some (.inv a)
    | _ => none
  | .convert s d x => do
    let a ← ofX n x
    match P.underlying s, P.underlying d with
    | some _, some (.int k) => some (.conv k a)
    | some .string, some .string => some (.same a)
    | some (.slice e), some .string => if P.underlying e matches some (.int .u8) then some (.toStr a) else none
    | some .string, some (.slice e) => if P.underlying e matches some (.int .u8) then some (.toBytes a) else none
    | _, _ => none
  | .makeFunc (.func f) first caps => if first.isEmpty then (ofXs n caps.toList).map (.mkf f) else none
  | .makeMap _ none => some .mkmap
  | .makeSlice t l c => do
    match P.underlying t with
    | some (.slice e) => do
      let i ← P.info? e
      let z ← zeroOf P e
      if 0 < i.bytes then some (.mksl (o.dst.any (an.obj.contains ·)) i.size i.bytes z (← ofX n l) (← ofX n c)) else none
    | _ => none
  | .slice t x lo hi mx => do
    let a ← ofX n x
    let l ← ofXo n lo
    let h ← ofXo n hi
    match P.underlying t with
    | some .string => if mx.isNone then some (.slStr a l h) else none
    | some (.slice e) => do
      let s ← szOf P e
      let m ← ofXo n mx
      if o.dst.any (an.wide.contains ·) then some (if mx.isNone then .slw s a l h else .chk3 a l h m) else some (.sl s a l h m)
    | some (.array m e) => do if mx.isNone then some (.slArr (o.dst.any (an.al.contains ·)) m (← szOf P e) a l h) else none
    | _ => none
  | .fieldAddr t x i => do
    match P.underlying t with
    | some (.struct fs) => match fs[i]? with
      | some f => if (szOf P f.type).any (· ≠ 0) then (ofX n x).map (.fldA f.offset) else none
      | none => none
    | _ => none
  | .field t x i => do
    match P.underlying t with
    | some (.struct fs) => match fs[i]? with
      | some f => do
        let p ← packOf P f.type
        some (.fld p.1 f.offset p.2 (← ofX n x))
      | none => none
    | _ => none
  | .indexAddr t x i => do
    let a ← ofX n x
    let b ← ofX n i
    match P.underlying t with
    | some (.array m e) => (szOf P e).map fun s => .idxArr m s a b
    | some (.slice e) => (szOf P e).map fun s => .idxSl s a b
    | _ => none
  | .index t x i => do
    let a ← ofX n x
    let b ← ofX n i
    match P.underlying t with
    | some (.array m e) => do
      let s ← szOf P e
      let ag ← isAg P e
      if ag || s = 1 then some (.idx m ag s a b) else none
    | some .string => some (.idxStr a b)
    | _ => none
  | .lookup t m k ok => do
    match P.underlying t with
    | some (.map kt e) => do some (.lookup (← compKey P kt) (← zeroV P e) ok (← ofX n m) (← ofX n k))
    | _ => none
  | .mapUpdate t m k v | .insert t m k v => do
    match P.underlying t with
    | some (.map kt e) => do some (.mset (← compKey P kt) (← ofX n m) (← ofX n k) (← ofX n v))
    | _ => none
  | .extract x i => (ofX n x).map (.ext i)
  | .call c =>
    match c.callee with
    | .value (.func f) => if okFn P f then (ofXs n c.args.toList).map (.call f) else none
    | .value x => do some (.callv (← ofX n x) (← ofXs n c.args.toList))
    | .builtin b => ((ofXs n c.args.toList).bind (compBuiltin P n b c.argTypes.toList)).map (POp.turnZ (o.dst.any (an.apz.contains ·)))
    | _ => none
  | .range t x =>
    match P.underlying t with
    | some .string => (ofX n x).map .rngStr
    | some (.map ..) => (ofX n x).map .rngMap
    | _ => none
  | .next it s => (ofX n it).map (if s then .nextStr else .nextMap)
  | .entry it => (ofX n it).map .entry
  | _ => none

def compPO (P : Program) (n : Nat) (an : An) (ops : Array Oper) (o : Oper) : Option PO := do
  let p ← compOp P n an o
  if o.dst.all (· < n) then
    match o.guard with
    | none => some ⟨o.dst, p, none⟩
    | some (g, b) =>
      match (ops[g]?).bind (·.dst) with
      | some t => if t < n then some ⟨o.dst, p, some (t, b)⟩ else none
      | none => none
  else none

def compPOs (P : Program) (n : Nat) (an : An) (ops : Array Oper) : List Oper → Option (List PO)
  | [] => some []
  | o :: l => match compPO P n an ops o, compPOs P n an ops l with
    | some p, some ps => some (p :: ps)
    | _, _ => none

end Go.Ab

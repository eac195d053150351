/-
  A small language for the code of a function, with the sizes and offsets of its types resolved; what its operations do to abstract values; and how the machine's code is brought into it.
-/
import Derived.Test.YtpmfkckookkgmaaAbCore
set_option linter.unusedSimpArgs false
set_option linter.unusedVariables false
namespace Go.Ab
open Go Go.RowKit

inductive X where
  | t (i : Nat)
  | k (v : V)
  deriving Inhabited

def X.ev (env : Env) : X → V
  | .t i => env i
  | .k v => v

/-- What is held against what: bools, pointers, maps, functions, structs or arrays of flat cells. -/
inductive EK where
  | bool | ptr | map | fn | agg (n : Nat)
  deriving DecidableEq, Inhabited
/-- A map's keys: whole numbers, strings, structs or arrays of flat cells. -/
inductive KK where
  | int | str | agg (n : Nat)
  deriving DecidableEq, Inhabited

inductive POp where
  | mv (x : X)
  | pick (c a b : X)
  | nilck (x : X)
  | bin (op : BinOp) (x y : X)
  | eqa (e : EK) (neg : Bool) (x y : X)
  | not (x : X)
  | neg (x : X)
  | inv (x : X)
  | conv (k : IntKind) (x : X)
  | same (x : X)
  | toStr (x : X)
  | toBytes (x : X)
  | fldA (off : Nat) (x : X)
  | fld (ag : Bool) (off sz : Nat) (x : X)
  | idxArr (n sz : Nat) (x i : X)
  | idxSl (sz : Nat) (x i : X)
  | idx (n : Nat) (ag : Bool) (sz : Nat) (x i : X)
  | idxStr (x i : X)
  | load (ag : Bool) (sz : Nat) (x : X)
  | store (sz : Nat) (a v : X)
  | build (zero : List V) (parts : List (Nat × Nat × X))
  | bsl (obj : Bool) (sz n : Nat) (zero : List V) (parts : List (Nat × Nat × X))
  | slStr (x : X) (lo hi : Option X)
  | sl (sz : Nat) (x : X) (lo hi mx : Option X)
  | slArr (alias : Bool) (n sz : Nat) (x : X) (lo hi : Option X)
  | slw (sz : Nat) (x : X) (lo hi : Option X)
  | chk3 (x : X) (lo hi mx : Option X)
  | lenStr (x : X)
  | lenSl (x : X)
  | lenMap (x : X)
  | lenK (n : Nat)
  | mkf (f : FuncId) (caps : List X)
  | ext (i : Nat) (x : X)
  | max (xs : List X)
  | min (xs : List X)
  | lookup (kk : KK) (zero : V) (ok : Bool) (m k : X)
  | mset (kk : KK) (m k v : X)
  | mdel (kk : KK) (m k : X)
  | mkmap
  | alloc (zero : List V)
  | box (x : X)
  | mksl (obj : Bool) (sz bytes : Nat) (zero : List V) (len cap : X)
  | app (sz bytes : Nat) (x y : X)
  | clear (sz : Nat) (zero : List V) (x : X)
  | call (f : FuncId) (args : List X)
  | callv (f : X) (args : List X)
  | rngStr (x : X)
  | nextStr (x : X)
  | rngMap (x : X)
  | nextMap (x : X)
  | entry (x : X)
  | appz (sz bytes : Nat) (x y : X)
  deriving Inhabited

structure PO where
  dst : Option Nat
  op : POp
  /-- the slot of a bool, and what it must be -/
  guard : Option (Nat × Bool)
  deriving Inhabited

inductive Cls where
  | e | s | x | a
  deriving DecidableEq, Inhabited

inductive PC where
  | skip
  | ops (l : List PO)
  | draw (l : List (Cls × PO))
  | frz (slots : List Nat)
  | seq (a b : PC)
  | cond (c : X) (a b : PC)
  | block (id : Nat) (c : PC)
  | loop (c : PC)
  | exit (id : Nat)
  | ret
  deriving Inhabited

/-! ### what operations give -/

def packV (ag : Bool) (l : List V) : Option V := if ag then some (.agg l) else match l with | [v] => some v | _ => none

def binI (op : BinOp) (k : IntKind) (a b : Int) : Option V :=
  match op with
  | .add => some (.int k (k.wrap (a + b)))
  | .sub => some (.int k (k.wrap (a - b)))
  | .mul => some (.int k (k.wrap (a * b)))
  | .quo => if b = 0 then none else some (.int k (k.wrap (a.tdiv b)))
  | .rem => if b = 0 then none else some (.int k (a.tmod b))
  | .and => some (.int k (bits .and k a b))
  | .or => some (.int k (bits .or k a b))
  | .xor => some (.int k (bits .xor k a b))
  | .andNot => some (.int k (bits .andNot k a b))
  | .eql => some (.bool (a == b))
  | .neq => some (.bool (a != b))
  | .lss => some (.bool (decide (a < b)))
  | .leq => some (.bool (decide (a ≤ b)))
  | .gtr => some (.bool (decide (a > b)))
  | .geq => some (.bool (decide (a ≥ b)))
  | _ => none

def binV (op : BinOp) : V → V → Option V
  | .int k a, .int k' b =>
    match op with
    | .shl => if b < 0 then none else some (.int k (k.wrap (a * 2 ^ (Nat.min b.toNat k.bits))))
    | .shr => if b < 0 then none else some (.int k (a.fdiv (2 ^ (Nat.min b.toNat k.bits))))
    | op => if k = k' then binI op k a b else none
  | .str a, .str b => match op with | .eql => some (.bool (a == b)) | .neq => some (.bool (a != b)) | _ => none
  | _, _ => none

/-- Equality of cells that are whole numbers. -/
def eqL : List V → List V → Option Bool
  | [], [] => some true
  | .int k a :: xs, .int k' b :: ys => if k = k' then (eqL xs ys).map fun r => (a == b) && r else none
  | _, _ => none

def eqK : EK → V → V → Option Bool
  | .agg n, .agg xs, .agg ys => if xs.length = n then eqL xs ys else none
  | .bool, .bool a, .bool b => some (a == b)
  | .ptr, .ptr none, .ptr q => some q.isNone
  | .ptr, .ptr (some _), .ptr none => some false
  | .ptr, .eptr _, .ptr none => some false
  | .ptr, .ptr none, .eptr _ => some false
  | .map, .map none, .map q => some q.isNone
  | .map, .map (some _), .map none => some false
  | .fn, .nilf, .nilf => some true
  | .fn, .func _ _, .nilf => some false
  | _, _, _ => none

def keyEq : KK → V → V → Option Bool
  | .int, .int k a, .int k' b => if k = k' then some (a == b) else none
  | .str, .str a, .str b => some (a == b)
  | .agg n, .agg xs, .agg ys => if xs.length = n then eqL xs ys else none
  | _, _, _ => none

def notV : V → Option V
  | .bool b => some (.bool (!b))
  | _ => none
def negV : V → Option V
  | .int k n => some (.int k (k.wrap (0 - n)))
  | _ => none
def invV : V → Option V
  | .int k n => some (.int k (bits .xor k (if k.signed then -1 else k.max) n))
  | _ => none
def convV (k : IntKind) : V → Option V
  | .int _ n => some (.int k (k.wrap n))
  | _ => none

def nilckV : V → Option V
  | .ptr (some p) => some (.ptr (some p))
  | .eptr cs => some (.eptr cs)
  | .func f c => some (.func f c)
  | _ => none

def fldAV (off : Nat) : V → Option V
  | .ptr (some (id, o)) => some (.ptr (some (id, o + off)))
  | .eptr cs => some (.eptr (cs.drop off))
  | _ => none

def segOf (l : List V) (off sz : Nat) : Option (List V) := if off + sz ≤ l.length then some ((l.drop off).take sz) else none

def fldV (ag : Bool) (off sz : Nat) : V → Option V
  | .agg cs => (segOf cs off sz).bind (packV ag)
  | _ => none

def idxArrV (n sz : Nat) : V → V → Option V
  | x, .int _ i => if 0 ≤ i ∧ i < n then fldAV (i.toNat * sz) x else none
  | _, _ => none

def idxSlV (sz : Nat) : V → V → Option V
  | .sl _ cs n, .int _ i => if 0 ≤ i ∧ i < n then some (.eptr (cs.drop (i.toNat * sz))) else none
  | .hsl id off sz' n, .int _ i => if sz' = sz ∧ 0 ≤ i ∧ i < n then some (.ptr (some (id, off + i.toNat * sz))) else none
  | _, _ => none

def idxV (n : Nat) (ag : Bool) (sz : Nat) : V → V → Option V
  | .agg cs, .int _ i => if 0 ≤ i ∧ i < n then (segOf cs (i.toNat * sz) sz).bind (packV ag) else none
  | _, _ => none

def idxStrV : V → V → Option V
  | .str s, .int _ i => if 0 ≤ i then (s[i.toNat]?).map fun b => .int .u8 b.toNat else none
  | _, _ => none

/-- The cells of a value that can be stored. -/
def V.cells? : V → Option (List V)
  | .agg cs => some cs
  | .junk => none
  | .tup _ => none
  | v => some [v]

/-- The cells behind an object's number. -/
def St.seg (st : St) (id off sz : Nat) : Option (List V) :=
  match st id with
  | some (.cells cs) => segOf cs off sz
  | some (.ro cs) => segOf cs off sz
  | _ => none

def ldCells (st : St) (sz : Nat) : V → Option (List V)
  | .ptr (some (id, o)) => st.seg id o sz
  | .eptr cs => segOf cs 0 sz
  | _ => none

def spliceV (l : List V) (o : Nat) (vs : List V) : List V := l.take o ++ vs ++ l.drop (o + vs.length)

def storeS (st : St) (sz : Nat) : V → V → Option St
  | .ptr (some (id, o)), v =>
    match st id with
    | some (.cells cs) =>
      match v.cells? with
      | some vs => if vs.length = sz ∧ o + sz ≤ cs.length then some (st.upd id (.cells (spliceV cs o vs))) else none
      | none => none
    | _ => none
  | _, _ => none

def fillV (cells : List V) : List (Nat × Nat × V) → Option (List V)
  | [] => some cells
  | (off, sz, v) :: rest =>
    match v.cells? with
    | some vs => if vs.length = sz ∧ off + sz ≤ cells.length then fillV (spliceV cells off vs) rest else none
    | none => none

def natOf : V → Option Nat
  | .int _ n => if 0 ≤ n then some n.toNat else none
  | _ => none

def boundOf (env : Env) (n : Nat) : Option X → Option Nat
  | some x => natOf (x.ev env)
  | none => some n

/-- A slice's bounds: the lower and the upper one. -/
def bounds (env : Env) (n : Nat) (lo hi : Option X) : Option (Nat × Nat) :=
  match boundOf env n hi, boundOf env 0 lo with
  | some h, some l => if l ≤ h ∧ h ≤ n then some (l, h) else none
  | _, _ => none

def slStrV (b : Option (Nat × Nat)) : V → Option V
  | .str s => b.map fun (l, h) => .str (s.extract l h)
  | _ => none

def slK (k : SK) (full : Bool) : SK :=
  match k with
  | .nil => .nil
  | .any => .any
  | .full => if full then .full else .some
  | .some => .some

def slV (env : Env) (sz : Nat) (lo hi mx : Option X) : V → Option V
  | .sl k cs n =>
    match mx, bounds env n lo hi with
    | none, some (l, h) => if cs.length = n * sz then some (.sl (slK k hi.isNone) ((cs.drop (l * sz)).take ((h - l) * sz)) (h - l)) else none
    | some m, some (l, h) =>
      match natOf (m.ev env) with
      | some m => if cs.length = n * sz ∧ hi.isSome = true ∧ h ≤ m ∧ m ≤ n ∧ k ≠ .nil ∧ k ≠ .any then some (.sl (if m = h then .full else .some) ((cs.drop (l * sz)).take ((h - l) * sz)) (h - l)) else none
      | none => none
    | _, _ => none
  | .hsl id off sz' n =>
    match mx, bounds env n lo hi with
    | none, some (l, h) => if sz' = sz then some (.hsl id (off + l * sz) sz (h - l)) else none
    | _, _ => none
  | _ => none

def toBytesV (s : ByteArray) : List V := s.data.toList.map fun b => V.int .u8 b.toNat

def bytesOf : List V → Option (List UInt8)
  | [] => some []
  | .int .u8 n :: l => (bytesOf l).map (UInt8.ofNat n.toNat :: ·)
  | _ => none

/-- What a slice, or a string, has: its cells, and how many elements. -/
def elems (st : St) (sz : Nat) : V → Option (List V × Nat)
  | .sl _ cs n => if cs.length = n * sz then some (cs, n) else none
  | .hsl id off sz' n => if sz' = sz then (st.seg id off (n * sz)).map fun l => (l, n) else none
  | .str s => if sz = 1 then some (toBytesV s, s.size) else none
  | _ => none

def toStrV (st : St) : V → Option V
  | .str _ => none
  | u => (elems st 1 u).bind fun l => (bytesOf l.1).map fun b => .str ⟨b.toArray⟩

def lenSlV : V → Option V
  | .sl _ _ n => some (.int .i64 n)
  | .hsl _ _ _ n => some (.int .i64 n)
  | _ => none

def lenMapV (st : St) : V → Option V
  | .map none => some (.int .i64 0)
  | .map (some id) => match st id with | some (.mp es) => some (.int .i64 es.length) | some (.mpi es _ _) => some (.int .i64 es.length) | _ => none
  | _ => none

def lenStrV : V → Option V
  | .str s => some (.int .i64 s.size)
  | _ => none

def extV (i : Nat) : V → Option V
  | .tup vs => vs[i]?
  | _ => none

def max2V : V → V → Option V
  | .int k x, .int k' y => if k = k' then some (.int k (if y > x then y else x)) else none
  | _, _ => none
def min2V : V → V → Option V
  | .int k x, .int k' y => if k = k' then some (.int k (if y < x then y else x)) else none
  | _, _ => none
def foldV (f : V → V → Option V) : V → List V → Option V
  | v, [] => some v
  | v, x :: l => (f v x).bind fun u => foldV f u l

/-- A value that can be a key. -/
def isKey : KK → V → Bool
  | .int, .int _ _ => true
  | .str, .str _ => true
  | .agg n, .agg xs => xs.length = n
  | _, _ => false

def mfind (kk : KK) (k : V) : List (V × V) → Option (Option V)
  | [] => some none
  | (k', v) :: es => match keyEq kk k k' with | some true => some (some v) | some false => mfind kk k es | none => none
def mput (kk : KK) (k v : V) : List (V × V) → Option (List (V × V))
  | [] => some [(k, v)]
  | (k', v') :: es => match keyEq kk k k' with | some true => some ((k, v) :: es) | some false => (mput kk k v es).map ((k', v') :: ·) | none => none
def mrem (kk : KK) (k : V) : List (V × V) → Option (List (V × V))
  | [] => some []
  | (k', v') :: es => match keyEq kk k k' with | some true => some es | some false => (mrem kk k es).map ((k', v') :: ·) | none => none

def mfindI (kk : KK) (k : V) : List (V × V) → Nat → Option (Option Nat)
  | [], _ => some none
  | (k', _) :: es, i => match keyEq kk k k' with | some true => some (some i) | some false => mfindI kk k es (i + 1) | none => none

def mapOf (st : St) : V → Option (List (V × V))
  | .map none => some []
  | .map (some id) => match st id with | some (.mp es) => some es | some (.mpi es _ _) => some es | _ => none
  | _ => none

/-- The entry that was seen last. -/
def entryV (st : St) : V → Option V
  | .ptr (some (it, 0)) => match st it with
    | some (.mit (some id) _ seen stp) => match st id with
      | some (.mpi es bs clk) => if stp = clk then (seen.getLast?).bind fun b => (bs.findIdx? (· == b)).bind fun i => (es[i]?).map fun e => .tup [e.1, e.2] else none
      | _ => none
    | _ => none
  | _ => none

def lookupV (st : St) (kk : KK) (zero : V) (ok : Bool) (m k : V) : Option V :=
  if isKey kk k = true then do
    let es ← mapOf st m
    let r ← mfind kk k es
    some (if ok then .tup [r.getD zero, .bool r.isSome] else r.getD zero)
  else none

def msetS (st : St) (kk : KK) : V → V → V → Option St
  | .map (some id), k, v => if isKey kk k = true then match st id with | some (.mp es) => (mput kk k v es).map fun es' => st.upd id (.mp es') | _ => none else none
  | _, _, _ => none
def mdelS (st : St) (kk : KK) : V → V → Option St
  | .map none, k => if isKey kk k = true then some st else none
  | .map (some id), k => if isKey kk k = true then match st id with
    | some (.mp es) => (mrem kk k es).map fun es' => st.upd id (.mp es')
    | some (.mpi es bs clk) => (mfindI kk k es 0).map fun q => match q with | some j => st.upd id (.mpi (es.eraseIdx j) (bs.eraseIdx j) clk) | none => st
    | _ => none else none
  | _, _ => none

def repV (z : List V) : Nat → List V
  | 0 => []
  | n + 1 => z ++ repV z n

/-- A slice of an object's slice beyond its length. -/
def slwV (st : St) (env : Env) (sz : Nat) (lo hi : Option X) : V → Option V
  | .hsl id off sz' n =>
    match st id with
    | some (.cells cs) =>
      match boundOf env n hi, boundOf env 0 lo with
      | some h, some l => if sz' = sz ∧ 0 < sz ∧ hi.isSome = true ∧ l ≤ h ∧ off + h * sz ≤ cs.length then some (.hsl id (off + l * sz) sz (h - l)) else none
      | _, _ => none
    | _ => none
  | _ => none

/-- A slice with all three bounds, of which nobody looks at more than whether it is one. -/
def chk3V (env : Env) (lo hi mx : Option X) : V → Option V
  | .hsl _ _ _ n =>
    match boundOf env n mx, boundOf env n hi, boundOf env 0 lo with
    | some m, some h, some l => if mx.isSome = true ∧ hi.isSome = true ∧ l ≤ h ∧ h ≤ m ∧ m ≤ n then some .junk else none
    | _, _, _ => none
  | _ => none

/-- A slice of an array: of one that nobody writes any more its cells, else (alias) the object's. -/
def slArrV (st : St) (env : Env) (al : Bool) (n sz : Nat) (lo hi : Option X) (x : V) : Option V :=
  match bounds env n lo hi with
  | none => none
  | some (l, h) =>
    if al then
      match x with
      | .ptr (some (id, o)) => match st id with
        | some (.cells cs) => if o + n * sz = cs.length then some (.hsl id (o + l * sz) sz (h - l)) else none
        | _ => none
      | _ => none
    else
      match x with
      | .ptr (some (id, o)) => match st id with
        | some (.ro cs) => (segOf cs o (n * sz)).map fun c => .sl (if h = n then .full else .some) ((c.drop (l * sz)).take ((h - l) * sz)) (h - l)
        | _ => none
      | .eptr cs => (segOf cs 0 (n * sz)).map fun c => .sl (if h = n then .full else .some) ((c.drop (l * sz)).take ((h - l) * sz)) (h - l)
      | _ => none

/-- The operations that change nothing. -/
def opV (o : POp) (env : Env) (st : St) : Option V :=
  match o with
  | .mv x => some (x.ev env)
  | .pick c a b => match c.ev env with | .bool t => some (if t then a.ev env else b.ev env) | _ => none
  | .nilck x => nilckV (x.ev env)
  | .bin op x y => binV op (x.ev env) (y.ev env)
  | .eqa e neg x y => (eqK e (x.ev env) (y.ev env)).map fun b => .bool (if neg then !b else b)
  | .not x => notV (x.ev env)
  | .neg x => negV (x.ev env)
  | .inv x => invV (x.ev env)
  | .conv k x => convV k (x.ev env)
  | .same x => match x.ev env with | .str s => some (.str s) | _ => none
  | .toStr x => toStrV st (x.ev env)
  | .toBytes x => match x.ev env with | .str s => some (.sl .some (toBytesV s) s.size) | _ => none
  | .fldA off x => fldAV off (x.ev env)
  | .fld ag off sz x => fldV ag off sz (x.ev env)
  | .idxArr n sz x i => idxArrV n sz (x.ev env) (i.ev env)
  | .idxSl sz x i => idxSlV sz (x.ev env) (i.ev env)
  | .idx n ag sz x i => idxV n ag sz (x.ev env) (i.ev env)
  | .idxStr x i => idxStrV (x.ev env) (i.ev env)
  | .load ag sz x => (ldCells st sz (x.ev env)).bind (packV ag)
  | .build zero parts => (fillV zero (parts.map fun p => (p.1, p.2.1, p.2.2.ev env))).map V.agg
  | .bsl false sz n zero parts => (fillV (repV zero n) (parts.map fun p => (p.1, p.2.1, p.2.2.ev env))).map fun cs => .sl .full cs n
  | .slStr x lo hi => match x.ev env with | .str s => slStrV (bounds env s.size lo hi) (.str s) | _ => none
  | .sl sz x lo hi mx => slV env sz lo hi mx (x.ev env)
  | .slArr al n sz x lo hi => slArrV st env al n sz lo hi (x.ev env)
  | .slw sz x lo hi => slwV st env sz lo hi (x.ev env)
  | .chk3 x lo hi mx => chk3V env lo hi mx (x.ev env)
  | .lenStr x => lenStrV (x.ev env)
  | .lenSl x => lenSlV (x.ev env)
  | .lenMap x => lenMapV st (x.ev env)
  | .lenK n => some (.int .i64 n)
  | .mkf f caps => some (.func f (caps.map (·.ev env)))
  | .ext i x => extV i (x.ev env)
  | .max (x :: l) => foldV max2V (x.ev env) (l.map (·.ev env))
  | .min (x :: l) => foldV min2V (x.ev env) (l.map (·.ev env))
  | .lookup kk zero ok m k => lookupV st kk zero ok (m.ev env) (k.ev env)
  | .entry x => entryV st (x.ev env)
  | _ => none

/-- The operations that write. -/
def opS (o : POp) (env : Env) (st : St) : Option St :=
  match o with
  | .store sz a v => storeS st sz (a.ev env) (v.ev env)
  | .mset kk m k v => msetS st kk (m.ev env) (k.ev env) (v.ev env)
  | .mdel kk m k => mdelS st kk (m.ev env) (k.ev env)
  | _ => none

/-- The operations that make an object: the object, and the value that its number gives. -/
def opA (o : POp) (env : Env) (st : St) : Option (AObj × (Nat → V)) :=
  match o with
  | .alloc zero => some (.cells zero, fun id => .ptr (some (id, 0)))
  | .box x => (x.ev env).cells?.map fun cs => (.cells cs, fun id => .ptr (some (id, 0)))
  | .mkmap => some (.mp [], fun id => .map (some id))
  | .bsl true sz n zero parts => (fillV (repV zero n) (parts.map fun p => (p.1, p.2.1, p.2.2.ev env))).map fun cs => (.cells cs, fun id => .hsl id 0 sz n)
  | .rngStr x => match x.ev env with | .str s => some (.siter s 0, fun id => .ptr (some (id, 0))) | _ => none
  | _ => none

def POp.makes : POp → Bool
  | .alloc _ | .box _ | .mkmap | .bsl true .. | .rngStr _ => true
  | _ => false
def POp.writes : POp → Bool
  | .store .. | .mset .. | .mdel .. => true
  | _ => false

end Go.Ab

/-
  What is to be shown of a function's code: contracts, steps, regions, loops; and how the machine's code is brought into the small language.
-/
import Derived.Test.YtpmfkckookkgmaaAbIR
set_option linter.unusedSimpArgs false
set_option linter.unusedVariables false
namespace Go.Ab
open Go Go.RowKit

/-- Two heaps side by side. -/
def St.add (st fr : St) : St := fun i => match st i with | some o => some o | none => fr i
def Disj (st fr : St) : Prop := ∀ i, st i = none ∨ fr i = none

/-- A contract: called with such values over such a heap, whatever else there is, it returns, and R holds of what it gives and of the heap behind it. -/
def ACalls (P : Program) (f : FuncId) (args : List V) (st : St) (R : V → St → Prop) : Prop :=
  ∀ (fr : St), Disj st fr → ∀ (B : Nat) (w0 : World) (G : Gh) (w : World) (xs : List Value), StRel B w0 G (st.add fr) w → LRel G args xs →
    Calls P f xs.toArray w fun e w' => ∃ v x G' st', e = .returned x ∧ G.le G' ∧ VRel G' v x ∧ Disj st' fr ∧ StRel B w0 G' (st'.add fr) w' ∧ R v st'

theorem ACalls.mono {P : Program} {f : FuncId} {args : List V} {st : St} {R R' : V → St → Prop} (h : ACalls P f args st R) (hr : ∀ v s, R v s → R' v s) : ACalls P f args st R' :=
  fun fr hd B w0 G w xs hs ha => (h fr hd B w0 G w xs hs ha).mono fun e w' ⟨v, x, G', st', h1, h2, h3, h4, h5, h6⟩ => ⟨v, x, G', st', h1, h2, h3, h4, h5, hr _ _ h6⟩

inductive Ex where
  | normal
  | exit (id : Nat)
  | ret
  deriving DecidableEq

/-- A function that can be called through a value. -/
def okFn (P : Program) (f : FuncId) : Bool := (P.funcs[f]?).any fun fn => (fn.name != "runtime.NumGoroutine") && fn.body.isSome

/-- One operation that is not passed over. -/
def stepP (P : Program) (o : POp) (env : Env) (st : St) (K : V → St → Prop) : Prop :=
  match o with
  | .call f args => ACalls P f (args.map (·.ev env)) st K
  | .callv x args =>
    match x.ev env with
    | .func f cap => okFn P f = true ∧ ACalls P f (args.map (·.ev env) ++ cap) st K
    | _ => False
  | .app sz bytes x y =>
    match elems st sz (y.ev env) with
    | none => False
    | some (ys, m) =>
      match x.ev env with
      | .sl k cs n =>
        (k = .nil ∨ k = .full) ∧ cs.length = n * sz ∧ (n + m) * bytes ≤ 140737488355328 ∧
        (m = 0 → K (.sl k cs n) st) ∧ (m ≠ 0 → ∀ id, st id = none → K (.hsl id 0 sz (n + m)) (st.upd id (.cells (cs ++ ys))))
      | .hsl id off sz' n =>
        match st id with
        | some (.cells cs) =>
          sz' = sz ∧ (n + m) * bytes ≤ 140737488355328 ∧
          if off + (n + m) * sz ≤ cs.length then K (.hsl id off sz (n + m)) (st.upd id (.cells (spliceV cs (off + n * sz) ys)))
          else off = 0 ∧ cs.length = n * sz ∧ ∀ id', (st.del id) id' = none → K (.hsl id' 0 sz (n + m)) ((st.del id).upd id' (.cells (cs ++ ys)))
        | _ => False
      | _ => False
  | .mksl obj sz bytes zero len cap =>
    match natOf (len.ev env), natOf (cap.ev env) with
    | some n, some c => n ≤ c ∧ c * bytes ≤ 140737488355328 ∧ zero.length = sz ∧
        (if obj then ∀ id, st id = none → K (.hsl id 0 sz n) (st.upd id (.cells (repV zero n))) else K (.sl .some (repV zero n) n) st)
    | _, _ => False
  | .nextStr x =>
    match x.ev env with
    | .ptr (some (it, 0)) =>
      match st it with
      | some (.siter s pos) =>
        if pos < s.size then K (.tup [.bool true, .int .i64 pos, .int .i32 (Utf8.decode s pos).1]) (st.upd it (.siter s (pos + (Utf8.decode s pos).2))) else K (.tup [.bool false]) st
      | _ => False
    | _ => False
  | .rngMap x =>
    match x.ev env with
    | .map none => ∀ it, st it = none → K (.ptr (some (it, 0))) (st.upd it (.mit none 0 [] 0))
    | .map (some id) =>
      match st id with
      | some (.mp es) => ∀ it, st it = none → ∀ (bs : List Nat) (clk : Nat), bs.length = es.length → bs.Pairwise (· < ·) → (∀ b ∈ bs, b < clk) → K (.ptr (some (it, 0))) ((st.upd id (.mpi es bs clk)).upd it (.mit (some id) clk [] clk))
      | _ => False
    | _ => False
  | .nextMap x =>
    match x.ev env with
    | .ptr (some (it, 0)) =>
      match st it with
      | some (.mit none _ _ _) => K (.tup [.bool false]) st
      | some (.mit (some id) since seen stp) =>
        match st id with
        | some (.mpi es bs clk) => (∀ b ∈ bs, b < since) ∧ since ≤ stp ∧ bs.length = es.length ∧ ((∀ b ∈ bs, b ∈ seen) → K (.tup [.bool false]) st) ∧
            ∀ i, i < es.length → bs.getD i 0 ∉ seen → K (.tup [.bool true, (es.getD i default).1, (es.getD i default).2]) (st.upd it (.mit (some id) since (seen ++ [bs.getD i 0]) clk))
        | _ => False
      | _ => False
    | _ => False
  | .appz sz bytes x y =>
    match elems st sz (y.ev env) with
    | none => False
    | some (ys, m) =>
      match x.ev env with
      | .sl k cs n =>
        (k = .nil ∨ k = .full) ∧ cs.length = n * sz ∧ (n + m) * bytes ≤ 140737488355328 ∧ (m = 0 → K (.sl k cs n) st) ∧ (m ≠ 0 → K (.sl .some (cs ++ ys) (n + m)) st)
      | .hsl id off sz' n =>
        match st id with
        | some (.cells cs) =>
          sz' = sz ∧ (n + m) * bytes ≤ 140737488355328 ∧ off = 0 ∧ n * sz ≤ cs.length ∧
          K (.sl .some (cs.take (n * sz) ++ ys) (n + m)) (st.upd id (.ro (cs.take (n * sz) ++ List.replicate (cs.length - n * sz) .junk)))
        | _ => False
      | _ => False
  | .clear sz zero x =>
    match x.ev env with
    | .hsl id off sz' n =>
      match st id with
      | some (.cells cs) => sz' = sz ∧ zero.length = sz ∧ off + n * sz ≤ cs.length ∧ K .junk (st.upd id (.cells (spliceV cs off (repV zero n))))
      | _ => False
    | .sl .nil [] 0 => K .junk st
    | _ => False
  | o =>
    if o.makes then
      match opA o env st with
      | some (ob, mk) => ∀ id, st id = none → K (mk id) (st.upd id ob)
      | none => False
    else if o.writes then
      match opS o env st with
      | some st' => K .junk st'
      | none => False
    else
      match opV o env st with
      | some v => K v st
      | none => False

def Env.put (env : Env) (d : Option Nat) (v : V) : Env := match d with | some d => env.upd d v | none => env

/-- An operation under its guard. -/
def guardP (g : Option (Nat × Bool)) (env : Env) (yes no : Prop) : Prop :=
  match g with
  | none => yes
  | some (t, b) =>
    match env t with
    | .bool c => if c = b then yes else no
    | .tup _ => no
    | _ => False

def runP (P : Program) : List PO → Env → St → (Env → St → Prop) → Prop
  | [], env, st, K => K env st
  | o :: l, env, st, K =>
    guardP o.guard env (stepP P o.op env st fun v st' => runP P l (env.put o.dst v) st' K) (runP P l (env.put o.dst (.tup [])) st K)

/-- A step that leaves the heap as it is, and gives one value. -/
def stillP (P : Program) (o : POp) (env : Env) (st : St) (K : V → Prop) : Prop :=
  match o with
  | .call f args => ∃ v, ACalls P f (args.map (·.ev env)) st (fun v' st' => v' = v ∧ st' = st) ∧ K v
  | .callv x args =>
    match x.ev env with
    | .func f cap => okFn P f = true ∧ ∃ v, ACalls P f (args.map (·.ev env) ++ cap) st (fun v' st' => v' = v ∧ st' = st) ∧ K v
    | _ => False
  | .mksl false sz bytes zero len cap =>
    match natOf (len.ev env), natOf (cap.ev env) with
    | some n, some c => (n ≤ c ∧ c * bytes ≤ 140737488355328 ∧ zero.length = sz) ∧ K (.sl .some (repV zero n) n)
    | _, _ => False
  | o =>
    match opV o env st with
    | some v => K v
    | none => False

def stepC (P : Program) (c : Cls) (o : POp) (env : Env) (st : St) (K : V → St → Prop) : Prop :=
  match c with
  | .x | .a => stepP P o env st K
  | .e | .s => stillP P o env st fun v => K v st

def runD (P : Program) : List (Cls × PO) → Env → St → (Env → St → Prop) → Prop
  | [], env, st, K => K env st
  | (c, o) :: l, env, st, K =>
    guardP o.guard env (stepC P c o.op env st fun v st' => runD P l (env.put o.dst v) st' K) (runD P l (env.put o.dst (.tup [])) st K)

/-- Objects that nobody writes any more, and slices of them that are carried as lists from then on. -/
def frzOb (st : St) (id : Nat) : Option St :=
  match st id with
  | some (.cells cs) => some (st.upd id (.ro cs))
  | some (.ro _) => some st
  | _ => none

def frzV (st : St) : V → Option (V × St)
  | .ptr (some (id, o)) => (frzOb st id).map fun s => (.ptr (some (id, o)), s)
  | .hsl id off sz n => (frzOb st id).bind fun s => (s.seg id off (n * sz)).map fun c => (.sl .some c n, s)
  | .agg cs => some (.agg cs, st)
  | .map (some id) =>
    match st id with
    | some (.mpi es _ _) => some (.map (some id), st.upd id (.mp es))
    | some _ => some (.map (some id), st)
    | none => none
  | v => some (v, st)

def frzP : List Nat → Env → St → (Env → St → Prop) → Prop
  | [], env, st, K => K env st
  | t :: l, env, st, K =>
    match frzV st (env t) with
    | some (v, s) => frzP l (env.upd t v) s K
    | none => False

def PO.writesSlot (o : PO) : List Nat := o.dst.toList
def PC.writes : PC → List Nat
  | .skip | .exit _ | .ret => []
  | .ops l => l.flatMap (·.dst.toList)
  | .draw l => l.flatMap (·.2.dst.toList)
  | .frz l => l
  | .seq a b => a.writes ++ b.writes
  | .cond _ a b => a.writes ++ b.writes
  | .block _ c => c.writes
  | .loop c => c.writes

/-- Two frames are the same but for some slots. -/
def Same (W : List Nat) (env env' : Env) : Prop := ∀ t, t ∉ W → env' t = env t

theorem Same.refl (W : List Nat) (env : Env) : Same W env env := fun _ _ => rfl

def vc (P : Program) : PC → (Ex → Env → St → Prop) → Env → St → Prop
  | .skip, Q, env, st => Q .normal env st
  | .ops l, Q, env, st => runP P l env st (Q .normal)
  | .draw l, Q, env, st => runD P l env st (Q .normal)
  | .frz l, Q, env, st => frzP l env st (Q .normal)
  | .seq a b, Q, env, st => vc P a (fun e env' st' => match e with | .normal => vc P b Q env' st' | e => Q e env' st') env st
  | .cond c a b, Q, env, st =>
    match c.ev env with
    | .bool t => if t = true then vc P a Q env st else vc P b Q env st
    | _ => False
  | .block id c, Q, env, st => vc P c (fun e env' st' => match e with | .exit j => if j = id then Q .normal env' st' else Q (.exit j) env' st' | e => Q e env' st') env st
  | .loop c, Q, env, st =>
    ∃ (I : Env → St → Prop) (μ : Env → St → Nat), I env st ∧
      ∀ env' st', Same c.writes env env' → I env' st' →
        vc P c (fun e env'' st'' => match e with | .normal => (∃ s, St.sub s st'' ∧ I env'' s ∧ μ env'' s < μ env' st') | e => Q e env'' st'') env' st'
  | .exit id, Q, env, st => Q (.exit id) env st
  | .ret, Q, env, st => Q .ret env st

/-- What a function gives: one slot, or several; or a boxed one. -/
inductive PR where
  | t (s : Nat)
  | cell (s : Nat) (ag : Bool) (sz : Nat)
  deriving Inhabited

def resOne (env : Env) (st : St) : PR → Option V
  | .t s => some (env s)
  | .cell s ag sz => (ldCells st sz (env s)).bind (packV ag)

def resAll (env : Env) (st : St) : List PR → Option (List V)
  | [] => some []
  | r :: l => (resOne env st r).bind fun v => (resAll env st l).map (v :: ·)

def resV (env : Env) (st : St) (l : List PR) : Option V := (resAll env st l).map fun vs => match vs with | [v] => v | vs => .tup vs

/-- A function: how many slots, how many parameters, its results and its code. -/
structure PF where
  n : Nat
  np : Nat
  res : List PR
  code : PC
  deriving Inhabited

def argEnv : List V → Env
  | [], _ => .junk
  | v :: _, 0 => v
  | _ :: l, t + 1 => argEnv l t

/-- What is to be shown of a function's code for a contract. -/
def PF.shows (P : Program) (F : PF) (args : List V) (st : St) (R : V → St → Prop) : Prop :=
  vc P F.code (fun e env st' => (e = .normal ∨ e = .ret) ∧ match resV env st' F.res with | some v => ∃ s, St.sub s st' ∧ R v s | none => False) (argEnv args) st

end Go.Ab

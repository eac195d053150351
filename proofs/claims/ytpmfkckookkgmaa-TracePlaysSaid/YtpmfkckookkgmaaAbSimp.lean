/-
  How what is to be shown of a function's code is worked out: one step after the other; what is not settled is left as it is.
-/
import Derived.Test.YtpmfkckookkgmaaAbFn
set_option linter.unusedSimpArgs false
set_option linter.unusedVariables false
namespace Go.Ab
open Go Go.RowKit

@[simp] theorem env_upd (e : Env) (d t : Nat) (v : V) : (e.upd d v) t = if t = d then v else e t := _root_.id rfl
@[simp] theorem env_put_some (e : Env) (d : Nat) (v : V) : e.put (some d) v = e.upd d v := _root_.id rfl
@[simp] theorem env_put_none (e : Env) (v : V) : e.put none v = e := _root_.id rfl
@[simp] theorem st_upd (s : St) (i j : Nat) (o : AObj) : (s.upd i o) j = if j = i then some o else s j := _root_.id rfl
@[simp] theorem st_del (s : St) (i j : Nat) : (s.del i) j = if j = i then none else s j := _root_.id rfl
theorem ne_id {st : St} {i j : Nat} {o : AObj} (h : st i = some o) (k : st j = none) : i ≠ j := fun e => by subst e; rw [h] at k; cases k
theorem sub_upd {st : St} {i : Nat} {o : AObj} (h : st i = none) : St.sub st (st.upd i o) := fun j x hx => by
  simp [ne_id hx h, hx]
theorem seg_at {st : St} {id off n sz : Nat} {rows : List V} (h : st.seg id off (n * sz) = some rows) {i : Nat} (hi : i < n) : st.seg id (off + i * sz) sz = some ((rows.drop (i * sz)).take sz) := by
  have hle : i * sz + sz ≤ n * sz := by rw [← Nat.succ_mul]; exact Nat.mul_le_mul_right _ hi
  have key : ∀ cs : List V, segOf cs off (n * sz) = some rows → segOf cs (off + i * sz) sz = some ((rows.drop (i * sz)).take sz) := fun cs hc => by
    unfold segOf at *
    split at hc <;> cases hc
    rw [if_pos (by omega), List.drop_take, List.drop_drop, List.take_take, Nat.min_eq_left (by omega)]
  unfold St.seg at *
  split at h <;> first | exact key _ h | cases h

@[simp] theorem ite_max (a b : Int) : (if a < b then b else a) = max a b := by split <;> omega

theorem wrap64 {x : Int} (h0 : -9223372036854775808 ≤ x) (h1 : x ≤ 9223372036854775807) : IntKind.i64.wrap x = x := by
  simp only [IntKind.wrap, IntKind.signed, IntKind.bits]
  simp
  omega
@[simp] theorem sub_self (st : St) : St.sub st st := St.sub_refl st
@[simp] theorem upd_upd (s : St) (i : Nat) (a b : AObj) : (s.upd i a).upd i b = s.upd i b := by
  funext j
  by_cases e : j = i <;> simp [e]
theorem sub_trans {a b c : St} (h : St.sub a b) (k : St.sub b c) : St.sub a c := fun i o e => k i o (h i o e)

@[simp] theorem natOf_cast (k : IntKind) (n : Nat) : natOf (.int k (n : Int)) = some n := by simp [natOf]
@[simp] theorem natOf_succ (k : IntKind) (n : Nat) : natOf (.int k ((n : Int) + 1)) = some (n + 1) := by
  simp only [natOf]
  rw [if_pos (by omega)]
  simp
@[simp] theorem natOf_zero (k : IntKind) : natOf (.int k 0) = some 0 := _root_.id rfl
@[simp] theorem boundOf_none (env : Env) (n : Nat) : boundOf env n none = some n := _root_.id rfl
@[simp] theorem boundOf_some (env : Env) (n : Nat) (x : X) : boundOf env n (some x) = natOf (x.ev env) := _root_.id rfl

@[simp] theorem ld_ptr (st : St) (sz id o : Nat) : ldCells st sz (.ptr (some (id, o))) = st.seg id o sz := _root_.id rfl
@[simp] theorem ld_eptr (st : St) (sz : Nat) (cs : List V) : ldCells st sz (.eptr cs) = segOf cs 0 sz := _root_.id rfl
attribute [simp] argEnv X.ev V.cells? fldAV packV nilckV notV binV binI extV
@[simp] theorem lenSlV_sl (k : SK) (cs : List V) (n : Nat) : lenSlV (.sl k cs n) = some (.int .i64 n) := _root_.id rfl
@[simp] theorem lenSlV_hsl (id off sz n : Nat) : lenSlV (.hsl id off sz n) = some (.int .i64 n) := _root_.id rfl
@[simp] theorem idxSlV_sl (sz : Nat) (k : SK) (cs : List V) (n : Nat) (kd : IntKind) (i : Int) : idxSlV sz (.sl k cs n) (.int kd i) = if 0 ≤ i ∧ i < n then some (.eptr (cs.drop (i.toNat * sz))) else none := _root_.id rfl
@[simp] theorem idxSlV_hsl (sz id off sz' n : Nat) (kd : IntKind) (i : Int) : idxSlV sz (.hsl id off sz' n) (.int kd i) = if sz' = sz ∧ 0 ≤ i ∧ i < n then some (.ptr (some (id, off + i.toNat * sz))) else none := _root_.id rfl

/-! ### steps that wait for their values -/

def onV (v : Option V) (K : V → St → Prop) (st : St) : Prop := match v with | some v => K v st | none => False
@[simp] theorem onV_some (v : V) (K : V → St → Prop) (st : St) : onV (some v) K st = K v st := _root_.id rfl
@[simp] theorem onV_none (K : V → St → Prop) (st : St) : onV none K st = False := _root_.id rfl
def onS (s : Option St) (K : V → St → Prop) : Prop := match s with | some s => K .junk s | none => False
@[simp] theorem onS_some (s : St) (K : V → St → Prop) : onS (some s) K = K .junk s := _root_.id rfl
@[simp] theorem onS_none (K : V → St → Prop) : onS none K = False := _root_.id rfl
/-- A new object. -/
def mkNew (ob : AObj) (mk : Nat → V) (K : V → St → Prop) (st : St) : Prop := ∀ id, st id = none → K (mk id) (st.upd id ob)
def mkBox (cs : Option (List V)) (mk : Nat → V) (K : V → St → Prop) (st : St) : Prop := match cs with | some cs => mkNew (.cells cs) mk K st | none => False
@[simp] theorem mkBox_some (cs : List V) (mk : Nat → V) (K : V → St → Prop) (st : St) : mkBox (some cs) mk K st = mkNew (.cells cs) mk K st := _root_.id rfl

section
variable (P : Program)

def runK (l : List PO) (d : Option Nat) (env : Env) (K : Env → St → Prop) : V → St → Prop := fun v st' => runP P l (env.put d v) st' K
@[simp] theorem runK_ap (l : List PO) (d : Option Nat) (env : Env) (K : Env → St → Prop) (v : V) (st : St) : runK P l d env K v st = runP P l (env.put d v) st K := _root_.id rfl
def gdB (v : V) (b : Bool) (o : POp) (d : Option Nat) (l : List PO) (env : Env) (st : St) (K : Env → St → Prop) : Prop := match v with
  | .bool c => if c = b then stepP P o env st (runK P l d env K) else runP P l (env.put d (.tup [])) st K
  | .tup _ => runP P l (env.put d (.tup [])) st K
  | _ => False
@[simp] theorem gdB_tt (o : POp) (d : Option Nat) (l : List PO) (env : Env) (st : St) (K : Env → St → Prop) : gdB P (.bool true) true o d l env st K = stepP P o env st (runK P l d env K) := _root_.id rfl
@[simp] theorem gdB_ff (o : POp) (d : Option Nat) (l : List PO) (env : Env) (st : St) (K : Env → St → Prop) : gdB P (.bool false) false o d l env st K = stepP P o env st (runK P l d env K) := _root_.id rfl
@[simp] theorem gdB_tf (o : POp) (d : Option Nat) (l : List PO) (env : Env) (st : St) (K : Env → St → Prop) : gdB P (.bool true) false o d l env st K = runP P l (env.put d (.tup [])) st K := _root_.id rfl
@[simp] theorem gdB_ft (o : POp) (d : Option Nat) (l : List PO) (env : Env) (st : St) (K : Env → St → Prop) : gdB P (.bool false) true o d l env st K = runP P l (env.put d (.tup [])) st K := _root_.id rfl
@[simp] theorem gdB_un (vs : List V) (b : Bool) (o : POp) (d : Option Nat) (l : List PO) (env : Env) (st : St) (K : Env → St → Prop) : gdB P (.tup vs) b o d l env st K = runP P l (env.put d (.tup [])) st K := _root_.id rfl
@[simp] theorem runP_nil (env : Env) (st : St) (K : Env → St → Prop) : runP P [] env st K = K env st := _root_.id rfl
@[simp] theorem runP_cons0 (d : Option Nat) (o : POp) (l : List PO) (env : Env) (st : St) (K : Env → St → Prop) : runP P (⟨d, o, none⟩ :: l) env st K = stepP P o env st (runK P l d env K) := _root_.id rfl
@[simp] theorem runP_cons1 (d : Option Nat) (o : POp) (t : Nat) (b : Bool) (l : List PO) (env : Env) (st : St) (K : Env → St → Prop) : runP P (⟨d, o, some (t, b)⟩ :: l) env st K = gdB P (env t) b o d l env st K := _root_.id rfl

def runDK (l : List (Cls × PO)) (d : Option Nat) (env : Env) (K : Env → St → Prop) : V → St → Prop := fun v st' => runD P l (env.put d v) st' K
@[simp] theorem runDK_ap (l : List (Cls × PO)) (d : Option Nat) (env : Env) (K : Env → St → Prop) (v : V) (st : St) : runDK P l d env K v st = runD P l (env.put d v) st K := _root_.id rfl
def stillV (o : POp) (env : Env) (st : St) (K : V → St → Prop) : Prop := stillP P o env st fun v => K v st
def gdD (v : V) (b : Bool) (c : Cls) (o : POp) (d : Option Nat) (l : List (Cls × PO)) (env : Env) (st : St) (K : Env → St → Prop) : Prop := match v with
  | .bool t => if t = b then runD P ((c, ⟨d, o, none⟩) :: l) env st K else runD P l (env.put d (.tup [])) st K
  | .tup _ => runD P l (env.put d (.tup [])) st K
  | _ => False
@[simp] theorem gdD_tt (c : Cls) (o : POp) (d : Option Nat) (l : List (Cls × PO)) (env : Env) (st : St) (K : Env → St → Prop) : gdD P (.bool true) true c o d l env st K = runD P ((c, ⟨d, o, none⟩) :: l) env st K := _root_.id rfl
@[simp] theorem gdD_ff (c : Cls) (o : POp) (d : Option Nat) (l : List (Cls × PO)) (env : Env) (st : St) (K : Env → St → Prop) : gdD P (.bool false) false c o d l env st K = runD P ((c, ⟨d, o, none⟩) :: l) env st K := _root_.id rfl
@[simp] theorem gdD_tf (c : Cls) (o : POp) (d : Option Nat) (l : List (Cls × PO)) (env : Env) (st : St) (K : Env → St → Prop) : gdD P (.bool true) false c o d l env st K = runD P l (env.put d (.tup [])) st K := _root_.id rfl
@[simp] theorem gdD_ft (c : Cls) (o : POp) (d : Option Nat) (l : List (Cls × PO)) (env : Env) (st : St) (K : Env → St → Prop) : gdD P (.bool false) true c o d l env st K = runD P l (env.put d (.tup [])) st K := _root_.id rfl
@[simp] theorem gdD_un (vs : List V) (b : Bool) (c : Cls) (o : POp) (d : Option Nat) (l : List (Cls × PO)) (env : Env) (st : St) (K : Env → St → Prop) : gdD P (.tup vs) b c o d l env st K = runD P l (env.put d (.tup [])) st K := _root_.id rfl
@[simp] theorem runD_nil (env : Env) (st : St) (K : Env → St → Prop) : runD P [] env st K = K env st := _root_.id rfl
@[simp] theorem runD_x (d : Option Nat) (o : POp) (l : List (Cls × PO)) (env : Env) (st : St) (K : Env → St → Prop) : runD P ((.x, ⟨d, o, none⟩) :: l) env st K = stepP P o env st (runDK P l d env K) := _root_.id rfl
@[simp] theorem runD_a (d : Option Nat) (o : POp) (l : List (Cls × PO)) (env : Env) (st : St) (K : Env → St → Prop) : runD P ((.a, ⟨d, o, none⟩) :: l) env st K = stepP P o env st (runDK P l d env K) := _root_.id rfl
@[simp] theorem runD_e (d : Option Nat) (o : POp) (l : List (Cls × PO)) (env : Env) (st : St) (K : Env → St → Prop) : runD P ((.e, ⟨d, o, none⟩) :: l) env st K = stillV P o env st (runDK P l d env K) := _root_.id rfl
@[simp] theorem runD_s (d : Option Nat) (o : POp) (l : List (Cls × PO)) (env : Env) (st : St) (K : Env → St → Prop) : runD P ((.s, ⟨d, o, none⟩) :: l) env st K = stillV P o env st (runDK P l d env K) := _root_.id rfl
@[simp] theorem runD_g (c : Cls) (d : Option Nat) (o : POp) (t : Nat) (b : Bool) (l : List (Cls × PO)) (env : Env) (st : St) (K : Env → St → Prop) : runD P ((c, ⟨d, o, some (t, b)⟩) :: l) env st K = gdD P (env t) b c o d l env st K := by cases c <;> rfl

variable (env : Env) (st : St) (K : V → St → Prop)
@[simp] theorem step_mv (x : X) : stepP P (.mv x) env st K = K (x.ev env) st := _root_.id rfl
def pickV (c a b : V) : Option V := match c with | .bool t => some (if t then a else b) | _ => none
@[simp] theorem pickV_bool (t : Bool) (a b : V) : pickV (.bool t) a b = some (if t then a else b) := _root_.id rfl
@[simp] theorem step_pick (c a b : X) : stepP P (.pick c a b) env st K = onV (pickV (c.ev env) (a.ev env) (b.ev env)) K st := by
  show (match (match c.ev env with | .bool t => some (if t then a.ev env else b.ev env) | _ => none) with | some v => K v st | none => False) = _
  unfold pickV onV
  rfl
@[simp] theorem step_nilck (x : X) : stepP P (.nilck x) env st K = onV (nilckV (x.ev env)) K st := _root_.id rfl
@[simp] theorem step_bin (op : BinOp) (x y : X) : stepP P (.bin op x y) env st K = onV (binV op (x.ev env) (y.ev env)) K st := _root_.id rfl
@[simp] theorem step_eqa (e : EK) (neg : Bool) (x y : X) : stepP P (.eqa e neg x y) env st K = onV ((eqK e (x.ev env) (y.ev env)).map fun b => .bool (if neg then !b else b)) K st := _root_.id rfl
@[simp] theorem step_not (x : X) : stepP P (.not x) env st K = onV (notV (x.ev env)) K st := _root_.id rfl
@[simp] theorem step_neg (x : X) : stepP P (.neg x) env st K = onV (negV (x.ev env)) K st := _root_.id rfl
@[simp] theorem step_inv (x : X) : stepP P (.inv x) env st K = onV (invV (x.ev env)) K st := _root_.id rfl
@[simp] theorem step_conv (k : IntKind) (x : X) : stepP P (.conv k x) env st K = onV (convV k (x.ev env)) K st := _root_.id rfl
@[simp] theorem step_toStr (x : X) : stepP P (.toStr x) env st K = onV (toStrV st (x.ev env)) K st := _root_.id rfl
@[simp] theorem step_fldA (o : Nat) (x : X) : stepP P (.fldA o x) env st K = onV (fldAV o (x.ev env)) K st := _root_.id rfl
@[simp] theorem step_fld (ag : Bool) (o s : Nat) (x : X) : stepP P (.fld ag o s x) env st K = onV (fldV ag o s (x.ev env)) K st := _root_.id rfl
@[simp] theorem step_idxArr (n s : Nat) (x i : X) : stepP P (.idxArr n s x i) env st K = onV (idxArrV n s (x.ev env) (i.ev env)) K st := _root_.id rfl
@[simp] theorem step_idxSl (s : Nat) (x i : X) : stepP P (.idxSl s x i) env st K = onV (idxSlV s (x.ev env) (i.ev env)) K st := _root_.id rfl
@[simp] theorem step_idx (n : Nat) (ag : Bool) (s : Nat) (x i : X) : stepP P (.idx n ag s x i) env st K = onV (idxV n ag s (x.ev env) (i.ev env)) K st := _root_.id rfl
@[simp] theorem step_idxStr (x i : X) : stepP P (.idxStr x i) env st K = onV (idxStrV (x.ev env) (i.ev env)) K st := _root_.id rfl
@[simp] theorem step_load (ag : Bool) (s : Nat) (x : X) : stepP P (.load ag s x) env st K = onV ((ldCells st s (x.ev env)).bind (packV ag)) K st := _root_.id rfl
@[simp] theorem step_build (z : List V) (ps : List (Nat × Nat × X)) : stepP P (.build z ps) env st K = onV ((fillV z (ps.map fun p => (p.1, p.2.1, p.2.2.ev env))).map V.agg) K st := _root_.id rfl
@[simp] theorem step_bsl (s n : Nat) (z : List V) (ps : List (Nat × Nat × X)) : stepP P (.bsl false s n z ps) env st K = onV ((fillV (repV z n) (ps.map fun p => (p.1, p.2.1, p.2.2.ev env))).map fun cs => .sl .full cs n) K st := _root_.id rfl
@[simp] theorem step_slStr (x : X) (lo hi : Option X) : stepP P (.slStr x lo hi) env st K = onV (opV (.slStr x lo hi) env st) K st := _root_.id rfl
@[simp] theorem step_sl (s : Nat) (x : X) (lo hi mx : Option X) : stepP P (.sl s x lo hi mx) env st K = onV (slV env s lo hi mx (x.ev env)) K st := _root_.id rfl
@[simp] theorem step_slArr (al : Bool) (n s : Nat) (x : X) (lo hi : Option X) : stepP P (.slArr al n s x lo hi) env st K = onV (slArrV st env al n s lo hi (x.ev env)) K st := _root_.id rfl
@[simp] theorem step_slw (s : Nat) (x : X) (lo hi : Option X) : stepP P (.slw s x lo hi) env st K = onV (slwV st env s lo hi (x.ev env)) K st := _root_.id rfl
@[simp] theorem step_chk3 (x : X) (lo hi mx : Option X) : stepP P (.chk3 x lo hi mx) env st K = onV (chk3V env lo hi mx (x.ev env)) K st := _root_.id rfl
@[simp] theorem step_lenStr (x : X) : stepP P (.lenStr x) env st K = onV (lenStrV (x.ev env)) K st := _root_.id rfl
@[simp] theorem step_lenSl (x : X) : stepP P (.lenSl x) env st K = onV (lenSlV (x.ev env)) K st := _root_.id rfl
@[simp] theorem step_lenMap (x : X) : stepP P (.lenMap x) env st K = onV (lenMapV st (x.ev env)) K st := _root_.id rfl
@[simp] theorem step_lenK (n : Nat) : stepP P (.lenK n) env st K = K (.int .i64 n) st := _root_.id rfl
@[simp] theorem step_mkf (f : FuncId) (l : List X) : stepP P (.mkf f l) env st K = K (.func f (l.map fun x => X.ev env x)) st := _root_.id rfl
@[simp] theorem step_ext (i : Nat) (x : X) : stepP P (.ext i x) env st K = onV (extV i (x.ev env)) K st := _root_.id rfl
@[simp] theorem step_max (x : X) (l : List X) : stepP P (.max (x :: l)) env st K = onV (foldV max2V (x.ev env) (l.map fun x => X.ev env x)) K st := _root_.id rfl
@[simp] theorem step_min (x : X) (l : List X) : stepP P (.min (x :: l)) env st K = onV (foldV min2V (x.ev env) (l.map fun x => X.ev env x)) K st := _root_.id rfl
@[simp] theorem step_lookup (kk : KK) (z : V) (ok : Bool) (m k : X) : stepP P (.lookup kk z ok m k) env st K = onV (lookupV st kk z ok (m.ev env) (k.ev env)) K st := _root_.id rfl
@[simp] theorem step_store (s : Nat) (a v : X) : stepP P (.store s a v) env st K = onS (storeS st s (a.ev env) (v.ev env)) K := _root_.id rfl
@[simp] theorem step_mset (kk : KK) (m k v : X) : stepP P (.mset kk m k v) env st K = onS (msetS st kk (m.ev env) (k.ev env) (v.ev env)) K := _root_.id rfl
@[simp] theorem step_mdel (kk : KK) (m k : X) : stepP P (.mdel kk m k) env st K = onS (mdelS st kk (m.ev env) (k.ev env)) K := _root_.id rfl
@[simp] theorem step_alloc (z : List V) : stepP P (.alloc z) env st K = mkNew (.cells z) (fun id => .ptr (some (id, 0))) K st := _root_.id rfl
@[simp] theorem step_mkmap : stepP P .mkmap env st K = mkNew (.mp []) (fun id => .map (some id)) K st := _root_.id rfl
@[simp] theorem step_box (x : X) : stepP P (.box x) env st K = mkBox ((x.ev env).cells?) (fun id => .ptr (some (id, 0))) K st := by
  show (match ((x.ev env).cells?.map fun cs => ((AObj.cells cs, fun id => V.ptr (some (id, 0))) : AObj × (Nat → V))) with | some (ob, mk) => ∀ id, st id = none → K (mk id) (st.upd id ob) | none => False) = _
  cases (x.ev env).cells? <;> rfl
@[simp] theorem step_bslo (s n : Nat) (z : List V) (ps : List (Nat × Nat × X)) : stepP P (.bsl true s n z ps) env st K = mkBox (fillV (repV z n) (ps.map fun p => (p.1, p.2.1, p.2.2.ev env))) (fun id => .hsl id 0 s n) K st := by
  show (match ((fillV (repV z n) (ps.map fun p => (p.1, p.2.1, p.2.2.ev env))).map fun cs => ((AObj.cells cs, fun id => V.hsl id 0 s n) : AObj × (Nat → V))) with | some (ob, mk) => ∀ id, st id = none → K (mk id) (st.upd id ob) | none => False) = _
  cases fillV (repV z n) (ps.map fun p => (p.1, p.2.1, p.2.2.ev env)) <;> rfl
@[simp] theorem step_call (f : FuncId) (l : List X) : stepP P (.call f l) env st K = ACalls P f (l.map fun x => X.ev env x) st K := _root_.id rfl
def callF (v : V) (args : List V) (st : St) (K : V → St → Prop) : Prop := match v with | .func f cap => okFn P f = true ∧ ACalls P f (args ++ cap) st K | _ => False
@[simp] theorem callF_func (f : FuncId) (cap args : List V) : callF P (.func f cap) args st K = (okFn P f = true ∧ ACalls P f (args ++ cap) st K) := _root_.id rfl
@[simp] theorem step_callv (x : X) (l : List X) : stepP P (.callv x l) env st K = callF P (x.ev env) (l.map fun x => X.ev env x) st K := by
  show (match x.ev env with | .func f cap => okFn P f = true ∧ ACalls P f ((l.map fun x => X.ev env x) ++ cap) st K | _ => False) = _
  unfold callF
  rfl
def appS (sz bytes : Nat) (x : V) (e : Option (List V × Nat)) (st : St) (K : V → St → Prop) : Prop :=
  match e with
  | none => False
  | some (ys, m) =>
    match x with
    | .sl k cs n =>
      (k = .nil ∨ k = .full) ∧ cs.length = n * sz ∧ (n + m) * bytes ≤ 140737488355328 ∧
      (m = 0 → K (.sl k cs n) st) ∧ (m ≠ 0 → mkNew (.cells (cs ++ ys)) (fun id => .hsl id 0 sz (n + m)) K st)
    | .hsl id off sz' n =>
      match st id with
      | some (.cells cs) =>
        sz' = sz ∧ (n + m) * bytes ≤ 140737488355328 ∧
        if off + (n + m) * sz ≤ cs.length then K (.hsl id off sz (n + m)) (st.upd id (.cells (spliceV cs (off + n * sz) ys)))
        else off = 0 ∧ cs.length = n * sz ∧ mkNew (.cells (cs ++ ys)) (fun id => .hsl id 0 sz (n + m)) K (st.del id)
      | _ => False
    | _ => False
@[simp] theorem step_app (sz b : Nat) (x y : X) : stepP P (.app sz b x y) env st K = appS sz b (x.ev env) (elems st sz (y.ev env)) st K := by
  simp only [stepP, appS, mkNew]
  cases elems st sz (y.ev env) with
  | none => rfl
  | some q => cases (x.ev env) <;> rfl
/-- An append to nothing, or to a slice with no room. -/
theorem app_nil {sz b : Nat} {k : SK} {ys : List V} {m : Nat} (hk : k = .nil ∨ k = .full) (hm : m ≠ 0) (hb : m * b ≤ 140737488355328) (h : mkNew (.cells ys) (fun id => .hsl id 0 sz m) K st) : appS sz b (.sl k [] 0) (some (ys, m)) st K :=
  ⟨hk, by simp, by simpa using hb, fun e => absurd e hm, fun _ => by simpa using h⟩
/-- An append within the room. -/
theorem app_room {sz b id off n : Nat} {cs ys : List V} {m : Nat} (hs : st id = some (.cells cs)) (hb : (n + m) * b ≤ 140737488355328) (hr : off + (n + m) * sz ≤ cs.length) (h : K (.hsl id off sz (n + m)) (st.upd id (.cells (spliceV cs (off + n * sz) ys)))) : appS sz b (.hsl id off sz n) (some (ys, m)) st K := by
  simp only [appS, hs]
  refine ⟨trivial, hb, ?_⟩
  rw [if_pos hr]
  exact h
/-- An append that may grow. -/
theorem app_grow {sz b id n : Nat} {cs ys : List V} {m : Nat} (hs : st id = some (.cells cs)) (hb : (n + m) * b ≤ 140737488355328) (hl : cs.length = n * sz) (hr : cs.length < (n + m) * sz) (h : mkNew (.cells (cs ++ ys)) (fun id => .hsl id 0 sz (n + m)) K (st.del id)) : appS sz b (.hsl id 0 sz n) (some (ys, m)) st K := by
  simp only [appS, hs]
  refine ⟨trivial, hb, ?_⟩
  rw [if_neg (by omega)]
  exact ⟨trivial, hl, h⟩
def appzS (sz bytes : Nat) (x : V) (e : Option (List V × Nat)) (st : St) (K : V → St → Prop) : Prop :=
  match e with
  | none => False
  | some (ys, m) =>
    match x with
    | .sl k cs n =>
      (k = .nil ∨ k = .full) ∧ cs.length = n * sz ∧ (n + m) * bytes ≤ 140737488355328 ∧ (m = 0 → K (.sl k cs n) st) ∧ (m ≠ 0 → K (.sl .some (cs ++ ys) (n + m)) st)
    | .hsl id off sz' n =>
      match st id with
      | some (.cells cs) =>
        sz' = sz ∧ (n + m) * bytes ≤ 140737488355328 ∧ off = 0 ∧ n * sz ≤ cs.length ∧
        K (.sl .some (cs.take (n * sz) ++ ys) (n + m)) (st.upd id (.ro (cs.take (n * sz) ++ List.replicate (cs.length - n * sz) .junk)))
      | _ => False
    | _ => False
@[simp] theorem step_appz (sz b : Nat) (x y : X) : stepP P (.appz sz b x y) env st K = appzS sz b (x.ev env) (elems st sz (y.ev env)) st K := by
  simp only [stepP, appzS]
  rfl
theorem appz_nil {sz b : Nat} {k : SK} {ys : List V} {m : Nat} (hk : k = .nil ∨ k = .full) (hm : m ≠ 0) (hb : m * b ≤ 140737488355328) (h : K (.sl .some ys m) st) : appzS sz b (.sl k [] 0) (some (ys, m)) st K :=
  ⟨hk, by simp, by simpa using hb, fun e => absurd e hm, fun _ => by simpa using h⟩
theorem appz_hsl {sz b id n : Nat} {cs ys : List V} {m : Nat} (hs : st id = some (.cells cs)) (hb : (n + m) * b ≤ 140737488355328) (hl : n * sz ≤ cs.length)
    (h : K (.sl .some (cs.take (n * sz) ++ ys) (n + m)) (st.upd id (.ro (cs.take (n * sz) ++ List.replicate (cs.length - n * sz) .junk)))) : appzS sz b (.hsl id 0 sz n) (some (ys, m)) st K := by
  simp only [appzS, hs]
  exact ⟨trivial, hb, trivial, hl, h⟩
def rngMapS (v : V) (st : St) (K : V → St → Prop) : Prop :=
  match v with
  | .map none => ∀ it, st it = none → K (.ptr (some (it, 0))) (st.upd it (.mit none 0 [] 0))
  | .map (some id) =>
    match st id with
    | some (.mp es) => ∀ it, st it = none → ∀ (bs : List Nat) (clk : Nat), bs.length = es.length → bs.Pairwise (· < ·) → (∀ b ∈ bs, b < clk) → K (.ptr (some (it, 0))) ((st.upd id (.mpi es bs clk)).upd it (.mit (some id) clk [] clk))
    | _ => False
  | _ => False
@[simp] theorem step_rngMap (x : X) : stepP P (.rngMap x) env st K = rngMapS (x.ev env) st K := by
  simp only [stepP, rngMapS]
  rfl
def nextMapS (v : V) (st : St) (K : V → St → Prop) : Prop :=
  match v with
  | .ptr (some (it, 0)) =>
    match st it with
    | some (.mit none _ _ _) => K (.tup [.bool false]) st
    | some (.mit (some id) since seen stp) =>
      match st id with
      | some (.mpi es bs clk) => (∀ b ∈ bs, b < since) ∧ since ≤ stp ∧ bs.length = es.length ∧ ((∀ b ∈ bs, b ∈ seen) → K (.tup [.bool false]) st) ∧
          ∀ i, i < es.length → bs.getD i 0 ∉ seen → K (.tup [.bool true, (es.getD i default).1, (es.getD i default).2]) (st.upd it (.mit (some id) since (seen ++ [bs.getD i 0]) clk))
      | _ => False
    | _ => False
  | _ => False
@[simp] theorem step_nextMap (x : X) : stepP P (.nextMap x) env st K = nextMapS (x.ev env) st K := by
  simp only [stepP, nextMapS]
  rfl
def nextStrS (v : V) (st : St) (K : V → St → Prop) : Prop :=
  match v with
  | .ptr (some (it, 0)) =>
    match st it with
    | some (.siter s pos) =>
      if pos < s.size then K (.tup [.bool true, .int .i64 pos, .int .i32 (Utf8.decode s pos).1]) (st.upd it (.siter s (pos + (Utf8.decode s pos).2))) else K (.tup [.bool false]) st
    | _ => False
  | _ => False
@[simp] theorem step_nextStr (x : X) : stepP P (.nextStr x) env st K = nextStrS (x.ev env) st K := by
  simp only [stepP, nextStrS]
  rfl
@[simp] theorem step_entry (x : X) : stepP P (.entry x) env st K = onV (entryV st (x.ev env)) K st := _root_.id rfl
@[simp] theorem still_entry (x : X) : stillV P (.entry x) env st K = onV (entryV st (x.ev env)) K st := _root_.id rfl
def mkslS (ob : Bool) (sz b : Nat) (z : List V) (l c : Option Nat) (st : St) (K : V → St → Prop) : Prop :=
  match l, c with
  | some n, some c => n ≤ c ∧ c * b ≤ 140737488355328 ∧ z.length = sz ∧ (if ob then mkNew (.cells (repV z n)) (fun id => .hsl id 0 sz n) K st else K (.sl .some (repV z n) n) st)
  | _, _ => False
@[simp] theorem step_mksl (ob : Bool) (sz b : Nat) (z : List V) (l c : X) : stepP P (.mksl ob sz b z l c) env st K = mkslS ob sz b z (natOf (l.ev env)) (natOf (c.ev env)) st K := by
  show (match natOf (l.ev env), natOf (c.ev env) with | some n, some c => n ≤ c ∧ c * b ≤ 140737488355328 ∧ z.length = sz ∧ (if ob then ∀ id, st id = none → K (.hsl id 0 sz n) (st.upd id (.cells (repV z n))) else K (.sl .some (repV z n) n) st) | _, _ => False) = _
  unfold mkslS mkNew
  cases natOf (l.ev env) <;> cases natOf (c.ev env) <;> rfl
def clearS (sz : Nat) (z : List V) (x : V) (st : St) (K : V → St → Prop) : Prop :=
  match x with
  | .hsl id off sz' n =>
    match st id with
    | some (.cells cs) => sz' = sz ∧ z.length = sz ∧ off + n * sz ≤ cs.length ∧ K .junk (st.upd id (.cells (spliceV cs off (repV z n))))
    | _ => False
  | .sl .nil [] 0 => K .junk st
  | _ => False
@[simp] theorem step_clear (sz : Nat) (z : List V) (x : X) : stepP P (.clear sz z x) env st K = clearS sz z (x.ev env) st K := by
  rfl
theorem clear_hsl {sz id off n : Nat} {z cs : List V} (hs : st id = some (.cells cs)) (hz : z.length = sz) (hr : off + n * sz ≤ cs.length) (h : K .junk (st.upd id (.cells (spliceV cs off (repV z n))))) : clearS sz z (.hsl id off sz n) st K := by
  simp only [clearS, hs]
  exact ⟨trivial, hz, hr, h⟩

@[simp] theorem still_mv (x : X) : stillV P (.mv x) env st K = K (x.ev env) st := _root_.id rfl
@[simp] theorem still_pick (c a b : X) : stillV P (.pick c a b) env st K = onV (pickV (c.ev env) (a.ev env) (b.ev env)) K st := step_pick P env st K c a b
@[simp] theorem still_nilck (x : X) : stillV P (.nilck x) env st K = onV (nilckV (x.ev env)) K st := _root_.id rfl
@[simp] theorem still_bin (op : BinOp) (x y : X) : stillV P (.bin op x y) env st K = onV (binV op (x.ev env) (y.ev env)) K st := _root_.id rfl
@[simp] theorem still_eqa (e : EK) (neg : Bool) (x y : X) : stillV P (.eqa e neg x y) env st K = onV ((eqK e (x.ev env) (y.ev env)).map fun b => .bool (if neg then !b else b)) K st := _root_.id rfl
@[simp] theorem still_not (x : X) : stillV P (.not x) env st K = onV (notV (x.ev env)) K st := _root_.id rfl
@[simp] theorem still_neg (x : X) : stillV P (.neg x) env st K = onV (negV (x.ev env)) K st := _root_.id rfl
@[simp] theorem still_inv (x : X) : stillV P (.inv x) env st K = onV (invV (x.ev env)) K st := _root_.id rfl
@[simp] theorem still_conv (k : IntKind) (x : X) : stillV P (.conv k x) env st K = onV (convV k (x.ev env)) K st := _root_.id rfl
@[simp] theorem still_toStr (x : X) : stillV P (.toStr x) env st K = onV (toStrV st (x.ev env)) K st := _root_.id rfl
@[simp] theorem still_fldA (o : Nat) (x : X) : stillV P (.fldA o x) env st K = onV (fldAV o (x.ev env)) K st := _root_.id rfl
@[simp] theorem still_fld (ag : Bool) (o s : Nat) (x : X) : stillV P (.fld ag o s x) env st K = onV (fldV ag o s (x.ev env)) K st := _root_.id rfl
@[simp] theorem still_idxArr (n s : Nat) (x i : X) : stillV P (.idxArr n s x i) env st K = onV (idxArrV n s (x.ev env) (i.ev env)) K st := _root_.id rfl
@[simp] theorem still_idxSl (s : Nat) (x i : X) : stillV P (.idxSl s x i) env st K = onV (idxSlV s (x.ev env) (i.ev env)) K st := _root_.id rfl
@[simp] theorem still_idx (n : Nat) (ag : Bool) (s : Nat) (x i : X) : stillV P (.idx n ag s x i) env st K = onV (idxV n ag s (x.ev env) (i.ev env)) K st := _root_.id rfl
@[simp] theorem still_idxStr (x i : X) : stillV P (.idxStr x i) env st K = onV (idxStrV (x.ev env) (i.ev env)) K st := _root_.id rfl
@[simp] theorem still_load (ag : Bool) (s : Nat) (x : X) : stillV P (.load ag s x) env st K = onV ((ldCells st s (x.ev env)).bind (packV ag)) K st := _root_.id rfl
@[simp] theorem still_build (z : List V) (ps : List (Nat × Nat × X)) : stillV P (.build z ps) env st K = onV ((fillV z (ps.map fun p => (p.1, p.2.1, p.2.2.ev env))).map V.agg) K st := _root_.id rfl
@[simp] theorem still_bsl (s n : Nat) (z : List V) (ps : List (Nat × Nat × X)) : stillV P (.bsl false s n z ps) env st K = onV ((fillV (repV z n) (ps.map fun p => (p.1, p.2.1, p.2.2.ev env))).map fun cs => .sl .full cs n) K st := _root_.id rfl
@[simp] theorem still_sl (s : Nat) (x : X) (lo hi mx : Option X) : stillV P (.sl s x lo hi mx) env st K = onV (slV env s lo hi mx (x.ev env)) K st := _root_.id rfl
@[simp] theorem still_slArr (al : Bool) (n s : Nat) (x : X) (lo hi : Option X) : stillV P (.slArr al n s x lo hi) env st K = onV (slArrV st env al n s lo hi (x.ev env)) K st := _root_.id rfl
@[simp] theorem still_slw (s : Nat) (x : X) (lo hi : Option X) : stillV P (.slw s x lo hi) env st K = onV (slwV st env s lo hi (x.ev env)) K st := _root_.id rfl
@[simp] theorem still_chk3 (x : X) (lo hi mx : Option X) : stillV P (.chk3 x lo hi mx) env st K = onV (chk3V env lo hi mx (x.ev env)) K st := _root_.id rfl
@[simp] theorem still_slStr (x : X) (lo hi : Option X) : stillV P (.slStr x lo hi) env st K = onV (opV (.slStr x lo hi) env st) K st := _root_.id rfl
@[simp] theorem still_lenStr (x : X) : stillV P (.lenStr x) env st K = onV (lenStrV (x.ev env)) K st := _root_.id rfl
@[simp] theorem still_lenSl (x : X) : stillV P (.lenSl x) env st K = onV (lenSlV (x.ev env)) K st := _root_.id rfl
@[simp] theorem still_lenMap (x : X) : stillV P (.lenMap x) env st K = onV (lenMapV st (x.ev env)) K st := _root_.id rfl
@[simp] theorem still_lenK (n : Nat) : stillV P (.lenK n) env st K = K (.int .i64 n) st := _root_.id rfl
@[simp] theorem still_mkf (f : FuncId) (l : List X) : stillV P (.mkf f l) env st K = K (.func f (l.map fun x => X.ev env x)) st := _root_.id rfl
@[simp] theorem still_ext (i : Nat) (x : X) : stillV P (.ext i x) env st K = onV (extV i (x.ev env)) K st := _root_.id rfl
@[simp] theorem still_max (x : X) (l : List X) : stillV P (.max (x :: l)) env st K = onV (foldV max2V (x.ev env) (l.map fun x => X.ev env x)) K st := _root_.id rfl
@[simp] theorem still_min (x : X) (l : List X) : stillV P (.min (x :: l)) env st K = onV (foldV min2V (x.ev env) (l.map fun x => X.ev env x)) K st := _root_.id rfl
@[simp] theorem still_lookup (kk : KK) (z : V) (ok : Bool) (m k : X) : stillV P (.lookup kk z ok m k) env st K = onV (lookupV st kk z ok (m.ev env) (k.ev env)) K st := _root_.id rfl
theorem still_call {f : FuncId} {l : List X} {v : V} (h : ACalls P f (l.map fun x => X.ev env x) st fun v' st' => v' = v ∧ st' = st) (hk : K v st) : stillV P (.call f l) env st K := ⟨v, h, hk⟩

/-! ### code -/

variable (Q : Ex → Env → St → Prop)
def seqK (b : PC) (Q : Ex → Env → St → Prop) : Ex → Env → St → Prop := fun e env' st' => match e with | .normal => vc P b Q env' st' | e => Q e env' st'
@[simp] theorem seqK_n (b : PC) : seqK P b Q .normal env st = vc P b Q env st := _root_.id rfl
@[simp] theorem seqK_e (b : PC) (i : Nat) : seqK P b Q (.exit i) env st = Q (.exit i) env st := _root_.id rfl
@[simp] theorem seqK_r (b : PC) : seqK P b Q .ret env st = Q .ret env st := _root_.id rfl
def blkK (id : Nat) (Q : Ex → Env → St → Prop) : Ex → Env → St → Prop := fun e env' st' => match e with | .exit j => if j = id then Q .normal env' st' else Q (.exit j) env' st' | e => Q e env' st'
@[simp] theorem blkK_n (i : Nat) : blkK i Q .normal env st = Q .normal env st := _root_.id rfl
@[simp] theorem blkK_r (i : Nat) : blkK i Q .ret env st = Q .ret env st := _root_.id rfl
@[simp] theorem blkK_e (i j : Nat) : blkK i Q (.exit j) env st = if j = i then Q .normal env st else Q (.exit j) env st := _root_.id rfl
def condB (v : V) (a b : PC) (Q : Ex → Env → St → Prop) (env : Env) (st : St) : Prop := match v with | .bool t => if t = true then vc P a Q env st else vc P b Q env st | _ => False
@[simp] theorem condB_t (a b : PC) : condB P (.bool true) a b Q env st = vc P a Q env st := _root_.id rfl
@[simp] theorem condB_f (a b : PC) : condB P (.bool false) a b Q env st = vc P b Q env st := _root_.id rfl
theorem condB_split {t : Bool} {a b : PC} (h1 : t = true → vc P a Q env st) (h2 : t = false → vc P b Q env st) : condB P (.bool t) a b Q env st := by
  cases t
  · exact h2 rfl
  · exact h1 rfl
@[simp] theorem vc_skip : vc P .skip Q env st = Q .normal env st := _root_.id rfl
@[simp] theorem vc_exit (id : Nat) : vc P (.exit id) Q env st = Q (.exit id) env st := _root_.id rfl
@[simp] theorem vc_ret : vc P .ret Q env st = Q .ret env st := _root_.id rfl
@[simp] theorem vc_ops (l : List PO) : vc P (.ops l) Q env st = runP P l env st (Q .normal) := _root_.id rfl
@[simp] theorem vc_draw (l : List (Cls × PO)) : vc P (.draw l) Q env st = runD P l env st (Q .normal) := _root_.id rfl
@[simp] theorem vc_frz (l : List Nat) : vc P (.frz l) Q env st = frzP l env st (Q .normal) := _root_.id rfl
@[simp] theorem vc_seq (a b : PC) : vc P (.seq a b) Q env st = vc P a (seqK P b Q) env st := _root_.id rfl
@[simp] theorem vc_cond (c : X) (a b : PC) : vc P (.cond c a b) Q env st = condB P (c.ev env) a b Q env st := _root_.id rfl
@[simp] theorem vc_block (id : Nat) (c : PC) : vc P (.block id c) Q env st = vc P c (blkK id Q) env st := _root_.id rfl

/-- A round's end. -/
def loopK (I : Nat → Env → St → Prop) (n : Nat) (Q : Ex → Env → St → Prop) : Ex → Env → St → Prop := fun e env' st' => match e with | .normal => (∃ n' s, n' < n ∧ St.sub s st' ∧ I n' env' s) | e => Q e env' st'
def Round (I : Nat → Env → St → Prop) (n : Nat) (env : Env) (st : St) : Prop := ∃ n' s, n' < n ∧ St.sub s st ∧ I n' env s
@[simp] theorem loopK_n (I : Nat → Env → St → Prop) (n : Nat) : loopK I n Q .normal env st = Round I n env st := _root_.id rfl
@[simp] theorem loopK_e (I : Nat → Env → St → Prop) (n i : Nat) : loopK I n Q (.exit i) env st = Q (.exit i) env st := _root_.id rfl
@[simp] theorem loopK_r (I : Nat → Env → St → Prop) (n : Nat) : loopK I n Q .ret env st = Q .ret env st := _root_.id rfl
end

section
variable {P : Program} {Q : Ex → Env → St → Prop} {env : Env} {st : St}
/-- A loop: an invariant that bears a number, which every round lowers. -/
theorem vc_loop {c : PC} (I : Nat → Env → St → Prop) (n0 : Nat) (h0 : I n0 env st)
    (round : ∀ n env' st', Same c.writes env env' → I n env' st' → vc P c (loopK I n Q) env' st') : vc P (.loop c) Q env st := by
  refine ⟨fun env st => ∃ n, I n env st, fun env st => leastOf fun n => I n env st, ⟨n0, h0⟩, fun env' st' hs hI => ?_⟩
  refine vc_frame c _ _ env' st' (fun e env'' st'' _ hq => ?_) (round _ env' st' hs (leastOf_spec hI).1)
  cases e with
  | normal =>
    obtain ⟨n', s, hlt, hsub, hI'⟩ := hq
    exact ⟨s, hsub, ⟨n', hI'⟩, Nat.lt_of_le_of_lt ((leastOf_spec ⟨n', hI'⟩).2 n' hI') hlt⟩
  | exit id => exact hq
  | ret => exact hq

/-- The same; the invariant that a round must bring about stands behind a name. -/
theorem vc_loopJ {c : PC} (I : Nat → Env → St → Prop) (n0 : Nat) (h0 : I n0 env st)
    (round : ∀ J : Nat → Env → St → Prop, (∀ n e s, I n e s → J n e s) → ∀ n env' st', Same c.writes env env' → I n env' st' → vc P c (loopK J n Q) env' st') : vc P (.loop c) Q env st :=
  vc_loop I n0 h0 (round I fun _ _ _ h => h)

theorem Round.mk {I : Nat → Env → St → Prop} {n : Nat} (n' : Nat) (s : St) (h1 : n' < n) (h2 : St.sub s st) (h3 : I n' env s) : Round I n env st := ⟨n', s, h1, h2, h3⟩

theorem vc_mono {c : PC} {Q' : Ex → Env → St → Prop} (h : vc P c Q' env st) (hq : ∀ e env' st', Q' e env' st' → Q e env' st') : vc P c Q env st :=
  vc_frame c _ _ env st (fun e env' st' _ h => hq e env' st' h) h

/-- What follows, behind a name. -/
theorem vc_cut {a b : PC} (M : Env → St → Prop) (h : vc P a (fun e env' st' => match e with | .normal => M env' st' | e => Q e env' st') env st) (k : ∀ env' st', M env' st' → vc P b Q env' st') : vc P (.seq a b) Q env st :=
  vc_frame a _ _ env st (fun e env' st' _ h => by cases e <;> first | exact k _ _ h | exact h) h

/-- What a function gives. -/
def endK (res : List PR) (R : V → St → Prop) : Ex → Env → St → Prop := fun e env st => (e = .normal ∨ e = .ret) ∧ match resV env st res with | some v => ∃ s, St.sub s st ∧ R v s | none => False
def onR (v : Option V) (R : V → St → Prop) (st : St) : Prop := match v with | some v => ∃ s, St.sub s st ∧ R v s | none => False
@[simp] theorem endK_n (res : List PR) (R : V → St → Prop) : endK res R .normal env st = onR (resV env st res) R st := by simp [endK, onR]
@[simp] theorem endK_r (res : List PR) (R : V → St → Prop) : endK res R .ret env st = onR (resV env st res) R st := by simp [endK, onR]
@[simp] theorem endK_e (res : List PR) (R : V → St → Prop) (i : Nat) : endK res R (.exit i) env st = False := by simp [endK]
@[simp] theorem onR_some (v : V) (R : V → St → Prop) : onR (some v) R st = ∃ s, St.sub s st ∧ R v s := _root_.id rfl
attribute [simp] resV resAll resOne

theorem shows_call {an : An} {f : FuncId} {F : PF} (hm : P.follows .mixedOrders = true) (hc : compFn P an f = some F) {args : List V} {R : V → St → Prop} (hl : args.length ≤ F.n)
    (h : vc P F.code (endK F.res R) (argEnv args) st) : ACalls P f args st R := acalls_of_shows hm hc hl h

theorem ld_pt {id o sz : Nat} {cs : List V} (h : st id = some (.cells cs)) (hl : o + sz ≤ cs.length) : ldCells st sz (.ptr (some (id, o))) = some ((cs.drop o).take sz) := by
  simp [ldCells, St.seg, h, segOf, hl]
theorem store_pt {id o sz : Nat} {cs vs : List V} {v : V} (h : st id = some (.cells cs)) (hv : v.cells? = some vs) (hs : vs.length = sz) (hl : o + sz ≤ cs.length) : storeS st sz (.ptr (some (id, o))) v = some (st.upd id (.cells (spliceV cs o vs))) := by
  simp only [storeS, h, hv]
  rw [if_pos ⟨hs, hl⟩]
end
end Go.Ab

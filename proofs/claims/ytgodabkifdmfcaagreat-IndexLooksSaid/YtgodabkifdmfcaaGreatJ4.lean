import Derived.Test.YtgodabkifdmfcaaGreatJ3
/-
  How what is to be shown of a function's code is worked out: one step after the other; what is not settled is left as it is.
-/
set_option linter.unusedSimpArgs false
set_option linter.unusedVariables false
namespace Go.Ab
open Go Go.RowKit

@[simp] theorem env_upd (e : Env) (d t : Nat) (v : V) : (e.upd d v) t = if t = d then v else e t := _root_.id rfl
@[simp] theorem env_put_some (e : Env) (d : Nat) (v : V) : e.put (some d) v = e.upd d v := _root_.id rfl
@[simp] theorem env_put_none (e : Env) (v : V) : e.put none v = e := _root_.id rfl
@[simp] theorem st_upd (s : St) (i j : Nat) (o : AObj) : (s.upd i o) j = if j = i then some o else s j := _root_.id rfl
@[simp] theorem st_del (s : St) (i j : Nat) : (s.del i) j = if j = i then none else s j := _root_.id rfl
theorem ne_id {st : St} {i j : Nat} {o : AObj} (h : st i = some o) (k : st j = none) : i ≠ j := fun e => by subst e; rw [h] at k; cases k
theorem sub_upd {st : St} {i : Nat} {o : AObj} (h : st i = none) : St.sub st (st.upd i o) := fun j x hx => by
  simp [ne_id hx h, hx]
theorem seg_at {st : St} {id off n sz : Nat} {rows : List V} (h : st.seg id off (n * sz) = some rows) {i : Nat} (hi : i < n) : st.seg id (off + i * sz) sz = some ((rows.drop (i * sz)).take sz) := by
  have hle : i * sz + sz ≤ n * sz := by rw [← Nat.succ_mul]; exact Nat.mul_le_mul_right _ hi
  have key : ∀ cs : List V, segOf cs off (n * sz) = some rows → segOf cs (off + i * sz) sz = some ((rows.drop (i * sz)).take sz) := fun cs hc => by
    unfold segOf at *
    split at hc <;> cases hc
    rw [if_pos (by omega), List.drop_take, List.drop_drop, List.take_take, Nat.min_eq_left (by omega)]
  unfold St.seg at *
  split at h <;> first | exact key _ h | cases h

@[simp] theorem ite_max (a b : Int) : (if a < b then b else a) = max a b := by split <;> omega

theorem wrap64 {x : Int} (h0 : -9223372036854775808 ≤ x) (h1 : x ≤ 9223372036854775807) : IntKind.i64.wrap x = x := by
  simp only [IntKind.wrap, IntKind.signed, IntKind.bits]
  simp
  omega
@[simp] theorem wrap_lit (n : Nat) (h : n ≤ 9223372036854775807) : IntKind.i64.wrap (no_index (@OfNat.ofNat Int n instOfNat)) = @OfNat.ofNat Int n instOfNat := by
  have : (@OfNat.ofNat Int n instOfNat : Int) = (n : Int) := rfl
  rw [this]
  exact wrap64 (by omega) (by omega)
@[simp] theorem wrap_neg_lit (n : Nat) (h : n ≤ 9223372036854775807) : IntKind.i64.wrap (-(no_index (@OfNat.ofNat Int n instOfNat))) = -(@OfNat.ofNat Int n instOfNat) := by
  have : (@OfNat.ofNat Int n instOfNat : Int) = (n : Int) := rfl
  rw [this]
  exact wrap64 (by omega) (by omega)
@[simp] theorem sub_self (st : St) : St.sub st st := St.sub_refl st
@[simp] theorem upd_upd (s : St) (i : Nat) (a b : AObj) : (s.upd i a).upd i b = s.upd i b := by
  funext j
  by_cases e : j = i <;> simp [e]
theorem sub_trans {a b c : St} (h : St.sub a b) (k : St.sub b c) : St.sub a c := fun i o e => k i o (h i o e)

@[simp] theorem natOf_cast (k : IntKind) (n : Nat) : natOf (.int k (n : Int)) = some n := by simp [natOf]
@[simp] theorem natOf_succ (k : IntKind) (n : Nat) : natOf (.int k ((n : Int) + 1)) = some (n + 1) := by
  simp only [natOf]
  rw [if_pos (by omega)]
  simp
@[simp] theorem natOf_zero (k : IntKind) : natOf (.int k 0) = some 0 := _root_.id rfl
@[simp] theorem natOf_lit (k : IntKind) (n : Nat) : natOf (.int k (no_index (@OfNat.ofNat Int n instOfNat))) = some n := by
  have : (@OfNat.ofNat Int n instOfNat : Int) = (n : Int) := rfl
  rw [this]
  exact natOf_cast k n
@[simp] theorem boundOf_none (env : Env) (n : Nat) : boundOf env n none = some n := _root_.id rfl
@[simp] theorem boundOf_some (env : Env) (n : Nat) (x : X) : boundOf env n (some x) = natOf (x.ev env) := _root_.id rfl

@[simp] theorem ld_ptr (st : St) (sz id o : Nat) : ldCells st sz (.ptr (some (id, o))) = st.seg id o sz := _root_.id rfl
@[simp] theorem ld_eptr (st : St) (sz : Nat) (cs : List V) : ldCells st sz (.eptr cs) = segOf cs 0 sz := _root_.id rfl
attribute [simp] argEnv X.ev packV nilckV notV binI extV
@[simp] theorem fldA_ptr (off id o : Nat) : fldAV off (.ptr (some (id, o))) = some (.ptr (some (id, o + off))) := _root_.id rfl
@[simp] theorem fldA_eptr (off : Nat) (cs : List V) : fldAV off (.eptr cs) = some (.eptr (cs.drop off)) := _root_.id rfl
@[simp] theorem cells_agg (cs : List V) : (V.agg cs).cells? = some cs := _root_.id rfl
@[simp] theorem cells_junk : V.junk.cells? = none := _root_.id rfl
@[simp] theorem cells_tup (cs : List V) : (V.tup cs).cells? = none := _root_.id rfl
@[simp] theorem cells_bool (b : Bool) : (V.bool b).cells? = some [.bool b] := _root_.id rfl
@[simp] theorem cells_int (k : IntKind) (n : Int) : (V.int k n).cells? = some [.int k n] := _root_.id rfl
@[simp] theorem cells_str (s : ByteArray) : (V.str s).cells? = some [.str s] := _root_.id rfl
@[simp] theorem cells_ptr (p : Option (Nat × Nat)) : (V.ptr p).cells? = some [.ptr p] := _root_.id rfl
@[simp] theorem cells_eptr (cs : List V) : (V.eptr cs).cells? = some [.eptr cs] := _root_.id rfl
@[simp] theorem cells_sl (k : SK) (cs : List V) (n : Nat) : (V.sl k cs n).cells? = some [.sl k cs n] := _root_.id rfl
@[simp] theorem cells_hsl (a b c d : Nat) : (V.hsl a b c d).cells? = some [.hsl a b c d] := _root_.id rfl
@[simp] theorem cells_map (m : Option Nat) : (V.map m).cells? = some [.map m] := _root_.id rfl
@[simp] theorem cells_func (f : FuncId) (c : List V) : (V.func f c).cells? = some [.func f c] := _root_.id rfl
@[simp] theorem cells_nilf : V.nilf.cells? = some [.nilf] := _root_.id rfl
@[simp] theorem binV_int (op : BinOp) (k k' : IntKind) (a b : Int) : binV op (.int k a) (.int k' b) = (match op with
    | .shl => if b < 0 then none else some (.int k (k.wrap (a * 2 ^ (Nat.min b.toNat k.bits))))
    | .shr => if b < 0 then none else some (.int k (a.fdiv (2 ^ (Nat.min b.toNat k.bits))))
    | op => if k = k' then binI op k a b else none) := _root_.id rfl
@[simp] theorem binV_str (op : BinOp) (a b : ByteArray) : binV op (.str a) (.str b) = (match op with | .eql => some (.bool (a == b)) | .neq => some (.bool (a != b)) | .add => if a.size + b.size ≤ 1000000000 then some (.str (a ++ b)) else none | _ => none) := _root_.id rfl
@[simp] theorem lenSlV_sl (k : SK) (cs : List V) (n : Nat) : lenSlV (.sl k cs n) = some (.int .i64 n) := _root_.id rfl
@[simp] theorem lenSlV_hsl (id off sz n : Nat) : lenSlV (.hsl id off sz n) = some (.int .i64 n) := _root_.id rfl
@[simp] theorem idxSlV_sl (sz : Nat) (k : SK) (cs : List V) (n : Nat) (kd : IntKind) (i : Int) : idxSlV sz (.sl k cs n) (.int kd i) = if 0 ≤ i ∧ i < n then some (.eptr (cs.drop (i.toNat * sz))) else none := _root_.id rfl
@[simp] theorem idxSlV_hsl (sz id off sz' n : Nat) (kd : IntKind) (i : Int) : idxSlV sz (.hsl id off sz' n) (.int kd i) = if sz' = sz ∧ 0 ≤ i ∧ i < n then some (.ptr (some (id, off + i.toNat * sz))) else none := _root_.id rfl

/-! ### steps that wait for their values -/

def onV (v : Option V) (K : V → St → Prop) (st : St) : Prop := match v with | some v => K v st | none => False
@[simp] theorem onV_some (v : V) (K : V → St → Prop) (st : St) : onV (some v) K st = K v st := _root_.id rfl
@[simp] theorem onV_none (K : V → St → Prop) (st : St) : onV none K st = False := _root_.id rfl
def onS (s : Option St) (K : V → St → Prop) : Prop := match s with | some s => K .junk s | none => False
@[simp] theorem onS_some (s : St) (K : V → St → Prop) : onS (some s) K = K .junk s := _root_.id rfl
@[simp] theorem onS_none (K : V → St → Prop) : onS none K = False := _root_.id rfl
/-- A new object. -/
def mkNew (ob : AObj) (mk : Nat → V) (K : V → St → Prop) (st : St) : Prop := ∀ id, st id = none → K (mk id) (st.upd id ob)
def mkBox (cs : Option (List V)) (mk : Nat → V) (K : V → St → Prop) (st : St) : Prop := match cs with | some cs => mkNew (.cells cs) mk K st | none => False
@[simp] theorem mkBox_some (cs : List V) (mk : Nat → V) (K : V → St → Prop) (st : St) : mkBox (some cs) mk K st = mkNew (.cells cs) mk K st := _root_.id rfl

section
variable (P : Program)

def runK (l : List PO) (d : Option Nat) (env : Env) (K : Env → St → Prop) : V → St → Prop := fun v st' => runP P l (env.put d v) st' K
@[simp] theorem runK_ap (l : List PO) (d : Option Nat) (env : Env) (K : Env → St → Prop) (v : V) (st : St) : runK P l d env K v st = runP P l (env.put d v) st K := _root_.id rfl
def gdB (v : V) (b : Bool) (o : POp) (d : Option Nat) (l : List PO) (env : Env) (st : St) (K : Env → St → Prop) : Prop := match v with
  | .bool c => if c = b then stepP P o env st (runK P l d env K) else runP P l (env.put d (.tup [])) st K
  | .tup _ => runP P l (env.put d (.tup [])) st K
  | _ => False
@[simp] theorem gdB_tt (o : POp) (d : Option Nat) (l : List PO) (env : Env) (st : St) (K : Env → St → Prop) : gdB P (.bool true) true o d l env st K = stepP P o env st (runK P l d env K) := _root_.id rfl
@[simp] theorem gdB_ff (o : POp) (d : Option Nat) (l : List PO) (env : Env) (st : St) (K : Env → St → Prop) : gdB P (.bool false) false o d l env st K = stepP P o env st (runK P l d env K) := _root_.id rfl
@[simp] theorem gdB_tf (o : POp) (d : Option Nat) (l : List PO) (env : Env) (st : St) (K : Env → St → Prop) : gdB P (.bool true) false o d l env st K = runP P l (env.put d (.tup [])) st K := _root_.id rfl
@[simp] theorem gdB_ft (o : POp) (d : Option Nat) (l : List PO) (env : Env) (st : St) (K : Env → St → Prop) : gdB P (.bool false) true o d l env st K = runP P l (env.put d (.tup [])) st K := _root_.id rfl
@[simp] theorem gdB_un (vs : List V) (b : Bool) (o : POp) (d : Option Nat) (l : List PO) (env : Env) (st : St) (K : Env → St → Prop) : gdB P (.tup vs) b o d l env st K = runP P l (env.put d (.tup [])) st K := _root_.id rfl
@[simp] theorem runP_nil (env : Env) (st : St) (K : Env → St → Prop) : runP P [] env st K = K env st := _root_.id rfl
@[simp] theorem runP_cons0 (d : Option Nat) (o : POp) (l : List PO) (env : Env) (st : St) (K : Env → St → Prop) : runP P (⟨d, o, none⟩ :: l) env st K = stepP P o env st (runK P l d env K) := _root_.id rfl
@[simp] theorem runP_cons1 (d : Option Nat) (o : POp) (t : Nat) (b : Bool) (l : List PO) (env : Env) (st : St) (K : Env → St → Prop) : runP P (⟨d, o, some (t, b)⟩ :: l) env st K = gdB P (env t) b o d l env st K := _root_.id rfl

def runDK (l : List (Cls × PO)) (d : Option Nat) (env : Env) (K : Env → St → Prop) : V → St → Prop := fun v st' => runD P l (env.put d v) st' K
@[simp] theorem runDK_ap (l : List (Cls × PO)) (d : Option Nat) (env : Env) (K : Env → St → Prop) (v : V) (st : St) : runDK P l d env K v st = runD P l (env.put d v) st K := _root_.id rfl
def stillV (o : POp) (env : Env) (st : St) (K : V → St → Prop) : Prop := stillP P o env st fun v => K v st
def gdD (v : V) (b : Bool) (c : Cls) (o : POp) (d : Option Nat) (l : List (Cls × PO)) (env : Env) (st : St) (K : Env → St → Prop) : Prop := match v with
  | .bool t => if t = b then runD P ((c, ⟨d, o, none⟩) :: l) env st K else runD P l (env.put d (.tup [])) st K
  | .tup _ => runD P l (env.put d (.tup [])) st K
  | _ => False
@[simp] theorem gdD_tt (c : Cls) (o : POp) (d : Option Nat) (l : List (Cls × PO)) (env : Env) (st : St) (K : Env → St → Prop) : gdD P (.bool true) true c o d l env st K = runD P ((c, ⟨d, o, none⟩) :: l) env st K := _root_.id rfl
@[simp] theorem gdD_ff (c : Cls) (o : POp) (d : Option Nat) (l : List (Cls × PO)) (env : Env) (st : St) (K : Env → St → Prop) : gdD P (.bool false) false c o d l env st K = runD P ((c, ⟨d, o, none⟩) :: l) env st K := _root_.id rfl
@[simp] theorem gdD_tf (c : Cls) (o : POp) (d : Option Nat) (l : List (Cls × PO)) (env : Env) (st : St) (K : Env → St → Prop) : gdD P (.bool true) false c o d l env st K = runD P l (env.put d (.tup [])) st K := _root_.id rfl
@[simp] theorem gdD_ft (c : Cls) (o : POp) (d : Option Nat) (l : List (Cls × PO)) (env : Env) (st : St) (K : Env → St → Prop) : gdD P (.bool false) true c o d l env st K = runD P l (env.put d (.tup [])) st K := _root_.id rfl
@[simp] theorem gdD_un (vs : List V) (b : Bool) (c : Cls) (o : POp) (d : Option Nat) (l : List (Cls × PO)) (env : Env) (st : St) (K : Env → St → Prop) : gdD P (.tup vs) b c o d l env st K = runD P l (env.put d (.tup [])) st K := _root_.id rfl
@[simp] theorem runD_nil (env : Env) (st : St) (K : Env → St → Prop) : runD P [] env st K = K env st := _root_.id rfl
@[simp] theorem runD_x (d : Option Nat) (o : POp) (l : List (Cls × PO)) (env : Env) (st : St) (K : Env → St → Prop) : runD P ((.x, ⟨d, o, none⟩) :: l) env st K = stepP P o env st (runDK P l d env K) := _root_.id rfl
@[simp] theorem runD_a (d : Option Nat) (o : POp) (l : List (Cls × PO)) (env : Env) (st : St) (K : Env → St → Prop) : runD P ((.a, ⟨d, o, none⟩) :: l) env st K = stepP P o env st (runDK P l d env K) := _root_.id rfl
@[simp] theorem runD_e (d : Option Nat) (o : POp) (l : List (Cls × PO)) (env : Env) (st : St) (K : Env → St → Prop) : runD P ((.e, ⟨d, o, none⟩) :: l) env st K = stillV P o env st (runDK P l d env K) := _root_.id rfl
@[simp] theorem runD_s (d : Option Nat) (o : POp) (l : List (Cls × PO)) (env : Env) (st : St) (K : Env → St → Prop) : runD P ((.s, ⟨d, o, none⟩) :: l) env st K = stillV P o env st (runDK P l d env K) := _root_.id rfl
@[simp] theorem runD_g (c : Cls) (d : Option Nat) (o : POp) (t : Nat) (b : Bool) (l : List (Cls × PO)) (env : Env) (st : St) (K : Env → St → Prop) : runD P ((c, ⟨d, o, some (t, b)⟩) :: l) env st K = gdD P (env t) b c o d l env st K := by cases c <;> rfl

variable (env : Env) (st : St) (K : V → St → Prop)
@[simp] theorem step_mv (x : X) : stepP P (.mv x) env st K = K (x.ev env) st := _root_.id rfl
def pickV (c a b : V) : Option V := match c with | .bool t => some (if t then a else b) | _ => none
@[simp] theorem pickV_bool (t : Bool) (a b : V) : pickV (.bool t) a b = some (if t then a else b) := _root_.id rfl
@[simp] theorem step_pick (c a b : X) : stepP P (.pick c a b) env st K = onV (pickV (c.ev env) (a.ev env) (b.ev env)) K st := by
  show (match (match c.ev env with | .bool t => some (if t then a.ev env else b.ev env) | _ => none) with | some v => K v st | none => False) = _
  unfold pickV onV
  rfl
@[simp] theorem step_nilck (x : X) : stepP P (.nilck x) env st K = onV (nilckV (x.ev env)) K st := _root_.id rfl
@[simp] theorem step_bin (op : BinOp) (x y : X) : stepP P (.bin op x y) env st K = onV (binV op (x.ev env) (y.ev env)) K st := _root_.id rfl
@[simp] theorem step_eqa (e : EK) (neg : Bool) (x y : X) : stepP P (.eqa e neg x y) env st K = onV ((eqK e (x.ev env) (y.ev env)).map fun b => .bool (if neg then !b else b)) K st := _root_.id rfl
@[simp] theorem step_not (x : X) : stepP P (.not x) env st K = onV (notV (x.ev env)) K st := _root_.id rfl
@[simp] theorem step_neg (x : X) : stepP P (.neg x) env st K = onV (negV (x.ev env)) K st := _root_.id rfl
@[simp] theorem step_inv (x : X) : stepP P (.inv x) env st K = onV (invV (x.ev env)) K st := _root_.id rfl
@[simp] theorem step_conv (k : IntKind) (x : X) : stepP P (.conv k x) env st K = onV (convV k (x.ev env)) K st := _root_.id rfl
@[simp] theorem step_toStr (x : X) : stepP P (.toStr x) env st K = onV (toStrV st (x.ev env)) K st := _root_.id rfl
@[simp] theorem step_fldA (o : Nat) (x : X) : stepP P (.fldA o x) env st K = onV (fldAV o (x.ev env)) K st := _root_.id rfl
@[simp] theorem step_fld (ag : Bool) (o s : Nat) (x : X) : stepP P (.fld ag o s x) env st K = onV (fldV ag o s (x.ev env)) K st := _root_.id rfl
@[simp] theorem step_idxArr (n s : Nat) (x i : X) : stepP P (.idxArr n s x i) env st K = onV (idxArrV n s (x.ev env) (i.ev env)) K st := _root_.id rfl
@[simp] theorem step_idxSl (s : Nat) (x i : X) : stepP P (.idxSl s x i) env st K = onV (idxSlV s (x.ev env) (i.ev env)) K st := _root_.id rfl
@[simp] theorem step_idx (n : Nat) (ag : Bool) (s : Nat) (x i : X) : stepP P (.idx n ag s x i) env st K = onV (idxV n ag s (x.ev env) (i.ev env)) K st := _root_.id rfl
@[simp] theorem step_idxStr (x i : X) : stepP P (.idxStr x i) env st K = onV (idxStrV (x.ev env) (i.ev env)) K st := _root_.id rfl
@[simp] theorem step_load (ag : Bool) (s : Nat) (x : X) : stepP P (.load ag s x) env st K = onV ((ldCells st s (x.ev env)).bind (packV ag)) K st := _root_.id rfl
@[simp] theorem step_build (z : List V) (ps : List (Nat × Nat × X)) : stepP P (.build z ps) env st K = onV ((fillV z (ps.map fun p => (p.1, p.2.1, p.2.2.ev env))).map V.agg) K st := _root_.id rfl
@[simp] theorem step_bsl (s n : Nat) (z : List V) (ps : List (Nat × Nat × X)) : stepP P (.bsl false s n z ps) env st K = onV ((fillV (repV z n) (ps.map fun p => (p.1, p.2.1, p.2.2.ev env))).map fun cs => .sl .full cs n) K st := _root_.id rfl
@[simp] theorem step_slStr (x : X) (lo hi : Option X) : stepP P (.slStr x lo hi) env st K = onV (opV (.slStr x lo hi) env st) K st := _root_.id rfl
@[simp] theorem step_sl (s : Nat) (x : X) (lo hi mx : Option X) : stepP P (.sl s x lo hi mx) env st K = onV (slV env s lo hi mx (x.ev env)) K st := _root_.id rfl
@[simp] theorem step_slArr (al : Bool) (n s : Nat) (x : X) (lo hi : Option X) : stepP P (.slArr al n s x lo hi) env st K = onV (slArrV st env al n s lo hi (x.ev env)) K st := _root_.id rfl
@[simp] theorem step_slw (s : Nat) (x : X) (lo hi : Option X) : stepP P (.slw s x lo hi) env st K = onV (slwV st env s lo hi (x.ev env)) K st := _root_.id rfl
@[simp] theorem ldE_eptr (sz : Nat) (cs : List V) : ldE sz (.eptr cs) = segOf cs 0 sz := _root_.id rfl
@[simp] theorem step_loadE (ag : Bool) (s : Nat) (x : X) : stepP P (.loadE ag s x) env st K = onV ((ldE s (x.ev env)).bind (packV ag)) K st := _root_.id rfl
@[simp] theorem step_carry (neg : Bool) (x y c : X) : stepP P (.carry neg x y c) env st K = onV (carryV neg (x.ev env) (y.ev env) (c.ev env)) K st := _root_.id rfl
@[simp] theorem step_chk3 (x : X) (lo hi mx : Option X) : stepP P (.chk3 x lo hi mx) env st K = onV (chk3V env lo hi mx (x.ev env)) K st := _root_.id rfl
@[simp] theorem step_lenStr (x : X) : stepP P (.lenStr x) env st K = onV (lenStrV (x.ev env)) K st := _root_.id rfl
@[simp] theorem step_lenSl (x : X) : stepP P (.lenSl x) env st K = onV (lenSlV (x.ev env)) K st := _root_.id rfl
@[simp] theorem step_lenMap (x : X) : stepP P (.lenMap x) env st K = onV (lenMapV st (x.ev env)) K st := _root_.id rfl
@[simp] theorem step_lenK (n : Nat) : stepP P (.lenK n) env st K = K (.int .i64 n) st := _root_.id rfl
@[simp] theorem step_mkf (f : FuncId) (l : List X) : stepP P (.mkf f l) env st K = K (.func f (l.map fun x => X.ev env x)) st := _root_.id rfl
@[simp] theorem step_ext (i : Nat) (x : X) : stepP P (.ext i x) env st K = onV (extV i (x.ev env)) K st := _root_.id rfl
@[simp] theorem step_max (x : X) (l : List X) : stepP P (.max (x :: l)) env st K = onV (foldV max2V (x.ev env) (l.map fun x => X.ev env x)) K st := _root_.id rfl
@[simp] theorem step_min (x : X) (l : List X) : stepP P (.min (x :: l)) env st K = onV (foldV min2V (x.ev env) (l.map fun x => X.ev env x)) K st := _root_.id rfl
@[simp] theorem step_lookup (kk : KK) (z : V) (ok : Bool) (m k : X) : stepP P (.lookup kk z ok m k) env st K = onV (lookupV st kk z ok (m.ev env) (k.ev env)) K st := _root_.id rfl
@[simp] theorem step_store (s : Nat) (a v : X) : stepP P (.store s a v) env st K = onS (storeS st s (a.ev env) (v.ev env)) K := _root_.id rfl
@[simp] theorem step_mset (kk : KK) (m k v : X) : stepP P (.mset kk m k v) env st K = onS (msetS st kk (m.ev env) (k.ev env) (v.ev env)) K := _root_.id rfl
@[simp] theorem step_mdel (kk : KK) (m k : X) : stepP P (.mdel kk m k) env st K = onS (mdelS st kk (m.ev env) (k.ev env)) K := _root_.id rfl
@[simp] theorem step_alloc (z : List V) : stepP P (.alloc z) env st K = mkNew (.cells z) (fun id => .ptr (some (id, 0))) K st := _root_.id rfl
@[simp] theorem step_mkmap : stepP P .mkmap env st K = mkNew (.mp []) (fun id => .map (some id)) K st := _root_.id rfl
@[simp] theorem step_box (x : X) : stepP P (.box x) env st K = mkBox ((x.ev env).cells?) (fun id => .ptr (some (id, 0))) K st := by
  show (match ((x.ev env).cells?.map fun cs => ((AObj.cells cs, fun id => V.ptr (some (id, 0))) : AObj × (Nat → V))) with | some (ob, mk) => ∀ id, st id = none → K (mk id) (st.upd id ob) | none => False) = _
  cases (x.ev env).cells? <;> rfl
@[simp] theorem step_bslo (s n : Nat) (z : List V) (ps : List (Nat × Nat × X)) : stepP P (.bsl true s n z ps) env st K = mkBox (fillV (repV z n) (ps.map fun p => (p.1, p.2.1, p.2.2.ev env))) (fun id => .hsl id 0 s n) K st := by
  show (match ((fillV (repV z n) (ps.map fun p => (p.1, p.2.1, p.2.2.ev env))).map fun cs => ((AObj.cells cs, fun id => V.hsl id 0 s n) : AObj × (Nat → V))) with | some (ob, mk) => ∀ id, st id = none → K (mk id) (st.upd id ob) | none => False) = _
  cases fillV (repV z n) (ps.map fun p => (p.1, p.2.1, p.2.2.ev env)) <;> rfl
@[simp] theorem step_call (f : FuncId) (l : List X) : stepP P (.call f l) env st K = ACalls P f (l.map fun x => X.ev env x) st K := _root_.id rfl
def callF (v : V) (args : List V) (st : St) (K : V → St → Prop) : Prop := match v with | .func f cap => okFn P f = true ∧ ACalls P f (args ++ cap) st K | _ => False
@[simp] theorem callF_func (f : FuncId) (cap args : List V) : callF P (.func f cap) args st K = (okFn P f = true ∧ ACalls P f (args ++ cap) st K) := _root_.id rfl
@[simp] theorem step_callv (x : X) (l : List X) : stepP P (.callv x l) env st K = callF P (x.ev env) (l.map fun x => X.ev env x) st K := by
  show (match x.ev env with | .func f cap => okFn P f = true ∧ ACalls P f ((l.map fun x => X.ev env x) ++ cap) st K | _ => False) = _
  unfold callF
  rfl
def appS (sz bytes : Nat) (x : V) (e : Option (List V × Nat)) (st : St) (K : V → St → Prop) : Prop :=
  match e with
  | none => False
  | some (ys, m) =>
    match x with
    | .sl k cs n =>
      (k = .nil ∨ k = .full) ∧ cs.length = n * sz ∧ (n + m) * bytes ≤ 140737488355328 ∧
      (m = 0 → K (.sl k cs n) st) ∧ (m ≠ 0 → mkNew (.cells (cs ++ ys)) (fun id => .hsl id 0 sz (n + m)) K st)
    | .hsl id off sz' n =>
      match st id with
      | some (.cells cs) =>
        sz' = sz ∧ (n + m) * bytes ≤ 140737488355328 ∧
        if off + (n + m) * sz ≤ cs.length then K (.hsl id off sz (n + m)) (st.upd id (.cells (spliceV cs (off + n * sz) ys)))
        else off = 0 ∧ cs.length = n * sz ∧ mkNew (.cells (cs ++ ys)) (fun id => .hsl id 0 sz (n + m)) K (st.del id)
      | _ => False
    | _ => False
@[simp] theorem step_app (sz b : Nat) (x y : X) : stepP P (.app sz b x y) env st K = appS sz b (x.ev env) (elems st sz (y.ev env)) st K := by
  simp only [stepP, appS, mkNew]
  cases elems st sz (y.ev env) with
  | none => rfl
  | some q => cases (x.ev env) <;> rfl
/-- An append to nothing, or to a slice with no room. -/
def appfS (sz bytes : Nat) (x : V) (e : Option (List V × Nat)) (st : St) (K : V → St → Prop) : Prop := match x with | .sl _ _ _ => appS sz bytes x e st K | _ => match e with | none => False | some _ => False
@[simp] theorem appfS_sl (sz b : Nat) (k : SK) (cs : List V) (n : Nat) (e : Option (List V × Nat)) (st : St) (K : V → St → Prop) : appfS sz b (.sl k cs n) e st K = appS sz b (.sl k cs n) e st K := _root_.id rfl
@[simp] theorem step_appf (sz b : Nat) (x y : X) : stepP P (.appf sz b x y) env st K = appfS sz b (x.ev env) (elems st sz (y.ev env)) st K := by
  simp only [stepP, appfS, appS, mkNew]
  generalize x.ev env = xv
  cases elems st sz (y.ev env) <;> cases xv <;> rfl
theorem app_nil {sz b : Nat} {k : SK} {ys : List V} {m : Nat} (hk : k = .nil ∨ k = .full) (hm : m ≠ 0) (hb : m * b ≤ 140737488355328) (h : mkNew (.cells ys) (fun id => .hsl id 0 sz m) K st) : appS sz b (.sl k [] 0) (some (ys, m)) st K :=
  ⟨hk, by simp, by simpa using hb, fun e => absurd e hm, fun _ => by simpa using h⟩
/-- An append within the room. -/
theorem app_room {sz b id off n : Nat} {cs ys : List V} {m : Nat} (hs : st id = some (.cells cs)) (hb : (n + m) * b ≤ 140737488355328) (hr : off + (n + m) * sz ≤ cs.length) (h : K (.hsl id off sz (n + m)) (st.upd id (.cells (spliceV cs (off + n * sz) ys)))) : appS sz b (.hsl id off sz n) (some (ys, m)) st K := by
  simp only [appS, hs]
  refine ⟨trivial, hb, ?_⟩
  rw [if_pos hr]
  exact h
/-- An append that may grow. -/
theorem app_grow {sz b id n : Nat} {cs ys : List V} {m : Nat} (hs : st id = some (.cells cs)) (hb : (n + m) * b ≤ 140737488355328) (hl : cs.length = n * sz) (hr : cs.length < (n + m) * sz) (h : mkNew (.cells (cs ++ ys)) (fun id => .hsl id 0 sz (n + m)) K (st.del id)) : appS sz b (.hsl id 0 sz n) (some (ys, m)) st K := by
  simp only [appS, hs]
  refine ⟨trivial, hb, ?_⟩
  rw [if_neg (by omega)]
  exact ⟨trivial, hl, h⟩
def appzS (sz bytes : Nat) (x : V) (e : Option (List V × Nat)) (st : St) (K : V → St → Prop) : Prop :=
  match e with
  | none => False
  | some (ys, m) =>
    match x with
    | .sl k cs n =>
      (k = .nil ∨ k = .full) ∧ cs.length = n * sz ∧ (n + m) * bytes ≤ 140737488355328 ∧ (m = 0 → K (.sl k cs n) st) ∧ (m ≠ 0 → K (.sl .some (cs ++ ys) (n + m)) st)
    | .hsl id off sz' n =>
      match st id with
      | some (.cells cs) =>
        sz' = sz ∧ (n + m) * bytes ≤ 140737488355328 ∧ off = 0 ∧ n * sz ≤ cs.length ∧
        K (.sl .some (cs.take (n * sz) ++ ys) (n + m)) (st.upd id (.ro (cs.take (n * sz) ++ List.replicate (cs.length - n * sz) .junk)))
      | _ => False
    | _ => False
@[simp] theorem step_appz (sz b : Nat) (x y : X) : stepP P (.appz sz b x y) env st K = appzS sz b (x.ev env) (elems st sz (y.ev env)) st K := by
  simp only [stepP, appzS]
  rfl
theorem appz_nil {sz b : Nat} {k : SK} {ys : List V} {m : Nat} (hk : k = .nil ∨ k = .full) (hm : m ≠ 0) (hb : m * b ≤ 140737488355328) (h : K (.sl .some ys m) st) : appzS sz b (.sl k [] 0) (some (ys, m)) st K :=
  ⟨hk, by simp, by simpa using hb, fun e => absurd e hm, fun _ => by simpa using h⟩
theorem appz_hsl {sz b id n : Nat} {cs ys : List V} {m : Nat} (hs : st id = some (.cells cs)) (hb : (n + m) * b ≤ 140737488355328) (hl : n * sz ≤ cs.length)
    (h : K (.sl .some (cs.take (n * sz) ++ ys) (n + m)) (st.upd id (.ro (cs.take (n * sz) ++ List.replicate (cs.length - n * sz) .junk)))) : appzS sz b (.hsl id 0 sz n) (some (ys, m)) st K := by
  simp only [appzS, hs]
  exact ⟨trivial, hb, trivial, hl, h⟩
def rngMapS (v : V) (st : St) (K : V → St → Prop) : Prop :=
  match v with
  | .map none => ∀ it, st it = none → K (.ptr (some (it, 0))) (st.upd it (.mit none 0 [] 0))
  | .map (some id) =>
    match st id with
    | some (.mp es) => ∀ it, st it = none → ∀ (bs : List Nat) (clk : Nat), bs.length = es.length → bs.Pairwise (· < ·) → (∀ b ∈ bs, b < clk) → K (.ptr (some (it, 0))) ((st.upd id (.mpi es bs clk)).upd it (.mit (some id) clk [] clk))
    | _ => False
  | _ => False
@[simp] theorem step_rngMap (x : X) : stepP P (.rngMap x) env st K = rngMapS (x.ev env) st K := by
  simp only [stepP, rngMapS]
  rfl
def nextMapS (v : V) (st : St) (K : V → St → Prop) : Prop :=
  match v with
  | .ptr (some (it, 0)) =>
    match st it with
    | some (.mit none _ _ _) => K (.tup [.bool false]) st
    | some (.mit (some id) since seen stp) =>
      match st id with
      | some (.mpi es bs clk) => (∀ b ∈ bs, b < since) ∧ since ≤ stp ∧ bs.length = es.length ∧ ((∀ b ∈ bs, b ∈ seen) → K (.tup [.bool false]) st) ∧
          ∀ i, i < es.length → bs.getD i 0 ∉ seen → K (.tup [.bool true, (es.getD i default).1, (es.getD i default).2]) (st.upd it (.mit (some id) since (seen ++ [bs.getD i 0]) clk))
      | _ => False
    | _ => False
  | _ => False
@[simp] theorem step_nextMap (x : X) : stepP P (.nextMap x) env st K = nextMapS (x.ev env) st K := by
  simp only [stepP, nextMapS]
  rfl
def nextStrS (v : V) (st : St) (K : V → St → Prop) : Prop :=
  match v with
  | .ptr (some (it, 0)) =>
    match st it with
    | some (.siter s pos) =>
      if pos < s.size then K (.tup [.bool true, .int .i64 pos, .int .i32 (Utf8.decode s pos).1]) (st.upd it (.siter s (pos + (Utf8.decode s pos).2))) else K (.tup [.bool false]) st
    | _ => False
  | _ => False
@[simp] theorem step_nextStr (x : X) : stepP P (.nextStr x) env st K = nextStrS (x.ev env) st K := by
  simp only [stepP, nextStrS]
  rfl
@[simp] theorem step_entry (x : X) : stepP P (.entry x) env st K = onV (entryV st (x.ev env)) K st := _root_.id rfl
@[simp] theorem still_entry (x : X) : stillV P (.entry x) env st K = onV (entryV st (x.ev env)) K st := _root_.id rfl
def mkslS (ob : Bool) (sz b : Nat) (z : List V) (l c : Option Nat) (st : St) (K : V → St → Prop) : Prop :=
  match l, c with
  | some n, some c => n ≤ c ∧ c * b ≤ 140737488355328 ∧ z.length = sz ∧ (if ob then mkNew (.cells (repV z n)) (fun id => .hsl id 0 sz n) K st else K (.sl .some (repV z n) n) st)
  | _, _ => False
@[simp] theorem step_mksl (ob : Bool) (sz b : Nat) (z : List V) (l c : X) : stepP P (.mksl ob sz b z l c) env st K = mkslS ob sz b z (natOf (l.ev env)) (natOf (c.ev env)) st K := by
  show (match natOf (l.ev env), natOf (c.ev env) with | some n, some c => n ≤ c ∧ c * b ≤ 140737488355328 ∧ z.length = sz ∧ (if ob then ∀ id, st id = none → K (.hsl id 0 sz n) (st.upd id (.cells (repV z n))) else K (.sl .some (repV z n) n) st) | _, _ => False) = _
  unfold mkslS mkNew
  cases natOf (l.ev env) <;> cases natOf (c.ev env) <;> rfl
def clearS (sz : Nat) (z : List V) (x : V) (st : St) (K : V → St → Prop) : Prop :=
  match x with
  | .hsl id off sz' n =>
    match st id with
    | some (.cells cs) => sz' = sz ∧ z.length = sz ∧ off + n * sz ≤ cs.length ∧ K .junk (st.upd id (.cells (spliceV cs off (repV z n))))
    | _ => False
  | .sl .nil [] 0 => K .junk st
  | _ => False
@[simp] theorem step_clear (sz : Nat) (z : List V) (x : X) : stepP P (.clear sz z x) env st K = clearS sz z (x.ev env) st K := by
  rfl
theorem clear_hsl {sz id off n : Nat} {z cs : List V} (hs : st id = some (.cells cs)) (hz : z.length = sz) (hr : off + n * sz ≤ cs.length) (h : K .junk (st.upd id (.cells (spliceV cs off (repV z n))))) : clearS sz z (.hsl id off sz n) st K := by
  simp only [clearS, hs]
  exact ⟨trivial, hz, hr, h⟩

@[simp] theorem still_mv (x : X) : stillV P (.mv x) env st K = K (x.ev env) st := _root_.id rfl
@[simp] theorem still_pick (c a b : X) : stillV P (.pick c a b) env st K = onV (pickV (c.ev env) (a.ev env) (b.ev env)) K st := step_pick P env st K c a b
@[simp] theorem still_nilck (x : X) : stillV P (.nilck x) env st K = onV (nilckV (x.ev env)) K st := _root_.id rfl
@[simp] theorem still_bin (op : BinOp) (x y : X) : stillV P (.bin op x y) env st K = onV (binV op (x.ev env) (y.ev env)) K st := _root_.id rfl
@[simp] theorem still_eqa (e : EK) (neg : Bool) (x y : X) : stillV P (.eqa e neg x y) env st K = onV ((eqK e (x.ev env) (y.ev env)).map fun b => .bool (if neg then !b else b)) K st := _root_.id rfl
@[simp] theorem still_not (x : X) : stillV P (.not x) env st K = onV (notV (x.ev env)) K st := _root_.id rfl
@[simp] theorem still_neg (x : X) : stillV P (.neg x) env st K = onV (negV (x.ev env)) K st := _root_.id rfl
@[simp] theorem still_inv (x : X) : stillV P (.inv x) env st K = onV (invV (x.ev env)) K st := _root_.id rfl
@[simp] theorem still_conv (k : IntKind) (x : X) : stillV P (.conv k x) env st K = onV (convV k (x.ev env)) K st := _root_.id rfl
@[simp] theorem still_toStr (x : X) : stillV P (.toStr x) env st K = onV (toStrV st (x.ev env)) K st := _root_.id rfl
@[simp] theorem still_fldA (o : Nat) (x : X) : stillV P (.fldA o x) env st K = onV (fldAV o (x.ev env)) K st := _root_.id rfl
@[simp] theorem still_fld (ag : Bool) (o s : Nat) (x : X) : stillV P (.fld ag o s x) env st K = onV (fldV ag o s (x.ev env)) K st := _root_.id rfl
@[simp] theorem still_idxArr (n s : Nat) (x i : X) : stillV P (.idxArr n s x i) env st K = onV (idxArrV n s (x.ev env) (i.ev env)) K st := _root_.id rfl
@[simp] theorem still_idxSl (s : Nat) (x i : X) : stillV P (.idxSl s x i) env st K = onV (idxSlV s (x.ev env) (i.ev env)) K st := _root_.id rfl
@[simp] theorem still_idx (n : Nat) (ag : Bool) (s : Nat) (x i : X) : stillV P (.idx n ag s x i) env st K = onV (idxV n ag s (x.ev env) (i.ev env)) K st := _root_.id rfl
@[simp] theorem still_idxStr (x i : X) : stillV P (.idxStr x i) env st K = onV (idxStrV (x.ev env) (i.ev env)) K st := _root_.id rfl
@[simp] theorem still_load (ag : Bool) (s : Nat) (x : X) : stillV P (.load ag s x) env st K = onV ((ldCells st s (x.ev env)).bind (packV ag)) K st := _root_.id rfl
@[simp] theorem still_build (z : List V) (ps : List (Nat × Nat × X)) : stillV P (.build z ps) env st K = onV ((fillV z (ps.map fun p => (p.1, p.2.1, p.2.2.ev env))).map V.agg) K st := _root_.id rfl
@[simp] theorem still_bsl (s n : Nat) (z : List V) (ps : List (Nat × Nat × X)) : stillV P (.bsl false s n z ps) env st K = onV ((fillV (repV z n) (ps.map fun p => (p.1, p.2.1, p.2.2.ev env))).map fun cs => .sl .full cs n) K st := _root_.id rfl
@[simp] theorem still_sl (s : Nat) (x : X) (lo hi mx : Option X) : stillV P (.sl s x lo hi mx) env st K = onV (slV env s lo hi mx (x.ev env)) K st := _root_.id rfl
@[simp] theorem still_slArr (al : Bool) (n s : Nat) (x : X) (lo hi : Option X) : stillV P (.slArr al n s x lo hi) env st K = onV (slArrV st env al n s lo hi (x.ev env)) K st := _root_.id rfl
@[simp] theorem still_slw (s : Nat) (x : X) (lo hi : Option X) : stillV P (.slw s x lo hi) env st K = onV (slwV st env s lo hi (x.ev env)) K st := _root_.id rfl
@[simp] theorem still_loadE (ag : Bool) (s : Nat) (x : X) : stillV P (.loadE ag s x) env st K = onV ((ldE s (x.ev env)).bind (packV ag)) K st := _root_.id rfl
@[simp] theorem still_carry (neg : Bool) (x y c : X) : stillV P (.carry neg x y c) env st K = onV (carryV neg (x.ev env) (y.ev env) (c.ev env)) K st := _root_.id rfl
@[simp] theorem still_chk3 (x : X) (lo hi mx : Option X) : stillV P (.chk3 x lo hi mx) env st K = onV (chk3V env lo hi mx (x.ev env)) K st := _root_.id rfl
@[simp] theorem still_slStr (x : X) (lo hi : Option X) : stillV P (.slStr x lo hi) env st K = onV (opV (.slStr x lo hi) env st) K st := _root_.id rfl
@[simp] theorem still_lenStr (x : X) : stillV P (.lenStr x) env st K = onV (lenStrV (x.ev env)) K st := _root_.id rfl
@[simp] theorem still_lenSl (x : X) : stillV P (.lenSl x) env st K = onV (lenSlV (x.ev env)) K st := _root_.id rfl
@[simp] theorem still_lenMap (x : X) : stillV P (.lenMap x) env st K = onV (lenMapV st (x.ev env)) K st := _root_.id rfl
@[simp] theorem still_lenK (n : Nat) : stillV P (.lenK n) env st K = K (.int .i64 n) st := _root_.id rfl
@[simp] theorem still_mkf (f : FuncId) (l : List X) : stillV P (.mkf f l) env st K = K (.func f (l.map fun x => X.ev env x)) st := _root_.id rfl
@[simp] theorem still_ext (i : Nat) (x : X) : stillV P (.ext i x) env st K = onV (extV i (x.ev env)) K st := _root_.id rfl
@[simp] theorem still_max (x : X) (l : List X) : stillV P (.max (x :: l)) env st K = onV (foldV max2V (x.ev env) (l.map fun x => X.ev env x)) K st := _root_.id rfl
@[simp] theorem still_min (x : X) (l : List X) : stillV P (.min (x :: l)) env st K = onV (foldV min2V (x.ev env) (l.map fun x => X.ev env x)) K st := _root_.id rfl
@[simp] theorem still_lookup (kk : KK) (z : V) (ok : Bool) (m k : X) : stillV P (.lookup kk z ok m k) env st K = onV (lookupV st kk z ok (m.ev env) (k.ev env)) K st := _root_.id rfl
theorem still_call {f : FuncId} {l : List X} {v : V} (h : ACalls P f (l.map fun x => X.ev env x) st fun v' st' => v' = v ∧ st' = st) (hk : K v st) : stillV P (.call f l) env st K := ⟨v, h, hk⟩

/-! ### code -/

variable (Q : Ex → Env → St → Prop)
def seqK (b : PC) (Q : Ex → Env → St → Prop) : Ex → Env → St → Prop := fun e env' st' => match e with | .normal => vc P b Q env' st' | e => Q e env' st'
@[simp] theorem seqK_n (b : PC) : seqK P b Q .normal env st = vc P b Q env st := _root_.id rfl
@[simp] theorem seqK_e (b : PC) (i : Nat) : seqK P b Q (.exit i) env st = Q (.exit i) env st := _root_.id rfl
@[simp] theorem seqK_r (b : PC) : seqK P b Q .ret env st = Q .ret env st := _root_.id rfl
def blkK (id : Nat) (Q : Ex → Env → St → Prop) : Ex → Env → St → Prop := fun e env' st' => match e with | .exit j => if j = id then Q .normal env' st' else Q (.exit j) env' st' | e => Q e env' st'
@[simp] theorem blkK_n (i : Nat) : blkK i Q .normal env st = Q .normal env st := _root_.id rfl
@[simp] theorem blkK_r (i : Nat) : blkK i Q .ret env st = Q .ret env st := _root_.id rfl
@[simp] theorem blkK_e (i j : Nat) : blkK i Q (.exit j) env st = if j = i then Q .normal env st else Q (.exit j) env st := _root_.id rfl
def condB (v : V) (a b : PC) (Q : Ex → Env → St → Prop) (env : Env) (st : St) : Prop := match v with | .bool t => if t = true then vc P a Q env st else vc P b Q env st | _ => False
@[simp] theorem condB_t (a b : PC) : condB P (.bool true) a b Q env st = vc P a Q env st := _root_.id rfl
@[simp] theorem condB_f (a b : PC) : condB P (.bool false) a b Q env st = vc P b Q env st := _root_.id rfl
theorem condB_split {t : Bool} {a b : PC} (h1 : t = true → vc P a Q env st) (h2 : t = false → vc P b Q env st) : condB P (.bool t) a b Q env st := by
  cases t
  · exact h2 rfl
  · exact h1 rfl
@[simp] theorem vc_skip : vc P .skip Q env st = Q .normal env st := _root_.id rfl
@[simp] theorem vc_exit (id : Nat) : vc P (.exit id) Q env st = Q (.exit id) env st := _root_.id rfl
@[simp] theorem vc_ret : vc P .ret Q env st = Q .ret env st := _root_.id rfl
@[simp] theorem vc_ops (l : List PO) : vc P (.ops l) Q env st = runP P l env st (Q .normal) := _root_.id rfl
@[simp] theorem vc_draw2 (conf : List (Nat × Nat)) (l : List (Cls × PO)) : vc P (.draw2 conf l) Q env st = (Conf conf env ∧ runD P l env st (Q .normal)) := _root_.id rfl
@[simp] theorem vc_draw (l : List (Cls × PO)) : vc P (.draw l) Q env st = runD P l env st (Q .normal) := _root_.id rfl
@[simp] theorem vc_frz (l : List Nat) : vc P (.frz l) Q env st = frzP l env st (Q .normal) := _root_.id rfl
@[simp] theorem vc_seq (a b : PC) : vc P (.seq a b) Q env st = vc P a (seqK P b Q) env st := _root_.id rfl
@[simp] theorem vc_cond (c : X) (a b : PC) : vc P (.cond c a b) Q env st = condB P (c.ev env) a b Q env st := _root_.id rfl
@[simp] theorem vc_block (id : Nat) (c : PC) : vc P (.block id c) Q env st = vc P c (blkK id Q) env st := _root_.id rfl

/-- A round's end. -/
def loopK (I : Nat → Env → St → Prop) (n : Nat) (Q : Ex → Env → St → Prop) : Ex → Env → St → Prop := fun e env' st' => match e with | .normal => (∃ n' s, n' < n ∧ St.sub s st' ∧ I n' env' s) | e => Q e env' st'
def Round (I : Nat → Env → St → Prop) (n : Nat) (env : Env) (st : St) : Prop := ∃ n' s, n' < n ∧ St.sub s st ∧ I n' env s
@[simp] theorem loopK_n (I : Nat → Env → St → Prop) (n : Nat) : loopK I n Q .normal env st = Round I n env st := _root_.id rfl
@[simp] theorem loopK_e (I : Nat → Env → St → Prop) (n i : Nat) : loopK I n Q (.exit i) env st = Q (.exit i) env st := _root_.id rfl
@[simp] theorem loopK_r (I : Nat → Env → St → Prop) (n : Nat) : loopK I n Q .ret env st = Q .ret env st := _root_.id rfl
end

section
variable {P : Program} {Q : Ex → Env → St → Prop} {env : Env} {st : St}
/-- A loop: an invariant that bears a number, which every round lowers. -/
theorem vc_loop {c : PC} (I : Nat → Env → St → Prop) (n0 : Nat) (h0 : I n0 env st)
    (round : ∀ n env' st', Same c.writes env env' → I n env' st' → vc P c (loopK I n Q) env' st') : vc P (.loop c) Q env st := by
  refine ⟨fun env st => ∃ n, I n env st, fun env st => leastOf fun n => I n env st, ⟨n0, h0⟩, fun env' st' hs hI => ?_⟩
  refine vc_frame c _ _ env' st' (fun e env'' st'' _ hq => ?_) (round _ env' st' hs (leastOf_spec hI).1)
  cases e with
  | normal =>
    obtain ⟨n', s, hlt, hsub, hI'⟩ := hq
    exact ⟨s, hsub, ⟨n', hI'⟩, Nat.lt_of_le_of_lt ((leastOf_spec ⟨n', hI'⟩).2 n' hI') hlt⟩
  | exit id => exact hq
  | ret => exact hq

/-- The same; the invariant that a round must bring about stands behind a name. -/
theorem vc_loopJ {c : PC} (I : Nat → Env → St → Prop) (n0 : Nat) (h0 : I n0 env st)
    (round : ∀ J : Nat → Env → St → Prop, (∀ n e s, I n e s → J n e s) → ∀ n env' st', Same c.writes env env' → I n env' st' → vc P c (loopK J n Q) env' st') : vc P (.loop c) Q env st :=
  vc_loop I n0 h0 (round I fun _ _ _ h => h)

theorem Round.mk {I : Nat → Env → St → Prop} {n : Nat} (n' : Nat) (s : St) (h1 : n' < n) (h2 : St.sub s st) (h3 : I n' env s) : Round I n env st := ⟨n', s, h1, h2, h3⟩

theorem vc_mono {c : PC} {Q' : Ex → Env → St → Prop} (h : vc P c Q' env st) (hq : ∀ e env' st', Q' e env' st' → Q e env' st') : vc P c Q env st :=
  vc_frame c _ _ env st (fun e env' st' _ h => hq e env' st' h) h

/-- What follows, behind a name. -/
theorem vc_cut {a b : PC} (M : Env → St → Prop) (h : vc P a (fun e env' st' => match e with | .normal => M env' st' | e => Q e env' st') env st) (k : ∀ env' st', M env' st' → vc P b Q env' st') : vc P (.seq a b) Q env st :=
  vc_frame a _ _ env st (fun e env' st' _ h => by cases e <;> first | exact k _ _ h | exact h) h

/-- What a function gives. -/
def endK (res : List PR) (R : V → St → Prop) : Ex → Env → St → Prop := fun e env st => (e = .normal ∨ e = .ret) ∧ match resV env st res with | some v => ∃ s, St.sub s st ∧ R v s | none => False
def onR (v : Option V) (R : V → St → Prop) (st : St) : Prop := match v with | some v => ∃ s, St.sub s st ∧ R v s | none => False
@[simp] theorem endK_n (res : List PR) (R : V → St → Prop) : endK res R .normal env st = onR (resV env st res) R st := by simp [endK, onR]
@[simp] theorem endK_r (res : List PR) (R : V → St → Prop) : endK res R .ret env st = onR (resV env st res) R st := by simp [endK, onR]
@[simp] theorem endK_e (res : List PR) (R : V → St → Prop) (i : Nat) : endK res R (.exit i) env st = False := by simp [endK]
@[simp] theorem onR_some (v : V) (R : V → St → Prop) : onR (some v) R st = ∃ s, St.sub s st ∧ R v s := _root_.id rfl
attribute [simp] resV resAll resOne

theorem shows_call {an : An} {f : FuncId} {F : PF} (hm : P.follows .mixedOrders = true) (hc : compFn P an f = some F) {args : List V} {R : V → St → Prop} (hl : args.length ≤ F.n)
    (h : vc P F.code (endK F.res R) (argEnv args) st) : ACalls P f args st R := acalls_of_shows hm hc hl h

theorem ld_pt {id o sz : Nat} {cs : List V} (h : st id = some (.cells cs)) (hl : o + sz ≤ cs.length) : ldCells st sz (.ptr (some (id, o))) = some ((cs.drop o).take sz) := by
  simp [ldCells, St.seg, h, segOf, hl]
theorem store_pt {id o sz : Nat} {cs vs : List V} {v : V} (h : st id = some (.cells cs)) (hv : v.cells? = some vs) (hs : vs.length = sz) (hl : o + sz ≤ cs.length) : storeS st sz (.ptr (some (id, o))) v = some (st.upd id (.cells (spliceV cs o vs))) := by
  simp only [storeS, h, hv]
  rw [if_pos ⟨hs, hl⟩]
end
end Go.Ab
/-
  Parts of a heap side by side.
-/
set_option linter.unusedSimpArgs false
set_option linter.unusedVariables false
namespace Go.Ab
open Go Go.RowKit

abbrev Asn := St → Prop
def pt (i : Nat) (o : AObj) : Asn := fun h => h i = some o

def Sep : List Asn → St → Prop
  | [], _ => True
  | A :: L, st => ∃ h r, Disj h r ∧ St.sub (h.add r) st ∧ A h ∧ Sep L r

theorem disj_symm {a b : St} (h : Disj a b) : Disj b a := fun i => (h i).symm
theorem disj_sub {a a' b : St} (h : Disj a b) (hs : St.sub a' a) : Disj a' b := h.sub hs
theorem sub_right {h r : St} (hd : Disj h r) : St.sub r (h.add r) := fun i o e => by
  have : h i = none := (hd i).resolve_right (by rw [e]; simp)
  simp [St.add, this, e]

theorem Sep.sub {L : List Asn} {st st' : St} (h : Sep L st) (hs : St.sub st st') : Sep L st' := by
  cases L with
  | nil => trivial
  | cons A L =>
    obtain ⟨a, r, h1, h2, h3, h4⟩ := h
    exact ⟨a, r, h1, sub_trans h2 hs, h3, h4⟩

theorem Sep.get {i : Nat} {o : AObj} {L : List Asn} {st : St} (h : Sep (pt i o :: L) st) : st i = some o := by
  obtain ⟨a, r, h1, h2, h3, h4⟩ := h
  exact h2 i o (add_some h3)

theorem Sep.drop {A : Asn} {L : List Asn} {st : St} (h : Sep (A :: L) st) : Sep L st := by
  obtain ⟨a, r, h1, h2, h3, h4⟩ := h
  exact Sep.sub h4 (sub_trans (sub_right h1) h2)

theorem Sep.head {A A' : Asn} {L : List Asn} {st : St} (hA : ∀ h, A h → A' h) (h : Sep (A :: L) st) : Sep (A' :: L) st := by
  obtain ⟨a, r, h1, h2, h3, h4⟩ := h
  exact ⟨a, r, h1, h2, hA _ h3, h4⟩

theorem Sep.swap {A B : Asn} {L : List Asn} {st : St} (h : Sep (A :: B :: L) st) : Sep (B :: A :: L) st := by
  obtain ⟨a, r, h1, h2, h3, b, r', k1, k2, k3, k4⟩ := h
  have hab : Disj a b := disj_symm (Disj.sub (disj_symm h1) (sub_trans (sub_add b r') k2))
  have har : Disj a r' := disj_symm (Disj.sub (disj_symm h1) (sub_trans (sub_right k1) k2))
  refine ⟨b, a.add r', fun i => ?_, fun i o e => h2 i o ?_, k3, a, r', har, St.sub_refl _, h3, k4⟩
  · rcases hab i with e | e
    · rcases k1 i with e' | e'
      · exact .inl e'
      · exact .inr (add_none.2 ⟨e, e'⟩)
    · exact .inl e
  · cases ha : a i with
    | some x =>
      have hb : b i = none := (hab i).resolve_left (by rw [ha]; simp)
      simp only [St.add, hb, ha] at e
      cases e
      exact add_some ha
    | none =>
      have : (b.add r') i = some o := by
        simp only [St.add, ha] at e ⊢
        exact e
      simp only [St.add, ha]
      exact k2 i o this

theorem Sep.tail {A : Asn} {L L' : List Asn} {st : St} (hL : ∀ r, Sep L r → Sep L' r) (h : Sep (A :: L) st) : Sep (A :: L') st := by
  obtain ⟨a, r, h1, h2, h3, h4⟩ := h
  exact ⟨a, r, h1, h2, h3, hL _ h4⟩

/-- The assertion at a place, brought to the front. -/
def pull : Nat → List Asn → List Asn
  | _, [] => []
  | 0, l => l
  | n + 1, A :: l => match pull n l with
    | B :: m => B :: A :: m
    | [] => [A]

theorem Sep.pull {st : St} : ∀ (n : Nat) (L : List Asn), Sep L st → Sep (Ab.pull n L) st := by
  intro n
  induction n generalizing st with
  | zero => intro L h; cases L <;> exact h
  | succ n ih =>
    intro L h
    cases L with
    | nil => trivial
    | cons A L =>
      have h1 := Sep.tail (fun r hr => ih L hr) h
      simp only [Ab.pull]
      cases hp : Ab.pull n L with
      | nil => rw [hp] at h1; exact h1
      | cons B m => rw [hp] at h1; exact h1.swap

theorem Sep.new {L : List Asn} {st : St} (h : Sep L st) {i : Nat} (hi : st i = none) (o : AObj) : Sep (pt i o :: L) (st.upd i o) := by
  refine ⟨fun j => if j = i then some o else none, st, fun j => ?_, fun j x e => ?_, by simp [pt], h⟩
  · by_cases e : j = i
    · exact .inr (e ▸ hi)
    · exact .inl (by simp [e])
  · by_cases e' : j = i
    · subst e'
      simpa [St.add, St.upd] using e
    · simpa [St.add, St.upd, e'] using e

theorem Sep.set {L : List Asn} {st : St} {i : Nat} {o : AObj} (h : Sep (pt i o :: L) st) (o' : AObj) : Sep (pt i o' :: L) (st.upd i o') := by
  obtain ⟨a, r, h1, h2, h3, h4⟩ := h
  refine ⟨a.upd i o', r, h1.upd (h1.some h3) _, fun j x e => ?_, by simp [pt], h4⟩
  rw [upd_add] at e
  by_cases e' : j = i
  · subst e'
    simpa [St.upd] using e
  · simp only [St.upd, e', if_false] at e ⊢
    exact h2 j x e

theorem Sep.del {L : List Asn} {st : St} {i : Nat} {o : AObj} (h : Sep (pt i o :: L) st) : Sep L (st.del i) := by
  obtain ⟨a, r, h1, h2, h3, h4⟩ := h
  refine h4.sub fun j x e => ?_
  have : j ≠ i := fun e' => by
    subst e'
    rw [h1.some h3] at e
    cases e
  simp only [St.del, this, if_false]
  exact h2 j x (sub_right h1 j x e)

theorem Sep.ne {i j : Nat} {o o' : AObj} {L : List Asn} {st : St} (h : Sep (pt i o :: pt j o' :: L) st) : i ≠ j := by
  obtain ⟨a, r, h1, h2, h3, h4⟩ := h
  have hj := Sep.get h4
  intro e
  subst e
  rw [h1.some h3] at hj
  cases hj

theorem Sep.one {A : Asn} {st : St} (h : A st) : Sep [A] st := by
  refine ⟨st, fun _ => none, fun _ => .inr rfl, fun i o e => ?_, h, trivial⟩
  simp only [St.add] at e
  cases hs : st i with
  | some x => rw [hs] at e; exact e
  | none => rw [hs] at e; cases e

/-- A call that needs a part of the heap. -/
theorem Sep.call {P : Program} {f : FuncId} {args : List V} {A : Asn} {L : List Asn} {st : St} (h : Sep (A :: L) st) {R : V → St → Prop} (hc : ∀ h, A h → ACalls P f args h R) : ACalls P f args st fun v st' => Sep (R v :: L) st' := by
  obtain ⟨a, r, h1, h2, h3, h4⟩ := h
  have hd : Disj a (fun i => if (a i).isSome = true then none else st i) := fun i => by
    cases e : a i with
    | none => exact .inl rfl
    | some o => exact .inr (by simp [e])
  have e : a.add (fun i => if (a i).isSome = true then none else st i) = st := by
    funext i
    simp only [St.add]
    cases e : a i with
    | some o => exact (h2 i o (add_some e)).symm
    | none => simp [e]
  have := (hc a h3).frame hd
  rw [e] at this
  refine this.mono ?_
  rintro v s ⟨s', k1, rfl, k3⟩
  have hr : St.sub r (fun i => if (a i).isSome = true then none else st i) := fun i o e => by
    have : a i = none := (h1 i).resolve_right (by rw [e]; simp)
    simp only [this, Option.isSome_none, Bool.false_eq_true, if_false]
    exact h2 i o (sub_right h1 i o e)
  refine ⟨s', r, disj_symm (Disj.sub (disj_symm k1) hr), ?_, k3, h4⟩
  intro i o e
  simp only [St.add] at e ⊢
  cases hs : s' i with
  | some x => rw [hs] at e; exact e
  | none => rw [hs] at e; exact hr i o e

theorem Sep.pure {p : Prop} {A : Asn} {L : List Asn} {st : St} (h : Sep ((fun h => p ∧ A h) :: L) st) : p ∧ Sep (A :: L) st := by
  obtain ⟨a, r, h1, h2, h3, h4⟩ := h
  exact ⟨h3.1, a, r, h1, h2, h3.2, h4⟩

theorem Sep.ex {α : Type} {A : α → Asn} {L : List Asn} {st : St} (h : Sep ((fun h => ∃ x, A x h) :: L) st) : ∃ x, Sep (A x :: L) st := by
  obtain ⟨a, r, h1, h2, ⟨x, h3⟩, h4⟩ := h
  exact ⟨x, a, r, h1, h2, h3, h4⟩

theorem Sep.part {A : Asn} {L : List Asn} {st : St} (h : Sep (A :: L) st) : ∃ h', St.sub h' st ∧ A h' := by
  obtain ⟨a, r, h1, h2, h3, h4⟩ := h
  exact ⟨a, sub_trans (sub_add a r) h2, h3⟩

/-- The heap as it was. -/
def Was (st : St) : Asn := fun h => h = st
theorem Sep.was {st0 st : St} {L : List Asn} (h : Sep (Was st0 :: L) st) : St.sub st0 st := by
  obtain ⟨h', h1, rfl⟩ := h.part
  exact h1
theorem Sep.start (st : St) : Sep [Was st] st := Sep.one rfl
end Go.Ab
/-
  Slices of rows: cells that are the rows of a list, one behind the other; read, written and appended to.
-/
set_option linter.unusedSimpArgs false
set_option linter.unusedVariables false
namespace Go.Ab
open Go Go.RowKit

theorem Same.get {W : List Nat} {env env' : Env} (h : Same W env env') (t : Nat) (ht : W.contains t = false) : env' t = env t := h t (by simpa using ht)

/-- Rows of a list, one after the other. -/
def rowsOf {α : Type} (f : α → List V) (l : List α) : List V := l.flatMap f

section
variable {α : Type} {f : α → List V} {sz : Nat}

@[simp] theorem rowsOf_nil : rowsOf f [] = [] := by simp [rowsOf]
@[simp] theorem rowsOf_cons (a : α) (l : List α) : rowsOf f (a :: l) = f a ++ rowsOf f l := by simp [rowsOf]
@[simp] theorem rowsOf_append (a b : List α) : rowsOf f (a ++ b) = rowsOf f a ++ rowsOf f b := by simp [rowsOf]

theorem rowsOf_length (hf : ∀ a, (f a).length = sz) : ∀ (l : List α), (rowsOf f l).length = l.length * sz
  | [] => by simp [rowsOf]
  | a :: l => by
    have := rowsOf_length hf l
    simp only [rowsOf, List.flatMap_cons, List.length_append, List.length_cons, hf, Nat.succ_mul] at this ⊢
    omega

theorem rowsOf_drop (hf : ∀ a, (f a).length = sz) : ∀ (i : Nat) (l : List α), (rowsOf f l).drop (i * sz) = rowsOf f (l.drop i)
  | 0, l => by simp
  | i + 1, [] => by simp
  | i + 1, a :: l => by
    have := rowsOf_drop hf i l
    rw [rowsOf_cons, List.drop_succ_cons, ← this, show (i + 1) * sz = (f a).length + i * sz by rw [hf, Nat.succ_mul]; omega, ← List.drop_drop, List.drop_left]

theorem rowsOf_take (hf : ∀ a, (f a).length = sz) (i : Nat) (l : List α) : (rowsOf f l).take (i * sz) = rowsOf f (l.take i) := by
  by_cases h : i ≤ l.length
  · have e : rowsOf f l = rowsOf f (l.take i) ++ rowsOf f (l.drop i) := by rw [← rowsOf_append, List.take_append_drop]
    have e2 : i * sz = (rowsOf f (l.take i)).length := by rw [rowsOf_length hf, List.length_take, Nat.min_eq_left h]
    rw [e, e2, List.take_left]
  · have h1 : (rowsOf f l).length ≤ i * sz := by
      rw [rowsOf_length hf]
      exact Nat.mul_le_mul_right _ (by omega)
    have h2 : l.length ≤ i := by omega
    rw [List.take_of_length_le h1, List.take_of_length_le h2]

theorem rowsOf_row (hf : ∀ a, (f a).length = sz) (l : List α) (sp : List V) {i : Nat} (h : i < l.length) : ((rowsOf f l ++ sp).drop (i * sz)).take sz = f l[i] := by
  have hl := rowsOf_length hf l
  have hle : i * sz ≤ l.length * sz := Nat.mul_le_mul_right _ (by omega)
  rw [List.drop_append_of_le_length (by omega), rowsOf_drop hf, List.drop_eq_getElem_cons h, rowsOf_cons, List.append_assoc, ← hf l[i], List.take_left]

theorem rowsOf_seg (hf : ∀ a, (f a).length = sz) (l : List α) (sp : List V) {i : Nat} (h : i < l.length) : segOf (rowsOf f l ++ sp) (i * sz) sz = some (f l[i]) := by
  have hl := rowsOf_length hf l
  have hle : (i + 1) * sz ≤ l.length * sz := Nat.mul_le_mul_right _ (by omega)
  rw [Nat.succ_mul] at hle
  unfold segOf
  rw [if_pos (by simp; omega), rowsOf_row hf l sp h]

/-- A part of a row. -/
theorem rowsOf_part (hf : ∀ a, (f a).length = sz) (l : List α) (sp : List V) {i o n : Nat} (h : i < l.length) (hn : o + n ≤ sz) : segOf (rowsOf f l ++ sp) (i * sz + o) n = some (((f l[i]).drop o).take n) := by
  have hl := rowsOf_length hf l
  have hle : (i + 1) * sz ≤ l.length * sz := Nat.mul_le_mul_right _ (by omega)
  rw [Nat.succ_mul] at hle
  have hr := rowsOf_row hf l sp h
  unfold segOf
  rw [if_pos (by simp; omega), ← List.drop_drop, ← hr, List.drop_take, List.take_take, Nat.min_eq_left (by omega)]

/-- Rows as they stand in a slice that is only read. -/
theorem rowsOf_eptr (hf : ∀ a, (f a).length = sz) (l : List α) {i : Nat} (h : i < l.length) : segOf ((rowsOf f l).drop (i * sz)) 0 sz = some (f l[i]) := by
  have hs := rowsOf_row hf l [] h
  have hl := rowsOf_length hf l
  have hle : (i + 1) * sz ≤ l.length * sz := Nat.mul_le_mul_right _ (by omega)
  rw [Nat.succ_mul] at hle
  rw [List.append_nil] at hs
  unfold segOf
  rw [if_pos (by simp; omega), List.drop_zero, hs]

/-- A row, or a part of one, is written. -/
theorem rowsOf_splice (hf : ∀ a, (f a).length = sz) (l : List α) (sp : List V) {i o : Nat} (h : i < l.length) {vs : List V} (hn : o + vs.length ≤ sz) {a : α} (ha : f a = spliceV (f l[i]) o vs) :
    spliceV (rowsOf f l ++ sp) (i * sz + o) vs = rowsOf f (l.set i a) ++ sp := by
  have hli := hf l[i]
  have e : rowsOf f l = rowsOf f (l.take i) ++ (f l[i] ++ rowsOf f (l.drop (i + 1))) := by
    rw [← rowsOf_cons, ← List.drop_eq_getElem_cons h, ← rowsOf_append, List.take_append_drop]
  have e2 : rowsOf f (l.set i a) = rowsOf f (l.take i) ++ (f a ++ rowsOf f (l.drop (i + 1))) := by
    rw [List.set_eq_take_append_cons_drop, if_pos h, rowsOf_append, rowsOf_cons]
  have e3 : (rowsOf f (l.take i)).length = i * sz := by rw [rowsOf_length hf, List.length_take, Nat.min_eq_left (by omega)]
  have e4 : rowsOf f l ++ sp = rowsOf f (l.take i) ++ (f l[i] ++ (rowsOf f (l.drop (i + 1)) ++ sp)) := by rw [e]; simp only [List.append_assoc]
  rw [e4, e2, ha]
  unfold spliceV
  rw [← e3, List.take_length_add_append, List.take_append_of_le_length (by omega)]
  rw [Nat.add_assoc, List.drop_length_add_append, List.drop_append_of_le_length (by omega)]
  simp only [List.append_assoc]

/-- A slice whose rows are known: nothing yet, or an object. -/
def Sl (sz : Nat) (f : α → List V) (s : V) (l : List α) : Asn := fun h =>
  ((s = .sl .nil [] 0 ∨ s = .sl .full [] 0) ∧ l = []) ∨ ∃ sid spare, s = .hsl sid 0 sz l.length ∧ h sid = some (.cells (rowsOf f l ++ spare)) ∧ sz ∣ spare.length

/-- A slice that can be read. -/
def Rd (sz : Nat) (f : α → List V) (s : V) (l : List α) (st : St) : Prop :=
  (∃ k, s = .sl k (rowsOf f l) l.length) ∨ ∃ sid off, s = .hsl sid off sz l.length ∧ st.seg sid off (l.length * sz) = some (rowsOf f l)

theorem Rd.len {s : V} {l : List α} {st : St} (h : Rd sz f s l st) : lenSlV s = some (.int .i64 l.length) := by
  rcases h with ⟨k, rfl⟩ | ⟨sid, off, rfl, _⟩ <;> rfl

theorem Rd.elems (hf : ∀ a, (f a).length = sz) {s : V} {l : List α} {st : St} (h : Rd sz f s l st) : elems st sz s = some (rowsOf f l, l.length) := by
  rcases h with ⟨k, rfl⟩ | ⟨sid, off, rfl, hs⟩
  · simp [Ab.elems, rowsOf_length hf]
  · simp [Ab.elems, hs]

theorem Rd.idx (hf : ∀ a, (f a).length = sz) {s : V} {l : List α} {st : St} (h : Rd sz f s l st) {i : Nat} (hi : i < l.length) (k : IntKind) : ∃ p, idxSlV sz s (.int k i) = some p ∧ ldCells st sz p = some (f l[i]) := by
  rcases h with ⟨k, rfl⟩ | ⟨sid, off, rfl, hs⟩
  · refine ⟨.eptr ((rowsOf f l).drop (i * sz)), ?_, ?_⟩
    · simp [hi]
    · simp [rowsOf_eptr hf l hi]
  · refine ⟨.ptr (some (sid, off + i * sz)), ?_, ?_⟩
    · simp [hi]
    · rw [ld_ptr, seg_at hs hi]
      have := rowsOf_row hf l [] hi
      rw [List.append_nil] at this
      rw [this]

theorem Rd.sub {s : V} {l : List α} {st st' : St} (h : Rd sz f s l st) (hs : St.sub st st') : Rd sz f s l st' := by
  rcases h with ⟨k, rfl⟩ | ⟨sid, off, rfl, h⟩
  · exact .inl ⟨k, rfl⟩
  · exact .inr ⟨sid, off, rfl, seg_sub hs h⟩

theorem Sl.rd (hf : ∀ a, (f a).length = sz) {s : V} {l : List α} {h : St} (hs : Sl sz f s l h) : Rd sz f s l h := by
  rcases hs with ⟨hs | hs, rfl⟩ | ⟨sid, spare, rfl, h1, _⟩
  · exact .inl ⟨.nil, by rw [hs]; rfl⟩
  · exact .inl ⟨.full, by rw [hs]; rfl⟩
  · have hl := rowsOf_length hf l
    refine .inr ⟨sid, 0, rfl, ?_⟩
    simp only [St.seg, h1, segOf]
    rw [if_pos (by simp; omega), List.drop_zero, ← hl, List.take_left]

theorem Sep.rd (hf : ∀ a, (f a).length = sz) {s : V} {l : List α} {L : List Asn} {st : St} (h : Sep (Sl sz f s l :: L) st) : Rd sz f s l st := by
  obtain ⟨h', h1, h2⟩ := h.part
  exact (h2.rd hf).sub h1

/-- Something that needs nothing of the heap. -/
theorem Sep.put {A : Asn} {L : List Asn} {st : St} (h : Sep L st) (hA : A fun _ => none) : Sep (A :: L) st :=
  ⟨fun _ => none, st, fun _ => .inl rfl, fun i o e => by simpa [St.add] using e, hA, h⟩

theorem Sep.slNil {L : List Asn} {st : St} (h : Sep L st) : Sep (Sl sz f (.sl .nil [] 0) [] :: L) st := h.put (.inl ⟨.inl rfl, rfl⟩)
theorem Sep.slFull {L : List Asn} {st : St} (h : Sep L st) : Sep (Sl sz f (.sl .full [] 0) [] :: L) st := h.put (.inl ⟨.inr rfl, rfl⟩)

/-- One row is appended. -/
theorem Sep.app1 (hf : ∀ a, (f a).length = sz) (hsz : 0 < sz) {s : V} {l : List α} {L : List Asn} {st : St} (h : Sep (Sl sz f s l :: L) st) {b : Nat} {a : α} {ys : List V} (hys : ys = f a) (hb : (l.length + 1) * b ≤ 140737488355328) {K : V → St → Prop}
    (hK : ∀ s' st', Sep (Sl sz f s' (l ++ [a]) :: L) st' → K s' st') : appS sz b s (some (ys, 1)) st K := by
  subst hys
  obtain ⟨a0, r, h1, h2, h3, h4⟩ := h
  have hl := rowsOf_length hf l
  rcases h3 with ⟨hs, rfl⟩ | ⟨sid, spare, rfl, h5, h6⟩
  · have key : ∀ k, (k = .nil ∨ k = .full) → appS sz b (.sl k [] 0) (some (f a, 1)) st K := fun k hk =>
      app_nil _ _ hk (by omega) (by simpa using hb) (fun id hid => hK _ _ (by
        have hsub : St.sub r st := sub_trans (sub_right h1) h2
        have := (h4.sub hsub).new hid (.cells (f a))
        exact this.head fun h hh => .inr ⟨id, [], rfl, hh.trans (by simp), by simp⟩))
    rcases hs with rfl | rfl
    · exact key _ (.inl rfl)
    · exact key _ (.inr rfl)
  · have hsid : st sid = some (.cells (rowsOf f l ++ spare)) := h2 _ _ (add_some h5)
    by_cases hsp : spare = []
    · subst hsp
      rw [List.append_nil] at hsid h5
      refine app_grow _ _ hsid hb hl (by rw [hl, Nat.succ_mul]; omega) (fun id hid => hK _ _ ?_)
      have hd : Sep L (st.del sid) := h4.sub fun j x e => by
        have : j ≠ sid := fun e' => by
          subst e'
          rw [h1.some h5] at e
          cases e
        simp only [St.del, this, if_false]
        exact h2 j x (sub_right h1 j x e)
      exact (hd.new hid (.cells (rowsOf f l ++ f a))).head fun h hh => .inr ⟨id, [], by simp, hh.trans (by simp), by simp⟩
    · have hge : sz ≤ spare.length := by
        cases spare with
        | nil => exact absurd rfl hsp
        | cons x l => exact Nat.le_of_dvd (by simp) h6
      refine app_room _ _ hsid hb (by simp [hl, Nat.succ_mul]; omega) (hK _ _ ?_)
      have hsep : Sep (pt sid (.cells (rowsOf f l ++ spare)) :: L) st := ⟨a0, r, h1, h2, h5, h4⟩
      refine (hsep.set _).head fun h hh => .inr ⟨sid, spare.drop sz, by simp, hh.trans (congrArg (fun c => some (AObj.cells c)) ?_), ?_⟩
      · rw [List.length_drop]
        exact Nat.dvd_sub h6 (Nat.dvd_refl _)
      · unfold spliceV
        rw [Nat.zero_add, ← hl, List.take_left, hf, List.drop_length_add_append]
        simp

/-- A slice whose rows are known, and behind which there is nothing known. -/
def Slx (sz : Nat) (f : α → List V) (s : V) (l : List α) : Asn := fun h =>
  ((s = .sl .nil [] 0 ∨ s = .sl .full [] 0) ∧ l = []) ∨ ∃ sid, s = .hsl sid 0 sz l.length ∧ h sid = some (.cells (rowsOf f l))

theorem Slx.sl {s : V} {l : List α} {h : St} (hs : Slx sz f s l h) : Sl sz f s l h := by
  rcases hs with h | ⟨sid, rfl, h⟩
  · exact .inl h
  · exact .inr ⟨sid, [], rfl, by rw [h, List.append_nil], by simp⟩

theorem Sep.slxNil {L : List Asn} {st : St} (h : Sep L st) : Sep (Slx sz f (.sl .nil [] 0) [] :: L) st := h.put (.inl ⟨.inl rfl, rfl⟩)
theorem Sep.slxFull {L : List Asn} {st : St} (h : Sep L st) : Sep (Slx sz f (.sl .full [] 0) [] :: L) st := h.put (.inl ⟨.inr rfl, rfl⟩)

/-- Rows are appended. -/
theorem Sep.appx (hf : ∀ a, (f a).length = sz) (hsz : 0 < sz) {s : V} {l : List α} {L : List Asn} {st : St} (h : Sep (Slx sz f s l :: L) st) {b : Nat} {m : List α} (hb : (l.length + m.length) * b ≤ 140737488355328) {K : V → St → Prop}
    (hK : ∀ s' st', Sep (Slx sz f s' (l ++ m) :: L) st' → K s' st') : appS sz b s (some (rowsOf f m, m.length)) st K := by
  have h0 := h
  obtain ⟨a0, r, h1, h2, h3, h4⟩ := h
  have hl := rowsOf_length hf l
  have hm := rowsOf_length hf m
  rcases h3 with ⟨hs, rfl⟩ | ⟨sid, rfl, h5⟩
  · have key : ∀ k, s = .sl k [] 0 → (k = .nil ∨ k = .full) → appS sz b (.sl k [] 0) (some (rowsOf f m, m.length)) st K := fun k hs hk => by
      by_cases h0' : m = []
      · subst h0'
        refine ⟨hk, by simp, by simp, fun _ => hK _ _ (by rw [← hs]; exact h0), fun e => absurd rfl e⟩
      · refine app_nil _ _ hk (by simpa using h0') (by simpa using hb) (fun id hid => hK _ _ ?_)
        have hsub : St.sub r st := sub_trans (sub_right h1) h2
        have := (h4.sub hsub).new hid (.cells (rowsOf f m))
        exact this.head fun h hh => .inr ⟨id, by simp, hh.trans (by simp)⟩
    rcases hs with rfl | rfl
    · exact key _ rfl (.inl rfl)
    · exact key _ rfl (.inr rfl)
  · have hsid : st sid = some (.cells (rowsOf f l)) := h2 _ _ (add_some h5)
    by_cases h0' : m = []
    · subst h0'
      refine app_room _ _ hsid hb (by simp [hl]) (hK _ _ ?_)
      have hsep : Sep (pt sid (.cells (rowsOf f l)) :: L) st := ⟨a0, r, h1, h2, h5, h4⟩
      refine (hsep.set _).head fun h hh => .inr ⟨sid, by simp, hh.trans (congrArg (fun c => some (AObj.cells c)) ?_)⟩
      unfold spliceV
      rw [Nat.zero_add, ← hl, List.take_length]
      simp
    · have hpos : 0 < m.length := List.length_pos_iff.2 h0'
      refine app_grow _ _ hsid hb hl (by
        rw [hl, Nat.add_mul]
        have : 0 < m.length * sz := Nat.mul_pos hpos hsz
        omega) (fun id hid => hK _ _ ?_)
      have hd : Sep L (st.del sid) := h4.sub fun j x e => by
        have : j ≠ sid := fun e' => by
          subst e'
          rw [h1.some h5] at e
          cases e
        simp only [St.del, this, if_false]
        exact h2 j x (sub_right h1 j x e)
      exact (hd.new hid (.cells (rowsOf f l ++ rowsOf f m))).head fun h hh => .inr ⟨id, by simp, hh.trans (by simp)⟩

/-- One row is appended, and nobody writes the slice any more. -/
theorem Sep.appz1 (hf : ∀ a, (f a).length = sz) {s : V} {l : List α} {L : List Asn} {st : St} (h : Sep (Sl sz f s l :: L) st) {b : Nat} {a : α} {ys : List V} (hys : ys = f a) (hb : (l.length + 1) * b ≤ 140737488355328) {K : V → St → Prop}
    (hK : ∀ st', Sep (Rd sz f s l :: L) st' → K (.sl .some (rowsOf f (l ++ [a])) (l.length + 1)) st') : appzS sz b s (some (ys, 1)) st K := by
  subst hys
  have h0 := h
  obtain ⟨a0, r, h1, h2, h3, h4⟩ := h
  have hl := rowsOf_length hf l
  rcases h3 with ⟨hs, rfl⟩ | ⟨sid, spare, rfl, h5, h6⟩
  · have key : ∀ k, s = .sl k [] 0 → (k = .nil ∨ k = .full) → appzS sz b (.sl k [] 0) (some (f a, 1)) st K := fun k hs hk => by
      refine appz_nil _ _ hk (by omega) (by simpa using hb) ?_
      have := hK st (h0.head fun h hh => hh.rd hf)
      simpa using this
    rcases hs with rfl | rfl
    · exact key _ rfl (.inl rfl)
    · exact key _ rfl (.inr rfl)
  · have hsid : st sid = some (.cells (rowsOf f l ++ spare)) := h2 _ _ (add_some h5)
    have e1 : (rowsOf f l ++ spare).take (l.length * sz) = rowsOf f l := by rw [← hl, List.take_left]
    refine appz_hsl _ _ hsid hb (by simp [hl]) ?_
    rw [e1]
    have := hK (st.upd sid (.ro (rowsOf f l ++ List.replicate ((rowsOf f l ++ spare).length - l.length * sz) .junk))) ?_
    · simpa using this
    · have hsep : Sep (pt sid (.cells (rowsOf f l ++ spare)) :: L) st := ⟨a0, r, h1, h2, h5, h4⟩
      refine (hsep.set _).head fun h hh => .inr ⟨sid, 0, rfl, ?_⟩
      have hh' : h sid = some (.ro (rowsOf f l ++ List.replicate ((rowsOf f l ++ spare).length - l.length * sz) .junk)) := hh
      simp only [St.seg, hh', segOf]
      rw [if_pos (by simp; omega), List.drop_zero, ← hl, List.take_left]

theorem Sep.rdOf {s : V} {l : List α} {L : List Asn} {st : St} (h : Sep (Rd sz f s l :: L) st) : Rd sz f s l st := by
  obtain ⟨h', h1, h2⟩ := h.part
  exact h2.sub h1

/-- A row of a slice that is an object: where it lies. -/
theorem Sep.slObj {s : V} {l : List α} {L : List Asn} {st : St} (h : Sep (Sl sz f s l :: L) st) (hl : l ≠ []) : ∃ sid spare, s = .hsl sid 0 sz l.length ∧ sz ∣ spare.length ∧ Sep (pt sid (.cells (rowsOf f l ++ spare)) :: L) st := by
  obtain ⟨a0, r, h1, h2, h3, h4⟩ := h
  rcases h3 with ⟨_, rfl⟩ | ⟨sid, spare, rfl, h5, h6⟩
  · exact absurd rfl hl
  · exact ⟨sid, spare, rfl, h6, a0, r, h1, h2, h5, h4⟩

theorem Sep.ofObj {l : List α} {L : List Asn} {st : St} {sid : Nat} {spare : List V} (h : Sep (pt sid (.cells (rowsOf f l ++ spare)) :: L) st) (hs : sz ∣ spare.length) : Sep (Sl sz f (.hsl sid 0 sz l.length) l :: L) st :=
  h.head fun h hh => .inr ⟨sid, spare, rfl, hh, hs⟩
end

/-! ### lists turned element by element -/
def turnTo {α : Type} (g : α → α) (l : List α) (j : Nat) : List α := (l.take j).map g ++ l.drop j
section
variable {α : Type} {g : α → α} {l : List α} {j : Nat}
@[simp] theorem turnTo_length : (turnTo g l j).length = l.length := by simp [turnTo]; omega
theorem turnTo_zero : turnTo g l 0 = l := by simp [turnTo]
theorem turnTo_all : turnTo g l l.length = l.map g := by simp [turnTo]
theorem turnTo_get (h : j < l.length) : (turnTo g l j)[j]'(by simpa using h) = l[j] := by
  have : ((l.take j).map g).length = j := by simp; omega
  simp only [turnTo]
  rw [List.getElem_append_right (by omega)]
  simp [Nat.min_eq_left (Nat.le_of_lt h)]
theorem turnTo_succ (h : j < l.length) : turnTo g l (j + 1) = (turnTo g l j).set j (g l[j]) := by
  have e : ((l.take j).map g).length = j := by simp; omega
  simp only [turnTo]
  rw [List.take_succ_eq_append_getElem h, List.map_append, List.set_append_right _ _ (by omega), e, Nat.sub_self]
  have h2 : (l.drop j).set 0 (g l[j]) = g l[j] :: l.drop (j + 1) := by rw [List.drop_eq_getElem_cons h]; rfl
  rw [h2]
  simp
end

theorem elems_seg {α : Type} {f : α → List V} {sz : Nat} (hf : ∀ a, (f a).length = sz) {st : St} {sid : Nat} {spare : List V} {l : List α} (h : st sid = some (.cells (rowsOf f l ++ spare))) {i n : Nat} (hin : i + n ≤ l.length) :
    elems st sz (.hsl sid (i * sz) sz n) = some (rowsOf f ((l.drop i).take n), ((l.drop i).take n).length) := by
  have hl := rowsOf_length hf l
  have hle : (i + n) * sz ≤ l.length * sz := Nat.mul_le_mul_right _ hin
  rw [Nat.add_mul] at hle
  simp only [elems, if_true, St.seg, h, segOf]
  rw [if_pos (by simp; omega), Option.map_some, List.drop_append_of_le_length (by omega), rowsOf_drop hf, List.take_append_of_le_length (by rw [rowsOf_length hf, List.length_drop, Nat.sub_mul]; omega), rowsOf_take hf]
  simp
  omega

/-! ### rows of one whole number, of two, of three -/
def e1 (n : Int) : List V := [.int .i64 n]
def e2 (r : Int × Int) : List V := [.int .i64 r.1, .int .i64 r.2]
def e3 (r : Int × Int × Int) : List V := [.int .i64 r.1, .int .i64 r.2.1, .int .i64 r.2.2]
theorem e1_len (n : Int) : (e1 n).length = 1 := rfl
theorem e2_len (r : Int × Int) : (e2 r).length = 2 := rfl
/-- A byte. -/
def e8 (b : UInt8) : List V := [.int .u8 b.toNat]
theorem e8_len (b : UInt8) : (e8 b).length = 1 := rfl
theorem e3_len (r : Int × Int × Int) : (e3 r).length = 3 := rfl
end Go.Ab
/-
  Maps whose keys and values are told by lists; permuted and nested assertions; maps that are gone through.
-/
set_option linter.unusedSimpArgs false
set_option linter.unusedVariables false
namespace Go.Ab
open Go Go.RowKit

/-! ### assertions -/
theorem Sep.perm {L L' : List Asn} (h : L.Perm L') : ∀ {st : St}, Sep L st → Sep L' st := by
  induction h with
  | nil => exact fun h => h
  | cons x _ ih => exact fun h => Sep.tail (fun r hr => ih hr) h
  | swap x y l => exact fun h => h.swap
  | trans _ _ ih1 ih2 => exact fun h => ih2 (ih1 h)

/-- Assertions as one. -/
def All (L : List Asn) : Asn := fun h => Sep L h

theorem Sep.app {L1 L2 : List Asn} : ∀ {st : St}, Sep (All L1 :: L2) st → Sep (L1 ++ L2) st := by
  induction L1 with
  | nil => exact fun h => h.drop
  | cons A L1 ih =>
    intro st h
    obtain ⟨a, r, h1, h2, ⟨b, c, k1, k2, k3, k4⟩, h4⟩ := h
    have hcr : Disj c r := disj_sub h1 (sub_trans (sub_right k1) k2)
    have hbr : Disj b r := disj_sub h1 (sub_trans (sub_add b c) k2)
    refine ⟨b, c.add r, fun i => ?_, fun i o e => h2 i o ?_, k3, ih ⟨c, r, hcr, St.sub_refl _, k4, h4⟩⟩
    · rcases k1 i with e | e
      · exact .inl e
      · rcases hbr i with e' | e'
        · exact .inl e'
        · exact .inr (add_none.2 ⟨e, e'⟩)
    · simp only [St.add] at e ⊢
      cases hb : b i with
      | some x =>
        rw [hb] at e
        cases e
        rw [k2 i o (by simp [St.add, hb])]
      | none =>
        rw [hb] at e
        simp only at e
        cases hc : c i with
        | some x =>
          rw [hc] at e
          cases e
          rw [k2 i o (by simp [St.add, hb, hc])]
        | none =>
          rw [hc] at e
          simp only at e
          have : a i = none := (h1 i).resolve_right (by rw [e]; simp)
          rw [this]
          exact e

theorem Sep.all {L1 L2 : List Asn} : ∀ {st : St}, Sep (L1 ++ L2) st → Sep (All L1 :: L2) st := by
  induction L1 with
  | nil => exact fun h => h.put trivial
  | cons A L1 ih =>
    intro st h
    obtain ⟨a, r, h1, h2, h3, h4⟩ := h
    obtain ⟨c, d, k1, k2, k3, k4⟩ := ih h4
    have hac : Disj a c := disj_symm (disj_sub (disj_symm h1) (sub_trans (sub_add c d) k2))
    have had : Disj a d := disj_symm (disj_sub (disj_symm h1) (sub_trans (sub_right k1) k2))
    refine ⟨a.add c, d, fun i => ?_, fun i o e => h2 i o ?_, ⟨a, c, hac, St.sub_refl _, h3, k3⟩, k4⟩
    · rcases had i with e | e
      · rcases k1 i with e' | e'
        · exact .inl (add_none.2 ⟨e, e'⟩)
        · exact .inr e'
      · exact .inr e
    · simp only [St.add] at e ⊢
      cases ha : a i with
      | some x => rw [ha] at e; exact e
      | none =>
        rw [ha] at e
        simp only at e ⊢
        exact k2 i o (by simpa [St.add] using e)

/-! ### maps told by lists -/
section
variable {K A : Type} [DecidableEq K] (ek : K → V) (ev : A → V)

def encM (l : List (K × A)) : List (V × V) := l.map fun p => (ek p.1, ev p.2)
def aSet (k : K) (v : A) : List (K × A) → List (K × A)
  | [] => [(k, v)]
  | p :: l => if k = p.1 then (k, v) :: l else p :: aSet k v l
def aDel (k : K) : List (K × A) → List (K × A)
  | [] => []
  | p :: l => if k = p.1 then l else p :: aDel k l

/-- Keys of a kind, told by K. -/
structure Keyed (kk : KK) : Prop where
  key : ∀ k, isKey kk (ek k) = true
  eq : ∀ a b, keyEq kk (ek a) (ek b) = some (decide (a = b))

variable {ek ev} {kk : KK} (hk : Keyed ek kk)
include hk

theorem mfind_enc (k : K) : ∀ l : List (K × A), mfind kk (ek k) (encM ek ev l) = some ((l.lookup k).map ev)
  | [] => by simp [mfind, encM]
  | (k', v') :: l => by
    have ih := mfind_enc k l
    simp only [encM, List.map_cons, mfind, hk.eq, List.lookup_cons] at ih ⊢
    by_cases h : k = k'
    · simp [h]
    · have : (k == k') = false := by simp [h]
      simp only [h, decide_false, this]
      exact ih

theorem mput_enc (k : K) (v : A) : ∀ l : List (K × A), mput kk (ek k) (ev v) (encM ek ev l) = some (encM ek ev (aSet k v l))
  | [] => by simp [mput, encM, aSet]
  | p :: l => by
    have ih := mput_enc k v l
    simp only [encM, List.map_cons, mput, hk.eq, aSet] at ih ⊢
    by_cases h : k = p.1
    · simp [h]
    · simp only [h, decide_false, if_false, List.map_cons]
      rw [ih]
      rfl

theorem mrem_enc (k : K) : ∀ l : List (K × A), mrem kk (ek k) (encM ek ev l) = some (encM ek ev (aDel k l))
  | [] => by simp [mrem, encM, aDel]
  | p :: l => by
    have ih := mrem_enc k l
    simp only [encM, List.map_cons, mrem, hk.eq, aDel] at ih ⊢
    by_cases h : k = p.1
    · simp [h]
    · simp only [h, decide_false, if_false, List.map_cons]
      rw [ih]
      rfl

/-- Looking up. -/
theorem lookup_enc {st : St} {id : Nat} {l : List (K × A)} (h : st id = some (.mp (encM ek ev l))) (z : V) (ok : Bool) (k : K) :
    lookupV st kk z ok (.map (some id)) (ek k) = some (if ok then .tup [((l.lookup k).map ev).getD z, .bool (l.lookup k).isSome] else ((l.lookup k).map ev).getD z) := by
  simp [lookupV, hk.key, mapOf, h, mfind_enc hk]

theorem lookup_none {st : St} (z : V) (ok : Bool) (k : K) : lookupV st kk z ok (.map none) (ek k) = some (if ok then .tup [z, .bool false] else z) := by
  simp [lookupV, hk.key, mapOf, mfind]

theorem mset_enc {st : St} {id : Nat} {l : List (K × A)} (h : st id = some (.mp (encM ek ev l))) (k : K) (v : A) : msetS st kk (.map (some id)) (ek k) (ev v) = some (st.upd id (.mp (encM ek ev (aSet k v l)))) := by
  simp [msetS, hk.key, h, mput_enc hk]

theorem mdel_enc {st : St} {id : Nat} {l : List (K × A)} (h : st id = some (.mp (encM ek ev l))) (k : K) : mdelS st kk (.map (some id)) (ek k) = some (st.upd id (.mp (encM ek ev (aDel k l)))) := by
  simp [mdelS, hk.key, h, mrem_enc hk]

theorem mdel_none {st : St} (k : K) : mdelS st kk (.map none) (ek k) = some st := by
  simp [mdelS, hk.key]
end

@[simp] theorem encM_length {K A : Type} (ek : K → V) (ev : A → V) (l : List (K × A)) : (encM ek ev l).length = l.length := by simp [encM]
@[simp] theorem encM_nil {K A : Type} (ek : K → V) (ev : A → V) : encM ek ev ([] : List (K × A)) = [] := rfl
theorem lenMap_mp {st : St} {id : Nat} {es : List (V × V)} (h : st id = some (.mp es)) : lenMapV st (.map (some id)) = some (.int .i64 es.length) := by simp [lenMapV, h]
@[simp] theorem lenMap_none {st : St} : lenMapV st (.map none) = some (.int .i64 0) := _root_.id rfl

def kInt (n : Int) : V := .int .i64 n
theorem keyed_int : Keyed kInt .int := ⟨fun _ => rfl, fun a b => by
  simp only [kInt, keyEq, if_true]
  congr 1⟩

/-! ### names of 32 bytes -/
abbrev Id := Vector UInt8 32
def eId (x : Id) : List V := x.toList.map fun b => V.int .u8 b.toNat
theorem eId_len (x : Id) : (eId x).length = 32 := by simp [eId]
def kId (x : Id) : V := .agg (eId x)
def eBytes (l : List UInt8) : List V := l.map fun b => V.int .u8 b.toNat

theorem eqL_bytes : ∀ (a b : List UInt8), a.length = b.length → eqL (eBytes a) (eBytes b) = some (decide (a = b))
  | [], [], _ => rfl
  | [], _ :: _, h => by simp at h
  | _ :: _, [], h => by simp at h
  | x :: a, y :: b, h => by
    have ih := eqL_bytes a b (by simpa using h)
    simp only [eBytes, List.map_cons, eqL, if_true] at ih ⊢
    rw [ih]
    simp only [Option.map_some, Option.some.injEq]
    rw [Bool.eq_iff_iff]
    simp only [Bool.and_eq_true, beq_iff_eq, decide_eq_true_eq, List.cons.injEq]
    constructor
    · rintro ⟨h1, h2⟩
      exact ⟨UInt8.toNat_inj.1 (by omega), h2⟩
    · rintro ⟨h1, h2⟩
      exact ⟨by rw [h1], h2⟩

theorem eqL_id (a b : Id) : eqL (eId a) (eId b) = some (decide (a = b)) := by
  have := eqL_bytes a.toList b.toList (by simp)
  rw [show eId a = eBytes a.toList from rfl, show eId b = eBytes b.toList from rfl, this]
  congr 1
  rw [Bool.eq_iff_iff]
  simp only [decide_eq_true_eq]
  exact ⟨fun h => Vector.toList_inj.1 h, fun h => by rw [h]⟩

theorem keyed_id : Keyed kId (.agg 32) := ⟨fun k => by simp [isKey, kId, eId], fun a b => by
  simp only [keyEq, kId]
  rw [if_pos (eId_len a), eqL_id]⟩

/-! ### maps that are gone through -/
/-- A map that is gone through: its entries, and which were seen; the one that was seen last. -/
def Going (m it : Nat) (l : List ((V × V) × Bool)) (last : Option Nat) : Asn := fun h =>
  ∃ (bs : List Nat) (clk since : Nat) (seen : List Nat) (stp : Nat), h m = some (.mpi (l.map (·.1)) bs clk) ∧ h it = some (.mit (some m) since seen stp) ∧ bs.length = l.length ∧ bs.Pairwise (· < ·) ∧ (∀ b ∈ bs, b < since) ∧ since ≤ stp ∧ stp ≤ clk ∧
    (∀ i (hi : i < l.length), bs.getD i 0 ∈ seen ↔ l[i].2 = true) ∧ ∀ i, last = some i → i < l.length ∧ seen.getLast? = some (bs.getD i 0) ∧ stp = clk

theorem pw_inj {bs : List Nat} (h : bs.Pairwise (· < ·)) {i j : Nat} (hi : i < bs.length) (hj : j < bs.length) (e : bs.getD i 0 = bs.getD j 0) : i = j := by
  have hp := List.pairwise_iff_getElem.1 h
  simp only [List.getD_eq_getElem?_getD, List.getElem?_eq_getElem hi, List.getElem?_eq_getElem hj, Option.getD_some] at e
  rcases Nat.lt_trichotomy i j with hlt | he | hgt
  · have := hp i j hi hj hlt; omega
  · exact he
  · have := hp j i hj hi hgt; omega

theorem Sep.rng {m : Nat} {es : List (V × V)} {L : List Asn} {st : St} (h : Sep (pt m (.mp es) :: L) st) {K : V → St → Prop} (hK : ∀ it st', Sep (Going m it (es.map fun e => (e, false)) none :: L) st' → K (.ptr (some (it, 0))) st') : rngMapS (.map (some m)) st K := by
  simp only [rngMapS, h.get]
  intro it hit bs clk h1 h2 h3
  refine hK it _ ?_
  have hm := ne_id h.get hit
  obtain ⟨a, r, k1, k2, k3, k4⟩ := h
  have hra : a it = none := by
    cases e : a it with
    | none => rfl
    | some o => have := k2 it o (add_some e); rw [hit] at this; cases this
  have hrr : r it = none := by
    cases e : r it with
    | none => rfl
    | some o => have := k2 it o (sub_right k1 it o e); rw [hit] at this; cases this
  refine ⟨(a.upd m (.mpi es bs clk)).upd it (.mit (some m) clk [] clk), r, (k1.upd (k1.some k3) _).upd hrr _, fun i o e => ?_, ?_, k4⟩
  · rw [upd_add, upd_add] at e
    by_cases e1 : i = it
    · simpa [e1] using e
    · by_cases e2 : i = m
      · simpa [e1, e2] using e
      · simp only [st_upd, e1, e2, if_false] at e ⊢
        exact k2 i o e
  · refine ⟨bs, clk, clk, [], clk, ?_, by simp, by simpa using h1, h2, h3, Nat.le_refl _, Nat.le_refl _, fun i hi => by simp, fun i e => by cases e⟩
    have : (es.map fun e => (e, false)).map (·.1) = es := by simp [Function.comp_def]
    rw [this]
    simp [hm]

theorem Sep.next {m it : Nat} {l : List ((V × V) × Bool)} {last : Option Nat} {L : List Asn} {st : St} (h : Sep (Going m it l last :: L) st) {K : V → St → Prop}
    (h1 : (∀ x ∈ l, x.2 = true) → K (.tup [.bool false]) st)
    (h2 : ∀ i (hi : i < l.length), l[i].2 = false → ∀ st', Sep (Going m it (l.set i (l[i].1, true)) (some i) :: L) st' → K (.tup [.bool true, l[i].1.1, l[i].1.2]) st') : nextMapS (.ptr (some (it, 0))) st K := by
  obtain ⟨a, r, k1, k2, ⟨bs, clk, since, seen, stp, g1, g2, g3, g4, g5, g6, g7, g8, g9⟩, k4⟩ := h
  have e1 := k2 _ _ (add_some g1)
  have e2 := k2 _ _ (add_some g2)
  simp only [nextMapS, e2, e1]
  refine ⟨g5, g6, by simpa using g3, fun hs => h1 fun x hx => ?_, fun i hi hn => ?_⟩
  · obtain ⟨i, hi, rfl⟩ := List.getElem_of_mem hx
    refine (g8 i hi).1 (hs _ ?_)
    rw [List.getD_eq_getElem?_getD, List.getElem?_eq_getElem (by omega)]
    exact List.getElem_mem _
  · have hi' : i < l.length := by simpa using hi
    have hf : l[i].2 = false := by
      cases hb : l[i].2 with
      | false => rfl
      | true => exact absurd ((g8 i hi').2 hb) hn
    have hd : (l.map (·.1)).getD i default = l[i].1 := by
      rw [List.getD_eq_getElem?_getD, List.getElem?_map, List.getElem?_eq_getElem hi']
      rfl
    rw [hd]
    refine h2 i hi' hf _ ?_
    have hne : m ≠ it := fun e => by rw [e, g2] at g1; cases g1
    refine ⟨a.upd it (.mit (some m) since (seen ++ [bs.getD i 0]) clk), r, k1.upd (k1.some g2) _, fun j o e => ?_, ⟨bs, clk, since, seen ++ [bs.getD i 0], clk, ?_, by simp, by simpa using g3, g4, g5, by omega, Nat.le_refl _, fun j hj => ?_, fun j e => ?_⟩, k4⟩
    · rw [upd_add] at e
      by_cases ej : j = it
      · simpa [ej] using e
      · simp only [st_upd, ej, if_false] at e ⊢
        exact k2 j o e
    · have : (l.set i (l[i].1, true)).map (·.1) = l.map (·.1) := by
        rw [List.map_set]
        apply List.ext_getElem
        · simp
        · intro j q1 q2
          simp only [List.getElem_set, List.getElem_map]
          split
          · rename_i e; subst e; rfl
          · rfl
      rw [this]
      simp [hne, g1]
    · simp only [List.length_set] at hj
      simp only [List.mem_append, List.mem_singleton, List.getElem_set]
      by_cases e : i = j
      · subst e; simp
      · simp only [e, if_false]
        rw [← g8 j hj]
        constructor
        · rintro (h | h)
          · exact h
          · exact absurd (pw_inj g4 (by omega) (by omega) h).symm e
        · exact .inl
    · cases e
      exact ⟨by simpa using hi', by simp, rfl⟩

theorem Sep.ent {m it i : Nat} {l : List ((V × V) × Bool)} {L : List Asn} {st : St} (h : Sep (Going m it l (some i) :: L) st) : ∃ hi : i < l.length, entryV st (.ptr (some (it, 0))) = some (.tup [l[i].1.1, l[i].1.2]) := by
  obtain ⟨a, r, k1, k2, ⟨bs, clk, since, seen, stp, g1, g2, g3, g4, g5, g6, g7, g8, g9⟩, k4⟩ := h
  have e1 := k2 _ _ (add_some g1)
  have e2 := k2 _ _ (add_some g2)
  obtain ⟨hi, q1, q2⟩ := g9 i rfl
  refine ⟨hi, ?_⟩
  have hib : i < bs.length := by omega
  have hf : bs.findIdx? (· == bs.getD i 0) = some i := by
    rw [List.findIdx?_eq_some_iff_getElem]
    refine ⟨hib, by simp [List.getD_eq_getElem?_getD, hib], fun j hj => ?_⟩
    simp only [Bool.not_eq_true, beq_eq_false_iff_ne, ne_eq]
    intro e
    have := pw_inj g4 (i := j) (j := i) (by omega) hib (by simp only [List.getD_eq_getElem?_getD, List.getElem?_eq_getElem (show j < bs.length by omega), Option.getD_some] at e ⊢; exact e)
    omega
  simp only [entryV, e2, e1, q2, if_true, q1, Option.bind_some, hf, List.getElem?_map, List.getElem?_eq_getElem hi, Option.map_some]

/-- It is gone through no more. -/
theorem Sep.gone {m it : Nat} {l : List ((V × V) × Bool)} {last : Option Nat} {L : List Asn} {st : St} (h : Sep (Going m it l last :: L) st) :
    frzV st (.map (some m)) = some (.map (some m), st.upd m (.mp (l.map (·.1)))) ∧ Sep (pt m (.mp (l.map (·.1))) :: L) (st.upd m (.mp (l.map (·.1)))) := by
  obtain ⟨a, r, k1, k2, ⟨bs, clk, since, seen, stp, g1, g2, g3, g4, g5, g6, g7, g8, g9⟩, k4⟩ := h
  have e1 := k2 _ _ (add_some g1)
  refine ⟨by simp [frzV, e1], a.upd m (.mp (l.map (·.1))), r, k1.upd (k1.some g1) _, fun j o e => ?_, by simp [pt], k4⟩
  rw [upd_add] at e
  by_cases ej : j = m
  · simpa [ej] using e
  · simp only [st_upd, ej, if_false] at e ⊢
    exact k2 j o e

/-- How many were not seen yet. -/
def unseen (l : List ((V × V) × Bool)) : Nat := l.countP fun x => !x.2
theorem unseen_set {l : List ((V × V) × Bool)} {i : Nat} (hi : i < l.length) (hf : l[i].2 = false) (x : V × V) : unseen (l.set i (x, true)) < unseen l := by
  unfold unseen
  rw [List.countP_set hi]
  have : 0 < l.countP fun x => !x.2 := List.countP_pos_iff.2 ⟨l[i], List.getElem_mem _, by simp [hf]⟩
  simp [hf]
  omega

theorem Sep.mem {i : Nat} {o : AObj} : ∀ {L : List Asn} {st : St}, Sep L st → pt i o ∈ L → st i = some o
  | [], _, _, h => by cases h
  | A :: L, st, hs, h => by
    rcases List.mem_cons.1 h with e | h
    · subst e; exact hs.get
    · obtain ⟨a, r, h1, h2, h3, h4⟩ := hs
      exact h2 _ _ (sub_right h1 _ _ (Sep.mem h4 h))

theorem Sep.memA {A : Asn} : ∀ {L : List Asn} {st : St}, Sep L st → A ∈ L → ∃ h', St.sub h' st ∧ A h'
  | [], _, _, h => by cases h
  | B :: L, st, hs, h => by
    rcases List.mem_cons.1 h with e | h
    · subst e; exact hs.part
    · obtain ⟨a, r, h1, h2, h3, h4⟩ := hs
      obtain ⟨h', k1, k2⟩ := Sep.memA h4 h
      exact ⟨h', sub_trans k1 (sub_trans (sub_right h1) h2), k2⟩

/-! ### sets of names -/
def setM (ks : List Id) : List (V × V) := encM kId V.bool (ks.map fun k => (k, true))
/-- A set of names, in whatever order they stand there. -/
def MapSet (aid : Nat) (keys : List Id) : Asn := fun h => ∃ ks, ks.Perm keys ∧ h aid = some (.mp (setM ks))
def addK (keys : List Id) (x : Id) : List Id := if x ∈ keys then keys else keys ++ [x]

theorem set_lookup {K : Type} [DecidableEq K] (ks : List K) (x : K) : (ks.map fun k => (k, true)).lookup x = if x ∈ ks then some true else none := by
  induction ks with
  | nil => simp
  | cons k l ih =>
    simp only [List.map_cons, List.lookup_cons, ih]
    by_cases h : x = k
    · simp [h]
    · have : (x == k) = false := by simp [h]
      simp [h, this]
theorem set_aSet (ks : List Id) (x : Id) : aSet x true (ks.map fun k => (k, true)) = (addK ks x).map fun k => (k, true) := by
  induction ks with
  | nil => simp [aSet, addK]
  | cons k l ih =>
    simp only [List.map_cons, aSet, addK] at ih ⊢
    by_cases h : x = k
    · simp [h]
    · simp only [h, if_false, List.mem_cons, false_or]
      rw [ih]
      split <;> simp
theorem set_aDel (ks : List Id) (x : Id) : aDel x (ks.map fun k => (k, true)) = (ks.erase x).map fun k => (k, true) := by
  induction ks with
  | nil => simp [aDel]
  | cons k l ih =>
    simp only [List.map_cons, aDel, List.erase_cons]
    by_cases h : x = k
    · simp [h]
    · have : (k == x) = false := by simp; exact fun e => h e.symm
      simp only [h, if_false, this, Bool.false_eq_true]
      rw [ih]
      rfl
theorem addK_perm {a b : List Id} (h : a.Perm b) (x : Id) : (addK a x).Perm (addK b x) := by
  unfold addK
  by_cases hx : x ∈ a
  · rw [if_pos hx, if_pos (h.mem_iff.1 hx)]; exact h
  · rw [if_neg hx, if_neg (fun e => hx (h.mem_iff.2 e))]
    exact h.append_right _

theorem MapSet.look {aid : Nat} {keys : List Id} {st : St} (h : MapSet aid keys st) (x : Id) : lookupV st (.agg 32) (.bool false) false (.map (some aid)) (.agg (eId x)) = some (.bool (decide (x ∈ keys))) := by
  obtain ⟨ks, hp, hs⟩ := h
  have := lookup_enc keyed_id hs (.bool false) false x
  rw [show V.agg (eId x) = kId x from rfl, this, set_lookup]
  by_cases hx : x ∈ ks
  · simp [hx, hp.mem_iff.1 hx]
  · have hx' : x ∉ keys := fun e => hx (hp.mem_iff.2 e)
    simp [hx, hx']
theorem MapSet.len {aid : Nat} {keys : List Id} {st : St} (h : MapSet aid keys st) : lenMapV st (.map (some aid)) = some (.int .i64 keys.length) := by
  obtain ⟨ks, hp, hs⟩ := h
  rw [lenMap_mp hs, ← hp.length_eq]
  simp [setM]
theorem Sep.mset {aid : Nat} {keys : List Id} {L : List Asn} {st : St} (h : Sep (MapSet aid keys :: L) st) (x : Id) : ∃ st', msetS st (.agg 32) (.map (some aid)) (.agg (eId x)) (.bool true) = some st' ∧ Sep (MapSet aid (addK keys x) :: L) st' := by
  obtain ⟨a, r, h1, h2, ⟨ks, hp, hs⟩, h4⟩ := h
  have e := mset_enc keyed_id (h2 _ _ (add_some hs)) x true
  rw [set_aSet] at e
  have hsep : Sep (pt aid (.mp (setM ks)) :: L) st := ⟨a, r, h1, h2, hs, h4⟩
  exact ⟨_, e, (hsep.set _).head fun h hh => ⟨addK ks x, addK_perm hp x, hh⟩⟩
theorem Sep.mdel {aid : Nat} {keys : List Id} {L : List Asn} {st : St} (h : Sep (MapSet aid keys :: L) st) (x : Id) : ∃ st', mdelS st (.agg 32) (.map (some aid)) (.agg (eId x)) = some st' ∧ Sep (MapSet aid (keys.erase x) :: L) st' := by
  obtain ⟨a, r, h1, h2, ⟨ks, hp, hs⟩, h4⟩ := h
  have e := mdel_enc keyed_id (h2 _ _ (add_some hs)) x
  rw [set_aDel] at e
  have hsep : Sep (pt aid (.mp (setM ks)) :: L) st := ⟨a, r, h1, h2, hs, h4⟩
  exact ⟨_, e, (hsep.set _).head fun h hh => ⟨ks.erase x, hp.erase x, hh⟩⟩
theorem MapSet.sub {aid : Nat} {keys : List Id} {h st : St} (hs : MapSet aid keys h) (hsub : St.sub h st) : MapSet aid keys st := by
  obtain ⟨ks, hp, hh⟩ := hs
  exact ⟨ks, hp, hsub _ _ hh⟩
theorem Sep.setOf {aid : Nat} {keys : List Id} {L : List Asn} {st : St} (h : Sep L st) (hm : MapSet aid keys ∈ L) : MapSet aid keys st := by
  obtain ⟨h', k1, k2⟩ := h.memA hm
  exact k2.sub k1
end Go.Ab
/-
  Words of 8, 32 and 64 bits as values, and what operations give of them.
-/
set_option linter.unusedSimpArgs false
set_option linter.unusedVariables false
namespace Go.Ab
open Go Go.RowKit

def w32 (x : BitVec 32) : V := .int .u32 x.toNat
def w64 (x : BitVec 64) : V := .int .u64 x.toNat
def w8 (x : UInt8) : V := .int .u8 x.toNat
theorem e8_w8 (x : UInt8) : e8 x = [w8 x] := rfl

theorem wrap_u32 (n : Int) : IntKind.u32.wrap n = ((BitVec.ofInt 32 n).toNat : Int) := by
  simp [IntKind.wrap, IntKind.bits, IntKind.signed]
  omega
theorem wrap_u64 (n : Int) : IntKind.u64.wrap n = ((BitVec.ofInt 64 n).toNat : Int) := by
  simp [IntKind.wrap, IntKind.bits, IntKind.signed]
  omega
theorem wrap_u8 (n : Int) : IntKind.u8.wrap n = ((UInt8.ofBitVec (BitVec.ofInt 8 n)).toNat : Int) := by
  simp [IntKind.wrap, IntKind.bits, IntKind.signed]
  omega

@[simp high] theorem w32_cells (x : BitVec 32) : (w32 x).cells? = some [w32 x] := _root_.id rfl
@[simp high] theorem w64_cells (x : BitVec 64) : (w64 x).cells? = some [w64 x] := _root_.id rfl
@[simp high] theorem w8_cells (x : UInt8) : (w8 x).cells? = some [w8 x] := _root_.id rfl

theorem ofInt_nat {n : Nat} (a : BitVec n) : BitVec.ofInt n (a.toNat : Int) = a := by
  rw [BitVec.ofInt_natCast]; simp
theorem shr_nat (n m : Nat) : ((n : Int).fdiv (2 ^ m)) = ((n >>> m : Nat) : Int) := by
  rw [Nat.shiftRight_eq_div_pow, Int.fdiv_eq_ediv_of_nonneg _ (by exact Int.le_of_lt (Int.pow_pos (by omega)))]
  simp
section
variable (a b : BitVec 32)
@[simp high] theorem bin32_add : binV .add (w32 a) (w32 b) = some (w32 (a + b)) := by
  simp only [w32, binV, binI, if_true, wrap_u32]
  rw [BitVec.ofInt_add, ofInt_nat, ofInt_nat]
@[simp high] theorem bin32_sub : binV .sub (w32 a) (w32 b) = some (w32 (a - b)) := by
  simp only [w32, binV, binI, if_true, wrap_u32]
  rw [Int.sub_eq_add_neg, BitVec.ofInt_add, BitVec.ofInt_neg, ofInt_nat, ofInt_nat, BitVec.sub_eq_add_neg]
@[simp high] theorem bin32_mul : binV .mul (w32 a) (w32 b) = some (w32 (a * b)) := by
  simp only [w32, binV, binI, if_true, wrap_u32]
  rw [BitVec.ofInt_mul, ofInt_nat, ofInt_nat]
theorem bits32 (op : BinOp) : bits op .u32 (a.toNat : Int) (b.toNat : Int) = (((match op with | .and => a &&& b | .or => a ||| b | .xor => a ^^^ b | _ => a &&& ~~~b) : BitVec 32).toNat : Int) := by
  have key : ∀ z : BitVec 32, IntKind.u32.wrap (z.toNat : Int) = (z.toNat : Int) := fun z => by rw [wrap_u32, ofInt_nat]
  have ha : BitVec.ofInt IntKind.u32.bits (a.toNat : Int) = a := ofInt_nat a
  have hb : BitVec.ofInt IntKind.u32.bits (b.toNat : Int) = b := ofInt_nat b
  unfold bits
  rw [ha, hb]
  cases op <;> exact key _
@[simp high] theorem bin32_and : binV .and (w32 a) (w32 b) = some (w32 (a &&& b)) := by
  simp only [w32, binV, binI, if_true, bits32]
@[simp high] theorem bin32_or : binV .or (w32 a) (w32 b) = some (w32 (a ||| b)) := by
  simp only [w32, binV, binI, if_true, bits32]
@[simp high] theorem bin32_xor : binV .xor (w32 a) (w32 b) = some (w32 (a ^^^ b)) := by
  simp only [w32, binV, binI, if_true, bits32]
@[simp high] theorem inv32 : invV (w32 a) = some (w32 (~~~a)) := by
  have h := bits32 (BitVec.allOnes 32) a .xor
  have hm : (if IntKind.u32.signed = true then (-1 : Int) else IntKind.u32.max) = ((BitVec.allOnes 32).toNat : Int) := by decide
  simp only [w32, invV, hm, h, BitVec.allOnes_xor]
@[simp high] theorem bin32_eql : binV .eql (w32 a) (w32 b) = some (.bool (a == b)) := by
  simp only [w32, binV, binI, if_true]
  congr 2
  by_cases h : a = b
  · simp [h]
  · have : (a == b) = false := by simp [h]
    rw [this]
    have h2 : a.toNat ≠ b.toNat := fun e => h (BitVec.eq_of_toNat_eq e)
    simp; omega
@[simp high] theorem bin32_neq : binV .neq (w32 a) (w32 b) = some (.bool (a != b)) := by
  have := bin32_eql a b
  simp only [w32, binV, binI, if_true, Option.some.injEq, V.bool.injEq] at this ⊢
  simp only [bne, this]
@[simp high] theorem bin32_lss : binV .lss (w32 a) (w32 b) = some (.bool (decide (a < b))) := by
  simp [w32, BitVec.lt_def]
@[simp high] theorem bin32_leq : binV .leq (w32 a) (w32 b) = some (.bool (decide (a ≤ b))) := by
  simp [w32, BitVec.le_def]
@[simp high] theorem bin32_gtr : binV .gtr (w32 a) (w32 b) = some (.bool (decide (b < a))) := by
  simp [w32, BitVec.lt_def]
@[simp high] theorem bin32_geq : binV .geq (w32 a) (w32 b) = some (.bool (decide (b ≤ a))) := by
  simp [w32, BitVec.le_def]
@[simp high] theorem bin32_shr (k : IntKind) (n : Nat) : binV .shr (w32 a) (.int k (n : Int)) = some (w32 (a >>> n)) := by
  have h0 : ¬ ((n : Int) < 0) := by omega
  simp only [w32, binV, h0, if_false, Int.toNat_natCast]
  congr 2
  rw [shr_nat, BitVec.toNat_ushiftRight]
  congr 1
  by_cases h : n ≤ 32
  · rw [show Nat.min n IntKind.u32.bits = n from Nat.min_eq_left h]
  · rw [show Nat.min n IntKind.u32.bits = 32 from Nat.min_eq_right (by show 32 ≤ n; omega)]
    have h1 := a.isLt
    rw [Nat.shiftRight_eq_div_pow, Nat.shiftRight_eq_div_pow, Nat.div_eq_of_lt h1, Nat.div_eq_of_lt (Nat.lt_of_lt_of_le h1 (Nat.pow_le_pow_right (by omega) (by omega)))]
@[simp high] theorem bin32_shl (k : IntKind) (n : Nat) : binV .shl (w32 a) (.int k (n : Int)) = some (w32 (a <<< n)) := by
  have h0 : ¬ ((n : Int) < 0) := by omega
  simp only [w32, binV, h0, if_false, Int.toNat_natCast, wrap_u32]
  congr 2
  have hp : ((a.toNat : Int) * 2 ^ (Nat.min n IntKind.u32.bits)) = ((a.toNat * 2 ^ (Nat.min n 32) : Nat) : Int) := by
    simp [IntKind.bits]
  rw [hp, BitVec.ofInt_natCast, BitVec.toNat_ofNat, BitVec.toNat_shiftLeft, Nat.shiftLeft_eq]
  by_cases h : n ≤ 32
  · rw [show Nat.min n 32 = n from Nat.min_eq_left h]
  · rw [show Nat.min n 32 = 32 from Nat.min_eq_right (by omega)]
    rw [show n = 32 + (n - 32) by omega, Nat.pow_add, ← Nat.mul_assoc, Nat.mul_right_comm]
    simp
end

section
variable (a b : BitVec 64)
@[simp high] theorem bin64_add : binV .add (w64 a) (w64 b) = some (w64 (a + b)) := by
  simp only [w64, binV, binI, if_true, wrap_u64]
  rw [BitVec.ofInt_add, ofInt_nat, ofInt_nat]
@[simp high] theorem bin64_sub : binV .sub (w64 a) (w64 b) = some (w64 (a - b)) := by
  simp only [w64, binV, binI, if_true, wrap_u64]
  rw [Int.sub_eq_add_neg, BitVec.ofInt_add, BitVec.ofInt_neg, ofInt_nat, ofInt_nat, BitVec.sub_eq_add_neg]
@[simp high] theorem bin64_mul : binV .mul (w64 a) (w64 b) = some (w64 (a * b)) := by
  simp only [w64, binV, binI, if_true, wrap_u64]
  rw [BitVec.ofInt_mul, ofInt_nat, ofInt_nat]
theorem bits64 (op : BinOp) : bits op .u64 (a.toNat : Int) (b.toNat : Int) = (((match op with | .and => a &&& b | .or => a ||| b | .xor => a ^^^ b | _ => a &&& ~~~b) : BitVec 64).toNat : Int) := by
  have key : ∀ z : BitVec 64, IntKind.u64.wrap (z.toNat : Int) = (z.toNat : Int) := fun z => by rw [wrap_u64, ofInt_nat]
  have ha : BitVec.ofInt IntKind.u64.bits (a.toNat : Int) = a := ofInt_nat a
  have hb : BitVec.ofInt IntKind.u64.bits (b.toNat : Int) = b := ofInt_nat b
  unfold bits
  rw [ha, hb]
  cases op <;> exact key _
@[simp high] theorem bin64_and : binV .and (w64 a) (w64 b) = some (w64 (a &&& b)) := by
  simp only [w64, binV, binI, if_true, bits64]
@[simp high] theorem bin64_or : binV .or (w64 a) (w64 b) = some (w64 (a ||| b)) := by
  simp only [w64, binV, binI, if_true, bits64]
@[simp high] theorem bin64_xor : binV .xor (w64 a) (w64 b) = some (w64 (a ^^^ b)) := by
  simp only [w64, binV, binI, if_true, bits64]
@[simp high] theorem inv64 : invV (w64 a) = some (w64 (~~~a)) := by
  have h := bits64 (BitVec.allOnes 64) a .xor
  have hm : (if IntKind.u64.signed = true then (-1 : Int) else IntKind.u64.max) = ((BitVec.allOnes 64).toNat : Int) := by decide
  simp only [w64, invV, hm, h, BitVec.allOnes_xor]
@[simp high] theorem bin64_eql : binV .eql (w64 a) (w64 b) = some (.bool (a == b)) := by
  simp only [w64, binV, binI, if_true]
  congr 2
  by_cases h : a = b
  · simp [h]
  · have : (a == b) = false := by simp [h]
    rw [this]
    have h2 : a.toNat ≠ b.toNat := fun e => h (BitVec.eq_of_toNat_eq e)
    simp; omega
@[simp high] theorem bin64_neq : binV .neq (w64 a) (w64 b) = some (.bool (a != b)) := by
  have := bin64_eql a b
  simp only [w64, binV, binI, if_true, Option.some.injEq, V.bool.injEq] at this ⊢
  simp only [bne, this]
@[simp high] theorem bin64_lss : binV .lss (w64 a) (w64 b) = some (.bool (decide (a < b))) := by
  simp [w64, BitVec.lt_def]
@[simp high] theorem bin64_leq : binV .leq (w64 a) (w64 b) = some (.bool (decide (a ≤ b))) := by
  simp [w64, BitVec.le_def]
@[simp high] theorem bin64_gtr : binV .gtr (w64 a) (w64 b) = some (.bool (decide (b < a))) := by
  simp [w64, BitVec.lt_def]
@[simp high] theorem bin64_geq : binV .geq (w64 a) (w64 b) = some (.bool (decide (b ≤ a))) := by
  simp [w64, BitVec.le_def]
@[simp high] theorem bin64_shr (k : IntKind) (n : Nat) : binV .shr (w64 a) (.int k (n : Int)) = some (w64 (a >>> n)) := by
  have h0 : ¬ ((n : Int) < 0) := by omega
  simp only [w64, binV, h0, if_false, Int.toNat_natCast]
  congr 2
  rw [shr_nat, BitVec.toNat_ushiftRight]
  congr 1
  by_cases h : n ≤ 64
  · rw [show Nat.min n IntKind.u64.bits = n from Nat.min_eq_left h]
  · rw [show Nat.min n IntKind.u64.bits = 64 from Nat.min_eq_right (by show 64 ≤ n; omega)]
    have h1 := a.isLt
    rw [Nat.shiftRight_eq_div_pow, Nat.shiftRight_eq_div_pow, Nat.div_eq_of_lt h1, Nat.div_eq_of_lt (Nat.lt_of_lt_of_le h1 (Nat.pow_le_pow_right (by omega) (by omega)))]
@[simp high] theorem bin64_shl (k : IntKind) (n : Nat) : binV .shl (w64 a) (.int k (n : Int)) = some (w64 (a <<< n)) := by
  have h0 : ¬ ((n : Int) < 0) := by omega
  simp only [w64, binV, h0, if_false, Int.toNat_natCast, wrap_u64]
  congr 2
  have hp : ((a.toNat : Int) * 2 ^ (Nat.min n IntKind.u64.bits)) = ((a.toNat * 2 ^ (Nat.min n 64) : Nat) : Int) := by
    simp [IntKind.bits]
  rw [hp, BitVec.ofInt_natCast, BitVec.toNat_ofNat, BitVec.toNat_shiftLeft, Nat.shiftLeft_eq]
  by_cases h : n ≤ 64
  · rw [show Nat.min n 64 = n from Nat.min_eq_left h]
  · rw [show Nat.min n 64 = 64 from Nat.min_eq_right (by omega)]
    rw [show n = 64 + (n - 64) by omega, Nat.pow_add, ← Nat.mul_assoc, Nat.mul_right_comm]
    simp
end

@[simp high] theorem bin32_shl_w (a : BitVec 32) (s : BitVec 64) : binV .shl (w32 a) (w64 s) = some (w32 (a <<< s.toNat)) := bin32_shl a .u64 s.toNat
@[simp high] theorem bin32_shr_w (a : BitVec 32) (s : BitVec 64) : binV .shr (w32 a) (w64 s) = some (w32 (a >>> s.toNat)) := bin32_shr a .u64 s.toNat
@[simp high] theorem bin64_shl_w (a : BitVec 64) (s : BitVec 64) : binV .shl (w64 a) (w64 s) = some (w64 (a <<< s.toNat)) := bin64_shl a .u64 s.toNat
@[simp high] theorem bin64_shr_w (a : BitVec 64) (s : BitVec 64) : binV .shr (w64 a) (w64 s) = some (w64 (a >>> s.toNat)) := bin64_shr a .u64 s.toNat

/-! ### one kind as another -/
@[simp high] theorem conv_8_32 (b : UInt8) : convV .u32 (w8 b) = some (w32 (b.toBitVec.setWidth 32)) := by
  simp only [w8, w32, convV, wrap_u32]
  congr 2
  simp [BitVec.ofInt_natCast]
@[simp high] theorem conv_8_64 (b : UInt8) : convV .u64 (w8 b) = some (w64 (b.toBitVec.setWidth 64)) := by
  simp only [w8, w64, convV, wrap_u64]
  congr 2
  simp [BitVec.ofInt_natCast]
@[simp high] theorem conv_32_64 (a : BitVec 32) : convV .u64 (w32 a) = some (w64 (a.setWidth 64)) := by
  simp only [w32, w64, convV, wrap_u64]
  congr 2
  simp [BitVec.ofInt_natCast]
@[simp high] theorem conv_64_32 (a : BitVec 64) : convV .u32 (w64 a) = some (w32 (a.setWidth 32)) := by
  simp only [w32, w64, convV, wrap_u32]
  congr 2
@[simp high] theorem conv_32_8 (a : BitVec 32) : convV .u8 (w32 a) = some (w8 (UInt8.ofBitVec (a.setWidth 8))) := by
  simp only [w32, w8, convV, wrap_u8]
  congr 2
@[simp high] theorem conv_64_8 (a : BitVec 64) : convV .u8 (w64 a) = some (w8 (UInt8.ofBitVec (a.setWidth 8))) := by
  simp only [w64, w8, convV, wrap_u8]
  congr 2
theorem wrap_i64 {n : Int} (h : -9223372036854775808 ≤ n) (h2 : n ≤ 9223372036854775807) : IntKind.i64.wrap n = n := wrap64 h h2
@[simp high] theorem conv_8_i (b : UInt8) : convV .i64 (w8 b) = some (.int .i64 b.toNat) := by
  have := b.toNat_lt
  simp only [w8, convV]
  rw [wrap64 (by omega) (by omega)]
@[simp high] theorem conv_32_i (b : BitVec 32) : convV .i64 (w32 b) = some (.int .i64 b.toNat) := by
  have := b.isLt
  simp only [w32, convV]
  rw [wrap64 (by omega) (by omega)]
@[simp high] theorem conv_64_i (b : BitVec 64) : convV .i64 (w64 b) = some (.int .i64 b.toInt) := by
  simp only [w64, convV, IntKind.wrap, IntKind.bits, IntKind.signed, BitVec.toInt]
  have := b.isLt
  congr 2
  simp
  split <;> split <;> omega
@[simp high] theorem conv_i_8 (n : Int) : convV .u8 (.int .i64 n) = some (w8 (UInt8.ofBitVec (BitVec.ofInt 8 n))) := by
  simp only [convV, w8, wrap_u8]
@[simp high] theorem conv_i_32 (n : Int) : convV .u32 (.int .i64 n) = some (w32 (BitVec.ofInt 32 n)) := by
  simp only [convV, w32, wrap_u32]
@[simp high] theorem conv_i_64 (n : Int) : convV .u64 (.int .i64 n) = some (w64 (BitVec.ofInt 64 n)) := by
  simp only [convV, w64, wrap_u64]
theorem tdiv_nat (a b : Nat) : Int.tdiv (a : Int) (b : Int) = ((a / b : Nat) : Int) := by
  rw [Int.tdiv_eq_ediv_of_nonneg (by omega)]; rfl
theorem tmod_nat (a b : Nat) : Int.tmod (a : Int) (b : Int) = ((a % b : Nat) : Int) := by
  rw [Int.tmod_eq_emod_of_nonneg (by omega)]; rfl
theorem ne_toNat {n : Nat} {b : BitVec n} (h : b ≠ 0#n) : (b.toNat : Int) ≠ 0 := fun e => h (BitVec.eq_of_toNat_eq (by simpa using e))
@[simp high] theorem bin64_quo (a b : BitVec 64) (h : b ≠ 0#64) : binV .quo (w64 a) (w64 b) = some (w64 (a / b)) := by
  simp only [w64, binV, binI, if_true, if_neg (ne_toNat h), tdiv_nat, wrap_u64]
  rw [← BitVec.toNat_udiv, ofInt_nat]
@[simp high] theorem bin64_rem (a b : BitVec 64) (h : b ≠ 0#64) : binV .rem (w64 a) (w64 b) = some (w64 (a % b)) := by
  simp only [w64, binV, binI, if_true, if_neg (ne_toNat h), tmod_nat]
  congr 2
@[simp high] theorem bin32_quo (a b : BitVec 32) (h : b ≠ 0#32) : binV .quo (w32 a) (w32 b) = some (w32 (a / b)) := by
  simp only [w32, binV, binI, if_true, if_neg (ne_toNat h), tdiv_nat, wrap_u32]
  rw [← BitVec.toNat_udiv, ofInt_nat]
@[simp high] theorem bin32_rem (a b : BitVec 32) (h : b ≠ 0#32) : binV .rem (w32 a) (w32 b) = some (w32 (a % b)) := by
  simp only [w32, binV, binI, if_true, if_neg (ne_toNat h), tmod_nat]
  congr 2
end Go.Ab
/-
  Long rows of constants that occur in the codes.
-/
set_option linter.unusedVariables false
namespace Go.Ab
open Go
def zId : List V := [(.int .u8 0), (.int .u8 0), (.int .u8 0), (.int .u8 0), (.int .u8 0), (.int .u8 0), (.int .u8 0), (.int .u8 0), (.int .u8 0), (.int .u8 0), (.int .u8 0), (.int .u8 0), (.int .u8 0), (.int .u8 0), (.int .u8 0), (.int .u8 0), (.int .u8 0), (.int .u8 0), (.int .u8 0), (.int .u8 0), (.int .u8 0), (.int .u8 0), (.int .u8 0), (.int .u8 0), (.int .u8 0), (.int .u8 0), (.int .u8 0), (.int .u8 0), (.int .u8 0), (.int .u8 0), (.int .u8 0), (.int .u8 0)]
@[simp] theorem zId_len : zId.length = 32 := _root_.id rfl
def z106_d5e4 : List V := [(.int .i64 0), (.int .u64 0), (.int .u32 0), (.sl .nil [] 0), (.int .u8 0), (.int .u8 0), (.int .u8 0), (.int .u8 0), (.int .u8 0), (.int .u8 0), (.int .u8 0), (.int .u8 0), (.int .u8 0), (.int .u8 0), (.int .u8 0), (.int .u8 0), (.int .u8 0), (.int .u8 0), (.int .u8 0), (.int .u8 0), (.int .u8 0), (.int .u8 0), (.int .u8 0), (.int .u8 0), (.int .u8 0), (.int .u8 0), (.int .u8 0), (.int .u8 0), (.int .u8 0), (.int .u8 0), (.int .u8 0), (.int .u8 0), (.int .u8 0), (.int .u8 0), (.int .u8 0), (.int .u8 0), (.sl .nil [] 0), (.int .u32 0), (.int .u8 0), (.int .u8 0), (.int .u8 0), (.int .u8 0), (.int .u8 0), (.int .u8 0), (.int .u8 0), (.int .u8 0), (.int .u8 0), (.int .u8 0), (.int .u8 0), (.int .u8 0), (.int .u8 0), (.int .u8 0), (.int .u8 0), (.int .u8 0), (.int .u8 0), (.int .u8 0), (.int .u8 0), (.int .u8 0), (.int .u8 0), (.int .u8 0), (.int .u8 0), (.int .u8 0), (.int .u8 0), (.int .u8 0), (.int .u8 0), (.int .u8 0), (.int .u8 0), (.int .u8 0), (.int .u8 0), (.int .u8 0), (.int .u8 0), (.int .u8 0), (.int .u8 0), (.int .u8 0), (.int .u8 0), (.int .u8 0), (.int .u8 0), (.int .u8 0), (.int .u8 0), (.int .u8 0), (.int .u8 0), (.int .u8 0), (.int .u8 0), (.int .u8 0), (.int .u8 0), (.int .u8 0), (.int .u8 0), (.int .u8 0), (.int .u8 0), (.int .u8 0), (.int .u8 0), (.int .u8 0), (.int .u8 0), (.int .u8 0), (.int .u8 0), (.int .u8 0), (.int .u8 0), (.int .u8 0), (.int .u8 0), (.int .u8 0), (.int .u8 0), (.int .u8 0), (.int .u32 0), (.int .u32 0), (.int .u32 0), (.sl .nil [] 0)]
@[simp] theorem z106_d5e4_len : z106_d5e4.length = 106 := _root_.id rfl
def zR64_w320 : List V := [(w32 0), (w32 0), (w32 0), (w32 0), (w32 0), (w32 0), (w32 0), (w32 0), (w32 0), (w32 0), (w32 0), (w32 0), (w32 0), (w32 0), (w32 0), (w32 0), (w32 0), (w32 0), (w32 0), (w32 0), (w32 0), (w32 0), (w32 0), (w32 0), (w32 0), (w32 0), (w32 0), (w32 0), (w32 0), (w32 0), (w32 0), (w32 0), (w32 0), (w32 0), (w32 0), (w32 0), (w32 0), (w32 0), (w32 0), (w32 0), (w32 0), (w32 0), (w32 0), (w32 0), (w32 0), (w32 0), (w32 0), (w32 0), (w32 0), (w32 0), (w32 0), (w32 0), (w32 0), (w32 0), (w32 0), (w32 0), (w32 0), (w32 0), (w32 0), (w32 0), (w32 0), (w32 0), (w32 0), (w32 0)]
@[simp] theorem zR64_w320_len : zR64_w320.length = 64 := _root_.id rfl
def zR32_w80 : List V := [(w8 0), (w8 0), (w8 0), (w8 0), (w8 0), (w8 0), (w8 0), (w8 0), (w8 0), (w8 0), (w8 0), (w8 0), (w8 0), (w8 0), (w8 0), (w8 0), (w8 0), (w8 0), (w8 0), (w8 0), (w8 0), (w8 0), (w8 0), (w8 0), (w8 0), (w8 0), (w8 0), (w8 0), (w8 0), (w8 0), (w8 0), (w8 0)]
@[simp] theorem zR32_w80_len : zR32_w80.length = 32 := _root_.id rfl
def z68_39b1 : List V := [(w32 0), (w8 0), (w8 0), (w8 0), (w8 0), (w8 0), (w8 0), (w8 0), (w8 0), (w8 0), (w8 0), (w8 0), (w8 0), (w8 0), (w8 0), (w8 0), (w8 0), (w8 0), (w8 0), (w8 0), (w8 0), (w8 0), (w8 0), (w8 0), (w8 0), (w8 0), (w8 0), (w8 0), (w8 0), (w8 0), (w8 0), (w8 0), (w8 0), (w8 0), (w8 0), (w8 0), (w8 0), (w8 0), (w8 0), (w8 0), (w8 0), (w8 0), (w8 0), (w8 0), (w8 0), (w8 0), (w8 0), (w8 0), (w8 0), (w8 0), (w8 0), (w8 0), (w8 0), (w8 0), (w8 0), (w8 0), (w8 0), (w8 0), (w8 0), (w8 0), (w8 0), (w8 0), (w8 0), (w8 0), (w8 0), (w32 0), (w32 0), (w32 0)]
@[simp] theorem z68_39b1_len : z68_39b1.length = 68 := _root_.id rfl
def z76_2d2c : List V := [(w32 0), (.int .i64 0), (.int .i64 0), (.int .i64 0), (.int .i64 0), (w32 0), (w8 0), (w8 0), (w8 0), (w8 0), (w8 0), (w8 0), (w8 0), (w8 0), (w8 0), (w8 0), (w8 0), (w8 0), (w8 0), (w8 0), (w8 0), (w8 0), (w8 0), (w8 0), (w8 0), (w8 0), (w8 0), (w8 0), (w8 0), (w8 0), (w8 0), (w8 0), (w8 0), (w8 0), (w8 0), (w8 0), (w8 0), (w8 0), (w8 0), (w8 0), (w8 0), (w8 0), (w8 0), (w8 0), (w8 0), (w8 0), (w8 0), (w8 0), (w8 0), (w8 0), (w8 0), (w8 0), (w8 0), (w8 0), (w8 0), (w8 0), (w8 0), (w8 0), (w8 0), (w8 0), (w8 0), (w8 0), (w8 0), (w8 0), (w8 0), (w8 0), (w8 0), (w8 0), (w8 0), (w8 0), (w32 0), (w32 0), (w32 0), (.sl .nil [] 0), (.sl .nil [] 0), (.map none)]
@[simp] theorem z76_2d2c_len : z76_2d2c.length = 76 := _root_.id rfl
def z108_9b14 : List V := [(w32 0), (w8 0), (w8 0), (w8 0), (w8 0), (w8 0), (w8 0), (w8 0), (w8 0), (w8 0), (w8 0), (w8 0), (w8 0), (w8 0), (w8 0), (w8 0), (w8 0), (w8 0), (w8 0), (w8 0), (w8 0), (w8 0), (w8 0), (w8 0), (w8 0), (w8 0), (w8 0), (w8 0), (w8 0), (w8 0), (w8 0), (w8 0), (w8 0), (w8 0), (w8 0), (w8 0), (w8 0), (w8 0), (w8 0), (w8 0), (w8 0), (w8 0), (w8 0), (w8 0), (w8 0), (w8 0), (w8 0), (w8 0), (w8 0), (w8 0), (w8 0), (w8 0), (w8 0), (w8 0), (w8 0), (w8 0), (w8 0), (w8 0), (w8 0), (w8 0), (w8 0), (w8 0), (w8 0), (w8 0), (w8 0), (w32 0), (w32 0), (w32 0), (w8 0), (w8 0), (w8 0), (w8 0), (w8 0), (w8 0), (w8 0), (w8 0), (w8 0), (w8 0), (w8 0), (w8 0), (w8 0), (w8 0), (w8 0), (w8 0), (w8 0), (w8 0), (w8 0), (w8 0), (w8 0), (w8 0), (w8 0), (w8 0), (w8 0), (w8 0), (w8 0), (w8 0), (w8 0), (w8 0), (w8 0), (w8 0), (.int .i64 0), (.int .i64 0), (.int .i64 0), (w64 0), (w64 0), (w64 0), (w64 0), (.bool false)]
@[simp] theorem z108_9b14_len : z108_9b14.length = 108 := _root_.id rfl
def z74_2f53 : List V := [(w32 0), (.int .i64 0), (.int .i64 0), (.int .i64 0), (.int .i64 0), (w32 0), (w8 0), (w8 0), (w8 0), (w8 0), (w8 0), (w8 0), (w8 0), (w8 0), (w8 0), (w8 0), (w8 0), (w8 0), (w8 0), (w8 0), (w8 0), (w8 0), (w8 0), (w8 0), (w8 0), (w8 0), (w8 0), (w8 0), (w8 0), (w8 0), (w8 0), (w8 0), (w8 0), (w8 0), (w8 0), (w8 0), (w8 0), (w8 0), (w8 0), (w8 0), (w8 0), (w8 0), (w8 0), (w8 0), (w8 0), (w8 0), (w8 0), (w8 0), (w8 0), (w8 0), (w8 0), (w8 0), (w8 0), (w8 0), (w8 0), (w8 0), (w8 0), (w8 0), (w8 0), (w8 0), (w8 0), (w8 0), (w8 0), (w8 0), (w8 0), (w8 0), (w8 0), (w8 0), (w8 0), (w8 0), (w32 0), (w32 0), (w32 0), (.sl .nil [] 0)]
@[simp] theorem z74_2f53_len : z74_2f53.length = 74 := _root_.id rfl
def z69_adc1 : List V := [(w32 0), (w8 0), (w8 0), (w8 0), (w8 0), (w8 0), (w8 0), (w8 0), (w8 0), (w8 0), (w8 0), (w8 0), (w8 0), (w8 0), (w8 0), (w8 0), (w8 0), (w8 0), (w8 0), (w8 0), (w8 0), (w8 0), (w8 0), (w8 0), (w8 0), (w8 0), (w8 0), (w8 0), (w8 0), (w8 0), (w8 0), (w8 0), (w8 0), (w8 0), (w8 0), (w8 0), (w8 0), (w8 0), (w8 0), (w8 0), (w8 0), (w8 0), (w8 0), (w8 0), (w8 0), (w8 0), (w8 0), (w8 0), (w8 0), (w8 0), (w8 0), (w8 0), (w8 0), (w8 0), (w8 0), (w8 0), (w8 0), (w8 0), (w8 0), (w8 0), (w8 0), (w8 0), (w8 0), (w8 0), (w8 0), (w32 0), (w32 0), (w32 0), (.sl .nil [] 0)]
@[simp] theorem z69_adc1_len : z69_adc1.length = 69 := _root_.id rfl
def z106_9145 : List V := [(.int .i64 0), (w64 0), (w32 0), (.sl .nil [] 0), (w8 0), (w8 0), (w8 0), (w8 0), (w8 0), (w8 0), (w8 0), (w8 0), (w8 0), (w8 0), (w8 0), (w8 0), (w8 0), (w8 0), (w8 0), (w8 0), (w8 0), (w8 0), (w8 0), (w8 0), (w8 0), (w8 0), (w8 0), (w8 0), (w8 0), (w8 0), (w8 0), (w8 0), (w8 0), (w8 0), (w8 0), (w8 0), (.sl .nil [] 0), (w32 0), (w8 0), (w8 0), (w8 0), (w8 0), (w8 0), (w8 0), (w8 0), (w8 0), (w8 0), (w8 0), (w8 0), (w8 0), (w8 0), (w8 0), (w8 0), (w8 0), (w8 0), (w8 0), (w8 0), (w8 0), (w8 0), (w8 0), (w8 0), (w8 0), (w8 0), (w8 0), (w8 0), (w8 0), (w8 0), (w8 0), (w8 0), (w8 0), (w8 0), (w8 0), (w8 0), (w8 0), (w8 0), (w8 0), (w8 0), (w8 0), (w8 0), (w8 0), (w8 0), (w8 0), (w8 0), (w8 0), (w8 0), (w8 0), (w8 0), (w8 0), (w8 0), (w8 0), (w8 0), (w8 0), (w8 0), (w8 0), (w8 0), (w8 0), (w8 0), (w8 0), (w8 0), (w8 0), (w8 0), (w8 0), (w32 0), (w32 0), (w32 0), (.sl .nil [] 0)]
@[simp] theorem z106_9145_len : z106_9145.length = 106 := _root_.id rfl
def z34_1838 : List V := [(w8 0), (w8 0), (w8 0), (w8 0), (w8 0), (w8 0), (w8 0), (w8 0), (w8 0), (w8 0), (w8 0), (w8 0), (w8 0), (w8 0), (w8 0), (w8 0), (w8 0), (w8 0), (w8 0), (w8 0), (w8 0), (w8 0), (w8 0), (w8 0), (w8 0), (w8 0), (w8 0), (w8 0), (w8 0), (w8 0), (w8 0), (w8 0), (w32 0), (.sl .nil [] 0)]
@[simp] theorem z34_1838_len : z34_1838.length = 34 := _root_.id rfl
def z33_0be4 : List V := [(.int .i64 0), (w8 0), (w8 0), (w8 0), (w8 0), (w8 0), (w8 0), (w8 0), (w8 0), (w8 0), (w8 0), (w8 0), (w8 0), (w8 0), (w8 0), (w8 0), (w8 0), (w8 0), (w8 0), (w8 0), (w8 0), (w8 0), (w8 0), (w8 0), (w8 0), (w8 0), (w8 0), (w8 0), (w8 0), (w8 0), (w8 0), (w8 0), (w8 0)]
@[simp] theorem z33_0be4_len : z33_0be4.length = 33 := _root_.id rfl
def z33_1371 : List V := [(w8 0), (w8 0), (w8 0), (w8 0), (w8 0), (w8 0), (w8 0), (w8 0), (w8 0), (w8 0), (w8 0), (w8 0), (w8 0), (w8 0), (w8 0), (w8 0), (w8 0), (w8 0), (w8 0), (w8 0), (w8 0), (w8 0), (w8 0), (w8 0), (w8 0), (w8 0), (w8 0), (w8 0), (w8 0), (w8 0), (w8 0), (w8 0), (w32 0)]
@[simp] theorem z33_1371_len : z33_1371.length = 33 := _root_.id rfl
def z104_1a18 : List V := [(w32 0), (w8 0), (w8 0), (w8 0), (w8 0), (w8 0), (w8 0), (w8 0), (w8 0), (w8 0), (w8 0), (w8 0), (w8 0), (w8 0), (w8 0), (w8 0), (w8 0), (w8 0), (w8 0), (w8 0), (w8 0), (w8 0), (w8 0), (w8 0), (w8 0), (w8 0), (w8 0), (w8 0), (w8 0), (w8 0), (w8 0), (w8 0), (w8 0), (w8 0), (w8 0), (w8 0), (w8 0), (w8 0), (w8 0), (w8 0), (w8 0), (w8 0), (w8 0), (w8 0), (w8 0), (w8 0), (w8 0), (w8 0), (w8 0), (w8 0), (w8 0), (w8 0), (w8 0), (w8 0), (w8 0), (w8 0), (w8 0), (w8 0), (w8 0), (w8 0), (w8 0), (w8 0), (w8 0), (w8 0), (w8 0), (w32 0), (w32 0), (w32 0), (w8 0), (w8 0), (w8 0), (w8 0), (w8 0), (w8 0), (w8 0), (w8 0), (w8 0), (w8 0), (w8 0), (w8 0), (w8 0), (w8 0), (w8 0), (w8 0), (w8 0), (w8 0), (w8 0), (w8 0), (w8 0), (w8 0), (w8 0), (w8 0), (w8 0), (w8 0), (w8 0), (w8 0), (w8 0), (w8 0), (w8 0), (w8 0), (.int .i64 0), (.int .i64 0), (.sl .nil [] 0), (.bool false)]
@[simp] theorem z104_1a18_len : z104_1a18.length = 104 := _root_.id rfl
def z75_1abe : List V := [(.int .i64 0), (.int .i64 0), (.int .i64 0), (.int .i64 0), (.int .i64 0), (w32 0), (.bool false), (w32 0), (w8 0), (w8 0), (w8 0), (w8 0), (w8 0), (w8 0), (w8 0), (w8 0), (w8 0), (w8 0), (w8 0), (w8 0), (w8 0), (w8 0), (w8 0), (w8 0), (w8 0), (w8 0), (w8 0), (w8 0), (w8 0), (w8 0), (w8 0), (w8 0), (w8 0), (w8 0), (w8 0), (w8 0), (w8 0), (w8 0), (w8 0), (w8 0), (w8 0), (w8 0), (w8 0), (w8 0), (w8 0), (w8 0), (w8 0), (w8 0), (w8 0), (w8 0), (w8 0), (w8 0), (w8 0), (w8 0), (w8 0), (w8 0), (w8 0), (w8 0), (w8 0), (w8 0), (w8 0), (w8 0), (w8 0), (w8 0), (w8 0), (w8 0), (w8 0), (w8 0), (w8 0), (w8 0), (w8 0), (w8 0), (w32 0), (w32 0), (w32 0)]
@[simp] theorem z75_1abe_len : z75_1abe.length = 75 := _root_.id rfl
end Go.Ab
/-
  The code of functions of the program in the small language.
-/
set_option linter.unusedVariables false
namespace Go.Ab
open Go
-- regions [0, 1, 2, 3, 5, 6, 7, 9, 10, 8, 4, 11]
/- tallystick/tallystickref02.Of -/
def k121 (F : Fn) : PF := PF.mk 27 1 [(.t 2)] (.seq (.ops [(PO.mk (some 1) (.box (.t 0)) none), (PO.mk (some 2) (.mv (.k (.sl .nil [] 0))) none)]) (.seq (.ops [(PO.mk (some 3) (.mv (.k (.sl .nil [] 0))) none)]) (.seq (.seq (.ops [(PO.mk (some 4) (.mv (.k (.int .i64 0))) none)]) (.block 0 (.loop (.seq (.seq (.ops [(PO.mk (some 7) (.mv (.t 4)) none), (PO.mk (some 8) (.bin .lss (.t 7) (.k (.int .i64 4))) none)]) (.cond (.t 8) .skip (.exit 0))) (.seq (.block 1 (.seq (.ops [(PO.mk (some 11) (.mv (.t 4)) none), (PO.mk (some 12) (.idxArr 4 1 (.t 1) (.t 11)) none), (PO.mk (some 13) (.load false 1 (.t 12)) none), (PO.mk (some 5) (.mv (.t 13)) none)]) (.seq (.ops [(PO.mk (some 6) (.mv (.k (.int .i64 0))) none)]) (.block 2 (.loop (.seq (.seq (.ops [(PO.mk (some 14) (.mv (.t 6)) none), (PO.mk (some 15) (.bin .lss (.t 14) (.k (.int .i64 64))) none)]) (.cond (.t 15) .skip (.exit 2))) (.seq (.block 3 (.seq (.ops [(PO.mk (some 18) (.mv (.t 3)) none), (PO.mk (some 19) (.mv (.t 5)) none), (PO.mk (some 20) (.bin .rem (.t 19) (.k (w64 2))) none), (PO.mk (some 21) (.bin .eql (.t 20) (.k (w64 1))) none), (PO.mk (some 22) (.bsl false 1 1 [(.bool false)] [(0, (1, (.t 21)))]) none), (PO.mk (some 23) (.app 1 1 (.t 18) (.t 22)) none), (PO.mk (some 3) (.mv (.t 23)) none)]) (.ops [(PO.mk (some 24) (.mv (.t 5)) none), (PO.mk (some 25) (.bin .quo (.t 24) (.k (w64 2))) none), (PO.mk (some 5) (.mv (.t 25)) none)]))) (.ops [(PO.mk (some 16) (.mv (.t 6)) none), (PO.mk (some 17) (.bin .add (.t 16) (.k (.int .i64 1))) none), (PO.mk (some 6) (.mv (.t 17)) none)])))))))) (.ops [(PO.mk (some 9) (.mv (.t 4)) none), (PO.mk (some 10) (.bin .add (.t 9) (.k (.int .i64 1))) none), (PO.mk (some 4) (.mv (.t 10)) none)])))))) (.seq (.seq (.frz [3]) (.ops [(PO.mk (some 26) (.mv (.t 3)) none), (PO.mk (some 2) (.mv (.t 26)) none)])) .ret))))
-- regions [0, 1, 2, 3, 4, 6, 7, 8, 9, 10, 5, 11]
/- tallystick/tallystickref02.Words -/
def k122 (F : Fn) : PF := PF.mk 42 1 [(PR.cell 2 true 4), (.t 3)] (.seq (.ops [(PO.mk (some 2) (.alloc [(w64 0), (w64 0), (w64 0), (w64 0)]) none), (PO.mk (some 3) (.mv (.k (.bool false))) none)]) (.seq (.ops [(PO.mk (some 7) (.build [(w64 0), (w64 0), (w64 0), (w64 0)] []) none), (PO.mk (some 4) (.alloc [(w64 0), (w64 0), (w64 0), (w64 0)]) none), (PO.mk none (.store 4 (.t 4) (.t 7)) none)]) (.seq (.ops [(PO.mk (some 5) (.mv (.k (.bool false))) none)]) (.seq (.seq (.ops [(PO.mk (some 8) (.mv (.t 0)) none), (PO.mk (some 9) (.lenSl (.t 8)) none), (PO.mk (some 10) (.bin .sub (.t 9) (.k (.int .i64 1))) none), (PO.mk (some 6) (.mv (.t 10)) none)]) (.block 0 (.loop (.seq (.seq (.ops [(PO.mk (some 11) (.mv (.t 6)) none), (PO.mk (some 12) (.bin .geq (.t 11) (.k (.int .i64 0))) none)]) (.cond (.t 12) .skip (.exit 0))) (.seq (.block 1 (.seq (.seq (.ops [(PO.mk (some 15) (.mv (.t 6)) none), (PO.mk (some 16) (.bin .geq (.t 15) (.k (.int .i64 256))) none)]) (.cond (.t 16) (.seq (.ops [(PO.mk (some 17) (.mv (.t 5)) none), (PO.mk (some 18) (.mv (.t 17)) none), (PO.mk (some 19) (.mv (.t 0)) (some (18, false))), (PO.mk (some 20) (.mv (.t 6)) (some (18, false))), (PO.mk (some 21) (.idxSl 1 (.t 19) (.t 20)) (some (18, false))), (PO.mk (some 22) (.load false 1 (.t 21)) (some (18, false))), (PO.mk (some 23) (.pick (.t 18) (.k (.bool true)) (.t 22)) none), (PO.mk (some 5) (.mv (.t 23)) none)]) (.exit 1)) .skip)) (.seq (.ops [(PO.mk (some 24) (.mv (.t 6)) none), (PO.mk (some 25) (.bin .quo (.t 24) (.k (.int .i64 64))) none), (PO.mk (some 26) (.idxArr 4 1 (.t 4) (.t 25)) none), (PO.mk (some 27) (.load false 1 (.t 26)) none), (PO.mk (some 28) (.bin .mul (.t 27) (.k (w64 2))) none), (PO.mk (some 29) (.idxArr 4 1 (.t 4) (.t 25)) none), (PO.mk none (.store 1 (.t 29) (.t 28)) none)]) (.seq (.ops [(PO.mk (some 30) (.mv (.t 0)) none), (PO.mk (some 31) (.mv (.t 6)) none), (PO.mk (some 32) (.idxSl 1 (.t 30) (.t 31)) none), (PO.mk (some 33) (.load false 1 (.t 32)) none)]) (.cond (.t 33) (.ops [(PO.mk (some 34) (.mv (.t 6)) none), (PO.mk (some 35) (.bin .quo (.t 34) (.k (.int .i64 64))) none), (PO.mk (some 36) (.idxArr 4 1 (.t 4) (.t 35)) none), (PO.mk (some 37) (.load false 1 (.t 36)) none), (PO.mk (some 38) (.bin .add (.t 37) (.k (w64 1))) none), (PO.mk (some 39) (.idxArr 4 1 (.t 4) (.t 35)) none), (PO.mk none (.store 1 (.t 39) (.t 38)) none)]) .skip))))) (.ops [(PO.mk (some 13) (.mv (.t 6)) none), (PO.mk (some 14) (.bin .sub (.t 13) (.k (.int .i64 1))) none), (PO.mk (some 6) (.mv (.t 14)) none)])))))) (.seq (.ops [(PO.mk (some 40) (.load true 4 (.t 4)) none), (PO.mk (some 41) (.mv (.t 5)) none), (PO.mk none (.store 4 (.t 2) (.t 40)) none), (PO.mk (some 3) (.mv (.t 41)) none)]) .ret)))))
-- regions [0, 1]
/- tallystick/tallystickref02.at -/
def k123 (F : Fn) : PF := PF.mk 19 2 [(.t 4)] (.seq (.ops [(PO.mk (some 4) (.mv (.k (.bool false))) none)]) (.seq (.ops [(PO.mk (some 5) (.mv (.t 1)) none), (PO.mk (some 6) (.bin .geq (.t 5) (.k (.int .i64 0))) none), (PO.mk (some 7) (.mv (.t 6)) none), (PO.mk (some 8) (.mv (.t 1)) (some (7, true))), (PO.mk (some 9) (.mv (.t 0)) (some (7, true))), (PO.mk (some 10) (.lenSl (.t 9)) (some (7, true))), (PO.mk (some 11) (.bin .lss (.t 8) (.t 10)) (some (7, true))), (PO.mk (some 12) (.pick (.t 7) (.t 11) (.k (.bool false))) none), (PO.mk (some 13) (.mv (.t 12)) none), (PO.mk (some 14) (.mv (.t 0)) (some (13, true))), (PO.mk (some 15) (.mv (.t 1)) (some (13, true))), (PO.mk (some 16) (.idxSl 1 (.t 14) (.t 15)) (some (13, true))), (PO.mk (some 17) (.load false 1 (.t 16)) (some (13, true))), (PO.mk (some 18) (.pick (.t 13) (.t 17) (.k (.bool false))) none), (PO.mk (some 4) (.mv (.t 18)) none)]) .ret))
-- regions [0, 1, 2, 3, 4, 5, 7, 8, 9, 6, 10]
/- tallystick/tallystickref02.Add -/
def k124 (F : Fn) : PF := PF.mk 50 2 [(.t 4)] (.seq (.ops [(PO.mk (some 4) (.mv (.k (.sl .nil [] 0))) none)]) (.seq (.ops [(PO.mk (some 11) (.mv (.t 0)) none), (PO.mk (some 12) (.lenSl (.t 11)) none), (PO.mk (some 13) (.mv (.t 1)) none), (PO.mk (some 14) (.lenSl (.t 13)) none), (PO.mk (some 15) (.max [(.t 12), (.t 14)]) none), (PO.mk (some 16) (.bin .add (.t 15) (.k (.int .i64 1))) none), (PO.mk (some 5) (.mv (.t 16)) none)]) (.seq (.ops [(PO.mk (some 6) (.mv (.k (.sl .nil [] 0))) none)]) (.seq (.ops [(PO.mk (some 7) (.mv (.k (.bool false))) none)]) (.seq (.seq (.ops [(PO.mk (some 8) (.mv (.k (.int .i64 0))) none)]) (.block 0 (.loop (.seq (.seq (.ops [(PO.mk (some 17) (.mv (.t 8)) none), (PO.mk (some 18) (.mv (.t 5)) none), (PO.mk (some 19) (.bin .lss (.t 17) (.t 18)) none)]) (.cond (.t 19) .skip (.exit 0))) (.seq (.block 1 (.seq (.ops [(PO.mk (some 22) (.mv (.t 0)) none), (PO.mk (some 23) (.mv (.t 8)) none), (PO.mk (some 24) (.call (F 123) [(.t 22), (.t 23)]) none), (PO.mk (some 25) (.mv (.t 1)) none), (PO.mk (some 26) (.mv (.t 8)) none), (PO.mk (some 27) (.call (F 123) [(.t 25), (.t 26)]) none), (PO.mk (some 9) (.mv (.t 24)) none), (PO.mk (some 10) (.mv (.t 27)) none)]) (.seq (.ops [(PO.mk (some 28) (.mv (.t 6)) none), (PO.mk (some 29) (.mv (.t 9)) none), (PO.mk (some 30) (.mv (.t 10)) none), (PO.mk (some 31) (.eqa .bool true (.t 29) (.t 30)) none), (PO.mk (some 32) (.mv (.t 7)) none), (PO.mk (some 33) (.eqa .bool true (.t 31) (.t 32)) none), (PO.mk (some 34) (.bsl false 1 1 [(.bool false)] [(0, (1, (.t 33)))]) none), (PO.mk (some 35) (.app 1 1 (.t 28) (.t 34)) none), (PO.mk (some 6) (.mv (.t 35)) none)]) (.ops [(PO.mk (some 36) (.mv (.t 9)) none), (PO.mk (some 37) (.mv (.t 36)) none), (PO.mk (some 38) (.mv (.t 10)) (some (37, true))), (PO.mk (some 39) (.pick (.t 37) (.t 38) (.k (.bool false))) none), (PO.mk (some 40) (.mv (.t 39)) none), (PO.mk (some 41) (.mv (.t 7)) (some (40, false))), (PO.mk (some 42) (.mv (.t 41)) (some (40, false))), (PO.mk (some 43) (.mv (.t 9)) (some (42, true))), (PO.mk (some 44) (.mv (.t 43)) (some (42, true))), (PO.mk (some 45) (.mv (.t 10)) (some (44, false))), (PO.mk (some 46) (.pick (.t 44) (.k (.bool true)) (.t 45)) (some (42, true))), (PO.mk (some 47) (.pick (.t 42) (.t 46) (.k (.bool false))) (some (40, false))), (PO.mk (some 48) (.pick (.t 40) (.k (.bool true)) (.t 47)) none), (PO.mk (some 7) (.mv (.t 48)) none)])))) (.ops [(PO.mk (some 20) (.mv (.t 8)) none), (PO.mk (some 21) (.bin .add (.t 20) (.k (.int .i64 1))) none), (PO.mk (some 8) (.mv (.t 21)) none)])))))) (.seq (.seq (.frz [6]) (.ops [(PO.mk (some 49) (.mv (.t 6)) none), (PO.mk (some 4) (.mv (.t 49)) none)])) .ret))))))
-- regions [0, 1, 2, 4, 5, 3, 6]
/- tallystick/tallystickref02.Less -/
def k125 (F : Fn) : PF := PF.mk 26 2 [(.t 4)] (.seq (.ops [(PO.mk (some 4) (.mv (.k (.bool false))) none)]) (.seq (.seq (.ops [(PO.mk (some 6) (.mv (.t 0)) none), (PO.mk (some 7) (.lenSl (.t 6)) none), (PO.mk (some 8) (.mv (.t 1)) none), (PO.mk (some 9) (.lenSl (.t 8)) none), (PO.mk (some 10) (.max [(.t 7), (.t 9)]) none), (PO.mk (some 11) (.bin .sub (.t 10) (.k (.int .i64 1))) none), (PO.mk (some 5) (.mv (.t 11)) none)]) (.block 0 (.loop (.seq (.seq (.ops [(PO.mk (some 12) (.mv (.t 5)) none), (PO.mk (some 13) (.bin .geq (.t 12) (.k (.int .i64 0))) none)]) (.cond (.t 13) .skip (.exit 0))) (.seq (.block 1 (.seq (.ops [(PO.mk (some 16) (.mv (.t 0)) none), (PO.mk (some 17) (.mv (.t 5)) none), (PO.mk (some 18) (.call (F 123) [(.t 16), (.t 17)]) none), (PO.mk (some 19) (.mv (.t 1)) none), (PO.mk (some 20) (.mv (.t 5)) none), (PO.mk (some 21) (.call (F 123) [(.t 19), (.t 20)]) none), (PO.mk (some 22) (.eqa .bool true (.t 18) (.t 21)) none)]) (.cond (.t 22) (.seq (.ops [(PO.mk (some 23) (.mv (.t 1)) none), (PO.mk (some 24) (.mv (.t 5)) none), (PO.mk (some 25) (.call (F 123) [(.t 23), (.t 24)]) none), (PO.mk (some 4) (.mv (.t 25)) none)]) .ret) .skip))) (.ops [(PO.mk (some 14) (.mv (.t 5)) none), (PO.mk (some 15) (.bin .sub (.t 14) (.k (.int .i64 1))) none), (PO.mk (some 5) (.mv (.t 15)) none)])))))) (.seq (.ops [(PO.mk (some 4) (.mv (.k (.bool false))) none)]) .ret)))
-- regions [0, 1, 2, 3, 4, 6, 7, 8, 5, 9]
/- tallystick/tallystickref02.Sub -/
def k126 (F : Fn) : PF := PF.mk 45 2 [(.t 4), (.t 5)] (.seq (.ops [(PO.mk (some 4) (.mv (.k (.sl .nil [] 0))) none), (PO.mk (some 5) (.mv (.k (.bool false))) none)]) (.seq (.ops [(PO.mk (some 6) (.mv (.k (.sl .nil [] 0))) none)]) (.seq (.ops [(PO.mk (some 7) (.mv (.k (.bool false))) none)]) (.seq (.seq (.ops [(PO.mk (some 8) (.mv (.k (.int .i64 0))) none)]) (.block 0 (.loop (.seq (.seq (.ops [(PO.mk (some 11) (.mv (.t 8)) none), (PO.mk (some 12) (.bin .lss (.t 11) (.k (.int .i64 256))) none)]) (.cond (.t 12) .skip (.exit 0))) (.seq (.block 1 (.seq (.ops [(PO.mk (some 15) (.mv (.t 0)) none), (PO.mk (some 16) (.mv (.t 8)) none), (PO.mk (some 17) (.call (F 123) [(.t 15), (.t 16)]) none), (PO.mk (some 18) (.mv (.t 1)) none), (PO.mk (some 19) (.mv (.t 8)) none), (PO.mk (some 20) (.call (F 123) [(.t 18), (.t 19)]) none), (PO.mk (some 9) (.mv (.t 17)) none), (PO.mk (some 10) (.mv (.t 20)) none)]) (.seq (.ops [(PO.mk (some 21) (.mv (.t 6)) none), (PO.mk (some 22) (.mv (.t 9)) none), (PO.mk (some 23) (.mv (.t 10)) none), (PO.mk (some 24) (.eqa .bool true (.t 22) (.t 23)) none), (PO.mk (some 25) (.mv (.t 7)) none), (PO.mk (some 26) (.eqa .bool true (.t 24) (.t 25)) none), (PO.mk (some 27) (.bsl false 1 1 [(.bool false)] [(0, (1, (.t 26)))]) none), (PO.mk (some 28) (.app 1 1 (.t 21) (.t 27)) none), (PO.mk (some 6) (.mv (.t 28)) none)]) (.ops [(PO.mk (some 29) (.mv (.t 9)) none), (PO.mk (some 30) (.not (.t 29)) none), (PO.mk (some 31) (.mv (.t 30)) none), (PO.mk (some 32) (.mv (.t 10)) (some (31, true))), (PO.mk (some 33) (.mv (.t 32)) (some (31, true))), (PO.mk (some 34) (.mv (.t 7)) (some (33, false))), (PO.mk (some 35) (.pick (.t 33) (.k (.bool true)) (.t 34)) (some (31, true))), (PO.mk (some 36) (.pick (.t 31) (.t 35) (.k (.bool false))) none), (PO.mk (some 37) (.mv (.t 36)) none), (PO.mk (some 38) (.mv (.t 10)) (some (37, false))), (PO.mk (some 39) (.mv (.t 38)) (some (37, false))), (PO.mk (some 40) (.mv (.t 7)) (some (39, true))), (PO.mk (some 41) (.pick (.t 39) (.t 40) (.k (.bool false))) (some (37, false))), (PO.mk (some 42) (.pick (.t 37) (.k (.bool true)) (.t 41)) none), (PO.mk (some 7) (.mv (.t 42)) none)])))) (.ops [(PO.mk (some 13) (.mv (.t 8)) none), (PO.mk (some 14) (.bin .add (.t 13) (.k (.int .i64 1))) none), (PO.mk (some 8) (.mv (.t 14)) none)])))))) (.seq (.seq (.frz [6]) (.ops [(PO.mk (some 43) (.mv (.t 6)) none), (PO.mk (some 44) (.mv (.t 7)) none), (PO.mk (some 4) (.mv (.t 43)) none), (PO.mk (some 5) (.mv (.t 44)) none)])) .ret)))))
-- regions [0, 1, 2, 3, 5, 4, 6]
/- tallystick/tallystickref02.Shift -/
def k127 (F : Fn) : PF := PF.mk 24 2 [(.t 4)] (.seq (.ops [(PO.mk (some 4) (.mv (.k (.sl .nil [] 0))) none)]) (.seq (.ops [(PO.mk (some 5) (.mv (.k (.sl .nil [] 0))) none)]) (.seq (.seq (.ops [(PO.mk (some 6) (.mv (.k (.int .i64 0))) none)]) (.block 0 (.loop (.seq (.seq (.ops [(PO.mk (some 7) (.mv (.t 6)) none), (PO.mk (some 8) (.mv (.t 0)) none), (PO.mk (some 9) (.lenSl (.t 8)) none), (PO.mk (some 10) (.mv (.t 1)) none), (PO.mk (some 11) (.bin .add (.t 9) (.t 10)) none), (PO.mk (some 12) (.bin .lss (.t 7) (.t 11)) none)]) (.cond (.t 12) .skip (.exit 0))) (.seq (.block 1 (.ops [(PO.mk (some 15) (.mv (.t 5)) none), (PO.mk (some 16) (.mv (.t 0)) none), (PO.mk (some 17) (.mv (.t 6)) none), (PO.mk (some 18) (.mv (.t 1)) none), (PO.mk (some 19) (.bin .sub (.t 17) (.t 18)) none), (PO.mk (some 20) (.call (F 123) [(.t 16), (.t 19)]) none), (PO.mk (some 21) (.bsl false 1 1 [(.bool false)] [(0, (1, (.t 20)))]) none), (PO.mk (some 22) (.app 1 1 (.t 15) (.t 21)) none), (PO.mk (some 5) (.mv (.t 22)) none)])) (.ops [(PO.mk (some 13) (.mv (.t 6)) none), (PO.mk (some 14) (.bin .add (.t 13) (.k (.int .i64 1))) none), (PO.mk (some 6) (.mv (.t 14)) none)])))))) (.seq (.ops [(PO.mk (some 23) (.mv (.t 5)) none), (PO.mk (some 4) (.mv (.t 23)) none)]) .ret))))
-- regions [0, 1, 2, 3, 5, 6, 4, 7]
/- tallystick/tallystickref02.Mul -/
def k128 (F : Fn) : PF := PF.mk 23 2 [(.t 4)] (.seq (.ops [(PO.mk (some 4) (.mv (.k (.sl .nil [] 0))) none)]) (.seq (.ops [(PO.mk (some 5) (.mv (.k (.sl .nil [] 0))) none)]) (.seq (.seq (.ops [(PO.mk (some 6) (.mv (.k (.int .i64 0))) none)]) (.block 0 (.loop (.seq (.seq (.ops [(PO.mk (some 7) (.mv (.t 6)) none), (PO.mk (some 8) (.mv (.t 1)) none), (PO.mk (some 9) (.lenSl (.t 8)) none), (PO.mk (some 10) (.bin .lss (.t 7) (.t 9)) none)]) (.cond (.t 10) .skip (.exit 0))) (.seq (.block 1 (.seq (.ops [(PO.mk (some 13) (.mv (.t 1)) none), (PO.mk (some 14) (.mv (.t 6)) none), (PO.mk (some 15) (.idxSl 1 (.t 13) (.t 14)) none), (PO.mk (some 16) (.load false 1 (.t 15)) none)]) (.cond (.t 16) (.ops [(PO.mk (some 17) (.mv (.t 5)) none), (PO.mk (some 18) (.mv (.t 0)) none), (PO.mk (some 19) (.mv (.t 6)) none), (PO.mk (some 20) (.call (F 127) [(.t 18), (.t 19)]) none), (PO.mk (some 21) (.call (F 124) [(.t 17), (.t 20)]) none), (PO.mk (some 5) (.mv (.t 21)) none)]) .skip))) (.ops [(PO.mk (some 11) (.mv (.t 6)) none), (PO.mk (some 12) (.bin .add (.t 11) (.k (.int .i64 1))) none), (PO.mk (some 6) (.mv (.t 12)) none)])))))) (.seq (.ops [(PO.mk (some 22) (.mv (.t 5)) none), (PO.mk (some 4) (.mv (.t 22)) none)]) .ret))))
-- regions [0, 1, 2, 3, 4, 6, 7, 8, 9, 10, 11, 12, 5, 13]
/- tallystick/tallystickref02.Div -/
def k129 (F : Fn) : PF := PF.mk 46 2 [(.t 4), (.t 5)] (.seq (.ops [(PO.mk (some 4) (.mv (.k (.sl .nil [] 0))) none), (PO.mk (some 5) (.mv (.k (.sl .nil [] 0))) none)]) (.seq (.ops [(PO.mk (some 9) (.mv (.t 0)) none), (PO.mk (some 10) (.lenSl (.t 9)) none), (PO.mk (some 11) (.mksl true 1 1 [(.bool false)] (.t 10) (.t 10)) none), (PO.mk (some 6) (.mv (.t 11)) none)]) (.seq (.ops [(PO.mk (some 7) (.mv (.k (.sl .nil [] 0))) none)]) (.seq (.seq (.ops [(PO.mk (some 12) (.mv (.t 0)) none), (PO.mk (some 13) (.lenSl (.t 12)) none), (PO.mk (some 14) (.bin .sub (.t 13) (.k (.int .i64 1))) none), (PO.mk (some 8) (.mv (.t 14)) none)]) (.block 0 (.loop (.seq (.seq (.ops [(PO.mk (some 15) (.mv (.t 8)) none), (PO.mk (some 16) (.bin .geq (.t 15) (.k (.int .i64 0))) none)]) (.cond (.t 16) .skip (.exit 0))) (.seq (.block 1 (.seq (.ops [(PO.mk (some 19) (.mv (.t 7)) none), (PO.mk (some 20) (.call (F 127) [(.t 19), (.k (.int .i64 1))]) none), (PO.mk (some 7) (.mv (.t 20)) none)]) (.seq (.seq (.ops [(PO.mk (some 21) (.mv (.t 7)) none), (PO.mk (some 22) (.lenSl (.t 21)) none), (PO.mk (some 23) (.bin .eql (.t 22) (.k (.int .i64 0))) none)]) (.cond (.t 23) (.ops [(PO.mk (some 24) (.bsl true 1 1 [(.bool false)] [(0, (1, (.k (.bool false))))]) none), (PO.mk (some 7) (.mv (.t 24)) none)]) .skip)) (.seq (.ops [(PO.mk (some 25) (.mv (.t 7)) none), (PO.mk (some 26) (.mv (.t 0)) none), (PO.mk (some 27) (.mv (.t 8)) none), (PO.mk (some 28) (.idxSl 1 (.t 26) (.t 27)) none), (PO.mk (some 29) (.load false 1 (.t 28)) none), (PO.mk (some 30) (.idxSl 1 (.t 25) (.k (.int .i64 0))) none), (PO.mk none (.store 1 (.t 30) (.t 29)) none)]) (.seq (.ops [(PO.mk (some 31) (.mv (.t 7)) none), (PO.mk (some 32) (.mv (.t 1)) none), (PO.mk (some 33) (.call (F 125) [(.t 31), (.t 32)]) none), (PO.mk (some 34) (.not (.t 33)) none)]) (.cond (.t 34) (.seq (.ops [(PO.mk (some 35) (.mv (.t 6)) none), (PO.mk (some 36) (.mv (.t 8)) none), (PO.mk (some 37) (.idxSl 1 (.t 35) (.t 36)) none), (PO.mk none (.store 1 (.t 37) (.k (.bool true))) none)]) (.ops [(PO.mk (some 39) (.mv (.t 7)) none), (PO.mk (some 40) (.mv (.t 1)) none), (PO.mk (some 41) (.call (F 126) [(.t 39), (.t 40)]) none), (PO.mk (some 38) (.mv (.t 41)) none), (PO.mk (some 42) (.ext 0 (.t 38)) none), (PO.mk (some 43) (.ext 1 (.t 38)) none), (PO.mk (some 7) (.mv (.t 42)) none)])) .skip)))))) (.ops [(PO.mk (some 17) (.mv (.t 8)) none), (PO.mk (some 18) (.bin .sub (.t 17) (.k (.int .i64 1))) none), (PO.mk (some 8) (.mv (.t 18)) none)])))))) (.seq (.seq (.frz [6, 7]) (.ops [(PO.mk (some 44) (.mv (.t 6)) none), (PO.mk (some 45) (.mv (.t 7)) none), (PO.mk (some 4) (.mv (.t 44)) none), (PO.mk (some 5) (.mv (.t 45)) none)])) .ret)))))
structure OkRef02 (P : Program) (F : Fn) : Prop where
  mixed : P.follows .mixedOrders = true
  h121 : compFn P ⟨[], [], [(11, [3])], [], []⟩ (F 121) = some (k121 F)
  h122 : compFn P ⟨[], [], [], [], []⟩ (F 122) = some (k122 F)
  h123 : compFn P ⟨[], [], [], [], []⟩ (F 123) = some (k123 F)
  h124 : compFn P ⟨[], [], [(10, [6])], [], []⟩ (F 124) = some (k124 F)
  h125 : compFn P ⟨[], [], [], [], []⟩ (F 125) = some (k125 F)
  h126 : compFn P ⟨[], [], [(9, [6])], [], []⟩ (F 126) = some (k126 F)
  h127 : compFn P ⟨[], [], [], [], []⟩ (F 127) = some (k127 F)
  h128 : compFn P ⟨[], [], [], [], []⟩ (F 128) = some (k128 F)
  h129 : compFn P ⟨[11, 24], [], [(13, [6, 7])], [], []⟩ (F 129) = some (k129 F)
end Go.Ab
/-
  Numbers of 256 bits as four words; sums, differences, products of words.
-/
set_option linter.unusedSimpArgs false
set_option linter.unusedVariables false
namespace Go.Ab
open Go Go.RowKit

abbrev W := BitVec 64
abbrev U := BitVec 256
def u4 (a b c d : W) : U := BitVec.ofNat 256 (a.toNat + b.toNat * 18446744073709551616 + c.toNat * 340282366920938463463374607431768211456 + d.toNat * 6277101735386680763835789423207666416102355444464034512896)
theorem u4_nat (a b c d : W) : (u4 a b c d).toNat = a.toNat + b.toNat * 18446744073709551616 + c.toNat * 340282366920938463463374607431768211456 + d.toNat * 6277101735386680763835789423207666416102355444464034512896 := by
  have := a.isLt; have := b.isLt; have := c.isLt; have := d.isLt
  rw [u4, BitVec.toNat_ofNat]
  exact Nat.mod_eq_of_lt (by omega)
/-- The i-th word of a number. -/
def limb (x : U) (i : Nat) : W := BitVec.ofNat 64 (x.toNat / 18446744073709551616 ^ i)
theorem limb_nat (x : U) (i : Nat) : (limb x i).toNat = x.toNat / 18446744073709551616 ^ i % 18446744073709551616 := by
  rw [limb, BitVec.toNat_ofNat]
theorem u4_limb (x : U) : u4 (limb x 0) (limb x 1) (limb x 2) (limb x 3) = x := by
  apply BitVec.eq_of_toNat_eq
  have := x.isLt
  rw [u4_nat, limb_nat, limb_nat, limb_nat, limb_nat]
  omega
theorem exists_u4 (x : U) : ∃ a b c d, x = u4 a b c d := ⟨_, _, _, _, (u4_limb x).symm⟩
theorem limb0 (a b c d : W) : limb (u4 a b c d) 0 = a := by
  apply BitVec.eq_of_toNat_eq
  have := a.isLt; have := b.isLt; have := c.isLt; have := d.isLt
  rw [limb_nat, u4_nat]; omega
theorem limb1 (a b c d : W) : limb (u4 a b c d) 1 = b := by
  apply BitVec.eq_of_toNat_eq
  have := a.isLt; have := b.isLt; have := c.isLt; have := d.isLt
  rw [limb_nat, u4_nat]; omega
theorem limb2 (a b c d : W) : limb (u4 a b c d) 2 = c := by
  apply BitVec.eq_of_toNat_eq
  have := a.isLt; have := b.isLt; have := c.isLt; have := d.isLt
  rw [limb_nat, u4_nat]; omega
theorem limb3 (a b c d : W) : limb (u4 a b c d) 3 = d := by
  apply BitVec.eq_of_toNat_eq
  have := a.isLt; have := b.isLt; have := c.isLt; have := d.isLt
  rw [limb_nat, u4_nat]; omega
theorem u4_inj {a b c d a' b' c' d' : W} (h : u4 a b c d = u4 a' b' c' d') : a = a' ∧ b = b' ∧ c = c' ∧ d = d' := by
  refine ⟨?_, ?_, ?_, ?_⟩
  · have := congrArg (limb · 0) h; simpa [limb0] using this
  · have := congrArg (limb · 1) h; simpa [limb1] using this
  · have := congrArg (limb · 2) h; simpa [limb2] using this
  · have := congrArg (limb · 3) h; simpa [limb3] using this

/-- A number's cells. -/
def eU (x : U) : List V := [w64 (limb x 0), w64 (limb x 1), w64 (limb x 2), w64 (limb x 3)]
theorem eU_len (x : U) : (eU x).length = 4 := rfl
theorem eU_u4 (a b c d : W) : eU (u4 a b c d) = [w64 a, w64 b, w64 c, w64 d] := by simp [eU, limb0, limb1, limb2, limb3]
def nU (x : U) : V := .agg (eU x)

def natU (n : Nat) : U := BitVec.ofNat 256 n
theorem natU_nat {n : Nat} (h : n < 2 ^ 256) : (natU n).toNat = n := by
  rw [natU, BitVec.toNat_ofNat]; exact Nat.mod_eq_of_lt h

/-! ### words -/
theorem top64 (x : W) : x.getLsbD 63 = decide (9223372036854775808 ≤ x.toNat) := by
  rw [← BitVec.msb_eq_getLsbD_last, BitVec.msb_eq_decide]
theorem shr63 (x : W) : x >>> 63 = if x.getLsbD 63 then 1#64 else 0#64 := by
  apply BitVec.eq_of_toNat_eq
  have := x.isLt
  rw [BitVec.toNat_ushiftRight, Nat.shiftRight_eq_div_pow, top64]
  by_cases h : 9223372036854775808 ≤ x.toNat
  · rw [decide_eq_true h, if_pos rfl]
    show x.toNat / 9223372036854775808 = 1
    omega
  · rw [decide_eq_false h]
    show x.toNat / 9223372036854775808 = 0
    omega

def b64 (b : Bool) : W := if b then 1#64 else 0#64
theorem b64_nat (b : Bool) : (b64 b).toNat = if b then 1 else 0 := by cases b <;> rfl

/-- What bits.Add64 gives. -/
def sum64 (x y : W) (c : Bool) : W := x + y + b64 c
def car64 (x y : W) (c : Bool) : Bool := decide (18446744073709551616 ≤ x.toNat + y.toNat + (if c then 1 else 0))
theorem sum64_nat (x y : W) (c : Bool) : (sum64 x y c).toNat = (x.toNat + y.toNat + (if c then 1 else 0)) % 18446744073709551616 := by
  rw [sum64, BitVec.toNat_add, BitVec.toNat_add, b64_nat]
  show ((x.toNat + y.toNat) % 18446744073709551616 + _) % 18446744073709551616 = _
  omega
theorem add64_carry (x y : W) (c : Bool) : ((x &&& y) ||| ((x ||| y) &&& ~~~(x + y + b64 c))) >>> 63 = b64 (car64 x y c) := by
  have h1 := x.isLt
  have h2 := y.isLt
  have hs := sum64_nat x y c
  rw [shr63]
  unfold b64 at *
  congr 1
  simp only [BitVec.getLsbD_or, BitVec.getLsbD_and, BitVec.getLsbD_not]
  rw [top64 x, top64 y, top64 (x + y + _)]
  rw [show x + y + (if c = true then 1#64 else 0#64) = sum64 x y c from rfl, hs]
  unfold car64
  rw [Bool.eq_iff_iff]
  have h63 : (63 : Nat) < 64 := by omega
  simp only [h63, decide_true, Bool.true_and, Bool.or_eq_true, Bool.and_eq_true, Bool.not_eq_true', decide_eq_true_eq, decide_eq_false_iff_not, eq_iff_iff]
  cases c <;> simp <;> omega

/-- What bits.Sub64 gives. -/
def dif64 (x y : W) (c : Bool) : W := x - y - b64 c
def bor64 (x y : W) (c : Bool) : Bool := decide (x.toNat < y.toNat + (if c then 1 else 0))
theorem dif64_nat (x y : W) (c : Bool) : (dif64 x y c).toNat = (36893488147419103232 + x.toNat - y.toNat - (if c then 1 else 0)) % 18446744073709551616 := by
  have h1 := x.isLt
  have h2 := y.isLt
  rw [dif64, BitVec.toNat_sub, BitVec.toNat_sub, b64_nat]
  show (18446744073709551616 - _ + (18446744073709551616 - y.toNat + x.toNat) % 18446744073709551616) % 18446744073709551616 = _
  cases c <;> simp <;> omega
theorem sub64_borrow (x y : W) (c : Bool) : ((~~~x &&& y) ||| (~~~(x ^^^ y) &&& (x - y - b64 c))) >>> 63 = b64 (bor64 x y c) := by
  have h1 := x.isLt
  have h2 := y.isLt
  have hs := dif64_nat x y c
  rw [shr63]
  unfold b64 at *
  congr 1
  simp only [BitVec.getLsbD_or, BitVec.getLsbD_and, BitVec.getLsbD_not, BitVec.getLsbD_xor]
  rw [top64 x, top64 y, top64 (x - y - _)]
  rw [show x - y - (if c = true then 1#64 else 0#64) = dif64 x y c from rfl, hs]
  unfold bor64
  rw [Bool.eq_iff_iff]
  have h63 : (63 : Nat) < 64 := by omega
  simp only [h63, decide_true, Bool.true_and, Bool.or_eq_true, Bool.and_eq_true, Bool.not_eq_true', decide_eq_true_eq, decide_eq_false_iff_not, eq_iff_iff]
  by_cases e1 : 9223372036854775808 ≤ x.toNat <;> by_cases e2 : 9223372036854775808 ≤ y.toNat <;> cases c <;> simp [e1, e2] <;> omega

/-- What bits.Mul64 gives. -/
def mulhi (x y : W) : W := BitVec.ofNat 64 (x.toNat * y.toNat / 18446744073709551616)
theorem mul64_hi (x y : W) : (x >>> 32) * (y >>> 32) + (((x >>> 32) * (y &&& 4294967295#64) + ((x &&& 4294967295#64) * (y &&& 4294967295#64)) >>> 32) >>> 32) + ((((x >>> 32) * (y &&& 4294967295#64) + ((x &&& 4294967295#64) * (y &&& 4294967295#64)) >>> 32) &&& 4294967295#64) + (x &&& 4294967295#64) * (y >>> 32)) >>> 32 = mulhi x y := by
  have hand : ∀ z : W, (z &&& 4294967295#64).toNat = z.toNat % 4294967296 := fun z => by
    rw [BitVec.toNat_and]
    exact Nat.and_two_pow_sub_one_eq_mod z.toNat 32
  have hshr : ∀ z : W, (z >>> 32).toNat = z.toNat / 4294967296 := fun z => by
    rw [BitVec.toNat_ushiftRight, Nat.shiftRight_eq_div_pow]
  have h1 := x.isLt
  have h2 := y.isLt
  apply BitVec.eq_of_toNat_eq
  simp only [BitVec.toNat_add, BitVec.toNat_mul, hand, hshr, mulhi, BitVec.toNat_ofNat]
  obtain ⟨x0, hx0⟩ : ∃ a, a = x.toNat % 4294967296 := ⟨_, rfl⟩
  obtain ⟨x1, hx1⟩ : ∃ a, a = x.toNat / 4294967296 := ⟨_, rfl⟩
  obtain ⟨y0, hy0⟩ : ∃ a, a = y.toNat % 4294967296 := ⟨_, rfl⟩
  obtain ⟨y1, hy1⟩ : ∃ a, a = y.toNat / 4294967296 := ⟨_, rfl⟩
  have ex : x.toNat = x1 * 4294967296 + x0 := by omega
  have ey : y.toNat = y1 * 4294967296 + y0 := by omega
  rw [← hx0, ← hx1, ← hy0, ← hy1, ex, ey]
  have bx0 : x0 ≤ 4294967295 := by omega
  have bx1 : x1 ≤ 4294967295 := by omega
  have by0 : y0 ≤ 4294967295 := by omega
  have by1 : y1 ≤ 4294967295 := by omega
  have p00 := Nat.mul_le_mul bx0 by0
  have p01 := Nat.mul_le_mul bx0 by1
  have p10 := Nat.mul_le_mul bx1 by0
  have p11 := Nat.mul_le_mul bx1 by1
  have e : (x1 * 4294967296 + x0) * (y1 * 4294967296 + y0) = x1 * y1 * 18446744073709551616 + x1 * y0 * 4294967296 + x0 * y1 * 4294967296 + x0 * y0 := by
    rw [Nat.add_mul, Nat.mul_add, Nat.mul_add]
    have a1 : x1 * 4294967296 * (y1 * 4294967296) = x1 * y1 * 18446744073709551616 := by
      rw [Nat.mul_mul_mul_comm]
    have a2 : x1 * 4294967296 * y0 = x1 * y0 * 4294967296 := by rw [Nat.mul_right_comm]
    have a3 : x0 * (y1 * 4294967296) = x0 * y1 * 4294967296 := by rw [Nat.mul_assoc]
    omega
  rw [e]
  generalize x0 * y0 = q00 at *
  generalize x0 * y1 = q01 at *
  generalize x1 * y0 = q10 at *
  generalize x1 * y1 = q11 at *
  show ((q11 % 18446744073709551616 + ((q10 % 18446744073709551616 + q00 % 18446744073709551616 / 4294967296) % 18446744073709551616 / 4294967296)) % 18446744073709551616 + ((q10 % 18446744073709551616 + q00 % 18446744073709551616 / 4294967296) % 18446744073709551616 % 4294967296 + q01 % 18446744073709551616) % 18446744073709551616 / 4294967296) % 18446744073709551616 = (q11 * 18446744073709551616 + q10 * 4294967296 + q01 * 4294967296 + q00) / 18446744073709551616 % 18446744073709551616
  omega
end Go.Ab
/-
  Numbers as lists of bits, the lowest first.
-/
set_option linter.unusedSimpArgs false
set_option linter.unusedVariables false
namespace Go.Ab
open Go Go.RowKit

def eB (b : Bool) : List V := [.bool b]
theorem eB_len (b : Bool) : (eB b).length = 1 := rfl
def valB : List Bool → Nat
  | [] => 0
  | b :: l => b.toNat + 2 * valB l
def bitsN : Nat → Nat → List Bool
  | 0, _ => []
  | n + 1, v => (v % 2 == 1) :: bitsN n (v / 2)
def atB (l : List Bool) (i : Nat) : Bool := l.getD i false

theorem bitsN_len : ∀ n v, (bitsN n v).length = n
  | 0, _ => rfl
  | n + 1, v => by simp [bitsN, bitsN_len n]
theorem valB_lt : ∀ l : List Bool, valB l < 2 ^ l.length
  | [] => by simp [valB]
  | b :: l => by
    have := valB_lt l
    have hb : b.toNat ≤ 1 := by cases b <;> simp
    simp only [valB, List.length_cons, Nat.pow_succ]
    omega
theorem mod_toNat (v : Nat) : (v % 2 == 1).toNat = v % 2 := by
  have : v % 2 = 0 ∨ v % 2 = 1 := by omega
  rcases this with h | h <;> simp [h]
theorem valB_bitsN : ∀ n v, valB (bitsN n v) = v % 2 ^ n
  | 0, v => by simp [bitsN, valB, Nat.mod_one]
  | n + 1, v => by
    rw [bitsN, valB, valB_bitsN n, mod_toNat, Nat.pow_succ, Nat.mul_comm (2 ^ n) 2, Nat.mod_mul]
theorem bitsN_valB : ∀ l : List Bool, bitsN l.length (valB l) = l
  | [] => rfl
  | b :: l => by
    have ih := bitsN_valB l
    have hb : b.toNat ≤ 1 := by cases b <;> simp
    simp only [List.length_cons, bitsN, valB]
    rw [show (b.toNat + 2 * valB l) / 2 = valB l by omega, ih]
    congr 1
    rw [show (b.toNat + 2 * valB l) % 2 = b.toNat by omega]
    cases b <;> rfl
theorem valB_append : ∀ a b : List Bool, valB (a ++ b) = valB a + 2 ^ a.length * valB b
  | [], b => by simp [valB]
  | x :: a, b => by
    have ih := valB_append a b
    simp only [List.cons_append, valB, ih, List.length_cons, Nat.pow_succ]
    rw [Nat.mul_add, ← Nat.mul_assoc, Nat.mul_comm 2 (2 ^ a.length)]
    omega
theorem valB_zeros (n : Nat) : valB (List.replicate n false) = 0 := by
  induction n with
  | zero => rfl
  | succ n ih => simp [List.replicate_succ, valB, ih]
theorem bitsN_add (n m v : Nat) : bitsN (n + m) v = bitsN n v ++ bitsN m (v / 2 ^ n) := by
  induction n generalizing v with
  | zero => simp [bitsN]
  | succ n ih =>
    rw [Nat.succ_add, bitsN, ih, bitsN, List.cons_append, Nat.pow_succ, Nat.mul_comm (2 ^ n) 2, Nat.div_div_eq_div_mul]
theorem bitsN_snoc (n v : Nat) : bitsN (n + 1) v = bitsN n v ++ [(v / 2 ^ n) % 2 == 1] := by
  rw [bitsN_add]; rfl
theorem bitsN_mod (n v : Nat) : bitsN n (v % 2 ^ n) = bitsN n v := by
  have := bitsN_valB (bitsN n v)
  rwa [bitsN_len, valB_bitsN] at this
theorem valB_drop (l : List Bool) (n : Nat) : valB (l.drop n) = valB l / 2 ^ n := by
  by_cases h : n ≤ l.length
  · have e : l = l.take n ++ l.drop n := (List.take_append_drop n l).symm
    have h1 := valB_append (l.take n) (l.drop n)
    rw [← e, List.length_take, Nat.min_eq_left h] at h1
    have h2 := valB_lt (l.take n)
    rw [List.length_take, Nat.min_eq_left h] at h2
    rw [h1, Nat.add_mul_div_left _ _ (Nat.two_pow_pos n), Nat.div_eq_of_lt h2, Nat.zero_add]
  · rw [List.drop_of_length_le (by omega)]
    have := valB_lt l
    rw [Nat.div_eq_of_lt (Nat.lt_of_lt_of_le this (Nat.pow_le_pow_right (by omega) (by omega)))]
    rfl
theorem atB_val (l : List Bool) (i : Nat) : (atB l i).toNat = valB l / 2 ^ i % 2 := by
  rw [← valB_drop]
  unfold atB
  by_cases h : i < l.length
  · rw [List.drop_eq_getElem_cons h, valB, List.getD_eq_getElem?_getD, List.getElem?_eq_getElem h, Option.getD_some]
    have hb : l[i].toNat ≤ 1 := by cases l[i] <;> simp
    omega
  · rw [List.drop_of_length_le (by omega), List.getD_eq_getElem?_getD, List.getElem?_eq_none (by omega)]
    rfl
theorem atB_eq (l : List Bool) (i : Nat) : atB l i = (valB l / 2 ^ i % 2 == 1) := by
  have h := atB_val l i
  cases hb : atB l i
  · rw [hb] at h
    have : valB l / 2 ^ i % 2 = 0 := h.symm
    rw [this]; rfl
  · rw [hb] at h
    have : valB l / 2 ^ i % 2 = 1 := h.symm
    rw [this]; rfl
/-- Of two lists as long as each other the values tell which they are. -/
theorem valB_inj {a b : List Bool} (hl : a.length = b.length) (h : valB a = valB b) : a = b := by
  rw [← bitsN_valB a, ← bitsN_valB b, hl, h]

/-! ### what the functions compute -/
def addB (a b : List Bool) : List Bool := bitsN (max a.length b.length + 1) (valB a + valB b)
theorem addB_val (a b : List Bool) : valB (addB a b) = valB a + valB b := by
  rw [addB, valB_bitsN]
  apply Nat.mod_eq_of_lt
  have h1 := valB_lt a
  have h2 := valB_lt b
  have h3 : 2 ^ a.length ≤ 2 ^ max a.length b.length := Nat.pow_le_pow_right (by omega) (by omega)
  have h4 : 2 ^ b.length ≤ 2 ^ max a.length b.length := Nat.pow_le_pow_right (by omega) (by omega)
  rw [Nat.pow_succ]
  omega
theorem addB_len (a b : List Bool) : (addB a b).length = max a.length b.length + 1 := bitsN_len _ _
def shlB (a : List Bool) (n : Nat) : List Bool := List.replicate n false ++ a
theorem shlB_val (a : List Bool) (n : Nat) : valB (shlB a n) = valB a * 2 ^ n := by
  rw [shlB, valB_append, valB_zeros, List.length_replicate, Nat.zero_add, Nat.mul_comm]
def shiftB (a : List Bool) (n : Int) : List Bool := if 0 ≤ n then shlB a n.toNat else a.drop (-n).toNat
def mulB (a : List Bool) : List Bool → Nat → List Bool → List Bool
  | [], _, out => out
  | b :: l, i, out => mulB a l (i + 1) (if b then addB out (shlB a i) else out)
theorem mulB_val (a : List Bool) : ∀ (l : List Bool) (i : Nat) (out : List Bool), valB (mulB a l i out) = valB out + valB a * valB l * 2 ^ i
  | [], i, out => by simp [mulB, valB]
  | b :: l, i, out => by
    rw [mulB, mulB_val a l (i + 1)]
    have e : valB a * (b.toNat + 2 * valB l) * 2 ^ i = valB a * b.toNat * 2 ^ i + valB a * valB l * 2 ^ (i + 1) := by
      rw [Nat.mul_add, Nat.add_mul, Nat.pow_succ]
      congr 1
      rw [← Nat.mul_assoc, Nat.mul_right_comm (valB a) 2, Nat.mul_assoc (valB a * valB l), Nat.mul_comm 2]
    rw [valB, e]
    cases b
    · simp
    · simp only [if_true, addB_val, shlB_val, Bool.toNat_true, Nat.mul_one]
      omega
theorem mulB_len (a : List Bool) : ∀ (l : List Bool) (i : Nat) (out : List Bool), (mulB a l i out).length ≤ max out.length (a.length + l.length + i) + l.length
  | [], i, out => by simp [mulB]; omega
  | b :: l, i, out => by
    rw [mulB]
    refine Nat.le_trans (mulB_len a l (i + 1) _) ?_
    cases b
    · simp; omega
    · simp only [if_true, addB_len, shlB, List.length_append, List.length_replicate, List.length_cons]
      omega
def bitlen (n : Nat) : Nat := if n = 0 then 0 else n.log2 + 1
theorem bitlen_le {n k : Nat} : bitlen n ≤ k ↔ n < 2 ^ k := by
  unfold bitlen
  split
  · rename_i h; subst h
    simp [Nat.two_pow_pos]
  · rename_i h
    rw [← Nat.log2_lt h]
    omega
theorem bitlen_lt {n k : Nat} : k < bitlen n ↔ 2 ^ k ≤ n := by
  have := @bitlen_le n k
  omega
theorem bitlen_pos {n : Nat} : 0 < bitlen n ↔ 0 < n := by
  rw [bitlen_lt]; simp; omega
end Go.Ab
/-
  Loops that are gone through a few times: round by round.
-/
set_option linter.unusedSimpArgs false
set_option linter.unusedVariables false
namespace Go.Ab
open Go Go.RowKit
section
variable {P : Program} {c : PC} {Q : Ex → Env → St → Prop}

def unrK (K : Env → St → Prop) (Q : Ex → Env → St → Prop) : Ex → Env → St → Prop := fun e env st => match e with | .normal => K env st | e => Q e env st
@[simp] theorem unrK_n (K : Env → St → Prop) (env : Env) (st : St) : unrK K Q .normal env st = K env st := _root_.id rfl
@[simp] theorem unrK_e (K : Env → St → Prop) (i : Nat) (env : Env) (st : St) : unrK K Q (.exit i) env st = Q (.exit i) env st := _root_.id rfl
@[simp] theorem unrK_r (K : Env → St → Prop) (env : Env) (st : St) : unrK K Q .ret env st = Q .ret env st := _root_.id rfl
/-- At most so many rounds. -/
def unr (P : Program) (c : PC) (Q : Ex → Env → St → Prop) : Nat → Env → St → Prop
  | 0, _, _ => False
  | n + 1, env, st => vc P c (unrK (unr P c Q n) Q) env st
theorem unr_succ (n : Nat) (env : Env) (st : St) : unr P c Q (n + 1) env st = vc P c (unrK (unr P c Q n) Q) env st := _root_.id rfl
theorem vc_unroll {env : Env} {st : St} (n : Nat) (h : unr P c Q n env st) : vc P (.loop c) Q env st := by
  refine vc_loop (fun k env st => unr P c Q k env st) n h ?_
  intro k env' st' hs hu
  cases k with
  | zero => exact hu.elim
  | succ k =>
    refine vc_frame c _ _ env' st' (fun e env'' st'' _ hq => ?_) hu
    cases e with
    | normal => exact ⟨k, st'', Nat.lt_succ_self k, St.sub_refl _, hq⟩
    | exit id => exact hq
    | ret => exact hq
end
theorem Sep.appx' {α : Type} {f : α → List V} {sz : Nat} (hf : ∀ a, (f a).length = sz) (hsz : 0 < sz) {s : V} {l : List α} {L : List Asn} {st : St} (h : Sep (Slx sz f s l :: L) st) {b : Nat} (m : List α) {ys : List V} {n : Nat} (hys : ys = rowsOf f m) (hn : n = m.length) (hb : (l.length + n) * b ≤ 140737488355328) {K : V → St → Prop}
    (hK : ∀ s' st', Sep (Slx sz f s' (l ++ m) :: L) st' → K s' st') : appS sz b s (some (ys, n)) st K := by
  subst hys hn
  exact Sep.appx hf hsz h hb hK

/-- Writing at a place of a list of assertions. -/
theorem Sep.setAt {i : Nat} {o : AObj} (o' : AObj) : ∀ (n : Nat) {L : List Asn} {st : St}, Sep L st → L[n]? = some (pt i o) → Sep (L.set n (pt i o')) (st.upd i o')
  | 0, A :: L, st, h, e => by
    simp only [List.getElem?_cons_zero, Option.some.injEq] at e
    subst e
    exact h.set o'
  | n + 1, A :: L, st, h, e => by
    obtain ⟨a, r, h1, h2, h3, h4⟩ := h
    have e' : L[n]? = some (pt i o) := by simpa using e
    have hr : r i = some o := Sep.mem h4 (List.mem_of_getElem? e')
    have ih := Sep.setAt o' n h4 e'
    have hai : a i = none := (h1 i).resolve_right (by rw [hr]; simp)
    refine ⟨a, r.upd i o', fun j => ?_, fun j x hx => ?_, h3, ih⟩
    · by_cases ej : j = i
      · exact .inl (ej ▸ hai)
      · rcases h1 j with g | g
        · exact .inl g
        · exact .inr (by simpa [ej] using g)
    · by_cases ej : j = i
      · subst ej
        simpa [St.add, hai] using hx
      · simp only [St.add, st_upd, ej, if_false] at hx ⊢
        exact h2 j x hx
  | _, [], _, _, e => by simp at e
theorem Sep.neq {i j : Nat} {o o' : AObj} : ∀ {L : List Asn} {st : St} (n m : Nat), Sep L st → L[n]? = some (pt i o) → L[m]? = some (pt j o') → n < m → i ≠ j
  | [], _, _, _, _, e, _, _ => by simp at e
  | A :: L, st, 0, m + 1, h, e1, e2, _ => by
    simp only [List.getElem?_cons_zero, Option.some.injEq] at e1
    subst e1
    obtain ⟨a, r, h1, h2, h3, h4⟩ := h
    have hr : r j = some o' := Sep.mem h4 (List.mem_of_getElem? (by simpa using e2))
    rintro rfl
    rcases h1 i with g | g
    · rw [h3] at g; cases g
    · rw [hr] at g; cases g
  | A :: L, st, n + 1, m + 1, h, e1, e2, hlt => by
    obtain ⟨a, r, h1, h2, h3, h4⟩ := h
    exact Sep.neq n m h4 (by simpa using e1) (by simpa using e2) (by omega)
theorem Sep.was' {st0 st : St} {L : List Asn} (h : Sep L st) (hm : Was st0 ∈ L) : St.sub st0 st := by
  obtain ⟨h', k1, rfl⟩ := h.memA hm
  exact k1

/-- Nobody writes a slice any more: it is a list from then on. -/
theorem Sep.frzSl {α : Type} {f : α → List V} {sz : Nat} (hf : ∀ a, (f a).length = sz) {s : V} {l : List α} {L : List Asn} {st : St} (h : Sep (Sl sz f s l :: L) st) :
    ∃ k st', frzV st s = some (.sl k (rowsOf f l) l.length, st') ∧ Sep L st' ∧ (l ≠ [] → k = .some) := by
  obtain ⟨a, r, h1, h2, h3, h4⟩ := h
  have hsub : St.sub r st := sub_trans (sub_right h1) h2
  rcases h3 with ⟨hs | hs, rfl⟩ | ⟨sid, spare, rfl, h5, h6⟩
  · subst hs
    exact ⟨.nil, st, rfl, h4.sub hsub, fun h => absurd rfl h⟩
  · subst hs
    exact ⟨.full, st, rfl, h4.sub hsub, fun h => absurd rfl h⟩
  · have hsid := h2 _ _ (add_some h5)
    have hl := rowsOf_length hf l
    refine ⟨.some, st.upd sid (.ro (rowsOf f l ++ spare)), ?_, ?_, fun _ => rfl⟩
    · simp only [frzV, frzOb, hsid, Option.bind_some, St.seg, st_upd, if_true, segOf]
      rw [if_pos (by simp; omega), List.drop_zero, ← hl, List.take_left]
      rfl
    · refine h4.sub fun j o e => ?_
      have : j ≠ sid := fun e' => by
        subst e'
        rw [h1.some h5] at e
        cases e
      simp only [st_upd, this, if_false]
      exact hsub j o e
theorem frzP_one {t : Nat} {env : Env} {st st' : St} {v : V} {K : Env → St → Prop} (h : frzV st (env t) = some (v, st')) (hk : K (env.upd t v) st') : frzP [t] env st K := by
  simp only [frzP, h]
  exact hk
/-- Two ways that come together. -/
theorem condB_join {P : Program} {v : V} {a b c : PC} {Q : Ex → Env → St → Prop} {env : Env} {st : St} (M : Env → St → Prop)
    (h : condB P v a b (unrK M Q) env st) (k : ∀ env' st', Same (a.writes ++ b.writes) env env' → M env' st' → vc P c Q env' st') : condB P v a b (seqK P c Q) env st := by
  have e : ∀ R : Ex → Env → St → Prop, condB P v a b R env st = vc P (.cond (.k v) a b) R env st := fun R => _root_.id rfl
  rw [e] at h ⊢
  refine vc_frame (.cond (.k v) a b) _ _ env st (fun ex env' st' hs hq => ?_) h
  cases ex with
  | normal => exact k env' st' hs hq
  | exit i => exact hq
  | ret => exact hq
end Go.Ab

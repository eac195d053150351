import Derived.Test.YtigmjhijbdpfkaaG3
set_option linter.unusedSimpArgs false
set_option linter.unusedVariables false
namespace Go.Ab
open Go Go.RowKit
@[simp] theorem env_upd (e : Env) (d t : Nat) (v : V) : (e.upd d v) t = if t = d then v else e t := _root_.id rfl
@[simp] theorem env_put_some (e : Env) (d : Nat) (v : V) : e.put (some d) v = e.upd d v := _root_.id rfl
@[simp] theorem env_put_none (e : Env) (v : V) : e.put none v = e := _root_.id rfl
@[simp] theorem st_upd (s : St) (i j : Nat) (o : AObj) : (s.upd i o) j = if j = i then some o else s j := _root_.id rfl
@[simp] theorem st_del (s : St) (i j : Nat) : (s.del i) j = if j = i then none else s j := _root_.id rfl
theorem ne_id {st : St} {i j : Nat} {o : AObj} (h : st i = some o) (k : st j = none) : i ≠ j := fun e => by subst e; rw [h] at k; cases k
theorem sub_upd {st : St} {i : Nat} {o : AObj} (h : st i = none) : St.sub st (st.upd i o) := fun j x hx => by
  simp [ne_id hx h, hx]
theorem seg_at {st : St} {id off n sz : Nat} {rows : List V} (h : st.seg id off (n * sz) = some rows) {i : Nat} (hi : i < n) : st.seg id (off + i * sz) sz = some ((rows.drop (i * sz)).take sz) := by
  have hle : i * sz + sz ≤ n * sz := by rw [← Nat.succ_mul]; exact Nat.mul_le_mul_right _ hi
  have key : ∀ cs : List V, segOf cs off (n * sz) = some rows → segOf cs (off + i * sz) sz = some ((rows.drop (i * sz)).take sz) := fun cs hc => by
    unfold segOf at *
    split at hc <;> cases hc
    rw [if_pos (by omega), List.drop_take, List.drop_drop, List.take_take, Nat.min_eq_left (by omega)]
  unfold St.seg at *
  split at h <;> first | exact key _ h | cases h
@[simp] theorem ite_max (a b : Int) : (if a < b then b else a) = max a b := by split <;> omega
theorem wrap64 {x : Int} (h0 : -9223372036854775808 ≤ x) (h1 : x ≤ 9223372036854775807) : IntKind.i64.wrap x = x := by
  simp only [IntKind.wrap, IntKind.signed, IntKind.bits]
  simp
  omega
@[simp] theorem wrap_lit (n : Nat) (h : n ≤ 9223372036854775807) : IntKind.i64.wrap (no_index (@OfNat.ofNat Int n instOfNat)) = @OfNat.ofNat Int n instOfNat := by
  have : (@OfNat.ofNat Int n instOfNat : Int) = (n : Int) := rfl
  rw [this]
  exact wrap64 (by omega) (by omega)
@[simp] theorem wrap_neg_lit (n : Nat) (h : n ≤ 9223372036854775807) : IntKind.i64.wrap (-(no_index (@OfNat.ofNat Int n instOfNat))) = -(@OfNat.ofNat Int n instOfNat) := by
  have : (@OfNat.ofNat Int n instOfNat : Int) = (n : Int) := rfl
  rw [this]
  exact wrap64 (by omega) (by omega)
@[simp] theorem sub_self (st : St) : St.sub st st := St.sub_refl st
@[simp] theorem upd_upd (s : St) (i : Nat) (a b : AObj) : (s.upd i a).upd i b = s.upd i b := by
  funext j
  by_cases e : j = i <;> simp [e]
theorem sub_trans {a b c : St} (h : St.sub a b) (k : St.sub b c) : St.sub a c := fun i o e => k i o (h i o e)
@[simp] theorem natOf_cast (k : IntKind) (n : Nat) : natOf (.int k (n : Int)) = some n := by simp [natOf]
@[simp] theorem natOf_succ (k : IntKind) (n : Nat) : natOf (.int k ((n : Int) + 1)) = some (n + 1) := by
  simp only [natOf]
  rw [if_pos (by omega)]
  simp
@[simp] theorem natOf_zero (k : IntKind) : natOf (.int k 0) = some 0 := _root_.id rfl
@[simp] theorem natOf_lit (k : IntKind) (n : Nat) : natOf (.int k (no_index (@OfNat.ofNat Int n instOfNat))) = some n := by
  have : (@OfNat.ofNat Int n instOfNat : Int) = (n : Int) := rfl
  rw [this]
  exact natOf_cast k n
@[simp] theorem boundOf_none (env : Env) (n : Nat) : boundOf env n none = some n := _root_.id rfl
@[simp] theorem boundOf_some (env : Env) (n : Nat) (x : X) : boundOf env n (some x) = natOf (x.ev env) := _root_.id rfl
@[simp] theorem ld_ptr (st : St) (sz id o : Nat) : ldCells st sz (.ptr (some (id, o))) = st.seg id o sz := _root_.id rfl
@[simp] theorem ld_eptr (st : St) (sz : Nat) (cs : List V) : ldCells st sz (.eptr cs) = segOf cs 0 sz := _root_.id rfl
attribute [simp] argEnv X.ev packV nilckV notV binI extV
@[simp] theorem fldA_ptr (off id o : Nat) : fldAV off (.ptr (some (id, o))) = some (.ptr (some (id, o + off))) := _root_.id rfl
@[simp] theorem fldA_eptr (off : Nat) (cs : List V) : fldAV off (.eptr cs) = some (.eptr (cs.drop off)) := _root_.id rfl
@[simp] theorem cells_agg (cs : List V) : (V.agg cs).cells? = some cs := _root_.id rfl
@[simp] theorem cells_junk : V.junk.cells? = none := _root_.id rfl
@[simp] theorem cells_tup (cs : List V) : (V.tup cs).cells? = none := _root_.id rfl
@[simp] theorem cells_bool (b : Bool) : (V.bool b).cells? = some [.bool b] := _root_.id rfl
@[simp] theorem cells_int (k : IntKind) (n : Int) : (V.int k n).cells? = some [.int k n] := _root_.id rfl
@[simp] theorem cells_str (s : ByteArray) : (V.str s).cells? = some [.str s] := _root_.id rfl
@[simp] theorem cells_ptr (p : Option (Nat × Nat)) : (V.ptr p).cells? = some [.ptr p] := _root_.id rfl
@[simp] theorem cells_eptr (cs : List V) : (V.eptr cs).cells? = some [.eptr cs] := _root_.id rfl
@[simp] theorem cells_sl (k : SK) (cs : List V) (n : Nat) : (V.sl k cs n).cells? = some [.sl k cs n] := _root_.id rfl
@[simp] theorem cells_hsl (a b c d : Nat) : (V.hsl a b c d).cells? = some [.hsl a b c d] := _root_.id rfl
@[simp] theorem cells_map (m : Option Nat) : (V.map m).cells? = some [.map m] := _root_.id rfl
@[simp] theorem cells_func (f : FuncId) (c : List V) : (V.func f c).cells? = some [.func f c] := _root_.id rfl
@[simp] theorem cells_nilf : V.nilf.cells? = some [.nilf] := _root_.id rfl
@[simp] theorem binV_int (op : BinOp) (k k' : IntKind) (a b : Int) : binV op (.int k a) (.int k' b) = (match op with
    | .shl => if b < 0 then none else some (.int k (k.wrap (a * 2 ^ (Nat.min b.toNat k.bits))))
    | .shr => if b < 0 then none else some (.int k (a.fdiv (2 ^ (Nat.min b.toNat k.bits))))
    | op => if k = k' then binI op k a b else none) := _root_.id rfl
@[simp] theorem binV_str (op : BinOp) (a b : ByteArray) : binV op (.str a) (.str b) = (match op with | .eql => some (.bool (a == b)) | .neq => some (.bool (a != b)) | .add => if a.size + b.size ≤ 1000000000 then some (.str (a ++ b)) else none | _ => none) := _root_.id rfl
@[simp] theorem lenSlV_sl (k : SK) (cs : List V) (n : Nat) : lenSlV (.sl k cs n) = some (.int .i64 n) := _root_.id rfl
@[simp] theorem lenSlV_hsl (id off sz n : Nat) : lenSlV (.hsl id off sz n) = some (.int .i64 n) := _root_.id rfl
@[simp] theorem idxSlV_sl (sz : Nat) (k : SK) (cs : List V) (n : Nat) (kd : IntKind) (i : Int) : idxSlV sz (.sl k cs n) (.int kd i) = if 0 ≤ i ∧ i < n then some (.eptr (cs.drop (i.toNat * sz))) else none := _root_.id rfl
@[simp] theorem idxSlV_hsl (sz id off sz' n : Nat) (kd : IntKind) (i : Int) : idxSlV sz (.hsl id off sz' n) (.int kd i) = if sz' = sz ∧ 0 ≤ i ∧ i < n then some (.ptr (some (id, off + i.toNat * sz))) else none := _root_.id rfl
def onV (v : Option V) (K : V → St → Prop) (st : St) : Prop := match v with | some v => K v st | none => False
@[simp] theorem onV_some (v : V) (K : V → St → Prop) (st : St) : onV (some v) K st = K v st := _root_.id rfl
@[simp] theorem onV_none (K : V → St → Prop) (st : St) : onV none K st = False := _root_.id rfl
def onS (s : Option St) (K : V → St → Prop) : Prop := match s with | some s => K .junk s | none => False
@[simp] theorem onS_some (s : St) (K : V → St → Prop) : onS (some s) K = K .junk s := _root_.id rfl
@[simp] theorem onS_none (K : V → St → Prop) : onS none K = False := _root_.id rfl
def mkNew (ob : AObj) (mk : Nat → V) (K : V → St → Prop) (st : St) : Prop := ∀ id, st id = none → K (mk id) (st.upd id ob)
def mkBox (cs : Option (List V)) (mk : Nat → V) (K : V → St → Prop) (st : St) : Prop := match cs with | some cs => mkNew (.cells cs) mk K st | none => False
@[simp] theorem mkBox_some (cs : List V) (mk : Nat → V) (K : V → St → Prop) (st : St) : mkBox (some cs) mk K st = mkNew (.cells cs) mk K st := _root_.id rfl
section
variable (P : Program)
def runK (l : List PO) (d : Option Nat) (env : Env) (K : Env → St → Prop) : V → St → Prop := fun v st' => runP P l (env.put d v) st' K
@[simp] theorem runK_ap (l : List PO) (d : Option Nat) (env : Env) (K : Env → St → Prop) (v : V) (st : St) : runK P l d env K v st = runP P l (env.put d v) st K := _root_.id rfl
def gdB (v : V) (b : Bool) (o : POp) (d : Option Nat) (l : List PO) (env : Env) (st : St) (K : Env → St → Prop) : Prop := match v with
  | .bool c => if c = b then stepP P o env st (runK P l d env K) else runP P l (env.put d (.tup [])) st K
  | .tup _ => runP P l (env.put d (.tup [])) st K
  | _ => False
@[simp] theorem gdB_tt (o : POp) (d : Option Nat) (l : List PO) (env : Env) (st : St) (K : Env → St → Prop) : gdB P (.bool true) true o d l env st K = stepP P o env st (runK P l d env K) := _root_.id rfl
@[simp] theorem gdB_ff (o : POp) (d : Option Nat) (l : List PO) (env : Env) (st : St) (K : Env → St → Prop) : gdB P (.bool false) false o d l env st K = stepP P o env st (runK P l d env K) := _root_.id rfl
@[simp] theorem gdB_tf (o : POp) (d : Option Nat) (l : List PO) (env : Env) (st : St) (K : Env → St → Prop) : gdB P (.bool true) false o d l env st K = runP P l (env.put d (.tup [])) st K := _root_.id rfl
@[simp] theorem gdB_ft (o : POp) (d : Option Nat) (l : List PO) (env : Env) (st : St) (K : Env → St → Prop) : gdB P (.bool false) true o d l env st K = runP P l (env.put d (.tup [])) st K := _root_.id rfl
@[simp] theorem gdB_un (vs : List V) (b : Bool) (o : POp) (d : Option Nat) (l : List PO) (env : Env) (st : St) (K : Env → St → Prop) : gdB P (.tup vs) b o d l env st K = runP P l (env.put d (.tup [])) st K := _root_.id rfl
@[simp] theorem runP_nil (env : Env) (st : St) (K : Env → St → Prop) : runP P [] env st K = K env st := _root_.id rfl
@[simp] theorem runP_cons0 (d : Option Nat) (o : POp) (l : List PO) (env : Env) (st : St) (K : Env → St → Prop) : runP P (⟨d, o, none⟩ :: l) env st K = stepP P o env st (runK P l d env K) := _root_.id rfl
@[simp] theorem runP_cons1 (d : Option Nat) (o : POp) (t : Nat) (b : Bool) (l : List PO) (env : Env) (st : St) (K : Env → St → Prop) : runP P (⟨d, o, some (t, b)⟩ :: l) env st K = gdB P (env t) b o d l env st K := _root_.id rfl
def runDK (l : List (Cls × PO)) (d : Option Nat) (env : Env) (K : Env → St → Prop) : V → St → Prop := fun v st' => runD P l (env.put d v) st' K
@[simp] theorem runDK_ap (l : List (Cls × PO)) (d : Option Nat) (env : Env) (K : Env → St → Prop) (v : V) (st : St) : runDK P l d env K v st = runD P l (env.put d v) st K := _root_.id rfl
def stillV (o : POp) (env : Env) (st : St) (K : V → St → Prop) : Prop := stillP P o env st fun v => K v st
def gdD (v : V) (b : Bool) (c : Cls) (o : POp) (d : Option Nat) (l : List (Cls × PO)) (env : Env) (st : St) (K : Env → St → Prop) : Prop := match v with
  | .bool t => if t = b then runD P ((c, ⟨d, o, none⟩) :: l) env st K else runD P l (env.put d (.tup [])) st K
  | .tup _ => runD P l (env.put d (.tup [])) st K
  | _ => False
@[simp] theorem gdD_tt (c : Cls) (o : POp) (d : Option Nat) (l : List (Cls × PO)) (env : Env) (st : St) (K : Env → St → Prop) : gdD P (.bool true) true c o d l env st K = runD P ((c, ⟨d, o, none⟩) :: l) env st K := _root_.id rfl
@[simp] theorem gdD_ff (c : Cls) (o : POp) (d : Option Nat) (l : List (Cls × PO)) (env : Env) (st : St) (K : Env → St → Prop) : gdD P (.bool false) false c o d l env st K = runD P ((c, ⟨d, o, none⟩) :: l) env st K := _root_.id rfl
@[simp] theorem gdD_tf (c : Cls) (o : POp) (d : Option Nat) (l : List (Cls × PO)) (env : Env) (st : St) (K : Env → St → Prop) : gdD P (.bool true) false c o d l env st K = runD P l (env.put d (.tup [])) st K := _root_.id rfl
@[simp] theorem gdD_ft (c : Cls) (o : POp) (d : Option Nat) (l : List (Cls × PO)) (env : Env) (st : St) (K : Env → St → Prop) : gdD P (.bool false) true c o d l env st K = runD P l (env.put d (.tup [])) st K := _root_.id rfl
@[simp] theorem gdD_un (vs : List V) (b : Bool) (c : Cls) (o : POp) (d : Option Nat) (l : List (Cls × PO)) (env : Env) (st : St) (K : Env → St → Prop) : gdD P (.tup vs) b c o d l env st K = runD P l (env.put d (.tup [])) st K := _root_.id rfl
@[simp] theorem runD_nil (env : Env) (st : St) (K : Env → St → Prop) : runD P [] env st K = K env st := _root_.id rfl
@[simp] theorem runD_x (d : Option Nat) (o : POp) (l : List (Cls × PO)) (env : Env) (st : St) (K : Env → St → Prop) : runD P ((.x, ⟨d, o, none⟩) :: l) env st K = stepP P o env st (runDK P l d env K) := _root_.id rfl
@[simp] theorem runD_a (d : Option Nat) (o : POp) (l : List (Cls × PO)) (env : Env) (st : St) (K : Env → St → Prop) : runD P ((.a, ⟨d, o, none⟩) :: l) env st K = stepP P o env st (runDK P l d env K) := _root_.id rfl
@[simp] theorem runD_e (d : Option Nat) (o : POp) (l : List (Cls × PO)) (env : Env) (st : St) (K : Env → St → Prop) : runD P ((.e, ⟨d, o, none⟩) :: l) env st K = stillV P o env st (runDK P l d env K) := _root_.id rfl
@[simp] theorem runD_s (d : Option Nat) (o : POp) (l : List (Cls × PO)) (env : Env) (st : St) (K : Env → St → Prop) : runD P ((.s, ⟨d, o, none⟩) :: l) env st K = stillV P o env st (runDK P l d env K) := _root_.id rfl
@[simp] theorem runD_g (c : Cls) (d : Option Nat) (o : POp) (t : Nat) (b : Bool) (l : List (Cls × PO)) (env : Env) (st : St) (K : Env → St → Prop) : runD P ((c, ⟨d, o, some (t, b)⟩) :: l) env st K = gdD P (env t) b c o d l env st K := by cases c <;> rfl
variable (env : Env) (st : St) (K : V → St → Prop)
@[simp] theorem step_mv (x : X) : stepP P (.mv x) env st K = K (x.ev env) st := _root_.id rfl
def pickV (c a b : V) : Option V := match c with | .bool t => some (if t then a else b) | _ => none
@[simp] theorem pickV_bool (t : Bool) (a b : V) : pickV (.bool t) a b = some (if t then a else b) := _root_.id rfl
@[simp] theorem step_pick (c a b : X) : stepP P (.pick c a b) env st K = onV (pickV (c.ev env) (a.ev env) (b.ev env)) K st := by
  show (match (match c.ev env with | .bool t => some (if t then a.ev env else b.ev env) | _ => none) with | some v => K v st | none => False) = _
  unfold pickV onV
  rfl
@[simp] theorem step_nilck (x : X) : stepP P (.nilck x) env st K = onV (nilckV (x.ev env)) K st := _root_.id rfl
@[simp] theorem step_bin (op : BinOp) (x y : X) : stepP P (.bin op x y) env st K = onV (binV op (x.ev env) (y.ev env)) K st := _root_.id rfl
@[simp] theorem step_eqa (e : EK) (neg : Bool) (x y : X) : stepP P (.eqa e neg x y) env st K = onV ((eqK e (x.ev env) (y.ev env)).map fun b => .bool (if neg then !b else b)) K st := _root_.id rfl
@[simp] theorem step_not (x : X) : stepP P (.not x) env st K = onV (notV (x.ev env)) K st := _root_.id rfl
@[simp] theorem step_neg (x : X) : stepP P (.neg x) env st K = onV (negV (x.ev env)) K st := _root_.id rfl
@[simp] theorem step_inv (x : X) : stepP P (.inv x) env st K = onV (invV (x.ev env)) K st := _root_.id rfl
@[simp] theorem step_conv (k : IntKind) (x : X) : stepP P (.conv k x) env st K = onV (convV k (x.ev env)) K st := _root_.id rfl
@[simp] theorem step_toStr (x : X) : stepP P (.toStr x) env st K = onV (toStrV st (x.ev env)) K st := _root_.id rfl
@[simp] theorem step_fldA (o : Nat) (x : X) : stepP P (.fldA o x) env st K = onV (fldAV o (x.ev env)) K st := _root_.id rfl
@[simp] theorem step_fld (ag : Bool) (o s : Nat) (x : X) : stepP P (.fld ag o s x) env st K = onV (fldV ag o s (x.ev env)) K st := _root_.id rfl
@[simp] theorem step_idxArr (n s : Nat) (x i : X) : stepP P (.idxArr n s x i) env st K = onV (idxArrV n s (x.ev env) (i.ev env)) K st := _root_.id rfl
@[simp] theorem step_idxSl (s : Nat) (x i : X) : stepP P (.idxSl s x i) env st K = onV (idxSlV s (x.ev env) (i.ev env)) K st := _root_.id rfl
@[simp] theorem step_idx (n : Nat) (ag : Bool) (s : Nat) (x i : X) : stepP P (.idx n ag s x i) env st K = onV (idxV n ag s (x.ev env) (i.ev env)) K st := _root_.id rfl
@[simp] theorem step_idxStr (x i : X) : stepP P (.idxStr x i) env st K = onV (idxStrV (x.ev env) (i.ev env)) K st := _root_.id rfl
@[simp] theorem step_load (ag : Bool) (s : Nat) (x : X) : stepP P (.load ag s x) env st K = onV ((ldCells st s (x.ev env)).bind (packV ag)) K st := _root_.id rfl
@[simp] theorem step_build (z : List V) (ps : List (Nat × Nat × X)) : stepP P (.build z ps) env st K = onV ((fillV z (ps.map fun p => (p.1, p.2.1, p.2.2.ev env))).map V.agg) K st := _root_.id rfl
@[simp] theorem step_bsl (s n : Nat) (z : List V) (ps : List (Nat × Nat × X)) : stepP P (.bsl false s n z ps) env st K = onV ((fillV (repV z n) (ps.map fun p => (p.1, p.2.1, p.2.2.ev env))).map fun cs => .sl .full cs n) K st := _root_.id rfl
@[simp] theorem step_slStr (x : X) (lo hi : Option X) : stepP P (.slStr x lo hi) env st K = onV (opV (.slStr x lo hi) env st) K st := _root_.id rfl
@[simp] theorem step_sl (s : Nat) (x : X) (lo hi mx : Option X) : stepP P (.sl s x lo hi mx) env st K = onV (slV env s lo hi mx (x.ev env)) K st := _root_.id rfl
@[simp] theorem step_slArr (al : Bool) (n s : Nat) (x : X) (lo hi : Option X) : stepP P (.slArr al n s x lo hi) env st K = onV (slArrV st env al n s lo hi (x.ev env)) K st := _root_.id rfl
@[simp] theorem step_slw (s : Nat) (x : X) (lo hi : Option X) : stepP P (.slw s x lo hi) env st K = onV (slwV st env s lo hi (x.ev env)) K st := _root_.id rfl
@[simp] theorem ldE_eptr (sz : Nat) (cs : List V) : ldE sz (.eptr cs) = segOf cs 0 sz := _root_.id rfl
@[simp] theorem step_loadE (ag : Bool) (s : Nat) (x : X) : stepP P (.loadE ag s x) env st K = onV ((ldE s (x.ev env)).bind (packV ag)) K st := _root_.id rfl
@[simp] theorem step_carry (neg : Bool) (x y c : X) : stepP P (.carry neg x y c) env st K = onV (carryV neg (x.ev env) (y.ev env) (c.ev env)) K st := _root_.id rfl
@[simp] theorem step_chk3 (x : X) (lo hi mx : Option X) : stepP P (.chk3 x lo hi mx) env st K = onV (chk3V env lo hi mx (x.ev env)) K st := _root_.id rfl
@[simp] theorem step_lenStr (x : X) : stepP P (.lenStr x) env st K = onV (lenStrV (x.ev env)) K st := _root_.id rfl
@[simp] theorem step_lenSl (x : X) : stepP P (.lenSl x) env st K = onV (lenSlV (x.ev env)) K st := _root_.id rfl
@[simp] theorem step_lenMap (x : X) : stepP P (.lenMap x) env st K = onV (lenMapV st (x.ev env)) K st := _root_.id rfl
@[simp] theorem step_lenK (n : Nat) : stepP P (.lenK n) env st K = K (.int .i64 n) st := _root_.id rfl
@[simp] theorem step_mkf (f : FuncId) (l : List X) : stepP P (.mkf f l) env st K = K (.func f (l.map fun x => X.ev env x)) st := _root_.id rfl
@[simp] theorem step_ext (i : Nat) (x : X) : stepP P (.ext i x) env st K = onV (extV i (x.ev env)) K st := _root_.id rfl
@[simp] theorem step_max (x : X) (l : List X) : stepP P (.max (x :: l)) env st K = onV (foldV max2V (x.ev env) (l.map fun x => X.ev env x)) K st := _root_.id rfl
@[simp] theorem step_min (x : X) (l : List X) : stepP P (.min (x :: l)) env st K = onV (foldV min2V (x.ev env) (l.map fun x => X.ev env x)) K st := _root_.id rfl
@[simp] theorem step_lookup (kk : KK) (z : V) (ok : Bool) (m k : X) : stepP P (.lookup kk z ok m k) env st K = onV (lookupV st kk z ok (m.ev env) (k.ev env)) K st := _root_.id rfl
@[simp] theorem step_store (s : Nat) (a v : X) : stepP P (.store s a v) env st K = onS (storeS st s (a.ev env) (v.ev env)) K := _root_.id rfl
@[simp] theorem step_mset (kk : KK) (m k v : X) : stepP P (.mset kk m k v) env st K = onS (msetS st kk (m.ev env) (k.ev env) (v.ev env)) K := _root_.id rfl
@[simp] theorem step_mdel (kk : KK) (m k : X) : stepP P (.mdel kk m k) env st K = onS (mdelS st kk (m.ev env) (k.ev env)) K := _root_.id rfl
@[simp] theorem step_alloc (z : List V) : stepP P (.alloc z) env st K = mkNew (.cells z) (fun id => .ptr (some (id, 0))) K st := _root_.id rfl
@[simp] theorem step_mkmap : stepP P .mkmap env st K = mkNew (.mp []) (fun id => .map (some id)) K st := _root_.id rfl
@[simp] theorem step_box (x : X) : stepP P (.box x) env st K = mkBox ((x.ev env).cells?) (fun id => .ptr (some (id, 0))) K st := by
  show (match ((x.ev env).cells?.map fun cs => ((AObj.cells cs, fun id => V.ptr (some (id, 0))) : AObj × (Nat → V))) with | some (ob, mk) => ∀ id, st id = none → K (mk id) (st.upd id ob) | none => False) = _
  cases (x.ev env).cells? <;> rfl
@[simp] theorem step_bslo (s n : Nat) (z : List V) (ps : List (Nat × Nat × X)) : stepP P (.bsl true s n z ps) env st K = mkBox (fillV (repV z n) (ps.map fun p => (p.1, p.2.1, p.2.2.ev env))) (fun id => .hsl id 0 s n) K st := by
  show (match ((fillV (repV z n) (ps.map fun p => (p.1, p.2.1, p.2.2.ev env))).map fun cs => ((AObj.cells cs, fun id => V.hsl id 0 s n) : AObj × (Nat → V))) with | some (ob, mk) => ∀ id, st id = none → K (mk id) (st.upd id ob) | none => False) = _
  cases fillV (repV z n) (ps.map fun p => (p.1, p.2.1, p.2.2.ev env)) <;> rfl
@[simp] theorem step_call (f : FuncId) (l : List X) : stepP P (.call f l) env st K = ACalls P f (l.map fun x => X.ev env x) st K := _root_.id rfl
def callF (v : V) (args : List V) (st : St) (K : V → St → Prop) : Prop := match v with | .func f cap => okFn P f = true ∧ ACalls P f (args ++ cap) st K | _ => False
@[simp] theorem callF_func (f : FuncId) (cap args : List V) : callF P (.func f cap) args st K = (okFn P f = true ∧ ACalls P f (args ++ cap) st K) := _root_.id rfl
@[simp] theorem step_callv (x : X) (l : List X) : stepP P (.callv x l) env st K = callF P (x.ev env) (l.map fun x => X.ev env x) st K := by
  show (match x.ev env with | .func f cap => okFn P f = true ∧ ACalls P f ((l.map fun x => X.ev env x) ++ cap) st K | _ => False) = _
  unfold callF
  rfl
def appS (sz bytes : Nat) (x : V) (e : Option (List V × Nat)) (st : St) (K : V → St → Prop) : Prop :=
  match e with
  | none => False
  | some (ys, m) =>
    match x with
    | .sl k cs n =>
      (k = .nil ∨ k = .full) ∧ cs.length = n * sz ∧ (n + m) * bytes ≤ 140737488355328 ∧
      (m = 0 → K (.sl k cs n) st) ∧ (m ≠ 0 → mkNew (.cells (cs ++ ys)) (fun id => .hsl id 0 sz (n + m)) K st)
    | .hsl id off sz' n =>
      match st id with
      | some (.cells cs) =>
        sz' = sz ∧ (n + m) * bytes ≤ 140737488355328 ∧
        if off + (n + m) * sz ≤ cs.length then K (.hsl id off sz (n + m)) (st.upd id (.cells (spliceV cs (off + n * sz) ys)))
        else off = 0 ∧ cs.length = n * sz ∧ mkNew (.cells (cs ++ ys)) (fun id => .hsl id 0 sz (n + m)) K (st.del id)
      | _ => False
    | _ => False
@[simp] theorem step_app (sz b : Nat) (x y : X) : stepP P (.app sz b x y) env st K = appS sz b (x.ev env) (elems st sz (y.ev env)) st K := by
  simp only [stepP, appS, mkNew]
  cases elems st sz (y.ev env) with
  | none => rfl
  | some q => cases (x.ev env) <;> rfl
def appfS (sz bytes : Nat) (x : V) (e : Option (List V × Nat)) (st : St) (K : V → St → Prop) : Prop := match x with | .sl _ _ _ => appS sz bytes x e st K | _ => match e with | none => False | some _ => False
@[simp] theorem appfS_sl (sz b : Nat) (k : SK) (cs : List V) (n : Nat) (e : Option (List V × Nat)) (st : St) (K : V → St → Prop) : appfS sz b (.sl k cs n) e st K = appS sz b (.sl k cs n) e st K := _root_.id rfl
@[simp] theorem step_appf (sz b : Nat) (x y : X) : stepP P (.appf sz b x y) env st K = appfS sz b (x.ev env) (elems st sz (y.ev env)) st K := by
  simp only [stepP, appfS, appS, mkNew]
  generalize x.ev env = xv
  cases elems st sz (y.ev env) <;> cases xv <;> rfl
theorem app_nil {sz b : Nat} {k : SK} {ys : List V} {m : Nat} (hk : k = .nil ∨ k = .full) (hm : m ≠ 0) (hb : m * b ≤ 140737488355328) (h : mkNew (.cells ys) (fun id => .hsl id 0 sz m) K st) : appS sz b (.sl k [] 0) (some (ys, m)) st K :=
  ⟨hk, by simp, by simpa using hb, fun e => absurd e hm, fun _ => by simpa using h⟩
theorem app_room {sz b id off n : Nat} {cs ys : List V} {m : Nat} (hs : st id = some (.cells cs)) (hb : (n + m) * b ≤ 140737488355328) (hr : off + (n + m) * sz ≤ cs.length) (h : K (.hsl id off sz (n + m)) (st.upd id (.cells (spliceV cs (off + n * sz) ys)))) : appS sz b (.hsl id off sz n) (some (ys, m)) st K := by
  simp only [appS, hs]
  refine ⟨trivial, hb, ?_⟩
  rw [if_pos hr]
  exact h
theorem app_grow {sz b id n : Nat} {cs ys : List V} {m : Nat} (hs : st id = some (.cells cs)) (hb : (n + m) * b ≤ 140737488355328) (hl : cs.length = n * sz) (hr : cs.length < (n + m) * sz) (h : mkNew (.cells (cs ++ ys)) (fun id => .hsl id 0 sz (n + m)) K (st.del id)) : appS sz b (.hsl id 0 sz n) (some (ys, m)) st K := by
  simp only [appS, hs]
  refine ⟨trivial, hb, ?_⟩
  rw [if_neg (by omega)]
  exact ⟨trivial, hl, h⟩
def appzS (sz bytes : Nat) (x : V) (e : Option (List V × Nat)) (st : St) (K : V → St → Prop) : Prop :=
  match e with
  | none => False
  | some (ys, m) =>
    match x with
    | .sl k cs n =>
      (k = .nil ∨ k = .full) ∧ cs.length = n * sz ∧ (n + m) * bytes ≤ 140737488355328 ∧ (m = 0 → K (.sl k cs n) st) ∧ (m ≠ 0 → K (.sl .some (cs ++ ys) (n + m)) st)
    | .hsl id off sz' n =>
      match st id with
      | some (.cells cs) =>
        sz' = sz ∧ (n + m) * bytes ≤ 140737488355328 ∧ off = 0 ∧ n * sz ≤ cs.length ∧
        K (.sl .some (cs.take (n * sz) ++ ys) (n + m)) (st.upd id (.ro (cs.take (n * sz) ++ List.replicate (cs.length - n * sz) .junk)))
      | _ => False
    | _ => False
@[simp] theorem step_appz (sz b : Nat) (x y : X) : stepP P (.appz sz b x y) env st K = appzS sz b (x.ev env) (elems st sz (y.ev env)) st K := by
  simp only [stepP, appzS]
  rfl
def rngMapS (v : V) (st : St) (K : V → St → Prop) : Prop :=
  match v with
  | .map none => ∀ it, st it = none → K (.ptr (some (it, 0))) (st.upd it (.mit none 0 [] 0))
  | .map (some id) =>
    match st id with
    | some (.mp es) => ∀ it, st it = none → ∀ (bs : List Nat) (clk : Nat), bs.length = es.length → bs.Pairwise (· < ·) → (∀ b ∈ bs, b < clk) → K (.ptr (some (it, 0))) ((st.upd id (.mpi es bs clk)).upd it (.mit (some id) clk [] clk))
    | _ => False
  | _ => False
@[simp] theorem step_rngMap (x : X) : stepP P (.rngMap x) env st K = rngMapS (x.ev env) st K := by
  simp only [stepP, rngMapS]
  rfl
def nextMapS (v : V) (st : St) (K : V → St → Prop) : Prop :=
  match v with
  | .ptr (some (it, 0)) =>
    match st it with
    | some (.mit none _ _ _) => K (.tup [.bool false]) st
    | some (.mit (some id) since seen stp) =>
      match st id with
      | some (.mpi es bs clk) => (∀ b ∈ bs, b < since) ∧ since ≤ stp ∧ bs.length = es.length ∧ ((∀ b ∈ bs, b ∈ seen) → K (.tup [.bool false]) st) ∧
          ∀ i, i < es.length → bs.getD i 0 ∉ seen → K (.tup [.bool true, (es.getD i default).1, (es.getD i default).2]) (st.upd it (.mit (some id) since (seen ++ [bs.getD i 0]) clk))
      | _ => False
    | _ => False
  | _ => False
@[simp] theorem step_nextMap (x : X) : stepP P (.nextMap x) env st K = nextMapS (x.ev env) st K := by
  simp only [stepP, nextMapS]
  rfl
def nextStrS (v : V) (st : St) (K : V → St → Prop) : Prop :=
  match v with
  | .ptr (some (it, 0)) =>
    match st it with
    | some (.siter s pos) =>
      if pos < s.size then K (.tup [.bool true, .int .i64 pos, .int .i32 (Utf8.decode s pos).1]) (st.upd it (.siter s (pos + (Utf8.decode s pos).2))) else K (.tup [.bool false]) st
    | _ => False
  | _ => False
@[simp] theorem step_nextStr (x : X) : stepP P (.nextStr x) env st K = nextStrS (x.ev env) st K := by
  simp only [stepP, nextStrS]
  rfl
@[simp] theorem step_entry (x : X) : stepP P (.entry x) env st K = onV (entryV st (x.ev env)) K st := _root_.id rfl
@[simp] theorem still_entry (x : X) : stillV P (.entry x) env st K = onV (entryV st (x.ev env)) K st := _root_.id rfl
def mkslS (ob : Bool) (sz b : Nat) (z : List V) (l c : Option Nat) (st : St) (K : V → St → Prop) : Prop :=
  match l, c with
  | some n, some c => n ≤ c ∧ c * b ≤ 140737488355328 ∧ z.length = sz ∧ (if ob then mkNew (.cells (repV z n)) (fun id => .hsl id 0 sz n) K st else K (.sl .some (repV z n) n) st)
  | _, _ => False
@[simp] theorem step_mksl (ob : Bool) (sz b : Nat) (z : List V) (l c : X) : stepP P (.mksl ob sz b z l c) env st K = mkslS ob sz b z (natOf (l.ev env)) (natOf (c.ev env)) st K := by
  show (match natOf (l.ev env), natOf (c.ev env) with | some n, some c => n ≤ c ∧ c * b ≤ 140737488355328 ∧ z.length = sz ∧ (if ob then ∀ id, st id = none → K (.hsl id 0 sz n) (st.upd id (.cells (repV z n))) else K (.sl .some (repV z n) n) st) | _, _ => False) = _
  unfold mkslS mkNew
  cases natOf (l.ev env) <;> cases natOf (c.ev env) <;> rfl
def clearS (sz : Nat) (z : List V) (x : V) (st : St) (K : V → St → Prop) : Prop :=
  match x with
  | .hsl id off sz' n =>
    match st id with
    | some (.cells cs) => sz' = sz ∧ z.length = sz ∧ off + n * sz ≤ cs.length ∧ K .junk (st.upd id (.cells (spliceV cs off (repV z n))))
    | _ => False
  | .sl .nil [] 0 => K .junk st
  | _ => False
@[simp] theorem step_clear (sz : Nat) (z : List V) (x : X) : stepP P (.clear sz z x) env st K = clearS sz z (x.ev env) st K := by
  rfl
@[simp] theorem still_mv (x : X) : stillV P (.mv x) env st K = K (x.ev env) st := _root_.id rfl
@[simp] theorem still_pick (c a b : X) : stillV P (.pick c a b) env st K = onV (pickV (c.ev env) (a.ev env) (b.ev env)) K st := step_pick P env st K c a b
@[simp] theorem still_nilck (x : X) : stillV P (.nilck x) env st K = onV (nilckV (x.ev env)) K st := _root_.id rfl
@[simp] theorem still_bin (op : BinOp) (x y : X) : stillV P (.bin op x y) env st K = onV (binV op (x.ev env) (y.ev env)) K st := _root_.id rfl
@[simp] theorem still_eqa (e : EK) (neg : Bool) (x y : X) : stillV P (.eqa e neg x y) env st K = onV ((eqK e (x.ev env) (y.ev env)).map fun b => .bool (if neg then !b else b)) K st := _root_.id rfl
@[simp] theorem still_not (x : X) : stillV P (.not x) env st K = onV (notV (x.ev env)) K st := _root_.id rfl
@[simp] theorem still_neg (x : X) : stillV P (.neg x) env st K = onV (negV (x.ev env)) K st := _root_.id rfl
@[simp] theorem still_inv (x : X) : stillV P (.inv x) env st K = onV (invV (x.ev env)) K st := _root_.id rfl
@[simp] theorem still_conv (k : IntKind) (x : X) : stillV P (.conv k x) env st K = onV (convV k (x.ev env)) K st := _root_.id rfl
@[simp] theorem still_toStr (x : X) : stillV P (.toStr x) env st K = onV (toStrV st (x.ev env)) K st := _root_.id rfl
@[simp] theorem still_fldA (o : Nat) (x : X) : stillV P (.fldA o x) env st K = onV (fldAV o (x.ev env)) K st := _root_.id rfl
@[simp] theorem still_fld (ag : Bool) (o s : Nat) (x : X) : stillV P (.fld ag o s x) env st K = onV (fldV ag o s (x.ev env)) K st := _root_.id rfl
@[simp] theorem still_idxArr (n s : Nat) (x i : X) : stillV P (.idxArr n s x i) env st K = onV (idxArrV n s (x.ev env) (i.ev env)) K st := _root_.id rfl
@[simp] theorem still_idxSl (s : Nat) (x i : X) : stillV P (.idxSl s x i) env st K = onV (idxSlV s (x.ev env) (i.ev env)) K st := _root_.id rfl
@[simp] theorem still_idx (n : Nat) (ag : Bool) (s : Nat) (x i : X) : stillV P (.idx n ag s x i) env st K = onV (idxV n ag s (x.ev env) (i.ev env)) K st := _root_.id rfl
@[simp] theorem still_idxStr (x i : X) : stillV P (.idxStr x i) env st K = onV (idxStrV (x.ev env) (i.ev env)) K st := _root_.id rfl
@[simp] theorem still_load (ag : Bool) (s : Nat) (x : X) : stillV P (.load ag s x) env st K = onV ((ldCells st s (x.ev env)).bind (packV ag)) K st := _root_.id rfl
@[simp] theorem still_build (z : List V) (ps : List (Nat × Nat × X)) : stillV P (.build z ps) env st K = onV ((fillV z (ps.map fun p => (p.1, p.2.1, p.2.2.ev env))).map V.agg) K st := _root_.id rfl
@[simp] theorem still_bsl (s n : Nat) (z : List V) (ps : List (Nat × Nat × X)) : stillV P (.bsl false s n z ps) env st K = onV ((fillV (repV z n) (ps.map fun p => (p.1, p.2.1, p.2.2.ev env))).map fun cs => .sl .full cs n) K st := _root_.id rfl
@[simp] theorem still_sl (s : Nat) (x : X) (lo hi mx : Option X) : stillV P (.sl s x lo hi mx) env st K = onV (slV env s lo hi mx (x.ev env)) K st := _root_.id rfl
@[simp] theorem still_slArr (al : Bool) (n s : Nat) (x : X) (lo hi : Option X) : stillV P (.slArr al n s x lo hi) env st K = onV (slArrV st env al n s lo hi (x.ev env)) K st := _root_.id rfl
@[simp] theorem still_slw (s : Nat) (x : X) (lo hi : Option X) : stillV P (.slw s x lo hi) env st K = onV (slwV st env s lo hi (x.ev env)) K st := _root_.id rfl
@[simp] theorem still_loadE (ag : Bool) (s : Nat) (x : X) : stillV P (.loadE ag s x) env st K = onV ((ldE s (x.ev env)).bind (packV ag)) K st := _root_.id rfl
@[simp] theorem still_carry (neg : Bool) (x y c : X) : stillV P (.carry neg x y c) env st K = onV (carryV neg (x.ev env) (y.ev env) (c.ev env)) K st := _root_.id rfl
@[simp] theorem still_chk3 (x : X) (lo hi mx : Option X) : stillV P (.chk3 x lo hi mx) env st K = onV (chk3V env lo hi mx (x.ev env)) K st := _root_.id rfl
@[simp] theorem still_slStr (x : X) (lo hi : Option X) : stillV P (.slStr x lo hi) env st K = onV (opV (.slStr x lo hi) env st) K st := _root_.id rfl
@[simp] theorem still_lenStr (x : X) : stillV P (.lenStr x) env st K = onV (lenStrV (x.ev env)) K st := _root_.id rfl
@[simp] theorem still_lenSl (x : X) : stillV P (.lenSl x) env st K = onV (lenSlV (x.ev env)) K st := _root_.id rfl
@[simp] theorem still_lenMap (x : X) : stillV P (.lenMap x) env st K = onV (lenMapV st (x.ev env)) K st := _root_.id rfl
@[simp] theorem still_lenK (n : Nat) : stillV P (.lenK n) env st K = K (.int .i64 n) st := _root_.id rfl
@[simp] theorem still_mkf (f : FuncId) (l : List X) : stillV P (.mkf f l) env st K = K (.func f (l.map fun x => X.ev env x)) st := _root_.id rfl
@[simp] theorem still_ext (i : Nat) (x : X) : stillV P (.ext i x) env st K = onV (extV i (x.ev env)) K st := _root_.id rfl
@[simp] theorem still_max (x : X) (l : List X) : stillV P (.max (x :: l)) env st K = onV (foldV max2V (x.ev env) (l.map fun x => X.ev env x)) K st := _root_.id rfl
@[simp] theorem still_min (x : X) (l : List X) : stillV P (.min (x :: l)) env st K = onV (foldV min2V (x.ev env) (l.map fun x => X.ev env x)) K st := _root_.id rfl
@[simp] theorem still_lookup (kk : KK) (z : V) (ok : Bool) (m k : X) : stillV P (.lookup kk z ok m k) env st K = onV (lookupV st kk z ok (m.ev env) (k.ev env)) K st := _root_.id rfl
theorem still_call {f : FuncId} {l : List X} {v : V} (h : ACalls P f (l.map fun x => X.ev env x) st fun v' st' => v' = v ∧ st' = st) (hk : K v st) : stillV P (.call f l) env st K := ⟨v, h, hk⟩
variable (Q : Ex → Env → St → Prop)
def seqK (b : PC) (Q : Ex → Env → St → Prop) : Ex → Env → St → Prop := fun e env' st' => match e with | .normal => vc P b Q env' st' | e => Q e env' st'
@[simp] theorem seqK_n (b : PC) : seqK P b Q .normal env st = vc P b Q env st := _root_.id rfl
@[simp] theorem seqK_e (b : PC) (i : Nat) : seqK P b Q (.exit i) env st = Q (.exit i) env st := _root_.id rfl
@[simp] theorem seqK_r (b : PC) : seqK P b Q .ret env st = Q .ret env st := _root_.id rfl
def blkK (id : Nat) (Q : Ex → Env → St → Prop) : Ex → Env → St → Prop := fun e env' st' => match e with | .exit j => if j = id then Q .normal env' st' else Q (.exit j) env' st' | e => Q e env' st'
@[simp] theorem blkK_n (i : Nat) : blkK i Q .normal env st = Q .normal env st := _root_.id rfl
@[simp] theorem blkK_r (i : Nat) : blkK i Q .ret env st = Q .ret env st := _root_.id rfl
@[simp] theorem blkK_e (i j : Nat) : blkK i Q (.exit j) env st = if j = i then Q .normal env st else Q (.exit j) env st := _root_.id rfl
def condB (v : V) (a b : PC) (Q : Ex → Env → St → Prop) (env : Env) (st : St) : Prop := match v with | .bool t => if t = true then vc P a Q env st else vc P b Q env st | _ => False
@[simp] theorem condB_t (a b : PC) : condB P (.bool true) a b Q env st = vc P a Q env st := _root_.id rfl
@[simp] theorem condB_f (a b : PC) : condB P (.bool false) a b Q env st = vc P b Q env st := _root_.id rfl
@[simp] theorem vc_skip : vc P .skip Q env st = Q .normal env st := _root_.id rfl
@[simp] theorem vc_exit (id : Nat) : vc P (.exit id) Q env st = Q (.exit id) env st := _root_.id rfl
@[simp] theorem vc_ret : vc P .ret Q env st = Q .ret env st := _root_.id rfl
@[simp] theorem vc_ops (l : List PO) : vc P (.ops l) Q env st = runP P l env st (Q .normal) := _root_.id rfl
@[simp] theorem vc_draw2 (conf : List (Nat × Nat)) (l : List (Cls × PO)) : vc P (.draw2 conf l) Q env st = (Conf conf env ∧ runD P l env st (Q .normal)) := _root_.id rfl
@[simp] theorem vc_draw3 (pre : List (Cls × PO)) (x y : Cls × PO) (post : List (Cls × PO)) : vc P (.draw3 pre x y post) Q env st = runD P pre env st fun env st => runD P (x :: y :: post) env st (Q .normal) ∧ runD P (y :: x :: post) env st (Q .normal) := _root_.id rfl
@[simp] theorem vc_draw (l : List (Cls × PO)) : vc P (.draw l) Q env st = runD P l env st (Q .normal) := _root_.id rfl
@[simp] theorem vc_frz (l : List Nat) : vc P (.frz l) Q env st = frzP l env st (Q .normal) := _root_.id rfl
@[simp] theorem vc_seq (a b : PC) : vc P (.seq a b) Q env st = vc P a (seqK P b Q) env st := _root_.id rfl
@[simp] theorem vc_cond (c : X) (a b : PC) : vc P (.cond c a b) Q env st = condB P (c.ev env) a b Q env st := _root_.id rfl
@[simp] theorem vc_block (id : Nat) (c : PC) : vc P (.block id c) Q env st = vc P c (blkK id Q) env st := _root_.id rfl
def loopK (I : Nat → Env → St → Prop) (n : Nat) (Q : Ex → Env → St → Prop) : Ex → Env → St → Prop := fun e env' st' => match e with | .normal => (∃ n' s, n' < n ∧ St.sub s st' ∧ I n' env' s) | e => Q e env' st'
def Round (I : Nat → Env → St → Prop) (n : Nat) (env : Env) (st : St) : Prop := ∃ n' s, n' < n ∧ St.sub s st ∧ I n' env s
@[simp] theorem loopK_n (I : Nat → Env → St → Prop) (n : Nat) : loopK I n Q .normal env st = Round I n env st := _root_.id rfl
@[simp] theorem loopK_e (I : Nat → Env → St → Prop) (n i : Nat) : loopK I n Q (.exit i) env st = Q (.exit i) env st := _root_.id rfl
@[simp] theorem loopK_r (I : Nat → Env → St → Prop) (n : Nat) : loopK I n Q .ret env st = Q .ret env st := _root_.id rfl
end
section
variable {P : Program} {Q : Ex → Env → St → Prop} {env : Env} {st : St}
theorem vc_loop {c : PC} (I : Nat → Env → St → Prop) (n0 : Nat) (h0 : I n0 env st)
    (round : ∀ n env' st', Same c.writes env env' → I n env' st' → vc P c (loopK I n Q) env' st') : vc P (.loop c) Q env st := by
  refine ⟨fun env st => ∃ n, I n env st, fun env st => leastOf fun n => I n env st, ⟨n0, h0⟩, fun env' st' hs hI => ?_⟩
  refine vc_frame c _ _ env' st' (fun e env'' st'' _ hq => ?_) (round _ env' st' hs (leastOf_spec hI).1)
  cases e with
  | normal =>
    obtain ⟨n', s, hlt, hsub, hI'⟩ := hq
    exact ⟨s, hsub, ⟨n', hI'⟩, Nat.lt_of_le_of_lt ((leastOf_spec ⟨n', hI'⟩).2 n' hI') hlt⟩
  | exit id => exact hq
  | ret => exact hq
theorem vc_loopJ {c : PC} (I : Nat → Env → St → Prop) (n0 : Nat) (h0 : I n0 env st)
    (round : ∀ J : Nat → Env → St → Prop, (∀ n e s, I n e s → J n e s) → ∀ n env' st', Same c.writes env env' → I n env' st' → vc P c (loopK J n Q) env' st') : vc P (.loop c) Q env st :=
  vc_loop I n0 h0 (round I fun _ _ _ h => h)
theorem Round.mk {I : Nat → Env → St → Prop} {n : Nat} (n' : Nat) (s : St) (h1 : n' < n) (h2 : St.sub s st) (h3 : I n' env s) : Round I n env st := ⟨n', s, h1, h2, h3⟩
def endK (res : List PR) (R : V → St → Prop) : Ex → Env → St → Prop := fun e env st => (e = .normal ∨ e = .ret) ∧ match resV env st res with | some v => ∃ s, St.sub s st ∧ R v s | none => False
def onR (v : Option V) (R : V → St → Prop) (st : St) : Prop := match v with | some v => ∃ s, St.sub s st ∧ R v s | none => False
@[simp] theorem endK_n (res : List PR) (R : V → St → Prop) : endK res R .normal env st = onR (resV env st res) R st := by simp [endK, onR]
@[simp] theorem endK_r (res : List PR) (R : V → St → Prop) : endK res R .ret env st = onR (resV env st res) R st := by simp [endK, onR]
@[simp] theorem endK_e (res : List PR) (R : V → St → Prop) (i : Nat) : endK res R (.exit i) env st = False := by simp [endK]
@[simp] theorem onR_some (v : V) (R : V → St → Prop) : onR (some v) R st = ∃ s, St.sub s st ∧ R v s := _root_.id rfl
attribute [simp] resV resAll resOne
theorem shows_call {an : An} {f : FuncId} {F : PF} (hm : P.follows .mixedOrders = true) (hc : compFn P an f = some F) {args : List V} {R : V → St → Prop} (hl : args.length ≤ F.n)
    (h : vc P F.code (endK F.res R) (argEnv args) st) : ACalls P f args st R := acalls_of_shows hm hc hl h
theorem store_pt {id o sz : Nat} {cs vs : List V} {v : V} (h : st id = some (.cells cs)) (hv : v.cells? = some vs) (hs : vs.length = sz) (hl : o + sz ≤ cs.length) : storeS st sz (.ptr (some (id, o))) v = some (st.upd id (.cells (spliceV cs o vs))) := by
  simp only [storeS, h, hv]
  rw [if_pos ⟨hs, hl⟩]
end
end Go.Ab
set_option linter.unusedSimpArgs false
set_option linter.unusedVariables false
namespace Go.Ab
open Go Go.RowKit
abbrev Asn := St → Prop
def pt (i : Nat) (o : AObj) : Asn := fun h => h i = some o
def Sep : List Asn → St → Prop
  | [], _ => True
  | A :: L, st => ∃ h r, Disj h r ∧ St.sub (h.add r) st ∧ A h ∧ Sep L r
theorem disj_symm {a b : St} (h : Disj a b) : Disj b a := fun i => (h i).symm
theorem disj_sub {a a' b : St} (h : Disj a b) (hs : St.sub a' a) : Disj a' b := h.sub hs
theorem sub_right {h r : St} (hd : Disj h r) : St.sub r (h.add r) := fun i o e => by
  have : h i = none := (hd i).resolve_right (by rw [e]; simp)
  simp [St.add, this, e]
theorem Sep.sub {L : List Asn} {st st' : St} (h : Sep L st) (hs : St.sub st st') : Sep L st' := by
  cases L with
  | nil => trivial
  | cons A L =>
    obtain ⟨a, r, h1, h2, h3, h4⟩ := h
    exact ⟨a, r, h1, sub_trans h2 hs, h3, h4⟩
theorem Sep.get {i : Nat} {o : AObj} {L : List Asn} {st : St} (h : Sep (pt i o :: L) st) : st i = some o := by
  obtain ⟨a, r, h1, h2, h3, h4⟩ := h
  exact h2 i o (add_some h3)
theorem Sep.drop {A : Asn} {L : List Asn} {st : St} (h : Sep (A :: L) st) : Sep L st := by
  obtain ⟨a, r, h1, h2, h3, h4⟩ := h
  exact Sep.sub h4 (sub_trans (sub_right h1) h2)
theorem Sep.head {A A' : Asn} {L : List Asn} {st : St} (hA : ∀ h, A h → A' h) (h : Sep (A :: L) st) : Sep (A' :: L) st := by
  obtain ⟨a, r, h1, h2, h3, h4⟩ := h
  exact ⟨a, r, h1, h2, hA _ h3, h4⟩
theorem Sep.swap {A B : Asn} {L : List Asn} {st : St} (h : Sep (A :: B :: L) st) : Sep (B :: A :: L) st := by
  obtain ⟨a, r, h1, h2, h3, b, r', k1, k2, k3, k4⟩ := h
  have hab : Disj a b := disj_symm (Disj.sub (disj_symm h1) (sub_trans (sub_add b r') k2))
  have har : Disj a r' := disj_symm (Disj.sub (disj_symm h1) (sub_trans (sub_right k1) k2))
  refine ⟨b, a.add r', fun i => ?_, fun i o e => h2 i o ?_, k3, a, r', har, St.sub_refl _, h3, k4⟩
  · rcases hab i with e | e
    · rcases k1 i with e' | e'
      · exact .inl e'
      · exact .inr (add_none.2 ⟨e, e'⟩)
    · exact .inl e
  · cases ha : a i with
    | some x =>
      have hb : b i = none := (hab i).resolve_left (by rw [ha]; simp)
      simp only [St.add, hb, ha] at e
      cases e
      exact add_some ha
    | none =>
      have : (b.add r') i = some o := by
        simp only [St.add, ha] at e ⊢
        exact e
      simp only [St.add, ha]
      exact k2 i o this
theorem Sep.tail {A : Asn} {L L' : List Asn} {st : St} (hL : ∀ r, Sep L r → Sep L' r) (h : Sep (A :: L) st) : Sep (A :: L') st := by
  obtain ⟨a, r, h1, h2, h3, h4⟩ := h
  exact ⟨a, r, h1, h2, h3, hL _ h4⟩
def pull : Nat → List Asn → List Asn
  | _, [] => []
  | 0, l => l
  | n + 1, A :: l => match pull n l with
    | B :: m => B :: A :: m
    | [] => [A]
theorem Sep.pull {st : St} : ∀ (n : Nat) (L : List Asn), Sep L st → Sep (Ab.pull n L) st := by
  intro n
  induction n generalizing st with
  | zero => intro L h; cases L <;> exact h
  | succ n ih =>
    intro L h
    cases L with
    | nil => trivial
    | cons A L =>
      have h1 := Sep.tail (fun r hr => ih L hr) h
      simp only [Ab.pull]
      cases hp : Ab.pull n L with
      | nil => rw [hp] at h1; exact h1
      | cons B m => rw [hp] at h1; exact h1.swap
theorem Sep.new {L : List Asn} {st : St} (h : Sep L st) {i : Nat} (hi : st i = none) (o : AObj) : Sep (pt i o :: L) (st.upd i o) := by
  refine ⟨fun j => if j = i then some o else none, st, fun j => ?_, fun j x e => ?_, by simp [pt], h⟩
  · by_cases e : j = i
    · exact .inr (e ▸ hi)
    · exact .inl (by simp [e])
  · by_cases e' : j = i
    · subst e'
      simpa [St.add, St.upd] using e
    · simpa [St.add, St.upd, e'] using e
theorem Sep.set {L : List Asn} {st : St} {i : Nat} {o : AObj} (h : Sep (pt i o :: L) st) (o' : AObj) : Sep (pt i o' :: L) (st.upd i o') := by
  obtain ⟨a, r, h1, h2, h3, h4⟩ := h
  refine ⟨a.upd i o', r, h1.upd (h1.some h3) _, fun j x e => ?_, by simp [pt], h4⟩
  rw [upd_add] at e
  by_cases e' : j = i
  · subst e'
    simpa [St.upd] using e
  · simp only [St.upd, e', if_false] at e ⊢
    exact h2 j x e
theorem Sep.del {L : List Asn} {st : St} {i : Nat} {o : AObj} (h : Sep (pt i o :: L) st) : Sep L (st.del i) := by
  obtain ⟨a, r, h1, h2, h3, h4⟩ := h
  refine h4.sub fun j x e => ?_
  have : j ≠ i := fun e' => by
    subst e'
    rw [h1.some h3] at e
    cases e
  simp only [St.del, this, if_false]
  exact h2 j x (sub_right h1 j x e)
theorem Sep.ne {i j : Nat} {o o' : AObj} {L : List Asn} {st : St} (h : Sep (pt i o :: pt j o' :: L) st) : i ≠ j := by
  obtain ⟨a, r, h1, h2, h3, h4⟩ := h
  have hj := Sep.get h4
  intro e
  subst e
  rw [h1.some h3] at hj
  cases hj
theorem Sep.one {A : Asn} {st : St} (h : A st) : Sep [A] st := by
  refine ⟨st, fun _ => none, fun _ => .inr rfl, fun i o e => ?_, h, trivial⟩
  simp only [St.add] at e
  cases hs : st i with
  | some x => rw [hs] at e; exact e
  | none => rw [hs] at e; cases e
theorem Sep.call {P : Program} {f : FuncId} {args : List V} {A : Asn} {L : List Asn} {st : St} (h : Sep (A :: L) st) {R : V → St → Prop} (hc : ∀ h, A h → ACalls P f args h R) : ACalls P f args st fun v st' => Sep (R v :: L) st' := by
  obtain ⟨a, r, h1, h2, h3, h4⟩ := h
  have hd : Disj a (fun i => if (a i).isSome = true then none else st i) := fun i => by
    cases e : a i with
    | none => exact .inl rfl
    | some o => exact .inr (by simp [e])
  have e : a.add (fun i => if (a i).isSome = true then none else st i) = st := by
    funext i
    simp only [St.add]
    cases e : a i with
    | some o => exact (h2 i o (add_some e)).symm
    | none => simp [e]
  have := (hc a h3).frame hd
  rw [e] at this
  refine this.mono ?_
  rintro v s ⟨s', k1, rfl, k3⟩
  have hr : St.sub r (fun i => if (a i).isSome = true then none else st i) := fun i o e => by
    have : a i = none := (h1 i).resolve_right (by rw [e]; simp)
    simp only [this, Option.isSome_none, Bool.false_eq_true, if_false]
    exact h2 i o (sub_right h1 i o e)
  refine ⟨s', r, disj_symm (Disj.sub (disj_symm k1) hr), ?_, k3, h4⟩
  intro i o e
  simp only [St.add] at e ⊢
  cases hs : s' i with
  | some x => rw [hs] at e; exact e
  | none => rw [hs] at e; exact hr i o e
theorem Sep.pure {p : Prop} {A : Asn} {L : List Asn} {st : St} (h : Sep ((fun h => p ∧ A h) :: L) st) : p ∧ Sep (A :: L) st := by
  obtain ⟨a, r, h1, h2, h3, h4⟩ := h
  exact ⟨h3.1, a, r, h1, h2, h3.2, h4⟩
theorem Sep.ex {α : Type} {A : α → Asn} {L : List Asn} {st : St} (h : Sep ((fun h => ∃ x, A x h) :: L) st) : ∃ x, Sep (A x :: L) st := by
  obtain ⟨a, r, h1, h2, ⟨x, h3⟩, h4⟩ := h
  exact ⟨x, a, r, h1, h2, h3, h4⟩
theorem Sep.part {A : Asn} {L : List Asn} {st : St} (h : Sep (A :: L) st) : ∃ h', St.sub h' st ∧ A h' := by
  obtain ⟨a, r, h1, h2, h3, h4⟩ := h
  exact ⟨a, sub_trans (sub_add a r) h2, h3⟩
def Was (st : St) : Asn := fun h => h = st
theorem Sep.was {st0 st : St} {L : List Asn} (h : Sep (Was st0 :: L) st) : St.sub st0 st := by
  obtain ⟨h', h1, rfl⟩ := h.part
  exact h1
theorem Sep.start (st : St) : Sep [Was st] st := Sep.one rfl
end Go.Ab
set_option linter.unusedSimpArgs false
set_option linter.unusedVariables false
namespace Go.Ab
open Go Go.RowKit
theorem Same.get {W : List Nat} {env env' : Env} (h : Same W env env') (t : Nat) (ht : W.contains t = false) : env' t = env t := h t (by simpa using ht)
def rowsOf {α : Type} (f : α → List V) (l : List α) : List V := l.flatMap f
section
variable {α : Type} {f : α → List V} {sz : Nat}
@[simp] theorem rowsOf_nil : rowsOf f [] = [] := by simp [rowsOf]
@[simp] theorem rowsOf_cons (a : α) (l : List α) : rowsOf f (a :: l) = f a ++ rowsOf f l := by simp [rowsOf]
@[simp] theorem rowsOf_append (a b : List α) : rowsOf f (a ++ b) = rowsOf f a ++ rowsOf f b := by simp [rowsOf]
theorem rowsOf_length (hf : ∀ a, (f a).length = sz) : ∀ (l : List α), (rowsOf f l).length = l.length * sz
  | [] => by simp [rowsOf]
  | a :: l => by
    have := rowsOf_length hf l
    simp only [rowsOf, List.flatMap_cons, List.length_append, List.length_cons, hf, Nat.succ_mul] at this ⊢
    omega
theorem rowsOf_drop (hf : ∀ a, (f a).length = sz) : ∀ (i : Nat) (l : List α), (rowsOf f l).drop (i * sz) = rowsOf f (l.drop i)
  | 0, l => by simp
  | i + 1, [] => by simp
  | i + 1, a :: l => by
    have := rowsOf_drop hf i l
    rw [rowsOf_cons, List.drop_succ_cons, ← this, show (i + 1) * sz = (f a).length + i * sz by rw [hf, Nat.succ_mul]; omega, ← List.drop_drop, List.drop_left]
theorem rowsOf_row (hf : ∀ a, (f a).length = sz) (l : List α) (sp : List V) {i : Nat} (h : i < l.length) : ((rowsOf f l ++ sp).drop (i * sz)).take sz = f l[i] := by
  have hl := rowsOf_length hf l
  have hle : i * sz ≤ l.length * sz := Nat.mul_le_mul_right _ (by omega)
  rw [List.drop_append_of_le_length (by omega), rowsOf_drop hf, List.drop_eq_getElem_cons h, rowsOf_cons, List.append_assoc, ← hf l[i], List.take_left]
theorem rowsOf_eptr (hf : ∀ a, (f a).length = sz) (l : List α) {i : Nat} (h : i < l.length) : segOf ((rowsOf f l).drop (i * sz)) 0 sz = some (f l[i]) := by
  have hs := rowsOf_row hf l [] h
  have hl := rowsOf_length hf l
  have hle : (i + 1) * sz ≤ l.length * sz := Nat.mul_le_mul_right _ (by omega)
  rw [Nat.succ_mul] at hle
  rw [List.append_nil] at hs
  unfold segOf
  rw [if_pos (by simp; omega), List.drop_zero, hs]
def Sl (sz : Nat) (f : α → List V) (s : V) (l : List α) : Asn := fun h =>
  ((s = .sl .nil [] 0 ∨ s = .sl .full [] 0) ∧ l = []) ∨ ∃ sid spare, s = .hsl sid 0 sz l.length ∧ h sid = some (.cells (rowsOf f l ++ spare)) ∧ sz ∣ spare.length
def Rd (sz : Nat) (f : α → List V) (s : V) (l : List α) (st : St) : Prop :=
  (∃ k, s = .sl k (rowsOf f l) l.length) ∨ ∃ sid off, s = .hsl sid off sz l.length ∧ st.seg sid off (l.length * sz) = some (rowsOf f l)
theorem Rd.len {s : V} {l : List α} {st : St} (h : Rd sz f s l st) : lenSlV s = some (.int .i64 l.length) := by
  rcases h with ⟨k, rfl⟩ | ⟨sid, off, rfl, _⟩ <;> rfl
theorem Rd.elems (hf : ∀ a, (f a).length = sz) {s : V} {l : List α} {st : St} (h : Rd sz f s l st) : elems st sz s = some (rowsOf f l, l.length) := by
  rcases h with ⟨k, rfl⟩ | ⟨sid, off, rfl, hs⟩
  · simp [Ab.elems, rowsOf_length hf]
  · simp [Ab.elems, hs]
theorem Rd.idx (hf : ∀ a, (f a).length = sz) {s : V} {l : List α} {st : St} (h : Rd sz f s l st) {i : Nat} (hi : i < l.length) (k : IntKind) : ∃ p, idxSlV sz s (.int k i) = some p ∧ ldCells st sz p = some (f l[i]) := by
  rcases h with ⟨k, rfl⟩ | ⟨sid, off, rfl, hs⟩
  · refine ⟨.eptr ((rowsOf f l).drop (i * sz)), ?_, ?_⟩
    · simp [hi]
    · simp [rowsOf_eptr hf l hi]
  · refine ⟨.ptr (some (sid, off + i * sz)), ?_, ?_⟩
    · simp [hi]
    · rw [ld_ptr, seg_at hs hi]
      have := rowsOf_row hf l [] hi
      rw [List.append_nil] at this
      rw [this]
theorem Rd.sub {s : V} {l : List α} {st st' : St} (h : Rd sz f s l st) (hs : St.sub st st') : Rd sz f s l st' := by
  rcases h with ⟨k, rfl⟩ | ⟨sid, off, rfl, h⟩
  · exact .inl ⟨k, rfl⟩
  · exact .inr ⟨sid, off, rfl, seg_sub hs h⟩
theorem Sl.rd (hf : ∀ a, (f a).length = sz) {s : V} {l : List α} {h : St} (hs : Sl sz f s l h) : Rd sz f s l h := by
  rcases hs with ⟨hs | hs, rfl⟩ | ⟨sid, spare, rfl, h1, _⟩
  · exact .inl ⟨.nil, by rw [hs]; rfl⟩
  · exact .inl ⟨.full, by rw [hs]; rfl⟩
  · have hl := rowsOf_length hf l
    refine .inr ⟨sid, 0, rfl, ?_⟩
    simp only [St.seg, h1, segOf]
    rw [if_pos (by simp; omega), List.drop_zero, ← hl, List.take_left]
theorem Sep.rd (hf : ∀ a, (f a).length = sz) {s : V} {l : List α} {L : List Asn} {st : St} (h : Sep (Sl sz f s l :: L) st) : Rd sz f s l st := by
  obtain ⟨h', h1, h2⟩ := h.part
  exact (h2.rd hf).sub h1
theorem Sep.put {A : Asn} {L : List Asn} {st : St} (h : Sep L st) (hA : A fun _ => none) : Sep (A :: L) st :=
  ⟨fun _ => none, st, fun _ => .inl rfl, fun i o e => by simpa [St.add] using e, hA, h⟩
theorem Sep.app1 (hf : ∀ a, (f a).length = sz) (hsz : 0 < sz) {s : V} {l : List α} {L : List Asn} {st : St} (h : Sep (Sl sz f s l :: L) st) {b : Nat} {a : α} {ys : List V} (hys : ys = f a) (hb : (l.length + 1) * b ≤ 140737488355328) {K : V → St → Prop}
    (hK : ∀ s' st', Sep (Sl sz f s' (l ++ [a]) :: L) st' → K s' st') : appS sz b s (some (ys, 1)) st K := by
  subst hys
  obtain ⟨a0, r, h1, h2, h3, h4⟩ := h
  have hl := rowsOf_length hf l
  rcases h3 with ⟨hs, rfl⟩ | ⟨sid, spare, rfl, h5, h6⟩
  · have key : ∀ k, (k = .nil ∨ k = .full) → appS sz b (.sl k [] 0) (some (f a, 1)) st K := fun k hk =>
      app_nil _ _ hk (by omega) (by simpa using hb) (fun id hid => hK _ _ (by
        have hsub : St.sub r st := sub_trans (sub_right h1) h2
        have := (h4.sub hsub).new hid (.cells (f a))
        exact this.head fun h hh => .inr ⟨id, [], rfl, hh.trans (by simp), by simp⟩))
    rcases hs with rfl | rfl
    · exact key _ (.inl rfl)
    · exact key _ (.inr rfl)
  · have hsid : st sid = some (.cells (rowsOf f l ++ spare)) := h2 _ _ (add_some h5)
    by_cases hsp : spare = []
    · subst hsp
      rw [List.append_nil] at hsid h5
      refine app_grow _ _ hsid hb hl (by rw [hl, Nat.succ_mul]; omega) (fun id hid => hK _ _ ?_)
      have hd : Sep L (st.del sid) := h4.sub fun j x e => by
        have : j ≠ sid := fun e' => by
          subst e'
          rw [h1.some h5] at e
          cases e
        simp only [St.del, this, if_false]
        exact h2 j x (sub_right h1 j x e)
      exact (hd.new hid (.cells (rowsOf f l ++ f a))).head fun h hh => .inr ⟨id, [], by simp, hh.trans (by simp), by simp⟩
    · have hge : sz ≤ spare.length := by
        cases spare with
        | nil => exact absurd rfl hsp
        | cons x l => exact Nat.le_of_dvd (by simp) h6
      refine app_room _ _ hsid hb (by simp [hl, Nat.succ_mul]; omega) (hK _ _ ?_)
      have hsep : Sep (pt sid (.cells (rowsOf f l ++ spare)) :: L) st := ⟨a0, r, h1, h2, h5, h4⟩
      refine (hsep.set _).head fun h hh => .inr ⟨sid, spare.drop sz, by simp, hh.trans (congrArg (fun c => some (AObj.cells c)) ?_), ?_⟩
      · rw [List.length_drop]
        exact Nat.dvd_sub h6 (Nat.dvd_refl _)
      · unfold spliceV
        rw [Nat.zero_add, ← hl, List.take_left, hf, List.drop_length_add_append]
        simp
def Slx (sz : Nat) (f : α → List V) (s : V) (l : List α) : Asn := fun h =>
  ((s = .sl .nil [] 0 ∨ s = .sl .full [] 0) ∧ l = []) ∨ ∃ sid, s = .hsl sid 0 sz l.length ∧ h sid = some (.cells (rowsOf f l))
theorem Slx.sl {s : V} {l : List α} {h : St} (hs : Slx sz f s l h) : Sl sz f s l h := by
  rcases hs with h | ⟨sid, rfl, h⟩
  · exact .inl h
  · exact .inr ⟨sid, [], rfl, by rw [h, List.append_nil], by simp⟩
theorem Sep.slxNil {L : List Asn} {st : St} (h : Sep L st) : Sep (Slx sz f (.sl .nil [] 0) [] :: L) st := h.put (.inl ⟨.inl rfl, rfl⟩)
theorem Sep.slxFull {L : List Asn} {st : St} (h : Sep L st) : Sep (Slx sz f (.sl .full [] 0) [] :: L) st := h.put (.inl ⟨.inr rfl, rfl⟩)
theorem Sep.appx (hf : ∀ a, (f a).length = sz) (hsz : 0 < sz) {s : V} {l : List α} {L : List Asn} {st : St} (h : Sep (Slx sz f s l :: L) st) {b : Nat} {m : List α} (hb : (l.length + m.length) * b ≤ 140737488355328) {K : V → St → Prop}
    (hK : ∀ s' st', Sep (Slx sz f s' (l ++ m) :: L) st' → K s' st') : appS sz b s (some (rowsOf f m, m.length)) st K := by
  have h0 := h
  obtain ⟨a0, r, h1, h2, h3, h4⟩ := h
  have hl := rowsOf_length hf l
  have hm := rowsOf_length hf m
  rcases h3 with ⟨hs, rfl⟩ | ⟨sid, rfl, h5⟩
  · have key : ∀ k, s = .sl k [] 0 → (k = .nil ∨ k = .full) → appS sz b (.sl k [] 0) (some (rowsOf f m, m.length)) st K := fun k hs hk => by
      by_cases h0' : m = []
      · subst h0'
        refine ⟨hk, by simp, by simp, fun _ => hK _ _ (by rw [← hs]; exact h0), fun e => absurd rfl e⟩
      · refine app_nil _ _ hk (by simpa using h0') (by simpa using hb) (fun id hid => hK _ _ ?_)
        have hsub : St.sub r st := sub_trans (sub_right h1) h2
        have := (h4.sub hsub).new hid (.cells (rowsOf f m))
        exact this.head fun h hh => .inr ⟨id, by simp, hh.trans (by simp)⟩
    rcases hs with rfl | rfl
    · exact key _ rfl (.inl rfl)
    · exact key _ rfl (.inr rfl)
  · have hsid : st sid = some (.cells (rowsOf f l)) := h2 _ _ (add_some h5)
    by_cases h0' : m = []
    · subst h0'
      refine app_room _ _ hsid hb (by simp [hl]) (hK _ _ ?_)
      have hsep : Sep (pt sid (.cells (rowsOf f l)) :: L) st := ⟨a0, r, h1, h2, h5, h4⟩
      refine (hsep.set _).head fun h hh => .inr ⟨sid, by simp, hh.trans (congrArg (fun c => some (AObj.cells c)) ?_)⟩
      unfold spliceV
      rw [Nat.zero_add, ← hl, List.take_length]
      simp
    · have hpos : 0 < m.length := List.length_pos_iff.2 h0'
      refine app_grow _ _ hsid hb hl (by
        rw [hl, Nat.add_mul]
        have : 0 < m.length * sz := Nat.mul_pos hpos hsz
        omega) (fun id hid => hK _ _ ?_)
      have hd : Sep L (st.del sid) := h4.sub fun j x e => by
        have : j ≠ sid := fun e' => by
          subst e'
          rw [h1.some h5] at e
          cases e
        simp only [St.del, this, if_false]
        exact h2 j x (sub_right h1 j x e)
      exact (hd.new hid (.cells (rowsOf f l ++ rowsOf f m))).head fun h hh => .inr ⟨id, by simp, hh.trans (by simp)⟩
end
section
variable {α : Type} {g : α → α} {l : List α} {j : Nat}
end
def e1 (n : Int) : List V := [.int .i64 n]
def e2 (r : Int × Int) : List V := [.int .i64 r.1, .int .i64 r.2]
def e3 (r : Int × Int × Int) : List V := [.int .i64 r.1, .int .i64 r.2.1, .int .i64 r.2.2]
def e8 (b : UInt8) : List V := [.int .u8 b.toNat]
theorem e8_len (b : UInt8) : (e8 b).length = 1 := rfl
end Go.Ab
set_option linter.unusedSimpArgs false
set_option linter.unusedVariables false
namespace Go.Ab
open Go Go.RowKit
def All (L : List Asn) : Asn := fun h => Sep L h
theorem Sep.app {L1 L2 : List Asn} : ∀ {st : St}, Sep (All L1 :: L2) st → Sep (L1 ++ L2) st := by
  induction L1 with
  | nil => exact fun h => h.drop
  | cons A L1 ih =>
    intro st h
    obtain ⟨a, r, h1, h2, ⟨b, c, k1, k2, k3, k4⟩, h4⟩ := h
    have hcr : Disj c r := disj_sub h1 (sub_trans (sub_right k1) k2)
    have hbr : Disj b r := disj_sub h1 (sub_trans (sub_add b c) k2)
    refine ⟨b, c.add r, fun i => ?_, fun i o e => h2 i o ?_, k3, ih ⟨c, r, hcr, St.sub_refl _, k4, h4⟩⟩
    · rcases k1 i with e | e
      · exact .inl e
      · rcases hbr i with e' | e'
        · exact .inl e'
        · exact .inr (add_none.2 ⟨e, e'⟩)
    · simp only [St.add] at e ⊢
      cases hb : b i with
      | some x =>
        rw [hb] at e
        cases e
        rw [k2 i o (by simp [St.add, hb])]
      | none =>
        rw [hb] at e
        simp only at e
        cases hc : c i with
        | some x =>
          rw [hc] at e
          cases e
          rw [k2 i o (by simp [St.add, hb, hc])]
        | none =>
          rw [hc] at e
          simp only at e
          have : a i = none := (h1 i).resolve_right (by rw [e]; simp)
          rw [this]
          exact e
theorem Sep.all {L1 L2 : List Asn} : ∀ {st : St}, Sep (L1 ++ L2) st → Sep (All L1 :: L2) st := by
  induction L1 with
  | nil => exact fun h => h.put trivial
  | cons A L1 ih =>
    intro st h
    obtain ⟨a, r, h1, h2, h3, h4⟩ := h
    obtain ⟨c, d, k1, k2, k3, k4⟩ := ih h4
    have hac : Disj a c := disj_symm (disj_sub (disj_symm h1) (sub_trans (sub_add c d) k2))
    have had : Disj a d := disj_symm (disj_sub (disj_symm h1) (sub_trans (sub_right k1) k2))
    refine ⟨a.add c, d, fun i => ?_, fun i o e => h2 i o ?_, ⟨a, c, hac, St.sub_refl _, h3, k3⟩, k4⟩
    · rcases had i with e | e
      · rcases k1 i with e' | e'
        · exact .inl (add_none.2 ⟨e, e'⟩)
        · exact .inr e'
      · exact .inr e
    · simp only [St.add] at e ⊢
      cases ha : a i with
      | some x => rw [ha] at e; exact e
      | none =>
        rw [ha] at e
        simp only at e ⊢
        exact k2 i o (by simpa [St.add] using e)
section
variable {K A : Type} [DecidableEq K] (ek : K → V) (ev : A → V)
def encM (l : List (K × A)) : List (V × V) := l.map fun p => (ek p.1, ev p.2)
def aSet (k : K) (v : A) : List (K × A) → List (K × A)
  | [] => [(k, v)]
  | p :: l => if k = p.1 then (k, v) :: l else p :: aSet k v l
def aDel (k : K) : List (K × A) → List (K × A)
  | [] => []
  | p :: l => if k = p.1 then l else p :: aDel k l
structure Keyed (kk : KK) : Prop where
  key : ∀ k, isKey kk (ek k) = true
  eq : ∀ a b, keyEq kk (ek a) (ek b) = some (decide (a = b))
variable {ek ev} {kk : KK} (hk : Keyed ek kk)
include hk
theorem mfind_enc (k : K) : ∀ l : List (K × A), mfind kk (ek k) (encM ek ev l) = some ((l.lookup k).map ev)
  | [] => by simp [mfind, encM]
  | (k', v') :: l => by
    have ih := mfind_enc k l
    simp only [encM, List.map_cons, mfind, hk.eq, List.lookup_cons] at ih ⊢
    by_cases h : k = k'
    · simp [h]
    · have : (k == k') = false := by simp [h]
      simp only [h, decide_false, this]
      exact ih
theorem mput_enc (k : K) (v : A) : ∀ l : List (K × A), mput kk (ek k) (ev v) (encM ek ev l) = some (encM ek ev (aSet k v l))
  | [] => by simp [mput, encM, aSet]
  | p :: l => by
    have ih := mput_enc k v l
    simp only [encM, List.map_cons, mput, hk.eq, aSet] at ih ⊢
    by_cases h : k = p.1
    · simp [h]
    · simp only [h, decide_false, if_false, List.map_cons]
      rw [ih]
      rfl
theorem mrem_enc (k : K) : ∀ l : List (K × A), mrem kk (ek k) (encM ek ev l) = some (encM ek ev (aDel k l))
  | [] => by simp [mrem, encM, aDel]
  | p :: l => by
    have ih := mrem_enc k l
    simp only [encM, List.map_cons, mrem, hk.eq, aDel] at ih ⊢
    by_cases h : k = p.1
    · simp [h]
    · simp only [h, decide_false, if_false, List.map_cons]
      rw [ih]
      rfl
theorem lookup_enc {st : St} {id : Nat} {l : List (K × A)} (h : st id = some (.mp (encM ek ev l))) (z : V) (ok : Bool) (k : K) :
    lookupV st kk z ok (.map (some id)) (ek k) = some (if ok then .tup [((l.lookup k).map ev).getD z, .bool (l.lookup k).isSome] else ((l.lookup k).map ev).getD z) := by
  simp [lookupV, hk.key, mapOf, h, mfind_enc hk]
theorem mset_enc {st : St} {id : Nat} {l : List (K × A)} (h : st id = some (.mp (encM ek ev l))) (k : K) (v : A) : msetS st kk (.map (some id)) (ek k) (ev v) = some (st.upd id (.mp (encM ek ev (aSet k v l)))) := by
  simp [msetS, hk.key, h, mput_enc hk]
theorem mdel_enc {st : St} {id : Nat} {l : List (K × A)} (h : st id = some (.mp (encM ek ev l))) (k : K) : mdelS st kk (.map (some id)) (ek k) = some (st.upd id (.mp (encM ek ev (aDel k l)))) := by
  simp [mdelS, hk.key, h, mrem_enc hk]
end
@[simp] theorem encM_length {K A : Type} (ek : K → V) (ev : A → V) (l : List (K × A)) : (encM ek ev l).length = l.length := by simp [encM]
@[simp] theorem encM_nil {K A : Type} (ek : K → V) (ev : A → V) : encM ek ev ([] : List (K × A)) = [] := rfl
theorem lenMap_mp {st : St} {id : Nat} {es : List (V × V)} (h : st id = some (.mp es)) : lenMapV st (.map (some id)) = some (.int .i64 es.length) := by simp [lenMapV, h]
@[simp] theorem lenMap_none {st : St} : lenMapV st (.map none) = some (.int .i64 0) := _root_.id rfl
def kInt (n : Int) : V := .int .i64 n
abbrev Id := Vector UInt8 32
def eId (x : Id) : List V := x.toList.map fun b => V.int .u8 b.toNat
theorem eId_len (x : Id) : (eId x).length = 32 := by simp [eId]
def kId (x : Id) : V := .agg (eId x)
def eBytes (l : List UInt8) : List V := l.map fun b => V.int .u8 b.toNat
theorem eqL_bytes : ∀ (a b : List UInt8), a.length = b.length → eqL (eBytes a) (eBytes b) = some (decide (a = b))
  | [], [], _ => rfl
  | [], _ :: _, h => by simp at h
  | _ :: _, [], h => by simp at h
  | x :: a, y :: b, h => by
    have ih := eqL_bytes a b (by simpa using h)
    simp only [eBytes, List.map_cons, eqL, if_true] at ih ⊢
    rw [ih]
    simp only [Option.map_some, Option.some.injEq]
    rw [Bool.eq_iff_iff]
    simp only [Bool.and_eq_true, beq_iff_eq, decide_eq_true_eq, List.cons.injEq]
    constructor
    · rintro ⟨h1, h2⟩
      exact ⟨UInt8.toNat_inj.1 (by omega), h2⟩
    · rintro ⟨h1, h2⟩
      exact ⟨by rw [h1], h2⟩
theorem eqL_id (a b : Id) : eqL (eId a) (eId b) = some (decide (a = b)) := by
  have := eqL_bytes a.toList b.toList (by simp)
  rw [show eId a = eBytes a.toList from rfl, show eId b = eBytes b.toList from rfl, this]
  congr 1
  rw [Bool.eq_iff_iff]
  simp only [decide_eq_true_eq]
  exact ⟨fun h => Vector.toList_inj.1 h, fun h => by rw [h]⟩
theorem keyed_id : Keyed kId (.agg 32) := ⟨fun k => by simp [isKey, kId, eId], fun a b => by
  simp only [keyEq, kId]
  rw [if_pos (eId_len a), eqL_id]⟩
def Going (m it : Nat) (l : List ((V × V) × Bool)) (last : Option Nat) : Asn := fun h =>
  ∃ (bs : List Nat) (clk since : Nat) (seen : List Nat) (stp : Nat), h m = some (.mpi (l.map (·.1)) bs clk) ∧ h it = some (.mit (some m) since seen stp) ∧ bs.length = l.length ∧ bs.Pairwise (· < ·) ∧ (∀ b ∈ bs, b < since) ∧ since ≤ stp ∧ stp ≤ clk ∧
    (∀ i (hi : i < l.length), bs.getD i 0 ∈ seen ↔ l[i].2 = true) ∧ ∀ i, last = some i → i < l.length ∧ seen.getLast? = some (bs.getD i 0) ∧ stp = clk
theorem pw_inj {bs : List Nat} (h : bs.Pairwise (· < ·)) {i j : Nat} (hi : i < bs.length) (hj : j < bs.length) (e : bs.getD i 0 = bs.getD j 0) : i = j := by
  have hp := List.pairwise_iff_getElem.1 h
  simp only [List.getD_eq_getElem?_getD, List.getElem?_eq_getElem hi, List.getElem?_eq_getElem hj, Option.getD_some] at e
  rcases Nat.lt_trichotomy i j with hlt | he | hgt
  · have := hp i j hi hj hlt; omega
  · exact he
  · have := hp j i hj hi hgt; omega
theorem Sep.next {m it : Nat} {l : List ((V × V) × Bool)} {last : Option Nat} {L : List Asn} {st : St} (h : Sep (Going m it l last :: L) st) {K : V → St → Prop}
    (h1 : (∀ x ∈ l, x.2 = true) → K (.tup [.bool false]) st)
    (h2 : ∀ i (hi : i < l.length), l[i].2 = false → ∀ st', Sep (Going m it (l.set i (l[i].1, true)) (some i) :: L) st' → K (.tup [.bool true, l[i].1.1, l[i].1.2]) st') : nextMapS (.ptr (some (it, 0))) st K := by
  obtain ⟨a, r, k1, k2, ⟨bs, clk, since, seen, stp, g1, g2, g3, g4, g5, g6, g7, g8, g9⟩, k4⟩ := h
  have e1 := k2 _ _ (add_some g1)
  have e2 := k2 _ _ (add_some g2)
  simp only [nextMapS, e2, e1]
  refine ⟨g5, g6, by simpa using g3, fun hs => h1 fun x hx => ?_, fun i hi hn => ?_⟩
  · obtain ⟨i, hi, rfl⟩ := List.getElem_of_mem hx
    refine (g8 i hi).1 (hs _ ?_)
    rw [List.getD_eq_getElem?_getD, List.getElem?_eq_getElem (by omega)]
    exact List.getElem_mem _
  · have hi' : i < l.length := by simpa using hi
    have hf : l[i].2 = false := by
      cases hb : l[i].2 with
      | false => rfl
      | true => exact absurd ((g8 i hi').2 hb) hn
    have hd : (l.map (·.1)).getD i default = l[i].1 := by
      rw [List.getD_eq_getElem?_getD, List.getElem?_map, List.getElem?_eq_getElem hi']
      rfl
    rw [hd]
    refine h2 i hi' hf _ ?_
    have hne : m ≠ it := fun e => by rw [e, g2] at g1; cases g1
    refine ⟨a.upd it (.mit (some m) since (seen ++ [bs.getD i 0]) clk), r, k1.upd (k1.some g2) _, fun j o e => ?_, ⟨bs, clk, since, seen ++ [bs.getD i 0], clk, ?_, by simp, by simpa using g3, g4, g5, by omega, Nat.le_refl _, fun j hj => ?_, fun j e => ?_⟩, k4⟩
    · rw [upd_add] at e
      by_cases ej : j = it
      · simpa [ej] using e
      · simp only [st_upd, ej, if_false] at e ⊢
        exact k2 j o e
    · have : (l.set i (l[i].1, true)).map (·.1) = l.map (·.1) := by
        rw [List.map_set]
        apply List.ext_getElem
        · simp
        · intro j q1 q2
          simp only [List.getElem_set, List.getElem_map]
          split
          · rename_i e; subst e; rfl
          · rfl
      rw [this]
      simp [hne, g1]
    · simp only [List.length_set] at hj
      simp only [List.mem_append, List.mem_singleton, List.getElem_set]
      by_cases e : i = j
      · subst e; simp
      · simp only [e, if_false]
        rw [← g8 j hj]
        constructor
        · rintro (h | h)
          · exact h
          · exact absurd (pw_inj g4 (by omega) (by omega) h).symm e
        · exact .inl
    · cases e
      exact ⟨by simpa using hi', by simp, rfl⟩
theorem Sep.gone {m it : Nat} {l : List ((V × V) × Bool)} {last : Option Nat} {L : List Asn} {st : St} (h : Sep (Going m it l last :: L) st) :
    frzV st (.map (some m)) = some (.map (some m), st.upd m (.mp (l.map (·.1)))) ∧ Sep (pt m (.mp (l.map (·.1))) :: L) (st.upd m (.mp (l.map (·.1)))) := by
  obtain ⟨a, r, k1, k2, ⟨bs, clk, since, seen, stp, g1, g2, g3, g4, g5, g6, g7, g8, g9⟩, k4⟩ := h
  have e1 := k2 _ _ (add_some g1)
  refine ⟨by simp [frzV, e1], a.upd m (.mp (l.map (·.1))), r, k1.upd (k1.some g1) _, fun j o e => ?_, by simp [pt], k4⟩
  rw [upd_add] at e
  by_cases ej : j = m
  · simpa [ej] using e
  · simp only [st_upd, ej, if_false] at e ⊢
    exact k2 j o e
theorem Sep.mem {i : Nat} {o : AObj} : ∀ {L : List Asn} {st : St}, Sep L st → pt i o ∈ L → st i = some o
  | [], _, _, h => by cases h
  | A :: L, st, hs, h => by
    rcases List.mem_cons.1 h with e | h
    · subst e; exact hs.get
    · obtain ⟨a, r, h1, h2, h3, h4⟩ := hs
      exact h2 _ _ (sub_right h1 _ _ (Sep.mem h4 h))
theorem Sep.memA {A : Asn} : ∀ {L : List Asn} {st : St}, Sep L st → A ∈ L → ∃ h', St.sub h' st ∧ A h'
  | [], _, _, h => by cases h
  | B :: L, st, hs, h => by
    rcases List.mem_cons.1 h with e | h
    · subst e; exact hs.part
    · obtain ⟨a, r, h1, h2, h3, h4⟩ := hs
      obtain ⟨h', k1, k2⟩ := Sep.memA h4 h
      exact ⟨h', sub_trans k1 (sub_trans (sub_right h1) h2), k2⟩
def setM (ks : List Id) : List (V × V) := encM kId V.bool (ks.map fun k => (k, true))
def MapSet (aid : Nat) (keys : List Id) : Asn := fun h => ∃ ks, ks.Perm keys ∧ h aid = some (.mp (setM ks))
def addK (keys : List Id) (x : Id) : List Id := if x ∈ keys then keys else keys ++ [x]
theorem set_lookup {K : Type} [DecidableEq K] (ks : List K) (x : K) : (ks.map fun k => (k, true)).lookup x = if x ∈ ks then some true else none := by
  induction ks with
  | nil => simp
  | cons k l ih =>
    simp only [List.map_cons, List.lookup_cons, ih]
    by_cases h : x = k
    · simp [h]
    · have : (x == k) = false := by simp [h]
      simp [h, this]
theorem set_aSet (ks : List Id) (x : Id) : aSet x true (ks.map fun k => (k, true)) = (addK ks x).map fun k => (k, true) := by
  induction ks with
  | nil => simp [aSet, addK]
  | cons k l ih =>
    simp only [List.map_cons, aSet, addK] at ih ⊢
    by_cases h : x = k
    · simp [h]
    · simp only [h, if_false, List.mem_cons, false_or]
      rw [ih]
      split <;> simp
theorem set_aDel (ks : List Id) (x : Id) : aDel x (ks.map fun k => (k, true)) = (ks.erase x).map fun k => (k, true) := by
  induction ks with
  | nil => simp [aDel]
  | cons k l ih =>
    simp only [List.map_cons, aDel, List.erase_cons]
    by_cases h : x = k
    · simp [h]
    · have : (k == x) = false := by simp; exact fun e => h e.symm
      simp only [h, if_false, this, Bool.false_eq_true]
      rw [ih]
      rfl
theorem addK_perm {a b : List Id} (h : a.Perm b) (x : Id) : (addK a x).Perm (addK b x) := by
  unfold addK
  by_cases hx : x ∈ a
  · rw [if_pos hx, if_pos (h.mem_iff.1 hx)]; exact h
  · rw [if_neg hx, if_neg (fun e => hx (h.mem_iff.2 e))]
    exact h.append_right _
theorem MapSet.look {aid : Nat} {keys : List Id} {st : St} (h : MapSet aid keys st) (x : Id) : lookupV st (.agg 32) (.bool false) false (.map (some aid)) (.agg (eId x)) = some (.bool (decide (x ∈ keys))) := by
  obtain ⟨ks, hp, hs⟩ := h
  have := lookup_enc keyed_id hs (.bool false) false x
  rw [show V.agg (eId x) = kId x from rfl, this, set_lookup]
  by_cases hx : x ∈ ks
  · simp [hx, hp.mem_iff.1 hx]
  · have hx' : x ∉ keys := fun e => hx (hp.mem_iff.2 e)
    simp [hx, hx']
theorem MapSet.len {aid : Nat} {keys : List Id} {st : St} (h : MapSet aid keys st) : lenMapV st (.map (some aid)) = some (.int .i64 keys.length) := by
  obtain ⟨ks, hp, hs⟩ := h
  rw [lenMap_mp hs, ← hp.length_eq]
  simp [setM]
theorem Sep.mset {aid : Nat} {keys : List Id} {L : List Asn} {st : St} (h : Sep (MapSet aid keys :: L) st) (x : Id) : ∃ st', msetS st (.agg 32) (.map (some aid)) (.agg (eId x)) (.bool true) = some st' ∧ Sep (MapSet aid (addK keys x) :: L) st' := by
  obtain ⟨a, r, h1, h2, ⟨ks, hp, hs⟩, h4⟩ := h
  have e := mset_enc keyed_id (h2 _ _ (add_some hs)) x true
  rw [set_aSet] at e
  have hsep : Sep (pt aid (.mp (setM ks)) :: L) st := ⟨a, r, h1, h2, hs, h4⟩
  exact ⟨_, e, (hsep.set _).head fun h hh => ⟨addK ks x, addK_perm hp x, hh⟩⟩
theorem Sep.mdel {aid : Nat} {keys : List Id} {L : List Asn} {st : St} (h : Sep (MapSet aid keys :: L) st) (x : Id) : ∃ st', mdelS st (.agg 32) (.map (some aid)) (.agg (eId x)) = some st' ∧ Sep (MapSet aid (keys.erase x) :: L) st' := by
  obtain ⟨a, r, h1, h2, ⟨ks, hp, hs⟩, h4⟩ := h
  have e := mdel_enc keyed_id (h2 _ _ (add_some hs)) x
  rw [set_aDel] at e
  have hsep : Sep (pt aid (.mp (setM ks)) :: L) st := ⟨a, r, h1, h2, hs, h4⟩
  exact ⟨_, e, (hsep.set _).head fun h hh => ⟨ks.erase x, hp.erase x, hh⟩⟩
theorem MapSet.sub {aid : Nat} {keys : List Id} {h st : St} (hs : MapSet aid keys h) (hsub : St.sub h st) : MapSet aid keys st := by
  obtain ⟨ks, hp, hh⟩ := hs
  exact ⟨ks, hp, hsub _ _ hh⟩
end Go.Ab
set_option linter.unusedSimpArgs false
set_option linter.unusedVariables false
namespace Go.Ab
open Go Go.RowKit
def w32 (x : BitVec 32) : V := .int .u32 x.toNat
def w64 (x : BitVec 64) : V := .int .u64 x.toNat
def w8 (x : UInt8) : V := .int .u8 x.toNat
theorem wrap_u32 (n : Int) : IntKind.u32.wrap n = ((BitVec.ofInt 32 n).toNat : Int) := by
  simp [IntKind.wrap, IntKind.bits, IntKind.signed]
  omega
theorem wrap_u64 (n : Int) : IntKind.u64.wrap n = ((BitVec.ofInt 64 n).toNat : Int) := by
  simp [IntKind.wrap, IntKind.bits, IntKind.signed]
  omega
theorem wrap_u8 (n : Int) : IntKind.u8.wrap n = ((UInt8.ofBitVec (BitVec.ofInt 8 n)).toNat : Int) := by
  simp [IntKind.wrap, IntKind.bits, IntKind.signed]
  omega
@[simp high] theorem w32_cells (x : BitVec 32) : (w32 x).cells? = some [w32 x] := _root_.id rfl
@[simp high] theorem w64_cells (x : BitVec 64) : (w64 x).cells? = some [w64 x] := _root_.id rfl
@[simp high] theorem w8_cells (x : UInt8) : (w8 x).cells? = some [w8 x] := _root_.id rfl
theorem ofInt_nat {n : Nat} (a : BitVec n) : BitVec.ofInt n (a.toNat : Int) = a := by
  rw [BitVec.ofInt_natCast]; simp
theorem shr_nat (n m : Nat) : ((n : Int).fdiv (2 ^ m)) = ((n >>> m : Nat) : Int) := by
  rw [Nat.shiftRight_eq_div_pow, Int.fdiv_eq_ediv_of_nonneg _ (by exact Int.le_of_lt (Int.pow_pos (by omega)))]
  simp
section
variable (a b : BitVec 32)
@[simp high] theorem bin32_add : binV .add (w32 a) (w32 b) = some (w32 (a + b)) := by
  simp only [w32, binV, binI, if_true, wrap_u32]
  rw [BitVec.ofInt_add, ofInt_nat, ofInt_nat]
@[simp high] theorem bin32_sub : binV .sub (w32 a) (w32 b) = some (w32 (a - b)) := by
  simp only [w32, binV, binI, if_true, wrap_u32]
  rw [Int.sub_eq_add_neg, BitVec.ofInt_add, BitVec.ofInt_neg, ofInt_nat, ofInt_nat, BitVec.sub_eq_add_neg]
@[simp high] theorem bin32_mul : binV .mul (w32 a) (w32 b) = some (w32 (a * b)) := by
  simp only [w32, binV, binI, if_true, wrap_u32]
  rw [BitVec.ofInt_mul, ofInt_nat, ofInt_nat]
theorem bits32 (op : BinOp) : bits op .u32 (a.toNat : Int) (b.toNat : Int) = (((match op with | .and => a &&& b | .or => a ||| b | .xor => a ^^^ b | _ => a &&& ~~~b) : BitVec 32).toNat : Int) := by
  have key : ∀ z : BitVec 32, IntKind.u32.wrap (z.toNat : Int) = (z.toNat : Int) := fun z => by rw [wrap_u32, ofInt_nat]
  have ha : BitVec.ofInt IntKind.u32.bits (a.toNat : Int) = a := ofInt_nat a
  have hb : BitVec.ofInt IntKind.u32.bits (b.toNat : Int) = b := ofInt_nat b
  unfold bits
  rw [ha, hb]
  cases op <;> exact key _
@[simp high] theorem bin32_and : binV .and (w32 a) (w32 b) = some (w32 (a &&& b)) := by
  simp only [w32, binV, binI, if_true, bits32]
@[simp high] theorem bin32_or : binV .or (w32 a) (w32 b) = some (w32 (a ||| b)) := by
  simp only [w32, binV, binI, if_true, bits32]
@[simp high] theorem bin32_xor : binV .xor (w32 a) (w32 b) = some (w32 (a ^^^ b)) := by
  simp only [w32, binV, binI, if_true, bits32]
@[simp high] theorem inv32 : invV (w32 a) = some (w32 (~~~a)) := by
  have h := bits32 (BitVec.allOnes 32) a .xor
  have hm : (if IntKind.u32.signed = true then (-1 : Int) else IntKind.u32.max) = ((BitVec.allOnes 32).toNat : Int) := by decide
  simp only [w32, invV, hm, h, BitVec.allOnes_xor]
@[simp high] theorem bin32_eql : binV .eql (w32 a) (w32 b) = some (.bool (a == b)) := by
  simp only [w32, binV, binI, if_true]
  congr 2
  by_cases h : a = b
  · simp [h]
  · have : (a == b) = false := by simp [h]
    rw [this]
    have h2 : a.toNat ≠ b.toNat := fun e => h (BitVec.eq_of_toNat_eq e)
    simp; omega
@[simp high] theorem bin32_neq : binV .neq (w32 a) (w32 b) = some (.bool (a != b)) := by
  have := bin32_eql a b
  simp only [w32, binV, binI, if_true, Option.some.injEq, V.bool.injEq] at this ⊢
  simp only [bne, this]
@[simp high] theorem bin32_lss : binV .lss (w32 a) (w32 b) = some (.bool (decide (a < b))) := by
  simp [w32, BitVec.lt_def]
@[simp high] theorem bin32_leq : binV .leq (w32 a) (w32 b) = some (.bool (decide (a ≤ b))) := by
  simp [w32, BitVec.le_def]
@[simp high] theorem bin32_gtr : binV .gtr (w32 a) (w32 b) = some (.bool (decide (b < a))) := by
  simp [w32, BitVec.lt_def]
@[simp high] theorem bin32_geq : binV .geq (w32 a) (w32 b) = some (.bool (decide (b ≤ a))) := by
  simp [w32, BitVec.le_def]
@[simp high] theorem bin32_shr (k : IntKind) (n : Nat) : binV .shr (w32 a) (.int k (n : Int)) = some (w32 (a >>> n)) := by
  have h0 : ¬ ((n : Int) < 0) := by omega
  simp only [w32, binV, h0, if_false, Int.toNat_natCast]
  congr 2
  rw [shr_nat, BitVec.toNat_ushiftRight]
  congr 1
  by_cases h : n ≤ 32
  · rw [show Nat.min n IntKind.u32.bits = n from Nat.min_eq_left h]
  · rw [show Nat.min n IntKind.u32.bits = 32 from Nat.min_eq_right (by show 32 ≤ n; omega)]
    have h1 := a.isLt
    rw [Nat.shiftRight_eq_div_pow, Nat.shiftRight_eq_div_pow, Nat.div_eq_of_lt h1, Nat.div_eq_of_lt (Nat.lt_of_lt_of_le h1 (Nat.pow_le_pow_right (by omega) (by omega)))]
@[simp high] theorem bin32_shl (k : IntKind) (n : Nat) : binV .shl (w32 a) (.int k (n : Int)) = some (w32 (a <<< n)) := by
  have h0 : ¬ ((n : Int) < 0) := by omega
  simp only [w32, binV, h0, if_false, Int.toNat_natCast, wrap_u32]
  congr 2
  have hp : ((a.toNat : Int) * 2 ^ (Nat.min n IntKind.u32.bits)) = ((a.toNat * 2 ^ (Nat.min n 32) : Nat) : Int) := by
    simp [IntKind.bits]
  rw [hp, BitVec.ofInt_natCast, BitVec.toNat_ofNat, BitVec.toNat_shiftLeft, Nat.shiftLeft_eq]
  by_cases h : n ≤ 32
  · rw [show Nat.min n 32 = n from Nat.min_eq_left h]
  · rw [show Nat.min n 32 = 32 from Nat.min_eq_right (by omega)]
    rw [show n = 32 + (n - 32) by omega, Nat.pow_add, ← Nat.mul_assoc, Nat.mul_right_comm]
    simp
end
section
variable (a b : BitVec 64)
@[simp high] theorem bin64_add : binV .add (w64 a) (w64 b) = some (w64 (a + b)) := by
  simp only [w64, binV, binI, if_true, wrap_u64]
  rw [BitVec.ofInt_add, ofInt_nat, ofInt_nat]
@[simp high] theorem bin64_sub : binV .sub (w64 a) (w64 b) = some (w64 (a - b)) := by
  simp only [w64, binV, binI, if_true, wrap_u64]
  rw [Int.sub_eq_add_neg, BitVec.ofInt_add, BitVec.ofInt_neg, ofInt_nat, ofInt_nat, BitVec.sub_eq_add_neg]
@[simp high] theorem bin64_mul : binV .mul (w64 a) (w64 b) = some (w64 (a * b)) := by
  simp only [w64, binV, binI, if_true, wrap_u64]
  rw [BitVec.ofInt_mul, ofInt_nat, ofInt_nat]
theorem bits64 (op : BinOp) : bits op .u64 (a.toNat : Int) (b.toNat : Int) = (((match op with | .and => a &&& b | .or => a ||| b | .xor => a ^^^ b | _ => a &&& ~~~b) : BitVec 64).toNat : Int) := by
  have key : ∀ z : BitVec 64, IntKind.u64.wrap (z.toNat : Int) = (z.toNat : Int) := fun z => by rw [wrap_u64, ofInt_nat]
  have ha : BitVec.ofInt IntKind.u64.bits (a.toNat : Int) = a := ofInt_nat a
  have hb : BitVec.ofInt IntKind.u64.bits (b.toNat : Int) = b := ofInt_nat b
  unfold bits
  rw [ha, hb]
  cases op <;> exact key _
@[simp high] theorem bin64_and : binV .and (w64 a) (w64 b) = some (w64 (a &&& b)) := by
  simp only [w64, binV, binI, if_true, bits64]
@[simp high] theorem bin64_or : binV .or (w64 a) (w64 b) = some (w64 (a ||| b)) := by
  simp only [w64, binV, binI, if_true, bits64]
@[simp high] theorem bin64_xor : binV .xor (w64 a) (w64 b) = some (w64 (a ^^^ b)) := by
  simp only [w64, binV, binI, if_true, bits64]
@[simp high] theorem inv64 : invV (w64 a) = some (w64 (~~~a)) := by
  have h := bits64 (BitVec.allOnes 64) a .xor
  have hm : (if IntKind.u64.signed = true then (-1 : Int) else IntKind.u64.max) = ((BitVec.allOnes 64).toNat : Int) := by decide
  simp only [w64, invV, hm, h, BitVec.allOnes_xor]
@[simp high] theorem bin64_eql : binV .eql (w64 a) (w64 b) = some (.bool (a == b)) := by
  simp only [w64, binV, binI, if_true]
  congr 2
  by_cases h : a = b
  · simp [h]
  · have : (a == b) = false := by simp [h]
    rw [this]
    have h2 : a.toNat ≠ b.toNat := fun e => h (BitVec.eq_of_toNat_eq e)
    simp; omega
@[simp high] theorem bin64_neq : binV .neq (w64 a) (w64 b) = some (.bool (a != b)) := by
  have := bin64_eql a b
  simp only [w64, binV, binI, if_true, Option.some.injEq, V.bool.injEq] at this ⊢
  simp only [bne, this]
@[simp high] theorem bin64_lss : binV .lss (w64 a) (w64 b) = some (.bool (decide (a < b))) := by
  simp [w64, BitVec.lt_def]
@[simp high] theorem bin64_leq : binV .leq (w64 a) (w64 b) = some (.bool (decide (a ≤ b))) := by
  simp [w64, BitVec.le_def]
@[simp high] theorem bin64_gtr : binV .gtr (w64 a) (w64 b) = some (.bool (decide (b < a))) := by
  simp [w64, BitVec.lt_def]
@[simp high] theorem bin64_geq : binV .geq (w64 a) (w64 b) = some (.bool (decide (b ≤ a))) := by
  simp [w64, BitVec.le_def]
@[simp high] theorem bin64_shr (k : IntKind) (n : Nat) : binV .shr (w64 a) (.int k (n : Int)) = some (w64 (a >>> n)) := by
  have h0 : ¬ ((n : Int) < 0) := by omega
  simp only [w64, binV, h0, if_false, Int.toNat_natCast]
  congr 2
  rw [shr_nat, BitVec.toNat_ushiftRight]
  congr 1
  by_cases h : n ≤ 64
  · rw [show Nat.min n IntKind.u64.bits = n from Nat.min_eq_left h]
  · rw [show Nat.min n IntKind.u64.bits = 64 from Nat.min_eq_right (by show 64 ≤ n; omega)]
    have h1 := a.isLt
    rw [Nat.shiftRight_eq_div_pow, Nat.shiftRight_eq_div_pow, Nat.div_eq_of_lt h1, Nat.div_eq_of_lt (Nat.lt_of_lt_of_le h1 (Nat.pow_le_pow_right (by omega) (by omega)))]
@[simp high] theorem bin64_shl (k : IntKind) (n : Nat) : binV .shl (w64 a) (.int k (n : Int)) = some (w64 (a <<< n)) := by
  have h0 : ¬ ((n : Int) < 0) := by omega
  simp only [w64, binV, h0, if_false, Int.toNat_natCast, wrap_u64]
  congr 2
  have hp : ((a.toNat : Int) * 2 ^ (Nat.min n IntKind.u64.bits)) = ((a.toNat * 2 ^ (Nat.min n 64) : Nat) : Int) := by
    simp [IntKind.bits]
  rw [hp, BitVec.ofInt_natCast, BitVec.toNat_ofNat, BitVec.toNat_shiftLeft, Nat.shiftLeft_eq]
  by_cases h : n ≤ 64
  · rw [show Nat.min n 64 = n from Nat.min_eq_left h]
  · rw [show Nat.min n 64 = 64 from Nat.min_eq_right (by omega)]
    rw [show n = 64 + (n - 64) by omega, Nat.pow_add, ← Nat.mul_assoc, Nat.mul_right_comm]
    simp
end
@[simp high] theorem bin32_shl_w (a : BitVec 32) (s : BitVec 64) : binV .shl (w32 a) (w64 s) = some (w32 (a <<< s.toNat)) := bin32_shl a .u64 s.toNat
@[simp high] theorem bin32_shr_w (a : BitVec 32) (s : BitVec 64) : binV .shr (w32 a) (w64 s) = some (w32 (a >>> s.toNat)) := bin32_shr a .u64 s.toNat
@[simp high] theorem bin64_shl_w (a : BitVec 64) (s : BitVec 64) : binV .shl (w64 a) (w64 s) = some (w64 (a <<< s.toNat)) := bin64_shl a .u64 s.toNat
@[simp high] theorem bin64_shr_w (a : BitVec 64) (s : BitVec 64) : binV .shr (w64 a) (w64 s) = some (w64 (a >>> s.toNat)) := bin64_shr a .u64 s.toNat
@[simp high] theorem conv_8_32 (b : UInt8) : convV .u32 (w8 b) = some (w32 (b.toBitVec.setWidth 32)) := by
  simp only [w8, w32, convV, wrap_u32]
  congr 2
  simp [BitVec.ofInt_natCast]
@[simp high] theorem conv_8_64 (b : UInt8) : convV .u64 (w8 b) = some (w64 (b.toBitVec.setWidth 64)) := by
  simp only [w8, w64, convV, wrap_u64]
  congr 2
  simp [BitVec.ofInt_natCast]
@[simp high] theorem conv_32_64 (a : BitVec 32) : convV .u64 (w32 a) = some (w64 (a.setWidth 64)) := by
  simp only [w32, w64, convV, wrap_u64]
  congr 2
  simp [BitVec.ofInt_natCast]
@[simp high] theorem conv_64_32 (a : BitVec 64) : convV .u32 (w64 a) = some (w32 (a.setWidth 32)) := by
  simp only [w32, w64, convV, wrap_u32]
  congr 2
@[simp high] theorem conv_32_8 (a : BitVec 32) : convV .u8 (w32 a) = some (w8 (UInt8.ofBitVec (a.setWidth 8))) := by
  simp only [w32, w8, convV, wrap_u8]
  congr 2
@[simp high] theorem conv_64_8 (a : BitVec 64) : convV .u8 (w64 a) = some (w8 (UInt8.ofBitVec (a.setWidth 8))) := by
  simp only [w64, w8, convV, wrap_u8]
  congr 2
@[simp high] theorem conv_8_i (b : UInt8) : convV .i64 (w8 b) = some (.int .i64 b.toNat) := by
  have := b.toNat_lt
  simp only [w8, convV]
  rw [wrap64 (by omega) (by omega)]
@[simp high] theorem conv_32_i (b : BitVec 32) : convV .i64 (w32 b) = some (.int .i64 b.toNat) := by
  have := b.isLt
  simp only [w32, convV]
  rw [wrap64 (by omega) (by omega)]
@[simp high] theorem conv_64_i (b : BitVec 64) : convV .i64 (w64 b) = some (.int .i64 b.toInt) := by
  simp only [w64, convV, IntKind.wrap, IntKind.bits, IntKind.signed, BitVec.toInt]
  have := b.isLt
  congr 2
  simp
  split <;> split <;> omega
@[simp high] theorem conv_i_8 (n : Int) : convV .u8 (.int .i64 n) = some (w8 (UInt8.ofBitVec (BitVec.ofInt 8 n))) := by
  simp only [convV, w8, wrap_u8]
@[simp high] theorem conv_i_32 (n : Int) : convV .u32 (.int .i64 n) = some (w32 (BitVec.ofInt 32 n)) := by
  simp only [convV, w32, wrap_u32]
@[simp high] theorem conv_i_64 (n : Int) : convV .u64 (.int .i64 n) = some (w64 (BitVec.ofInt 64 n)) := by
  simp only [convV, w64, wrap_u64]
theorem tdiv_nat (a b : Nat) : Int.tdiv (a : Int) (b : Int) = ((a / b : Nat) : Int) := by
  rw [Int.tdiv_eq_ediv_of_nonneg (by omega)]; rfl
theorem tmod_nat (a b : Nat) : Int.tmod (a : Int) (b : Int) = ((a % b : Nat) : Int) := by
  rw [Int.tmod_eq_emod_of_nonneg (by omega)]; rfl
theorem ne_toNat {n : Nat} {b : BitVec n} (h : b ≠ 0#n) : (b.toNat : Int) ≠ 0 := fun e => h (BitVec.eq_of_toNat_eq (by simpa using e))
@[simp high] theorem bin64_quo (a b : BitVec 64) (h : b ≠ 0#64) : binV .quo (w64 a) (w64 b) = some (w64 (a / b)) := by
  simp only [w64, binV, binI, if_true, if_neg (ne_toNat h), tdiv_nat, wrap_u64]
  rw [← BitVec.toNat_udiv, ofInt_nat]
@[simp high] theorem bin64_rem (a b : BitVec 64) (h : b ≠ 0#64) : binV .rem (w64 a) (w64 b) = some (w64 (a % b)) := by
  simp only [w64, binV, binI, if_true, if_neg (ne_toNat h), tmod_nat]
  congr 2
@[simp high] theorem bin32_quo (a b : BitVec 32) (h : b ≠ 0#32) : binV .quo (w32 a) (w32 b) = some (w32 (a / b)) := by
  simp only [w32, binV, binI, if_true, if_neg (ne_toNat h), tdiv_nat, wrap_u32]
  rw [← BitVec.toNat_udiv, ofInt_nat]
@[simp high] theorem bin32_rem (a b : BitVec 32) (h : b ≠ 0#32) : binV .rem (w32 a) (w32 b) = some (w32 (a % b)) := by
  simp only [w32, binV, binI, if_true, if_neg (ne_toNat h), tmod_nat]
  congr 2
end Go.Ab
set_option linter.unusedSimpArgs false
set_option linter.unusedVariables false
namespace Go.Ab
open Go Go.RowKit
def shaK : List (BitVec 32) := [0x428a2f98, 0x71374491, 0xb5c0fbcf, 0xe9b5dba5, 0x3956c25b, 0x59f111f1, 0x923f82a4, 0xab1c5ed5, 0xd807aa98, 0x12835b01, 0x243185be, 0x550c7dc3, 0x72be5d74, 0x80deb1fe, 0x9bdc06a7, 0xc19bf174, 0xe49b69c1, 0xefbe4786, 0x0fc19dc6, 0x240ca1cc, 0x2de92c6f, 0x4a7484aa, 0x5cb0a9dc, 0x76f988da, 0x983e5152, 0xa831c66d, 0xb00327c8, 0xbf597fc7, 0xc6e00bf3, 0xd5a79147, 0x06ca6351, 0x14292967, 0x27b70a85, 0x2e1b2138, 0x4d2c6dfc, 0x53380d13, 0x650a7354, 0x766a0abb, 0x81c2c92e, 0x92722c85, 0xa2bfe8a1, 0xa81a664b, 0xc24b8b70, 0xc76c51a3, 0xd192e819, 0xd6990624, 0xf40e3585, 0x106aa070, 0x19a4c116, 0x1e376c08, 0x2748774c, 0x34b0bcb5, 0x391c0cb3, 0x4ed8aa4a, 0x5b9cca4f, 0x682e6ff3, 0x748f82ee, 0x78a5636f, 0x84c87814, 0x8cc70208, 0x90befffa, 0xa4506ceb, 0xbef9a3f7, 0xc67178f2]
def be4 (a b c d : UInt8) : BitVec 32 := a.toBitVec.setWidth 32 <<< 24 ||| b.toBitVec.setWidth 32 <<< 16 ||| c.toBitVec.setWidth 32 <<< 8 ||| d.toBitVec.setWidth 32
def words : List UInt8 → List (BitVec 32)
  | a :: b :: c :: d :: l => be4 a b c d :: words l
  | _ => []
def ror (x : BitVec 32) (n : Nat) : BitVec 32 := x >>> n ||| x <<< (32 - n)
def sg0 (x : BitVec 32) : BitVec 32 := ror x 7 ^^^ ror x 18 ^^^ x >>> 3
def sg1 (x : BitVec 32) : BitVec 32 := ror x 17 ^^^ ror x 19 ^^^ x >>> 10
def bg0 (x : BitVec 32) : BitVec 32 := ror x 2 ^^^ ror x 13 ^^^ ror x 22
def bg1 (x : BitVec 32) : BitVec 32 := ror x 6 ^^^ ror x 11 ^^^ ror x 25
def nextW (l : List (BitVec 32)) : BitVec 32 := l.getD (l.length - 16) 0 + sg0 (l.getD (l.length - 15) 0) + l.getD (l.length - 7) 0 + sg1 (l.getD (l.length - 2) 0)
def sched (m : List (BitVec 32)) : Nat → List (BitVec 32)
  | 0 => m
  | k + 1 => sched m k ++ [nextW (sched m k)]
structure V8 where
  a : BitVec 32
  b : BitVec 32
  c : BitVec 32
  d : BitVec 32
  e : BitVec 32
  f : BitVec 32
  g : BitVec 32
  h : BitVec 32
  deriving DecidableEq
def V8.list (v : V8) : List (BitVec 32) := [v.a, v.b, v.c, v.d, v.e, v.f, v.g, v.h]
def rnd (v : V8) (k w : BitVec 32) : V8 :=
  let t := v.h + bg1 v.e + (v.e &&& v.f ^^^ ~~~v.e &&& v.g) + k + w
  ⟨t + bg0 v.a + (v.a &&& v.b ^^^ v.a &&& v.c ^^^ v.b &&& v.c), v.a, v.b, v.c, v.d + t, v.e, v.f, v.g⟩
def rnds : List (BitVec 32) → List (BitVec 32) → V8 → V8
  | k :: ks, w :: ws, v => rnds ks ws (rnd v k w)
  | _, _, v => v
def addV (h v : V8) : V8 := ⟨h.a + v.a, h.b + v.b, h.c + v.c, h.d + v.d, h.e + v.e, h.f + v.f, h.g + v.g, h.h + v.h⟩
def blockM (h : V8) (b : List UInt8) : V8 := addV h (rnds shaK (sched (words b) 48) h)
def blocksM : Nat → V8 → List UInt8 → V8
  | 0, h, _ => h
  | n + 1, h, l => blocksM n (blockM h (l.take 64)) (l.drop 64)
def padM (l : List UInt8) : List UInt8 :=
  l ++ 0x80 :: (List.replicate ((119 - l.length % 64) % 64) 0 ++ [56, 48, 40, 32, 24, 16, 8, 0].map fun i => UInt8.ofBitVec (((BitVec.ofNat 64 l.length * 8) >>> i).setWidth 8))
def iv : V8 := ⟨0x6a09e667, 0xbb67ae85, 0x3c6ef372, 0xa54ff53a, 0x510e527f, 0x9b05688c, 0x1f83d9ab, 0x5be0cd19⟩
def out4 (x : BitVec 32) : List UInt8 := [UInt8.ofBitVec ((x >>> 24).setWidth 8), UInt8.ofBitVec ((x >>> 16).setWidth 8), UInt8.ofBitVec ((x >>> 8).setWidth 8), UInt8.ofBitVec (x.setWidth 8)]
def outV (v : V8) : List UInt8 := v.list.flatMap out4
theorem outV_len (v : V8) : (outV v).length = 32 := rfl
def shaL (l : List UInt8) : List UInt8 := outV (blocksM ((padM l).length / 64) iv (padM l))
def sha (l : List UInt8) : Id := ⟨⟨shaL l⟩, rfl⟩
def sha2 (l : List UInt8) : Id := sha (shaL l)
end Go.Ab
set_option linter.unusedSimpArgs false
set_option linter.unusedVariables false
namespace Go.Ab
open Go Go.RowKit
theorem be4_nat (a b c d : UInt8) : (be4 a b c d).toNat = ((a.toNat * 256 + b.toNat) * 256 + c.toNat) * 256 + d.toNat := by
  have ha := a.toNat_lt
  have hb := b.toNat_lt
  have hc := c.toNat_lt
  have hd := d.toNat_lt
  have e : ∀ (x : UInt8) (k : Nat), k ≤ 24 → (x.toBitVec.setWidth 32 <<< k).toNat = x.toNat <<< k := by
    intro x k hk
    have hx := x.toNat_lt
    rw [BitVec.toNat_shiftLeft]
    simp only [BitVec.toNat_setWidth, UInt8.toNat_toBitVec, Nat.shiftLeft_eq]
    rw [Nat.mod_eq_of_lt (show x.toNat < 2 ^ 32 by omega), Nat.mod_eq_of_lt]
    calc x.toNat * 2 ^ k < 2 ^ 8 * 2 ^ k := Nat.mul_lt_mul_of_pos_right hx (Nat.two_pow_pos k)
      _ ≤ 2 ^ 8 * 2 ^ 24 := Nat.mul_le_mul_left _ (Nat.pow_le_pow_right (by omega) hk)
      _ = 2 ^ 32 := rfl
  have e0 : (d.toBitVec.setWidth 32).toNat = d.toNat := by
    simp only [BitVec.toNat_setWidth, UInt8.toNat_toBitVec]
    exact Nat.mod_eq_of_lt (by omega)
  unfold be4
  rw [BitVec.toNat_or, BitVec.toNat_or, BitVec.toNat_or, e a 24 (by omega), e b 16 (by omega), e c 8 (by omega), e0]
  rw [← Nat.shiftLeft_add_eq_or_of_lt (i := 24) (by rw [Nat.shiftLeft_eq]; omega)]
  have h2 : a.toNat <<< 24 + b.toNat <<< 16 = (a.toNat * 256 + b.toNat) <<< 16 := by simp only [Nat.shiftLeft_eq]; omega
  rw [h2, ← Nat.shiftLeft_add_eq_or_of_lt (i := 16) (by rw [Nat.shiftLeft_eq]; omega)]
  have h3 : (a.toNat * 256 + b.toNat) <<< 16 + c.toNat <<< 8 = ((a.toNat * 256 + b.toNat) * 256 + c.toNat) <<< 8 := by simp only [Nat.shiftLeft_eq]; omega
  rw [h3, ← Nat.shiftLeft_add_eq_or_of_lt (i := 8) (by omega)]
  simp only [Nat.shiftLeft_eq]
end Go.Ab
set_option linter.unusedVariables false
namespace Go.Ab
open Go
def zR64_w320 : List V := [(w32 0), (w32 0), (w32 0), (w32 0), (w32 0), (w32 0), (w32 0), (w32 0), (w32 0), (w32 0), (w32 0), (w32 0), (w32 0), (w32 0), (w32 0), (w32 0), (w32 0), (w32 0), (w32 0), (w32 0), (w32 0), (w32 0), (w32 0), (w32 0), (w32 0), (w32 0), (w32 0), (w32 0), (w32 0), (w32 0), (w32 0), (w32 0), (w32 0), (w32 0), (w32 0), (w32 0), (w32 0), (w32 0), (w32 0), (w32 0), (w32 0), (w32 0), (w32 0), (w32 0), (w32 0), (w32 0), (w32 0), (w32 0), (w32 0), (w32 0), (w32 0), (w32 0), (w32 0), (w32 0), (w32 0), (w32 0), (w32 0), (w32 0), (w32 0), (w32 0), (w32 0), (w32 0), (w32 0), (w32 0)]
@[simp] theorem zR64_w320_len : zR64_w320.length = 64 := _root_.id rfl
def zR32_w80 : List V := [(w8 0), (w8 0), (w8 0), (w8 0), (w8 0), (w8 0), (w8 0), (w8 0), (w8 0), (w8 0), (w8 0), (w8 0), (w8 0), (w8 0), (w8 0), (w8 0), (w8 0), (w8 0), (w8 0), (w8 0), (w8 0), (w8 0), (w8 0), (w8 0), (w8 0), (w8 0), (w8 0), (w8 0), (w8 0), (w8 0), (w8 0), (w8 0)]
@[simp] theorem zR32_w80_len : zR32_w80.length = 32 := _root_.id rfl
def z68_39b1 : List V := [(w32 0), (w8 0), (w8 0), (w8 0), (w8 0), (w8 0), (w8 0), (w8 0), (w8 0), (w8 0), (w8 0), (w8 0), (w8 0), (w8 0), (w8 0), (w8 0), (w8 0), (w8 0), (w8 0), (w8 0), (w8 0), (w8 0), (w8 0), (w8 0), (w8 0), (w8 0), (w8 0), (w8 0), (w8 0), (w8 0), (w8 0), (w8 0), (w8 0), (w8 0), (w8 0), (w8 0), (w8 0), (w8 0), (w8 0), (w8 0), (w8 0), (w8 0), (w8 0), (w8 0), (w8 0), (w8 0), (w8 0), (w8 0), (w8 0), (w8 0), (w8 0), (w8 0), (w8 0), (w8 0), (w8 0), (w8 0), (w8 0), (w8 0), (w8 0), (w8 0), (w8 0), (w8 0), (w8 0), (w8 0), (w8 0), (w32 0), (w32 0), (w32 0)]
@[simp] theorem z68_39b1_len : z68_39b1.length = 68 := _root_.id rfl
def z74_2f53 : List V := [(w32 0), (.int .i64 0), (.int .i64 0), (.int .i64 0), (.int .i64 0), (w32 0), (w8 0), (w8 0), (w8 0), (w8 0), (w8 0), (w8 0), (w8 0), (w8 0), (w8 0), (w8 0), (w8 0), (w8 0), (w8 0), (w8 0), (w8 0), (w8 0), (w8 0), (w8 0), (w8 0), (w8 0), (w8 0), (w8 0), (w8 0), (w8 0), (w8 0), (w8 0), (w8 0), (w8 0), (w8 0), (w8 0), (w8 0), (w8 0), (w8 0), (w8 0), (w8 0), (w8 0), (w8 0), (w8 0), (w8 0), (w8 0), (w8 0), (w8 0), (w8 0), (w8 0), (w8 0), (w8 0), (w8 0), (w8 0), (w8 0), (w8 0), (w8 0), (w8 0), (w8 0), (w8 0), (w8 0), (w8 0), (w8 0), (w8 0), (w8 0), (w8 0), (w8 0), (w8 0), (w8 0), (w8 0), (w32 0), (w32 0), (w32 0), (.sl .nil [] 0)]
@[simp] theorem z74_2f53_len : z74_2f53.length = 74 := _root_.id rfl
def z69_adc1 : List V := [(w32 0), (w8 0), (w8 0), (w8 0), (w8 0), (w8 0), (w8 0), (w8 0), (w8 0), (w8 0), (w8 0), (w8 0), (w8 0), (w8 0), (w8 0), (w8 0), (w8 0), (w8 0), (w8 0), (w8 0), (w8 0), (w8 0), (w8 0), (w8 0), (w8 0), (w8 0), (w8 0), (w8 0), (w8 0), (w8 0), (w8 0), (w8 0), (w8 0), (w8 0), (w8 0), (w8 0), (w8 0), (w8 0), (w8 0), (w8 0), (w8 0), (w8 0), (w8 0), (w8 0), (w8 0), (w8 0), (w8 0), (w8 0), (w8 0), (w8 0), (w8 0), (w8 0), (w8 0), (w8 0), (w8 0), (w8 0), (w8 0), (w8 0), (w8 0), (w8 0), (w8 0), (w8 0), (w8 0), (w8 0), (w8 0), (w32 0), (w32 0), (w32 0), (.sl .nil [] 0)]
@[simp] theorem z69_adc1_len : z69_adc1.length = 69 := _root_.id rfl
def z106_9145 : List V := [(.int .i64 0), (w64 0), (w32 0), (.sl .nil [] 0), (w8 0), (w8 0), (w8 0), (w8 0), (w8 0), (w8 0), (w8 0), (w8 0), (w8 0), (w8 0), (w8 0), (w8 0), (w8 0), (w8 0), (w8 0), (w8 0), (w8 0), (w8 0), (w8 0), (w8 0), (w8 0), (w8 0), (w8 0), (w8 0), (w8 0), (w8 0), (w8 0), (w8 0), (w8 0), (w8 0), (w8 0), (w8 0), (.sl .nil [] 0), (w32 0), (w8 0), (w8 0), (w8 0), (w8 0), (w8 0), (w8 0), (w8 0), (w8 0), (w8 0), (w8 0), (w8 0), (w8 0), (w8 0), (w8 0), (w8 0), (w8 0), (w8 0), (w8 0), (w8 0), (w8 0), (w8 0), (w8 0), (w8 0), (w8 0), (w8 0), (w8 0), (w8 0), (w8 0), (w8 0), (w8 0), (w8 0), (w8 0), (w8 0), (w8 0), (w8 0), (w8 0), (w8 0), (w8 0), (w8 0), (w8 0), (w8 0), (w8 0), (w8 0), (w8 0), (w8 0), (w8 0), (w8 0), (w8 0), (w8 0), (w8 0), (w8 0), (w8 0), (w8 0), (w8 0), (w8 0), (w8 0), (w8 0), (w8 0), (w8 0), (w8 0), (w8 0), (w8 0), (w8 0), (w8 0), (w32 0), (w32 0), (w32 0), (.sl .nil [] 0)]
@[simp] theorem z106_9145_len : z106_9145.length = 106 := _root_.id rfl
def z34_1838 : List V := [(w8 0), (w8 0), (w8 0), (w8 0), (w8 0), (w8 0), (w8 0), (w8 0), (w8 0), (w8 0), (w8 0), (w8 0), (w8 0), (w8 0), (w8 0), (w8 0), (w8 0), (w8 0), (w8 0), (w8 0), (w8 0), (w8 0), (w8 0), (w8 0), (w8 0), (w8 0), (w8 0), (w8 0), (w8 0), (w8 0), (w8 0), (w8 0), (w32 0), (.sl .nil [] 0)]
@[simp] theorem z34_1838_len : z34_1838.length = 34 := _root_.id rfl
def z33_0be4 : List V := [(.int .i64 0), (w8 0), (w8 0), (w8 0), (w8 0), (w8 0), (w8 0), (w8 0), (w8 0), (w8 0), (w8 0), (w8 0), (w8 0), (w8 0), (w8 0), (w8 0), (w8 0), (w8 0), (w8 0), (w8 0), (w8 0), (w8 0), (w8 0), (w8 0), (w8 0), (w8 0), (w8 0), (w8 0), (w8 0), (w8 0), (w8 0), (w8 0), (w8 0)]
@[simp] theorem z33_0be4_len : z33_0be4.length = 33 := _root_.id rfl
def z33_1371 : List V := [(w8 0), (w8 0), (w8 0), (w8 0), (w8 0), (w8 0), (w8 0), (w8 0), (w8 0), (w8 0), (w8 0), (w8 0), (w8 0), (w8 0), (w8 0), (w8 0), (w8 0), (w8 0), (w8 0), (w8 0), (w8 0), (w8 0), (w8 0), (w8 0), (w8 0), (w8 0), (w8 0), (w8 0), (w8 0), (w8 0), (w8 0), (w8 0), (w32 0)]
@[simp] theorem z33_1371_len : z33_1371.length = 33 := _root_.id rfl
end Go.Ab
set_option linter.unusedVariables false
namespace Go.Ab
open Go
def k100 (F : Fn) : PF := PF.mk 30 2 [(.t 4)] (.seq (.ops [(PO.mk (some 4) (.mv (.k (w32 0))) none)]) (.seq (.draw [(.e, (PO.mk (some 5) (.mv (.t 0)) none)), (.e, (PO.mk (some 6) (.mv (.t 1)) none)), (.e, (PO.mk (some 7) (.idxStr (.t 5) (.t 6)) none)), (.e, (PO.mk (some 8) (.conv .u32 (.t 7)) none)), (.e, (PO.mk (some 9) (.bin .shl (.t 8) (.k (w64 24))) none)), (.e, (PO.mk (some 10) (.mv (.t 0)) none)), (.e, (PO.mk (some 11) (.mv (.t 1)) none)), (.e, (PO.mk (some 12) (.bin .add (.t 11) (.k (.int .i64 1))) none)), (.e, (PO.mk (some 13) (.idxStr (.t 10) (.t 12)) none)), (.e, (PO.mk (some 14) (.conv .u32 (.t 13)) none)), (.e, (PO.mk (some 15) (.bin .shl (.t 14) (.k (w64 16))) none)), (.e, (PO.mk (some 16) (.bin .or (.t 9) (.t 15)) none)), (.e, (PO.mk (some 17) (.mv (.t 0)) none)), (.e, (PO.mk (some 18) (.mv (.t 1)) none)), (.e, (PO.mk (some 19) (.bin .add (.t 18) (.k (.int .i64 2))) none)), (.e, (PO.mk (some 20) (.idxStr (.t 17) (.t 19)) none)), (.e, (PO.mk (some 21) (.conv .u32 (.t 20)) none)), (.e, (PO.mk (some 22) (.bin .shl (.t 21) (.k (w64 8))) none)), (.e, (PO.mk (some 23) (.bin .or (.t 16) (.t 22)) none)), (.e, (PO.mk (some 24) (.mv (.t 0)) none)), (.e, (PO.mk (some 25) (.mv (.t 1)) none)), (.e, (PO.mk (some 26) (.bin .add (.t 25) (.k (.int .i64 3))) none)), (.e, (PO.mk (some 27) (.idxStr (.t 24) (.t 26)) none)), (.e, (PO.mk (some 28) (.conv .u32 (.t 27)) none)), (.e, (PO.mk (some 29) (.bin .or (.t 23) (.t 28)) none)), (.e, (PO.mk (some 4) (.mv (.t 29)) none))]) .ret))
def k101 (F : Fn) : PF := PF.mk 172 2 [(PR.cell 4 true 8)] (.seq (.ops [(PO.mk (some 2) (.box (.t 0)) none), (PO.mk (some 4) (.alloc [(w32 0), (w32 0), (w32 0), (w32 0), (w32 0), (w32 0), (w32 0), (w32 0)]) none)]) (.seq (.ops [(PO.mk (some 5) (.alloc zR64_w320) none)]) (.seq (.seq (.ops [(PO.mk (some 21) (.mv (.k (.int .i64 0))) none)]) (.block 0 (.loop (.seq (.ops [(PO.mk (some 22) (.bin .lss (.t 21) (.k (.int .i64 16))) none)]) (.seq (.cond (.t 22) .skip (.exit 0)) (.seq (.block 1 (.seq (.ops [(PO.mk (some 23) (.mv (.t 21)) none), (PO.mk (some 6) (.mv (.t 23)) none)]) (.ops [(PO.mk (some 24) (.mv (.t 6)) none), (PO.mk (some 25) (.mv (.t 1)) none), (PO.mk (some 26) (.mv (.t 6)) none), (PO.mk (some 27) (.bin .mul (.k (.int .i64 4)) (.t 26)) none), (PO.mk (some 28) (.call (F 100) [(.t 25), (.t 27)]) none), (PO.mk (some 29) (.idxArr 64 1 (.t 5) (.t 24)) none), (PO.mk none (.store 1 (.t 29) (.t 28)) none)]))) (.ops [(PO.mk (some 30) (.bin .add (.t 21) (.k (.int .i64 1))) none), (PO.mk (some 21) (.mv (.t 30)) none)]))))))) (.seq (.seq (.ops [(PO.mk (some 7) (.mv (.k (.int .i64 16))) none)]) (.block 2 (.loop (.seq (.seq (.ops [(PO.mk (some 31) (.mv (.t 7)) none), (PO.mk (some 32) (.bin .lss (.t 31) (.k (.int .i64 64))) none)]) (.cond (.t 32) .skip (.exit 2))) (.seq (.block 3 (.seq (.draw [(.e, (PO.mk (some 35) (.mv (.t 7)) none)), (.e, (PO.mk (some 36) (.bin .sub (.t 35) (.k (.int .i64 15))) none)), (.e, (PO.mk (some 37) (.idxArr 64 1 (.t 5) (.t 36)) none)), (.e, (PO.mk (some 39) (.mv (.t 7)) none)), (.e, (PO.mk (some 40) (.bin .sub (.t 39) (.k (.int .i64 2))) none)), (.e, (PO.mk (some 41) (.idxArr 64 1 (.t 5) (.t 40)) none)), (.s, (PO.mk (some 38) (.load false 1 (.t 37)) none)), (.e, (PO.mk (some 8) (.mv (.t 38)) none)), (.s, (PO.mk (some 42) (.load false 1 (.t 41)) none)), (.e, (PO.mk (some 9) (.mv (.t 42)) none))]) (.seq (.ops [(PO.mk (some 43) (.mv (.t 8)) none), (PO.mk (some 44) (.call (F 102) [(.t 43), (.k (.int .i64 (-7)))]) none), (PO.mk (some 45) (.mv (.t 8)) none), (PO.mk (some 46) (.call (F 102) [(.t 45), (.k (.int .i64 (-18)))]) none), (PO.mk (some 47) (.bin .xor (.t 44) (.t 46)) none), (PO.mk (some 48) (.mv (.t 8)) none), (PO.mk (some 49) (.bin .shr (.t 48) (.k (w64 3))) none), (PO.mk (some 50) (.bin .xor (.t 47) (.t 49)) none), (PO.mk (some 10) (.mv (.t 50)) none)]) (.seq (.ops [(PO.mk (some 51) (.mv (.t 9)) none), (PO.mk (some 52) (.call (F 102) [(.t 51), (.k (.int .i64 (-17)))]) none), (PO.mk (some 53) (.mv (.t 9)) none), (PO.mk (some 54) (.call (F 102) [(.t 53), (.k (.int .i64 (-19)))]) none), (PO.mk (some 55) (.bin .xor (.t 52) (.t 54)) none), (PO.mk (some 56) (.mv (.t 9)) none), (PO.mk (some 57) (.bin .shr (.t 56) (.k (w64 10))) none), (PO.mk (some 58) (.bin .xor (.t 55) (.t 57)) none), (PO.mk (some 11) (.mv (.t 58)) none)]) (.draw [(.e, (PO.mk (some 59) (.mv (.t 7)) none)), (.e, (PO.mk (some 60) (.mv (.t 7)) none)), (.e, (PO.mk (some 61) (.bin .sub (.t 60) (.k (.int .i64 16))) none)), (.e, (PO.mk (some 62) (.idxArr 64 1 (.t 5) (.t 61)) none)), (.e, (PO.mk (some 64) (.mv (.t 10)) none)), (.e, (PO.mk (some 66) (.mv (.t 7)) none)), (.e, (PO.mk (some 67) (.bin .sub (.t 66) (.k (.int .i64 7))) none)), (.e, (PO.mk (some 68) (.idxArr 64 1 (.t 5) (.t 67)) none)), (.e, (PO.mk (some 71) (.mv (.t 11)) none)), (.s, (PO.mk (some 63) (.load false 1 (.t 62)) none)), (.e, (PO.mk (some 65) (.bin .add (.t 63) (.t 64)) none)), (.s, (PO.mk (some 69) (.load false 1 (.t 68)) none)), (.e, (PO.mk (some 70) (.bin .add (.t 65) (.t 69)) none)), (.e, (PO.mk (some 72) (.bin .add (.t 70) (.t 71)) none)), (.e, (PO.mk (some 73) (.idxArr 64 1 (.t 5) (.t 59)) none)), (.x, (PO.mk none (.store 1 (.t 73) (.t 72)) none))]))))) (.ops [(PO.mk (some 33) (.mv (.t 7)) none), (PO.mk (some 34) (.bin .add (.t 33) (.k (.int .i64 1))) none), (PO.mk (some 7) (.mv (.t 34)) none)])))))) (.seq (.ops [(PO.mk (some 74) (.load true 8 (.t 2)) none), (PO.mk (some 12) (.alloc [(w32 0), (w32 0), (w32 0), (w32 0), (w32 0), (w32 0), (w32 0), (w32 0)]) none), (PO.mk none (.store 8 (.t 12) (.t 74)) none)]) (.seq (.seq (.ops [(PO.mk (some 75) (.mv (.k (.int .i64 0))) none)]) (.block 4 (.loop (.seq (.ops [(PO.mk (some 76) (.bin .lss (.t 75) (.k (.int .i64 64))) none)]) (.seq (.cond (.t 76) .skip (.exit 4)) (.seq (.block 5 (.seq (.ops [(PO.mk (some 77) (.mv (.t 75)) none), (PO.mk (some 13) (.mv (.t 77)) none)]) (.seq (.draw [(.e, (PO.mk (some 78) (.idxArr 8 1 (.t 12) (.k (.int .i64 0))) none)), (.e, (PO.mk (some 80) (.idxArr 8 1 (.t 12) (.k (.int .i64 4))) none)), (.s, (PO.mk (some 79) (.load false 1 (.t 78)) none)), (.e, (PO.mk (some 14) (.mv (.t 79)) none)), (.s, (PO.mk (some 81) (.load false 1 (.t 80)) none)), (.e, (PO.mk (some 15) (.mv (.t 81)) none))]) (.seq (.ops [(PO.mk (some 82) (.mv (.t 15)) none), (PO.mk (some 83) (.call (F 102) [(.t 82), (.k (.int .i64 (-6)))]) none), (PO.mk (some 84) (.mv (.t 15)) none), (PO.mk (some 85) (.call (F 102) [(.t 84), (.k (.int .i64 (-11)))]) none), (PO.mk (some 86) (.bin .xor (.t 83) (.t 85)) none), (PO.mk (some 87) (.mv (.t 15)) none), (PO.mk (some 88) (.call (F 102) [(.t 87), (.k (.int .i64 (-25)))]) none), (PO.mk (some 89) (.bin .xor (.t 86) (.t 88)) none), (PO.mk (some 16) (.mv (.t 89)) none)]) (.seq (.draw [(.e, (PO.mk (some 90) (.idxArr 8 1 (.t 12) (.k (.int .i64 7))) none)), (.e, (PO.mk (some 92) (.mv (.t 16)) none)), (.e, (PO.mk (some 94) (.mv (.t 15)) none)), (.e, (PO.mk (some 95) (.idxArr 8 1 (.t 12) (.k (.int .i64 5))) none)), (.e, (PO.mk (some 98) (.mv (.t 15)) none)), (.e, (PO.mk (some 99) (.inv (.t 98)) none)), (.e, (PO.mk (some 100) (.idxArr 8 1 (.t 12) (.k (.int .i64 6))) none)), (.e, (PO.mk (some 105) (.mv (.t 13)) none)), (.e, (PO.mk (some 106) (.bin .mul (.k (.int .i64 4)) (.t 105)) none)), (.e, (PO.mk (some 109) (.mv (.t 13)) none)), (.e, (PO.mk (some 110) (.idxArr 64 1 (.t 5) (.t 109)) none)), (.s, (PO.mk (some 91) (.load false 1 (.t 90)) none)), (.e, (PO.mk (some 93) (.bin .add (.t 91) (.t 92)) none)), (.s, (PO.mk (some 96) (.load false 1 (.t 95)) none)), (.e, (PO.mk (some 97) (.bin .and (.t 94) (.t 96)) none)), (.s, (PO.mk (some 101) (.load false 1 (.t 100)) none)), (.e, (PO.mk (some 102) (.bin .and (.t 99) (.t 101)) none)), (.e, (PO.mk (some 103) (.bin .xor (.t 97) (.t 102)) none)), (.e, (PO.mk (some 104) (.bin .add (.t 93) (.t 103)) none)), (.s, (PO.mk (some 107) (.call (F 100) [(.k (.str (ByteArray.mk ⟨[66, 138, 47, 152, 113, 55, 68, 145, 181, 192, 251, 207, 233, 181, 219, 165, 57, 86, 194, 91, 89, 241, 17, 241, 146, 63, 130, 164, 171, 28, 94, 213, 216, 7, 170, 152, 18, 131, 91, 1, 36, 49, 133, 190, 85, 12, 125, 195, 114, 190, 93, 116, 128, 222, 177, 254, 155, 220, 6, 167, 193, 155, 241, 116, 228, 155, 105, 193, 239, 190, 71, 134, 15, 193, 157, 198, 36, 12, 161, 204, 45, 233, 44, 111, 74, 116, 132, 170, 92, 176, 169, 220, 118, 249, 136, 218, 152, 62, 81, 82, 168, 49, 198, 109, 176, 3, 39, 200, 191, 89, 127, 199, 198, 224, 11, 243, 213, 167, 145, 71, 6, 202, 99, 81, 20, 41, 41, 103, 39, 183, 10, 133, 46, 27, 33, 56, 77, 44, 109, 252, 83, 56, 13, 19, 101, 10, 115, 84, 118, 106, 10, 187, 129, 194, 201, 46, 146, 114, 44, 133, 162, 191, 232, 161, 168, 26, 102, 75, 194, 75, 139, 112, 199, 108, 81, 163, 209, 146, 232, 25, 214, 153, 6, 36, 244, 14, 53, 133, 16, 106, 160, 112, 25, 164, 193, 22, 30, 55, 108, 8, 39, 72, 119, 76, 52, 176, 188, 181, 57, 28, 12, 179, 78, 216, 170, 74, 91, 156, 202, 79, 104, 46, 111, 243, 116, 143, 130, 238, 120, 165, 99, 111, 132, 200, 120, 20, 140, 199, 2, 8, 144, 190, 255, 250, 164, 80, 108, 235, 190, 249, 163, 247, 198, 113, 120, 242]⟩))), (.t 106)]) none)), (.e, (PO.mk (some 108) (.bin .add (.t 104) (.t 107)) none)), (.s, (PO.mk (some 111) (.load false 1 (.t 110)) none)), (.e, (PO.mk (some 112) (.bin .add (.t 108) (.t 111)) none)), (.e, (PO.mk (some 17) (.mv (.t 112)) none))]) (.seq (.ops [(PO.mk (some 113) (.mv (.t 14)) none), (PO.mk (some 114) (.call (F 102) [(.t 113), (.k (.int .i64 (-2)))]) none), (PO.mk (some 115) (.mv (.t 14)) none), (PO.mk (some 116) (.call (F 102) [(.t 115), (.k (.int .i64 (-13)))]) none), (PO.mk (some 117) (.bin .xor (.t 114) (.t 116)) none), (PO.mk (some 118) (.mv (.t 14)) none), (PO.mk (some 119) (.call (F 102) [(.t 118), (.k (.int .i64 (-22)))]) none), (PO.mk (some 120) (.bin .xor (.t 117) (.t 119)) none), (PO.mk (some 18) (.mv (.t 120)) none)]) (.seq (.ops [(PO.mk (some 121) (.mv (.t 14)) none), (PO.mk (some 122) (.idxArr 8 1 (.t 12) (.k (.int .i64 1))) none), (PO.mk (some 123) (.load false 1 (.t 122)) none), (PO.mk (some 124) (.bin .and (.t 121) (.t 123)) none), (PO.mk (some 125) (.mv (.t 14)) none), (PO.mk (some 126) (.idxArr 8 1 (.t 12) (.k (.int .i64 2))) none), (PO.mk (some 127) (.load false 1 (.t 126)) none), (PO.mk (some 128) (.bin .and (.t 125) (.t 127)) none), (PO.mk (some 129) (.bin .xor (.t 124) (.t 128)) none), (PO.mk (some 130) (.idxArr 8 1 (.t 12) (.k (.int .i64 1))) none), (PO.mk (some 131) (.load false 1 (.t 130)) none), (PO.mk (some 132) (.idxArr 8 1 (.t 12) (.k (.int .i64 2))) none), (PO.mk (some 133) (.load false 1 (.t 132)) none), (PO.mk (some 134) (.bin .and (.t 131) (.t 133)) none), (PO.mk (some 135) (.bin .xor (.t 129) (.t 134)) none), (PO.mk (some 19) (.mv (.t 135)) none)]) (.ops [(PO.mk (some 136) (.mv (.t 17)) none), (PO.mk (some 137) (.mv (.t 18)) none), (PO.mk (some 138) (.bin .add (.t 136) (.t 137)) none), (PO.mk (some 139) (.mv (.t 19)) none), (PO.mk (some 140) (.bin .add (.t 138) (.t 139)) none), (PO.mk (some 141) (.idxArr 8 1 (.t 12) (.k (.int .i64 0))) none), (PO.mk (some 142) (.load false 1 (.t 141)) none), (PO.mk (some 143) (.idxArr 8 1 (.t 12) (.k (.int .i64 1))) none), (PO.mk (some 144) (.load false 1 (.t 143)) none), (PO.mk (some 145) (.idxArr 8 1 (.t 12) (.k (.int .i64 2))) none), (PO.mk (some 146) (.load false 1 (.t 145)) none), (PO.mk (some 147) (.idxArr 8 1 (.t 12) (.k (.int .i64 3))) none), (PO.mk (some 148) (.load false 1 (.t 147)) none), (PO.mk (some 149) (.mv (.t 17)) none), (PO.mk (some 150) (.bin .add (.t 148) (.t 149)) none), (PO.mk (some 151) (.idxArr 8 1 (.t 12) (.k (.int .i64 4))) none), (PO.mk (some 152) (.load false 1 (.t 151)) none), (PO.mk (some 153) (.idxArr 8 1 (.t 12) (.k (.int .i64 5))) none), (PO.mk (some 154) (.load false 1 (.t 153)) none), (PO.mk (some 155) (.idxArr 8 1 (.t 12) (.k (.int .i64 6))) none), (PO.mk (some 156) (.load false 1 (.t 155)) none), (PO.mk (some 157) (.build [(w32 0), (w32 0), (w32 0), (w32 0), (w32 0), (w32 0), (w32 0), (w32 0)] [(0, (1, (.t 140))), (1, (1, (.t 142))), (2, (1, (.t 144))), (3, (1, (.t 146))), (4, (1, (.t 150))), (5, (1, (.t 152))), (6, (1, (.t 154))), (7, (1, (.t 156)))]) none), (PO.mk none (.store 8 (.t 12) (.t 157)) none)])))))))) (.ops [(PO.mk (some 158) (.bin .add (.t 75) (.k (.int .i64 1))) none), (PO.mk (some 75) (.mv (.t 158)) none)]))))))) (.seq (.seq (.ops [(PO.mk (some 159) (.mv (.k (.int .i64 0))) none)]) (.block 6 (.loop (.seq (.ops [(PO.mk (some 160) (.bin .lss (.t 159) (.k (.int .i64 8))) none)]) (.seq (.cond (.t 160) .skip (.exit 6)) (.seq (.block 7 (.seq (.ops [(PO.mk (some 161) (.mv (.t 159)) none), (PO.mk (some 20) (.mv (.t 161)) none)]) (.draw [(.e, (PO.mk (some 162) (.mv (.t 20)) none)), (.e, (PO.mk (some 163) (.idxArr 8 1 (.t 2) (.t 162)) none)), (.e, (PO.mk (some 165) (.mv (.t 20)) none)), (.e, (PO.mk (some 166) (.idxArr 8 1 (.t 12) (.t 165)) none)), (.s, (PO.mk (some 164) (.load false 1 (.t 163)) none)), (.s, (PO.mk (some 167) (.load false 1 (.t 166)) none)), (.e, (PO.mk (some 168) (.bin .add (.t 164) (.t 167)) none)), (.e, (PO.mk (some 169) (.idxArr 8 1 (.t 2) (.t 162)) none)), (.x, (PO.mk none (.store 1 (.t 169) (.t 168)) none))]))) (.ops [(PO.mk (some 170) (.bin .add (.t 159) (.k (.int .i64 1))) none), (PO.mk (some 159) (.mv (.t 170)) none)]))))))) (.seq (.ops [(PO.mk (some 171) (.load true 8 (.t 2)) none), (PO.mk none (.store 8 (.t 4) (.t 171)) none)]) .ret))))))))
def k103 (F : Fn) : PF := PF.mk 92 1 [(PR.cell 2 true 32)] (.seq (.ops [(PO.mk (some 2) (.alloc zR32_w80) none)]) (.seq (.ops [(PO.mk (some 3) (.mv (.k (.sl .nil [] 0))) none)]) (.seq (.seq (.ops [(PO.mk (some 13) (.mv (.t 0)) none), (PO.mk (some 14) (.lenSl (.t 13)) none), (PO.mk (some 15) (.mv (.k (.int .i64 0))) none)]) (.block 0 (.loop (.seq (.ops [(PO.mk (some 16) (.bin .lss (.t 15) (.t 14)) none)]) (.seq (.cond (.t 16) .skip (.exit 0)) (.seq (.block 1 (.seq (.ops [(PO.mk (some 17) (.idxSl 1 (.t 13) (.t 15)) none), (PO.mk (some 18) (.load false 1 (.t 17)) none), (PO.mk (some 5) (.mv (.t 18)) none)]) (.ops [(PO.mk (some 19) (.mv (.t 3)) none), (PO.mk (some 20) (.mv (.t 5)) none), (PO.mk (some 21) (.app 1 1 (.t 19) (.t 20)) none), (PO.mk (some 3) (.mv (.t 21)) none)]))) (.ops [(PO.mk (some 22) (.bin .add (.t 15) (.k (.int .i64 1))) none), (PO.mk (some 15) (.mv (.t 22)) none)]))))))) (.seq (.ops [(PO.mk (some 23) (.mv (.t 3)) none), (PO.mk (some 24) (.lenSl (.t 23)) none), (PO.mk (some 6) (.mv (.t 24)) none)]) (.seq (.ops [(PO.mk (some 25) (.mv (.t 3)) none), (PO.mk (some 26) (.bsl false 1 1 [(w8 0)] [(0, (1, (.k (w8 128))))]) none), (PO.mk (some 27) (.app 1 1 (.t 25) (.t 26)) none), (PO.mk (some 3) (.mv (.t 27)) none)]) (.seq (.block 2 (.loop (.seq (.seq (.ops [(PO.mk (some 28) (.mv (.t 3)) none), (PO.mk (some 29) (.lenSl (.t 28)) none), (PO.mk (some 30) (.bin .rem (.t 29) (.k (.int .i64 64))) none), (PO.mk (some 31) (.bin .neq (.t 30) (.k (.int .i64 56))) none)]) (.cond (.t 31) .skip (.exit 2))) (.block 3 (.ops [(PO.mk (some 32) (.mv (.t 3)) none), (PO.mk (some 33) (.bsl false 1 1 [(w8 0)] [(0, (1, (.k (w8 0))))]) none), (PO.mk (some 34) (.app 1 1 (.t 32) (.t 33)) none), (PO.mk (some 3) (.mv (.t 34)) none)]))))) (.seq (.seq (.ops [(PO.mk (some 7) (.mv (.k (.int .i64 56))) none)]) (.block 4 (.loop (.seq (.seq (.ops [(PO.mk (some 35) (.mv (.t 7)) none), (PO.mk (some 36) (.bin .geq (.t 35) (.k (.int .i64 0))) none)]) (.cond (.t 36) .skip (.exit 4))) (.seq (.block 5 (.ops [(PO.mk (some 39) (.mv (.t 3)) none), (PO.mk (some 40) (.mv (.t 6)) none), (PO.mk (some 41) (.conv .u64 (.t 40)) none), (PO.mk (some 42) (.bin .mul (.t 41) (.k (w64 8))) none), (PO.mk (some 43) (.mv (.t 7)) none), (PO.mk (some 44) (.bin .shr (.t 42) (.t 43)) none), (PO.mk (some 45) (.conv .u8 (.t 44)) none), (PO.mk (some 46) (.bsl false 1 1 [(w8 0)] [(0, (1, (.t 45)))]) none), (PO.mk (some 47) (.app 1 1 (.t 39) (.t 46)) none), (PO.mk (some 3) (.mv (.t 47)) none)])) (.ops [(PO.mk (some 37) (.mv (.t 7)) none), (PO.mk (some 38) (.bin .sub (.t 37) (.k (.int .i64 8))) none), (PO.mk (some 7) (.mv (.t 38)) none)])))))) (.seq (.ops [(PO.mk (some 48) (.build [(w32 0), (w32 0), (w32 0), (w32 0), (w32 0), (w32 0), (w32 0), (w32 0)] [(0, (1, (.k (w32 1779033703)))), (1, (1, (.k (w32 3144134277)))), (2, (1, (.k (w32 1013904242)))), (3, (1, (.k (w32 2773480762)))), (4, (1, (.k (w32 1359893119)))), (5, (1, (.k (w32 2600822924)))), (6, (1, (.k (w32 528734635)))), (7, (1, (.k (w32 1541459225))))]) none), (PO.mk (some 8) (.alloc [(w32 0), (w32 0), (w32 0), (w32 0), (w32 0), (w32 0), (w32 0), (w32 0)]) none), (PO.mk none (.store 8 (.t 8) (.t 48)) none)]) (.seq (.seq (.ops [(PO.mk (some 49) (.mv (.t 3)) none), (PO.mk (some 50) (.toStr (.t 49)) none), (PO.mk (some 9) (.mv (.t 50)) none)]) (.block 6 (.loop (.seq (.seq (.ops [(PO.mk (some 51) (.mv (.t 9)) none), (PO.mk (some 52) (.bin .neq (.t 51) (.k (.str (ByteArray.mk ⟨[]⟩)))) none)]) (.cond (.t 52) .skip (.exit 6))) (.seq (.block 7 (.draw [(.e, (PO.mk (some 56) (.mv (.t 9)) none)), (.e, (PO.mk (some 57) (.slStr (.t 56) none (some (.k (.int .i64 64)))) none)), (.s, (PO.mk (some 55) (.load true 8 (.t 8)) none)), (.x, (PO.mk (some 58) (.call (F 101) [(.t 55), (.t 57)]) none)), (.x, (PO.mk none (.store 8 (.t 8) (.t 58)) none))])) (.ops [(PO.mk (some 53) (.mv (.t 9)) none), (PO.mk (some 54) (.slStr (.t 53) (some (.k (.int .i64 64))) none) none), (PO.mk (some 9) (.mv (.t 54)) none)])))))) (.seq (.ops [(PO.mk (some 10) (.alloc zR32_w80) none)]) (.seq (.seq (.ops [(PO.mk (some 59) (.load true 8 (.t 8)) none), (PO.mk (some 60) (.mv (.k (.int .i64 0))) none)]) (.block 8 (.loop (.seq (.ops [(PO.mk (some 61) (.bin .lss (.t 60) (.k (.int .i64 8))) none)]) (.seq (.cond (.t 61) .skip (.exit 8)) (.seq (.block 9 (.seq (.ops [(PO.mk (some 62) (.mv (.t 60)) none), (PO.mk (some 63) (.idx 8 false 1 (.t 59) (.t 60)) none), (PO.mk (some 11) (.mv (.t 62)) none), (PO.mk (some 12) (.mv (.t 63)) none)]) (.ops [(PO.mk (some 64) (.mv (.t 11)) none), (PO.mk (some 65) (.bin .mul (.k (.int .i64 4)) (.t 64)) none), (PO.mk (some 66) (.mv (.t 11)) none), (PO.mk (some 67) (.bin .mul (.k (.int .i64 4)) (.t 66)) none), (PO.mk (some 68) (.bin .add (.t 67) (.k (.int .i64 1))) none), (PO.mk (some 69) (.mv (.t 11)) none), (PO.mk (some 70) (.bin .mul (.k (.int .i64 4)) (.t 69)) none), (PO.mk (some 71) (.bin .add (.t 70) (.k (.int .i64 2))) none), (PO.mk (some 72) (.mv (.t 11)) none), (PO.mk (some 73) (.bin .mul (.k (.int .i64 4)) (.t 72)) none), (PO.mk (some 74) (.bin .add (.t 73) (.k (.int .i64 3))) none), (PO.mk (some 75) (.mv (.t 12)) none), (PO.mk (some 76) (.bin .shr (.t 75) (.k (w64 24))) none), (PO.mk (some 77) (.conv .u8 (.t 76)) none), (PO.mk (some 78) (.mv (.t 12)) none), (PO.mk (some 79) (.bin .shr (.t 78) (.k (w64 16))) none), (PO.mk (some 80) (.conv .u8 (.t 79)) none), (PO.mk (some 81) (.mv (.t 12)) none), (PO.mk (some 82) (.bin .shr (.t 81) (.k (w64 8))) none), (PO.mk (some 83) (.conv .u8 (.t 82)) none), (PO.mk (some 84) (.mv (.t 12)) none), (PO.mk (some 85) (.conv .u8 (.t 84)) none), (PO.mk (some 86) (.idxArr 32 1 (.t 10) (.t 65)) none), (PO.mk none (.store 1 (.t 86) (.t 77)) none), (PO.mk (some 87) (.idxArr 32 1 (.t 10) (.t 68)) none), (PO.mk none (.store 1 (.t 87) (.t 80)) none), (PO.mk (some 88) (.idxArr 32 1 (.t 10) (.t 71)) none), (PO.mk none (.store 1 (.t 88) (.t 83)) none), (PO.mk (some 89) (.idxArr 32 1 (.t 10) (.t 74)) none), (PO.mk none (.store 1 (.t 89) (.t 85)) none)]))) (.ops [(PO.mk (some 90) (.bin .add (.t 60) (.k (.int .i64 1))) none), (PO.mk (some 60) (.mv (.t 90)) none)]))))))) (.seq (.ops [(PO.mk (some 91) (.load true 32 (.t 10)) none), (PO.mk none (.store 32 (.t 2) (.t 91)) none)]) .ret))))))))))))
def k104 (F : Fn) : PF := PF.mk 9 1 [(PR.cell 2 true 32)] (.seq (.ops [(PO.mk (some 2) (.alloc zR32_w80) none)]) (.seq (.ops [(PO.mk (some 4) (.mv (.t 0)) none), (PO.mk (some 5) (.call (F 103) [(.t 4)]) none), (PO.mk (some 3) (.alloc zR32_w80) none), (PO.mk none (.store 32 (.t 3) (.t 5)) none)]) (.seq (.seq (.frz [3]) (.ops [(PO.mk (some 6) (.slArr false 32 1 (.t 3) none none) none), (PO.mk (some 7) (.bsl false 1 1 [(.sl .nil [] 0)] [(0, (1, (.t 6)))]) none), (PO.mk (some 8) (.call (F 103) [(.t 7)]) none), (PO.mk none (.store 32 (.t 2) (.t 8)) none)])) .ret)))
def k102 (F : Fn) : PF := PF.mk 17 2 [(.t 4)] (.seq (.ops [(PO.mk (some 4) (.mv (.k (w32 0))) none)]) (.seq (.ops [(PO.mk (some 6) (.mv (.t 1)) none), (PO.mk (some 7) (.conv .u64 (.t 6)) none), (PO.mk (some 8) (.bin .and (.t 7) (.k (w64 31))) none), (PO.mk (some 5) (.mv (.t 8)) none)]) (.seq (.ops [(PO.mk (some 9) (.mv (.t 0)) none), (PO.mk (some 10) (.mv (.t 5)) none), (PO.mk (some 11) (.bin .shl (.t 9) (.t 10)) none), (PO.mk (some 12) (.mv (.t 0)) none), (PO.mk (some 13) (.mv (.t 5)) none), (PO.mk (some 14) (.bin .sub (.k (w64 32)) (.t 13)) none), (PO.mk (some 15) (.bin .shr (.t 12) (.t 14)) none), (PO.mk (some 16) (.bin .or (.t 11) (.t 15)) none), (PO.mk (some 4) (.mv (.t 16)) none)]) .ret)))
structure OkHash (P : Program) (F : Fn) : Prop where
  mixed : P.follows .mixedOrders = true
  h100 : compFn P ⟨[], [], [], [], []⟩ (F 100) = some (k100 F)
  h101 : compFn P ⟨[], [], [], [], []⟩ (F 101) = some (k101 F)
  h103 : compFn P ⟨[], [], [], [], []⟩ (F 103) = some (k103 F)
  h104 : compFn P ⟨[], [], [(2, [3])], [], []⟩ (F 104) = some (k104 F)
  h102 : compFn P ⟨[], [], [], [], []⟩ (F 102) = some (k102 F)
end Go.Ab
set_option linter.unusedSimpArgs false
set_option linter.unusedVariables false
set_option maxRecDepth 10000
namespace Go.Ab
open Go Go.RowKit
section
variable {P : Program} {F : Fn}
theorem turn_amt : ∀ n : Fin 32, (BitVec.ofInt 64 (-((n.val : Nat) : Int)) &&& 31#64) = BitVec.ofNat 64 ((32 - n.val) % 32) := by decide
theorem spec102 (ok : OkHash P F) (st : St) (x : BitVec 32) {n : Nat} (h0 : 0 < n) (hn : n < 32) {k : Int} (hk : k = -(n : Int)) : ACalls P (F 102) [w32 x, .int .i64 k] st fun v st' => v = w32 (ror x n) ∧ st' = st := by
  refine shows_call ok.mixed ok.h102 (by simp [k102]) ?_
  have h := turn_amt ⟨n, hn⟩
  simp only at h
  rw [← hk, show (32 - n) % 32 = 32 - n from Nat.mod_eq_of_lt (by omega)] at h
  have e1 : (32#64 - BitVec.ofNat 64 (32 - n)).toNat = n := by
    rw [BitVec.toNat_sub, BitVec.toNat_ofNat, BitVec.toNat_ofNat, Nat.mod_eq_of_lt (show 32 - n < 2 ^ 64 by omega)]
    show (18446744073709551616 - (32 - n) + 32) % 18446744073709551616 = n
    omega
  have e2 : (BitVec.ofNat 64 (32 - n)).toNat = 32 - n := by
    rw [BitVec.toNat_ofNat, Nat.mod_eq_of_lt (by omega)]
  simp only [k102]
  simp [h, e1, e2, -BitVec.toNat_sub, -BitVec.toNat_ofNat]
  have : ror x n = x <<< (32 - n) ||| x >>> n := by rw [ror, BitVec.or_comm]
  rw [this]
def strB (s : ByteArray) : List UInt8 := s.data.toList
theorem idxStr_w (s : ByteArray) (k : IntKind) {i : Nat} (h : i < (strB s).length) : idxStrV (.str s) (.int k (i : Int)) = some (w8 (strB s)[i]) := by
  have hlt : i < s.data.size := by simpa [strB] using h
  have : s[i]? = some s.data[i] := by
    show (if h : i < s.size then some s[i] else none) = _
    rw [dif_pos (show i < s.size from hlt)]
    rfl
  simp only [idxStrV]
  rw [if_pos (by omega), Int.toNat_natCast, this]
  simp [w8, strB]
theorem spec100 (ok : OkHash P F) (st : St) (s : ByteArray) {i : Nat} (h : i + 4 ≤ (strB s).length) (hs : (strB s).length ≤ 1000000) : ACalls P (F 100) [.str s, .int .i64 (i : Int)] st fun v st' => v = w32 (be4 (strB s)[i] (strB s)[i + 1] (strB s)[i + 2] (strB s)[i + 3]) ∧ st' = st := by
  refine shows_call ok.mixed ok.h100 (by simp [k100]) ?_
  have w1 : IntKind.i64.wrap ((i : Int) + 1) = ((i + 1 : Nat) : Int) := by rw [wrap64 (by omega) (by omega)]; simp
  have w2 : IntKind.i64.wrap ((i : Int) + 2) = ((i + 2 : Nat) : Int) := by rw [wrap64 (by omega) (by omega)]; simp
  have w3 : IntKind.i64.wrap ((i : Int) + 3) = ((i + 3 : Nat) : Int) := by rw [wrap64 (by omega) (by omega)]; simp
  have i0 := idxStr_w s .i64 (i := i) (by omega)
  have i1 : idxStrV (.str s) (.int .i64 ((i : Int) + 1)) = some (w8 (strB s)[i + 1]) := idxStr_w s .i64 (i := i + 1) (by omega)
  have i2 : idxStrV (.str s) (.int .i64 ((i : Int) + 2)) = some (w8 (strB s)[i + 2]) := idxStr_w s .i64 (i := i + 2) (by omega)
  have i3 : idxStrV (.str s) (.int .i64 ((i : Int) + 3)) = some (w8 (strB s)[i + 3]) := idxStr_w s .i64 (i := i + 3) (by omega)
  simp only [k100]
  simp [w1, w2, w3, i0, i1, i2, i3]
  rfl
end
end Go.Ab
set_option linter.unusedSimpArgs false
set_option linter.unusedVariables false
set_option maxRecDepth 10000
namespace Go.Ab
open Go Go.RowKit
section
variable {P : Program} {F : Fn}
theorem arr_read {α : Type} {f : α → V} {st : St} {id : Nat} {xs : List α} (h : st id = some (.cells (xs.map f))) {i : Nat} (hi : i < xs.length) : st.seg id i 1 = some [f xs[i]] := by
  simp only [St.seg, h, segOf]
  rw [if_pos (by simp; omega), List.drop_eq_getElem_cons (by simpa using hi)]
  simp
theorem arr_store {α : Type} {f : α → V} {st : St} {id : Nat} {xs : List α} (h : st id = some (.cells (xs.map f))) {i : Nat} (hi : i < xs.length) {x : α} {v : V} (hv : v.cells? = some [f x]) : storeS st 1 (.ptr (some (id, i))) v = some (st.upd id (.cells ((xs.set i x).map f))) := by
  simp only [storeS, h, hv]
  rw [if_pos ⟨rfl, by simp; omega⟩]
  congr 3
  unfold spliceV
  rw [List.map_set, List.set_eq_take_append_cons_drop, if_pos (by simpa using hi)]
  simp
theorem set_fill {α : Type} (l : List α) (n : Nat) (z x : α) (h : l.length < n) : (l ++ List.replicate (n - l.length) z).set l.length x = l ++ [x] ++ List.replicate (n - (l.length + 1)) z := by
  rw [List.set_append_right _ _ (by omega), Nat.sub_self, show n - l.length = (n - (l.length + 1)) + 1 by omega, List.replicate_succ, List.set_cons_zero]
  simp
theorem idxArr_ptr (n id : Nat) {z : Int} {j : Nat} (hz : z = (j : Nat)) (hj : j < n) : idxArrV n 1 (.ptr (some (id, 0))) (.int .i64 z) = some (.ptr (some (id, j))) := by
  subst hz
  simp [idxArrV, hj]
theorem words_len : ∀ l : List UInt8, (words l).length = l.length / 4
  | a :: b :: c :: d :: l => by
    simp only [words, List.length_cons, words_len l]
    omega
  | [] => rfl
  | [_] => by simp [words]
  | [_, _] => by simp [words]
  | [_, _, _] => by simp [words]
theorem words_get : ∀ (l : List UInt8) (i : Nat) (h : 4 * i + 4 ≤ l.length), (words l)[i]'(by rw [words_len]; omega) = be4 l[4 * i] l[4 * i + 1] l[4 * i + 2] l[4 * i + 3]
  | a :: b :: c :: d :: l, 0, h => rfl
  | a :: b :: c :: d :: l, i + 1, h => by
    have := words_get l i (by simp at h; omega)
    simp only [words, List.getElem_cons_succ, this]
    congr 1
  | [], i, h => by simp at h
  | [_], i, h => by simp at h
  | [_, _], i, h => by simp at h
  | [_, _, _], i, h => by simp at h
theorem sched_len (m : List (BitVec 32)) : ∀ k, (sched m k).length = m.length + k
  | 0 => rfl
  | k + 1 => by simp [sched, sched_len m k]; omega
theorem rnds_snoc : ∀ (ks ws : List (BitVec 32)) (k w : BitVec 32) (v : V8), ks.length = ws.length → rnds (ks ++ [k]) (ws ++ [w]) v = rnd (rnds ks ws v) k w
  | [], [], k, w, v, _ => rfl
  | a :: ks, b :: ws, k, w, v, h => by
    simp only [List.cons_append, rnds]
    exact rnds_snoc ks ws k w _ (by simpa using h)
  | [], _ :: _, _, _, _, h => by simp at h
  | _ :: _, [], _, _, _, h => by simp at h
def cells8 (v : V8) : List V := v.list.map w32
theorem zR64_rep : zR64_w320 = (List.replicate 64 (0#32)).map w32 := rfl
def kBytes : List UInt8 := [66, 138, 47, 152, 113, 55, 68, 145, 181, 192, 251, 207, 233, 181, 219, 165, 57, 86, 194, 91, 89, 241, 17, 241, 146, 63, 130, 164, 171, 28, 94, 213, 216, 7, 170, 152, 18, 131, 91, 1, 36, 49, 133, 190, 85, 12, 125, 195, 114, 190, 93, 116, 128, 222, 177, 254, 155, 220, 6, 167, 193, 155, 241, 116, 228, 155, 105, 193, 239, 190, 71, 134, 15, 193, 157, 198, 36, 12, 161, 204, 45, 233, 44, 111, 74, 116, 132, 170, 92, 176, 169, 220, 118, 249, 136, 218, 152, 62, 81, 82, 168, 49, 198, 109, 176, 3, 39, 200, 191, 89, 127, 199, 198, 224, 11, 243, 213, 167, 145, 71, 6, 202, 99, 81, 20, 41, 41, 103, 39, 183, 10, 133, 46, 27, 33, 56, 77, 44, 109, 252, 83, 56, 13, 19, 101, 10, 115, 84, 118, 106, 10, 187, 129, 194, 201, 46, 146, 114, 44, 133, 162, 191, 232, 161, 168, 26, 102, 75, 194, 75, 139, 112, 199, 108, 81, 163, 209, 146, 232, 25, 214, 153, 6, 36, 244, 14, 53, 133, 16, 106, 160, 112, 25, 164, 193, 22, 30, 55, 108, 8, 39, 72, 119, 76, 52, 176, 188, 181, 57, 28, 12, 179, 78, 216, 170, 74, 91, 156, 202, 79, 104, 46, 111, 243, 116, 143, 130, 238, 120, 165, 99, 111, 132, 200, 120, 20, 140, 199, 2, 8, 144, 190, 255, 250, 164, 80, 108, 235, 190, 249, 163, 247, 198, 113, 120, 242]
theorem roundsB : ∀ i : Fin 64, be4 (kBytes.getD (4 * i.val) 0) (kBytes.getD (4 * i.val + 1) 0) (kBytes.getD (4 * i.val + 2) 0) (kBytes.getD (4 * i.val + 3) 0) = shaK.getD i.val 0 := by decide +kernel
theorem rounds_at (k : IntKind) {s : ByteArray} (hs : strB s = kBytes) {i : Nat} (hi : i < 64) (h : 4 * i + 4 ≤ (strB s).length) : be4 (strB s)[4 * i] (strB s)[4 * i + 1] (strB s)[4 * i + 2] (strB s)[4 * i + 3] = shaK[i]'hi := by
  have := roundsB ⟨i, hi⟩
  simp only [← hs, List.getD_eq_getElem?_getD] at this
  rw [List.getElem?_eq_getElem (by omega), List.getElem?_eq_getElem (by omega), List.getElem?_eq_getElem (by omega), List.getElem?_eq_getElem (by omega), List.getElem?_eq_getElem (show i < shaK.length from hi)] at this
  exact this
def addL (a b : List (BitVec 32)) : Nat → List (BitVec 32)
  | 0 => a
  | k + 1 => (addL a b k).set k (a.getD k 0 + b.getD k 0)
theorem addL_len (a b : List (BitVec 32)) : ∀ k, (addL a b k).length = a.length
  | 0 => rfl
  | k + 1 => by simp [addL, addL_len a b k]
theorem addL_get (a b : List (BitVec 32)) : ∀ (k j : Nat) (hj : j < a.length), k ≤ j → (addL a b k)[j]'(by rw [addL_len]; exact hj) = a[j]
  | 0, j, hj, _ => rfl
  | k + 1, j, hj, h => by
    simp only [addL]
    rw [List.getElem_set_ne (by omega)]
    exact addL_get a b k j hj (by omega)
set_option maxHeartbeats 2000000 in
theorem spec101 (ok : OkHash P F) (st : St) (h : V8) (s : ByteArray) (hs : (strB s).length = 64) : ACalls P (F 101) [.agg (cells8 h), .str s] st fun v st' => v = .agg (cells8 (blockM h (strB s))) := by
  refine shows_call ok.mixed ok.h101 (by simp [k101]) ?_
  simp only [k101]
  simp
  intro hid hhid
  have S := (Sep.new (L := []) (st := st) trivial hhid (.cells (cells8 h)))
  generalize st.upd hid _ = st1 at S ⊢
  intro rid hrid
  have S := S.new hrid (.cells [w32 0#32, w32 0#32, w32 0#32, w32 0#32, w32 0#32, w32 0#32, w32 0#32, w32 0#32])
  generalize st1.upd rid _ = st2 at S ⊢
  simp
  intro wid hwid
  have S := S.new hwid (.cells zR64_w320)
  generalize st2.upd wid _ = st3 at S ⊢
  rw [zR64_rep] at S
  simp
  obtain ⟨W, hW⟩ : ∃ W, W = words (strB s) := ⟨_, rfl⟩
  have hWl : W.length = 16 := by rw [hW, words_len, hs]
  refine vc_loopJ (fun k env' st' => ∃ i, i ≤ 16 ∧ k = 16 - i ∧ env' 21 = .int .i64 (i : Nat) ∧ Sep [pt wid (.cells ((W.take i ++ List.replicate (64 - (W.take i).length) (0#32)).map w32)), pt rid (.cells [w32 0#32, w32 0#32, w32 0#32, w32 0#32, w32 0#32, w32 0#32, w32 0#32, w32 0#32]), pt hid (.cells (cells8 h))] st') 16
    ⟨0, by omega, by omega, rfl, S⟩ ?_
  clear S
  rintro J hJ k env' st4 hsame ⟨i, hi, rfl, h21, S⟩
  have g1 : env' 1 = .str s := hsame.get 1 rfl
  have g2 : env' 2 = .ptr (some (hid, 0)) := hsame.get 2 rfl
  have g4 : env' 4 = .ptr (some (rid, 0)) := hsame.get 4 rfl
  have g5 : env' 5 = .ptr (some (wid, 0)) := hsame.get 5 rfl
  clear hsame
  have w2 : IntKind.i64.wrap ((i : Int) + 1) = (i : Int) + 1 := wrap64 (by omega) (by omega)
  have w4 : IntKind.i64.wrap (4 * (i : Int)) = 4 * (i : Int) := wrap64 (by omega) (by omega)
  by_cases hlt : i < 16
  · have hlt' : (i : Int) < 16 := by omega
    have hi64 : (i : Int) < 64 := by omega
    have htl : (W.take i).length = i := by simp; omega
    simp [g1, g2, g4, g5, h21, hlt', w4]
    have hsp : ACalls P (F 100) [.str s, .int .i64 (4 * (i : Int))] st4 _ := spec100 ok st4 s (i := 4 * i) (by omega) (by omega)
    refine hsp.mono ?_
    rintro v st5 ⟨rfl, rfl⟩
    have hwi : W[i] = be4 (strB s)[4 * i] (strB s)[4 * i + 1] (strB s)[4 * i + 2] (strB s)[4 * i + 3] := by
      have := words_get (strB s) i (by omega)
      rw [← this]
      congr 1
    rw [← hwi]
    obtain ⟨xs, hxs⟩ : ∃ xs, xs = W.take i ++ List.replicate (64 - (W.take i).length) (0#32) := ⟨_, rfl⟩
    have hxl : i < xs.length := by rw [hxs, htl]; simp; omega
    have hnx : xs.set i W[i] = W.take (i + 1) ++ List.replicate (64 - (W.take (i + 1)).length) (0#32) := by
      have hse := set_fill (W.take i) 64 0#32 W[i] (by omega)
      rw [hxs]
      rw [htl] at hse ⊢
      rw [hse, List.take_succ_eq_append_getElem (by omega), List.length_append, htl]
      rfl
    rw [← hxs] at S
    have hst := arr_store (f := w32) S.get hxl (x := W[i]) (v := w32 W[i]) rfl
    simp [-List.map_set, g5, idxArrV, hi64, hst, h21, w2]
    refine Round.mk (16 - (i + 1)) _ (by omega) (sub_self _) (hJ _ _ _ ⟨i + 1, by omega, rfl, by simp, ?_⟩)
    rw [← hnx]
    exact S.set _
  · have : i = 16 := by omega
    subst this
    rw [List.take_of_length_le (by omega)] at S
    simp [g1, g2, g4, g5, h21]
    clear hJ J
    refine vc_loopJ (fun k env' st' => ∃ i, i ≤ 48 ∧ k = 48 - i ∧ env' 7 = .int .i64 ((i : Int) + 16) ∧ Sep [pt wid (.cells ((sched W i ++ List.replicate (64 - (sched W i).length) (0#32)).map w32)), pt rid (.cells [w32 0#32, w32 0#32, w32 0#32, w32 0#32, w32 0#32, w32 0#32, w32 0#32, w32 0#32]), pt hid (.cells (cells8 h))] st') 48
      ⟨0, by omega, by omega, rfl, S⟩ ?_
    clear S
    rintro J hJ k env' st5 hsame ⟨i, hi, rfl, h7, S⟩
    have g1 : env' 1 = .str s := (hsame.get 1 rfl).trans g1
    have g2 : env' 2 = .ptr (some (hid, 0)) := (hsame.get 2 rfl).trans g2
    have g4 : env' 4 = .ptr (some (rid, 0)) := (hsame.get 4 rfl).trans g4
    have g5 : env' 5 = .ptr (some (wid, 0)) := (hsame.get 5 rfl).trans g5
    clear hsame
    have hsl := sched_len W i
    rw [hWl] at hsl
    by_cases hlt : i < 48
    · obtain ⟨xs, hxs⟩ : ∃ xs, xs = sched W i ++ List.replicate (64 - (sched W i).length) (0#32) := ⟨_, rfl⟩
      rw [← hxs] at S
      have hxl : xs.length = 64 := by rw [hxs]; simp; omega
      have hget : ∀ j (hj : j < 16 + i), xs[j] = (sched W i)[j] := fun j hj => by
        simp only [hxs]
        rw [List.getElem_append_left]
      have hD : ∀ j (hj : j < 16 + i), (sched W i).getD j 0 = xs[j] := fun j hj => by
        rw [hget j hj, List.getD_eq_getElem?_getD, List.getElem?_eq_getElem (by omega)]
        rfl
      have hnw : nextW (sched W i) = xs[i] + sg0 xs[i + 1] + xs[i + 9] + sg1 xs[i + 14] := by
        have e1 := hD i (by omega)
        have e2 := hD (i + 1) (by omega)
        have e3 := hD (i + 9) (by omega)
        have e4 := hD (i + 14) (by omega)
        rw [nextW, hsl, show 16 + i - 16 = i by omega, show 16 + i - 15 = i + 1 by omega, show 16 + i - 7 = i + 9 by omega, show 16 + i - 2 = i + 14 by omega]
        rw [e1, e2, e3, e4]
      have hnx : xs.set (i + 16) (nextW (sched W i)) = sched W (i + 1) ++ List.replicate (64 - (sched W (i + 1)).length) (0#32) := by
        have hse := set_fill (sched W i) 64 0#32 (nextW (sched W i)) (by omega)
        rw [hsl] at hse
        rw [hxs, hsl, show i + 16 = 16 + i by omega, hse, sched, List.length_append, hsl]
        rfl
      have r0 := arr_read (f := w32) S.get (i := i) (by omega)
      have r1 := arr_read (f := w32) S.get (i := i + 1) (by omega)
      have r9 := arr_read (f := w32) S.get (i := i + 9) (by omega)
      have r14 := arr_read (f := w32) S.get (i := i + 14) (by omega)
      have hst := arr_store (f := w32) S.get (i := i + 16) (by omega) (x := nextW (sched W i)) (v := w32 (nextW (sched W i))) rfl
      have b1 : IntKind.i64.wrap ((i : Int) + 16 - 15) = ((i + 1 : Nat) : Int) := by rw [wrap64 (by omega) (by omega)]; omega
      have b2 : IntKind.i64.wrap ((i : Int) + 16 - 2) = ((i + 14 : Nat) : Int) := by rw [wrap64 (by omega) (by omega)]; omega
      have b3 : IntKind.i64.wrap ((i : Int) + 16 - 16) = ((i : Nat) : Int) := by rw [wrap64 (by omega) (by omega)]; omega
      have b3' : IntKind.i64.wrap (i : Int) = (i : Int) := wrap64 (by omega) (by omega)
      have b4 : IntKind.i64.wrap ((i : Int) + 16 - 7) = ((i + 9 : Nat) : Int) := by rw [wrap64 (by omega) (by omega)]; omega
      have b5 : IntKind.i64.wrap ((i : Int) + 16 + 1) = (i : Int) + 17 := by rw [wrap64 (by omega) (by omega)]; omega
      have a1 := idxArr_ptr 64 wid (z := (i : Int) + 1) (j := i + 1) (by omega) (by omega)
      have a2 := idxArr_ptr 64 wid (z := (i : Int) + 14) (j := i + 14) (by omega) (by omega)
      have a3 := idxArr_ptr 64 wid (z := (i : Int)) (j := i) (by omega) (by omega)
      have a4 := idxArr_ptr 64 wid (z := (i : Int) + 9) (j := i + 9) (by omega) (by omega)
      have a5 := idxArr_ptr 64 wid (z := (i : Int) + 16) (j := i + 16) (by omega) (by omega)
      have hlt' : (i : Int) + 16 < 64 := by omega
      simp [g1, g2, g4, g5, h7, hlt', b1, b2, a1, a2, r1, r14]
      refine (spec102 ok _ xs[i + 1] (n := 7) (by omega) (by omega) rfl).mono ?_
      rintro v st6 ⟨rfl, rfl⟩
      simp
      refine (spec102 ok _ xs[i + 1] (n := 18) (by omega) (by omega) rfl).mono ?_
      rintro v st6 ⟨rfl, rfl⟩
      simp
      refine (spec102 ok _ xs[i + 14] (n := 17) (by omega) (by omega) rfl).mono ?_
      rintro v st6 ⟨rfl, rfl⟩
      simp
      refine (spec102 ok _ xs[i + 14] (n := 19) (by omega) (by omega) rfl).mono ?_
      rintro v st6 ⟨rfl, rfl⟩
      have e0 : ror xs[i + 1] 7 ^^^ ror xs[i + 1] 18 ^^^ xs[i + 1] >>> 3 = sg0 xs[i + 1] := rfl
      have e1 : ror xs[i + 14] 17 ^^^ ror xs[i + 14] 19 ^^^ xs[i + 14] >>> 10 = sg1 xs[i + 14] := rfl
      simp [-List.map_set, g5, h7, b3, b3', b4, b5, a3, a4, a5, r0, r9, e0, e1, ← hnw, hst]
      refine Round.mk (48 - (i + 1)) _ (show 48 - (i + 1) < 48 - i by omega) (sub_self _) (hJ _ _ _ ⟨i + 1, by omega, rfl, by simp; omega, ?_⟩)
      rw [← hnx]
      exact S.set _
    · have : i = 48 := by omega
      subst this
      obtain ⟨X, hX⟩ : ∃ X, X = sched W 48 := ⟨_, rfl⟩
      have hXl : X.length = 64 := by rw [hX, hsl]
      rw [← hX, hXl] at S
      simp only [Nat.sub_self, List.replicate_zero, List.append_nil] at S
      have oh := S.mem (i := hid) (o := .cells (cells8 h)) (by simp)
      have hcc : cells8 h = [w32 h.a, w32 h.b, w32 h.c, w32 h.d, w32 h.e, w32 h.f, w32 h.g, w32 h.h] := rfl
      have h64 : (48 : Int) + 16 = 64 := rfl
      simp [g1, g2, g4, g5, h7, St.seg, oh, hcc, segOf]
      intro vid hvid
      have S := S.new hvid (.cells (cells8 h))
      simp [storeS, spliceV]
      rw [hcc] at S
      generalize st5.upd vid _ = st6 at S ⊢
      rw [← hcc] at S
      clear hJ J
      refine vc_loopJ (fun k env' st' => ∃ i, i ≤ 64 ∧ k = 64 - i ∧ env' 75 = .int .i64 (i : Nat) ∧ Sep [pt vid (.cells (cells8 (rnds (shaK.take i) (X.take i) h))), pt wid (.cells (X.map w32)), pt rid (.cells [w32 0#32, w32 0#32, w32 0#32, w32 0#32, w32 0#32, w32 0#32, w32 0#32, w32 0#32]), pt hid (.cells (cells8 h))] st') 64
        ⟨0, by omega, by omega, rfl, S⟩ ?_
      clear S
      rintro J hJ k env' st7 hsame ⟨i, hi, rfl, h75, S⟩
      have g2 : env' 2 = .ptr (some (hid, 0)) := (hsame.get 2 rfl).trans g2
      have g4 : env' 4 = .ptr (some (rid, 0)) := (hsame.get 4 rfl).trans g4
      have g5 : env' 5 = .ptr (some (wid, 0)) := (hsame.get 5 rfl).trans g5
      have g12 : env' 12 = .ptr (some (vid, 0)) := hsame.get 12 rfl
      clear hsame
      have w2 : IntKind.i64.wrap ((i : Int) + 1) = (i : Int) + 1 := wrap64 (by omega) (by omega)
      have w4 : IntKind.i64.wrap (4 * (i : Int)) = 4 * (i : Int) := wrap64 (by omega) (by omega)
      obtain ⟨v, hv⟩ : ∃ v, v = rnds (shaK.take i) (X.take i) h := ⟨_, rfl⟩
      rw [← hv] at S
      have ov : st7 vid = some (.cells [w32 v.a, w32 v.b, w32 v.c, w32 v.d, w32 v.e, w32 v.f, w32 v.g, w32 v.h]) := S.get
      by_cases hlt : i < 64
      · have hlt' : (i : Int) < 64 := by omega
        simp [g2, g4, g5, g12, h75, hlt', idxArrV, St.seg, segOf, ov]
        refine (spec102 ok _ v.e (n := 6) (by omega) (by omega) rfl).mono ?_
        rintro y st8 ⟨rfl, rfl⟩
        simp
        refine (spec102 ok _ v.e (n := 11) (by omega) (by omega) rfl).mono ?_
        rintro y st8 ⟨rfl, rfl⟩
        simp
        refine (spec102 ok _ v.e (n := 25) (by omega) (by omega) rfl).mono ?_
        rintro y st8 ⟨rfl, rfl⟩
        have e1 : ror v.e 6 ^^^ ror v.e 11 ^^^ ror v.e 25 = bg1 v.e := rfl
        have rw0 := arr_read (f := w32) S.swap.get (i := i) (by omega)
        simp only [St.seg] at rw0
        simp [g2, g4, g5, g12, h75, hlt', idxArrV, St.seg, segOf, ov, w4, e1]
        have hk : strB ⟨⟨kBytes⟩⟩ = kBytes := rfl
        have hkl : kBytes.length = 256 := rfl
        have hw : ACalls P (F 100) [.str ⟨⟨kBytes⟩⟩, .int .i64 (4 * (i : Int))] st8 fun v' st' => v' = w32 (shaK[i]'hlt) ∧ st' = st8 := by
          have := spec100 ok st8 ⟨⟨kBytes⟩⟩ (i := 4 * i) (by rw [hk, hkl]; omega) (by rw [hk, hkl]; omega)
          rwa [rounds_at .i64 hk hlt] at this
        refine still_call _ _ _ _ (v := w32 (shaK[i]'hlt)) (by simp; exact hw) ?_
        simp [idxArrV, hlt', rw0, St.seg]
        refine (spec102 ok _ v.a (n := 2) (by omega) (by omega) rfl).mono ?_
        rintro y st9 ⟨rfl, rfl⟩
        simp
        refine (spec102 ok _ v.a (n := 13) (by omega) (by omega) rfl).mono ?_
        rintro y st9 ⟨rfl, rfl⟩
        simp
        refine (spec102 ok _ v.a (n := 22) (by omega) (by omega) rfl).mono ?_
        rintro y st9 ⟨rfl, rfl⟩
        have e0 : ror v.a 2 ^^^ ror v.a 13 ^^^ ror v.a 22 = bg0 v.a := rfl
        obtain ⟨t, ht⟩ : ∃ t, t = v.h + bg1 v.e + (v.e &&& v.f ^^^ ~~~v.e &&& v.g) + (shaK[i]'hlt) + X[i] := ⟨_, rfl⟩
        have hnx : rnds (shaK.take (i + 1)) (X.take (i + 1)) h = ⟨t + bg0 v.a + (v.a &&& v.b ^^^ v.a &&& v.c ^^^ v.b &&& v.c), v.a, v.b, v.c, v.d + t, v.e, v.f, v.g⟩ := by
          have hkl : shaK.length = 64 := rfl
          rw [List.take_succ_eq_append_getElem (show i < shaK.length from hlt), List.take_succ_eq_append_getElem (by omega), rnds_snoc _ _ _ _ _ (by simp; omega), ← hv, ht]
          rfl
        simp [g2, g4, g5, g12, idxArrV, St.seg, segOf, ov, e0, fillV, spliceV, ← ht, h75, w2, storeS]
        refine Round.mk (64 - (i + 1)) _ (show 64 - (i + 1) < 64 - i by omega) (sub_self _) (hJ _ _ _ ⟨i + 1, by omega, rfl, by simp, ?_⟩)
        rw [hnx]
        exact S.set _
      · have : i = 64 := by omega
        subst this
        have hkl : shaK.length = 64 := rfl
        rw [List.take_of_length_le (by omega), List.take_of_length_le (by omega)] at hv
        have hfin : blockM h (strB s) = addV h v := by rw [blockM, ← hW, ← hX, ← hv]
        rw [hfin]
        simp [g2, g4, g12, h75]
        clear hJ J ov
        have S : Sep [pt hid (.cells (cells8 h)), pt vid (.cells (cells8 v)), pt rid (.cells [w32 0#32, w32 0#32, w32 0#32, w32 0#32, w32 0#32, w32 0#32, w32 0#32, w32 0#32])] st7 := Sep.tail (fun r hr => Sep.tail (fun r hr => hr.drop) hr) (Sep.pull 3 _ S)
        refine vc_loopJ (fun k env' st' => ∃ i, i ≤ 8 ∧ k = 8 - i ∧ env' 159 = .int .i64 (i : Nat) ∧ Sep [pt hid (.cells ((addL h.list v.list i).map w32)), pt vid (.cells (cells8 v)), pt rid (.cells [w32 0#32, w32 0#32, w32 0#32, w32 0#32, w32 0#32, w32 0#32, w32 0#32, w32 0#32])] st') 8
          ⟨0, by omega, by omega, rfl, S⟩ ?_
        clear S
        rintro J hJ k env' st7 hsame ⟨i, hi, rfl, h159, S⟩
        have g2 : env' 2 = .ptr (some (hid, 0)) := (hsame.get 2 rfl).trans g2
        have g4 : env' 4 = .ptr (some (rid, 0)) := (hsame.get 4 rfl).trans g4
        have g12 : env' 12 = .ptr (some (vid, 0)) := (hsame.get 12 rfl).trans g12
        clear hsame
        have w2 : IntKind.i64.wrap ((i : Int) + 1) = (i : Int) + 1 := wrap64 (by omega) (by omega)
        have l1 : h.list.length = 8 := rfl
        have l2 : v.list.length = 8 := rfl
        have l3 := addL_len h.list v.list i
        by_cases hlt : i < 8
        · have hlt' : (i : Int) < 8 := by omega
          have d1 : (addL h.list v.list i)[i]'(by omega) = h.list.getD i 0 := by
            rw [addL_get _ _ _ _ (by omega) (Nat.le_refl _), List.getD_eq_getElem?_getD, List.getElem?_eq_getElem (by omega)]
            rfl
          have d2 : v.list[i]'(by omega) = v.list.getD i 0 := by
            rw [List.getD_eq_getElem?_getD, List.getElem?_eq_getElem (by omega)]
            rfl
          obtain ⟨A, hA⟩ : ∃ A, A = h.list.getD i 0 := ⟨_, rfl⟩
          obtain ⟨B, hB⟩ : ∃ B, B = v.list.getD i 0 := ⟨_, rfl⟩
          have r1 : st7.seg hid i 1 = some [w32 A] := (arr_read (f := w32) S.get (i := i) (by omega)).trans (congrArg (fun z => some [w32 z]) (d1.trans hA.symm))
          have r2 : st7.seg vid i 1 = some [w32 B] := (arr_read (f := w32) (xs := v.list) S.swap.get (i := i) (by omega)).trans (congrArg (fun z => some [w32 z]) (d2.trans hB.symm))
          have a1 := idxArr_ptr 8 hid (z := (i : Int)) (j := i) rfl hlt
          have a2 := idxArr_ptr 8 vid (z := (i : Int)) (j := i) rfl hlt
          have hst := arr_store (f := w32) S.get (i := i) (by omega) (x := A + B) (v := w32 (A + B)) rfl
          simp [-List.map_set, g2, g4, g12, h159, hlt', a1, a2, r1, r2, hst, w2]
          refine Round.mk (8 - (i + 1)) _ (show 8 - (i + 1) < 8 - i by omega) (sub_self _) (hJ _ _ _ ⟨i + 1, by omega, rfl, by simp, ?_⟩)
          have e : addL h.list v.list (i + 1) = (addL h.list v.list i).set i (A + B) := by
            rw [hA, hB, addL]
          rw [e]
          exact S.set _
        · have : i = 8 := by omega
          subst this
          have oh := S.get
          have or := S.mem (i := rid) (o := .cells [w32 0#32, w32 0#32, w32 0#32, w32 0#32, w32 0#32, w32 0#32, w32 0#32, w32 0#32]) (by simp)
          have e : (addL h.list v.list 8).map w32 = cells8 (addV h v) := rfl
          rw [e] at oh
          have hc : cells8 (addV h v) = [w32 (addV h v).a, w32 (addV h v).b, w32 (addV h v).c, w32 (addV h v).d, w32 (addV h v).e, w32 (addV h v).f, w32 (addV h v).g, w32 (addV h v).h] := rfl
          rw [hc] at oh ⊢
          simp [g2, g4, g12, h159, St.seg, oh, or, segOf, storeS, spliceV]
          exact ⟨_, sub_self _⟩
end
end Go.Ab
set_option linter.unusedSimpArgs false
set_option linter.unusedVariables false
namespace Go.Ab
open Go Go.RowKit
section
variable {P : Program} {c : PC} {Q : Ex → Env → St → Prop}
def unrK (K : Env → St → Prop) (Q : Ex → Env → St → Prop) : Ex → Env → St → Prop := fun e env st => match e with | .normal => K env st | e => Q e env st
@[simp] theorem unrK_n (K : Env → St → Prop) (env : Env) (st : St) : unrK K Q .normal env st = K env st := _root_.id rfl
@[simp] theorem unrK_e (K : Env → St → Prop) (i : Nat) (env : Env) (st : St) : unrK K Q (.exit i) env st = Q (.exit i) env st := _root_.id rfl
@[simp] theorem unrK_r (K : Env → St → Prop) (env : Env) (st : St) : unrK K Q .ret env st = Q .ret env st := _root_.id rfl
def unr (P : Program) (c : PC) (Q : Ex → Env → St → Prop) : Nat → Env → St → Prop
  | 0, _, _ => False
  | n + 1, env, st => vc P c (unrK (unr P c Q n) Q) env st
theorem unr_succ (n : Nat) (env : Env) (st : St) : unr P c Q (n + 1) env st = vc P c (unrK (unr P c Q n) Q) env st := _root_.id rfl
theorem vc_unroll {env : Env} {st : St} (n : Nat) (h : unr P c Q n env st) : vc P (.loop c) Q env st := by
  refine vc_loop (fun k env st => unr P c Q k env st) n h ?_
  intro k env' st' hs hu
  cases k with
  | zero => exact hu.elim
  | succ k =>
    refine vc_frame c _ _ env' st' (fun e env'' st'' _ hq => ?_) hu
    cases e with
    | normal => exact ⟨k, st'', Nat.lt_succ_self k, St.sub_refl _, hq⟩
    | exit id => exact hq
    | ret => exact hq
end
theorem Sep.appx' {α : Type} {f : α → List V} {sz : Nat} (hf : ∀ a, (f a).length = sz) (hsz : 0 < sz) {s : V} {l : List α} {L : List Asn} {st : St} (h : Sep (Slx sz f s l :: L) st) {b : Nat} (m : List α) {ys : List V} {n : Nat} (hys : ys = rowsOf f m) (hn : n = m.length) (hb : (l.length + n) * b ≤ 140737488355328) {K : V → St → Prop}
    (hK : ∀ s' st', Sep (Slx sz f s' (l ++ m) :: L) st' → K s' st') : appS sz b s (some (ys, n)) st K := by
  subst hys hn
  exact Sep.appx hf hsz h hb hK
theorem Sep.setAt {i : Nat} {o : AObj} (o' : AObj) : ∀ (n : Nat) {L : List Asn} {st : St}, Sep L st → L[n]? = some (pt i o) → Sep (L.set n (pt i o')) (st.upd i o')
  | 0, A :: L, st, h, e => by
    simp only [List.getElem?_cons_zero, Option.some.injEq] at e
    subst e
    exact h.set o'
  | n + 1, A :: L, st, h, e => by
    obtain ⟨a, r, h1, h2, h3, h4⟩ := h
    have e' : L[n]? = some (pt i o) := by simpa using e
    have hr : r i = some o := Sep.mem h4 (List.mem_of_getElem? e')
    have ih := Sep.setAt o' n h4 e'
    have hai : a i = none := (h1 i).resolve_right (by rw [hr]; simp)
    refine ⟨a, r.upd i o', fun j => ?_, fun j x hx => ?_, h3, ih⟩
    · by_cases ej : j = i
      · exact .inl (ej ▸ hai)
      · rcases h1 j with g | g
        · exact .inl g
        · exact .inr (by simpa [ej] using g)
    · by_cases ej : j = i
      · subst ej
        simpa [St.add, hai] using hx
      · simp only [St.add, st_upd, ej, if_false] at hx ⊢
        exact h2 j x hx
  | _, [], _, _, e => by simp at e
theorem Sep.neq {i j : Nat} {o o' : AObj} : ∀ {L : List Asn} {st : St} (n m : Nat), Sep L st → L[n]? = some (pt i o) → L[m]? = some (pt j o') → n < m → i ≠ j
  | [], _, _, _, _, e, _, _ => by simp at e
  | A :: L, st, 0, m + 1, h, e1, e2, _ => by
    simp only [List.getElem?_cons_zero, Option.some.injEq] at e1
    subst e1
    obtain ⟨a, r, h1, h2, h3, h4⟩ := h
    have hr : r j = some o' := Sep.mem h4 (List.mem_of_getElem? (by simpa using e2))
    rintro rfl
    rcases h1 i with g | g
    · rw [h3] at g; cases g
    · rw [hr] at g; cases g
  | A :: L, st, n + 1, m + 1, h, e1, e2, hlt => by
    obtain ⟨a, r, h1, h2, h3, h4⟩ := h
    exact Sep.neq n m h4 (by simpa using e1) (by simpa using e2) (by omega)
theorem Sep.was' {st0 st : St} {L : List Asn} (h : Sep L st) (hm : Was st0 ∈ L) : St.sub st0 st := by
  obtain ⟨h', k1, rfl⟩ := h.memA hm
  exact k1
theorem Sep.frzSl {α : Type} {f : α → List V} {sz : Nat} (hf : ∀ a, (f a).length = sz) {s : V} {l : List α} {L : List Asn} {st : St} (h : Sep (Sl sz f s l :: L) st) :
    ∃ k st', frzV st s = some (.sl k (rowsOf f l) l.length, st') ∧ Sep L st' ∧ (l ≠ [] → k = .some) := by
  obtain ⟨a, r, h1, h2, h3, h4⟩ := h
  have hsub : St.sub r st := sub_trans (sub_right h1) h2
  rcases h3 with ⟨hs | hs, rfl⟩ | ⟨sid, spare, rfl, h5, h6⟩
  · subst hs
    exact ⟨.nil, st, rfl, h4.sub hsub, fun h => absurd rfl h⟩
  · subst hs
    exact ⟨.full, st, rfl, h4.sub hsub, fun h => absurd rfl h⟩
  · have hsid := h2 _ _ (add_some h5)
    have hl := rowsOf_length hf l
    refine ⟨.some, st.upd sid (.ro (rowsOf f l ++ spare)), ?_, ?_, fun _ => rfl⟩
    · simp only [frzV, frzOb, hsid, Option.bind_some, St.seg, st_upd, if_true, segOf]
      rw [if_pos (by simp; omega), List.drop_zero, ← hl, List.take_left]
      rfl
    · refine h4.sub fun j o e => ?_
      have : j ≠ sid := fun e' => by
        subst e'
        rw [h1.some h5] at e
        cases e
      simp only [st_upd, this, if_false]
      exact hsub j o e
theorem frzP_one {t : Nat} {env : Env} {st st' : St} {v : V} {K : Env → St → Prop} (h : frzV st (env t) = some (v, st')) (hk : K (env.upd t v) st') : frzP [t] env st K := by
  simp only [frzP, h]
  exact hk
end Go.Ab

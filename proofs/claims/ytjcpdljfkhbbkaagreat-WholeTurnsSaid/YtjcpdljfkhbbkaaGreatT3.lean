import Derived.Test.YtjcpdljfkhbbkaaGreatT2
import Derived.Deep.LoopGhost
import Derived.Scope
set_option linter.unusedVariables false
set_option linter.unusedSimpArgs false
set_option linter.unusedSectionVars false
namespace Go.Ab
open Go Go.RowKit
def POp.xs:POp→List X
 | .mv x | .nilck x | .not x | .neg x | .inv x | .conv _ x | .same x | .toStr x | .toBytes x | .fldA _ x | .fld _ _ _ x | .load _ _ x | .loadE _ _ x | .lenStr x | .lenSl x | .lenMap x | .ext _ x | .box x | .clear _ _ x | .rngStr x | .nextStr x | .rngMap x | .nextMap x | .entry x=>[x]
 | .pick c a b=>[c,a,b]
 | .bin _ x y | .eqa _ _ x y | .idxArr _ _ x y | .idxSl _ x y | .idx _ _ _ x y | .idxStr x y | .store _ x y | .lookup _ _ _ x y | .mdel _ x y | .mksl _ _ _ _ x y | .app _ _ x y | .appz _ _ x y | .appf _ _ x y | .appn _ _ x y | .ment _ _ x y=>[x,y]
 | .mset _ x y z | .carry _ x y z | .estore x y z=>[x,y,z]
 | .build _ ps | .bsl _ _ _ _ ps=>ps.map fun p=>p.2.2
 | .slStr x lo hi | .slArr _ _ _ x lo hi | .slw _ x lo hi=>x::(lo.toList++hi.toList)
 | .sl _ x lo hi mx | .chk3 x lo hi mx=>x::(lo.toList++(hi.toList++mx.toList))
 | .lenK _ | .mkmap | .alloc _=>[]
 | .mkf _ l | .max l | .min l | .call _ l=>l
 | .callv f l=>f::l
def X.slots:X→List Nat
 | .t i=>[i]
 | .k _=>[]
def POp.slots (o:POp):List Nat:=o.xs.flatMap X.slots
def Alike (l:List X)(env env':Env):Prop:=∀x∈l,X.ev env x=X.ev env' x
theorem Alike.of {l:List X}{env env':Env}(h: ∀t∈l.flatMap X.slots,env t=env' t):Alike l env env':=fun x hx=>by
 cases x with
 | t i=>exact h i (List.mem_flatMap.2 ⟨_,hx,by simp[X.slots]⟩)
 | k v=>rfl
theorem Alike.head {x:X}{l:List X}{env env':Env}(h:Alike (x::l) env env'):x.ev env=x.ev env':=h x (by simp)
theorem Alike.tail {x:X}{l:List X}{env env':Env}(h:Alike (x::l) env env'):Alike l env env':=fun y hy=>h y (by simp[hy])
theorem Alike.left {l m:List X}{env env':Env}(h:Alike (l++m) env env'):Alike l env env':=fun y hy=>h y (by simp[hy])
theorem Alike.right {l m:List X}{env env':Env}(h:Alike (l++m) env env'):Alike m env env':=fun y hy=>h y (by simp[hy])
theorem Alike.evs {l:List X}{env env':Env}(h:Alike l env env'):l.map (·.ev env)=l.map (·.ev env'):=List.map_congr_left h
theorem Alike.parts {l:List (Nat×Nat×X)}{env env':Env}(h:Alike (l.map fun p=>p.2.2) env env'):l.map (fun p=>(p.1,p.2.1,p.2.2.ev env))=l.map (fun p=>(p.1,p.2.1,p.2.2.ev env')):=
 List.map_congr_left fun p hp=>by rw[h p.2.2 (List.mem_map.2 ⟨p,hp,rfl⟩)]
theorem boundOf_alike {x:Option X}{env env':Env}(h:Alike x.toList env env')(d:Nat):boundOf env d x=boundOf env' d x:=by
 cases x with
 | none=>rfl
 | some x=>simp only[boundOf,h x (by simp)]
theorem bounds_alike {lo hi:Option X}{env env':Env}(h:Alike lo.toList env env')(h':Alike hi.toList env env')(n:Nat):bounds env n lo hi=bounds env' n lo hi:=by
 simp only[bounds,boundOf_alike h,boundOf_alike h']
theorem slV_alike {lo hi mx:Option X}{env env':Env}(h:Alike lo.toList env env')(h':Alike hi.toList env env')(h'':Alike mx.toList env env')(sz:Nat)(v:V):slV env sz lo hi mx v=slV env' sz lo hi mx v:=by
 have hm: ∀x,mx=some x→x.ev env=x.ev env':=fun x e=>h'' x (by simp[e])
 cases v with
 | sl k cs n=>
   simp only[slV,bounds_alike h h']
   generalize bounds env' n lo hi=b
   cases mx with
   | none=>cases b<;>rfl
   | some x=>cases b with
     | none=>rfl
     | some q=>simp only[hm x rfl]
 | hsl id off sz' n=>
   simp only[slV,bounds_alike h h']
 | _=>rfl
theorem slArrV_alike {lo hi:Option X}{env env':Env}(h:Alike lo.toList env env')(h':Alike hi.toList env env')(st:St)(al:Bool)(n sz:Nat)(v:V):slArrV st env al n sz lo hi v=slArrV st env' al n sz lo hi v:=by
 unfold slArrV
 simp only[bounds_alike h h']
theorem slwV_alike {lo hi:Option X}{env env':Env}(h:Alike lo.toList env env')(h':Alike hi.toList env env')(st:St)(sz:Nat)(v:V):slwV st env sz lo hi v=slwV st env' sz lo hi v:=by
 unfold slwV
 simp only[boundOf_alike h,boundOf_alike h']
theorem chk3V_alike {lo hi mx:Option X}{env env':Env}(h:Alike lo.toList env env')(h':Alike hi.toList env env')(h'':Alike mx.toList env env')(v:V):chk3V env lo hi mx v=chk3V env' lo hi mx v:=by
 unfold chk3V
 simp only[boundOf_alike h,boundOf_alike h',boundOf_alike h'']
theorem opV_alike (o:POp){env env':Env}(h:Alike o.xs env env')(st:St):opV o env st=opV o env' st:=by
 cases o<;>simp only[POp.xs]at h
 case slStr x lo hi=>simp only[opV,h.head,bounds_alike h.tail.left h.tail.right]
 case sl sz x lo hi mx=>simp only[opV,h.head,slV_alike h.tail.left h.tail.right.left h.tail.right.right]
 case slArr al n sz x lo hi=>simp only[opV,h.head,slArrV_alike h.tail.left h.tail.right]
 case slw sz x lo hi=>simp only[opV,h.head,slwV_alike h.tail.left h.tail.right]
 case chk3 x lo hi mx=>simp only[opV,h.head,chk3V_alike h.tail.left h.tail.right.left h.tail.right.right]
 case build z ps=>simp only[opV,h.parts]
 case bsl b sz n z ps=>cases b<;>simp only[opV,h.parts]
 case mkf f l=>simp only[opV,h.evs]
 case max l=>cases l with | nil=>rfl | cons x l=>simp only[opV,h.head,h.tail.evs]
 case min l=>cases l with | nil=>rfl | cons x l=>simp only[opV,h.head,h.tail.evs]
 all_goals first
  | rfl
  | (simp only[opV,h.head];done)
  | (simp only[opV,h.head,h.tail.head];done)
  | (simp only[opV,h.head,h.tail.head,h.tail.tail.head];done)
theorem opS_alike (o:POp){env env':Env}(h:Alike o.xs env env')(st:St):opS o env st=opS o env' st:=by
 cases o<;>simp only[POp.xs]at h
 all_goals first
  | rfl
  | (simp only[opS,h.head,h.tail.head];done)
  | (simp only[opS,h.head,h.tail.head,h.tail.tail.head];done)
theorem opA_alike (o:POp){env env':Env}(h:Alike o.xs env env')(st:St):opA o env st=opA o env' st:=by
 cases o<;>simp only[POp.xs]at h
 case bsl b sz n z ps=>cases b<;>simp only[opA,h.parts]
 all_goals first
  | rfl
  | (simp only[opA,h.head];done)
theorem stepP_alike {P:Program}(o:POp){env env':Env}(h:Alike o.xs env env')(st:St)(K:V→St→Prop):stepP P o env st K=stepP P o env' st K:=by
 have h1:=opV_alike o h st
 have h2:=opS_alike o h st
 have h3:=opA_alike o h st
 cases o
 case call f l=>simp only[POp.xs]at h;simp only[stepP,h.evs]
 case callv f l=>simp only[POp.xs]at h;simp only[stepP,h.head,h.tail.evs]
 case app sz b x y=>simp only[POp.xs]at h;simp only[stepP,h.head,h.tail.head]
 case mksl ob sz b z x y=>simp only[POp.xs]at h;simp only[stepP,h.head,h.tail.head]
 case clear sz z x=>simp only[POp.xs]at h;simp only[stepP,h.head]
 case nextStr x=>simp only[POp.xs]at h;simp only[stepP,h.head]
 case rngMap x=>simp only[POp.xs]at h;simp only[stepP,h.head]
 case nextMap x=>simp only[POp.xs]at h;simp only[stepP,h.head]
 case ment kk z x y=>simp only[POp.xs]at h;simp only[stepP,h.head,h.tail.head]
 case appz sz b x y=>simp only[POp.xs]at h;simp only[stepP,h.head,h.tail.head]
 case appf sz b x y=>simp only[POp.xs]at h;simp only[stepP,h.head,h.tail.head]
 case appn sz b x y=>simp only[POp.xs]at h;simp only[stepP,h.head,h.tail.head]
 all_goals
  simp only[stepP,h1,h2,h3]
theorem stepP_mono {P:Program}(o:POp){env:Env}{st:St}{K K':V→St→Prop}(hk: ∀v s,K v s→K' v s)(h:stepP P o env st K):stepP P o env st K':=by
 have key: ∀(o:POp),(if o.makes then match opA o env st with | some (ob,mk)=>∀id,st id=none→K (mk id) (st.upd id ob) | none=>False
   else if o.writes then match opS o env st with | some st'=>K .junk st' | none=>False
   else match opV o env st with | some v=>K v st | none=>False)→
   (if o.makes then match opA o env st with | some (ob,mk)=>∀id,st id=none→K' (mk id) (st.upd id ob) | none=>False
   else if o.writes then match opS o env st with | some st'=>K' .junk st' | none=>False
   else match opV o env st with | some v=>K' v st | none=>False):=by
  intro o h
  split
  ·rename_i hm
   rw[if_pos hm]at h
   split<;>rename_i hx<;>rw[hx]at h
   ·exact fun id hid=>hk _ _ (h id hid)
   ·exact h
  ·rename_i hm
   rw[if_neg hm]at h
   split
   ·rename_i hw
    rw[if_pos hw]at h
    split<;>rename_i hx<;>rw[hx]at h
    ·exact hk _ _ h
    ·exact h
   ·rename_i hw
    rw[if_neg hw]at h
    split<;>rename_i hx<;>rw[hx]at h
    ·exact hk _ _ h
    ·exact h
 have key:=key o
 cases o
 case call f l=>exact ACalls.mono h hk
 case callv f l=>
  simp only[stepP]at h⊢
  split at h
  ·exact⟨h.1,ACalls.mono h.2 hk⟩
  ·exact h
 case app sz b x y=>
  simp only[stepP]at h⊢
  cases he:elems st sz (y.ev env)with
  | none=>rw[he]at h;exact h
  | some q=>
    obtain⟨ys,m⟩:=q
    rw[he]at h
    simp only at h⊢
    generalize x.ev env=xv at h⊢
    cases xv with
    | sl k cs n=>
      obtain⟨h1,h2,h3,h4,h5⟩:=h
      exact⟨h1,h2,h3,fun e=>hk _ _ (h4 e),fun e id hid=>hk _ _ (h5 e id hid)⟩
    | hsl id off sz' n=>
      simp only at h⊢
      split at h<;>try exact h
      obtain⟨h1,h2,h3⟩:=h
      refine⟨h1,h2,?_⟩
      split at h3
      ·rename_i hc
       rw[if_pos hc]
       exact hk _ _ h3
      ·rename_i hc
       rw[if_neg hc]
       exact⟨h3.1,h3.2.1,fun id' hid'=>hk _ _ (h3.2.2 id' hid')⟩
    | _=>exact h
 case mksl ob sz b z x y=>
  simp only[stepP]at h⊢
  split at h<;>try exact h
  obtain⟨h1,h2,h3,h4⟩:=h
  refine⟨h1,h2,h3,?_⟩
  split at h4
  ·rename_i hc
   rw[if_pos hc]
   exact fun id hid=>hk _ _ (h4 id hid)
  ·rename_i hc
   rw[if_neg hc]
   exact hk _ _ h4
 case clear sz z x=>
  simp only[stepP]at h⊢
  generalize x.ev env=xv at h⊢
  cases xv with
  | hsl id off sz' n=>
    simp only at h⊢
    split at h<;>try exact h
    exact⟨h.1,h.2.1,h.2.2.1,hk _ _ h.2.2.2⟩
  | sl k cs n=>cases k<;>cases cs<;>cases n<;>first | exact h.elim | exact hk _ _ h
  | _=>exact h
 case nextStr x=>
  simp only[stepP]at h⊢
  split at h<;>try exact h
  split at h<;>try exact h
  split at h
  ·rename_i hc
   rw[if_pos hc]
   exact hk _ _ h
  ·rename_i hc
   rw[if_neg hc]
   exact hk _ _ h
 case rngMap x=>
  simp only[stepP]at h⊢
  split at h<;>try exact h
  ·exact fun it hit=>hk _ _ (h it hit)
  ·split at h<;>try exact h
   exact fun it hit bs clk e1 e2 e3=>hk _ _ (h it hit bs clk e1 e2 e3)
 case ment kk z x y=>
  simp only[stepP]at h⊢
  split at h<;>try exact h
  split at h<;>try exact h
  refine⟨h.1,fun bs clk e1 e2 e3=>?_⟩
  have h2:=h.2 bs clk e1 e2 e3
  split at h2<;>first | exact hk _ _ h2 | exact h2
 case nextMap x=>
  simp only[stepP]at h⊢
  split at h<;>try exact h
  split at h<;>try exact h
  ·exact hk _ _ h
  ·split at h<;>try exact h
   exact⟨h.1,h.2.1,h.2.2.1,fun e=>hk _ _ (h.2.2.2.1 e),fun i hi hn=>hk _ _ (h.2.2.2.2 i hi hn)⟩
 case appz sz b x y=>
  simp only[stepP]at h⊢
  cases he:elems st sz (y.ev env)with
  | none=>rw[he]at h;exact h
  | some q=>
    obtain⟨ys,m⟩:=q
    rw[he]at h
    simp only at h⊢
    generalize x.ev env=xv at h⊢
    cases xv with
    | sl k cs n=>
      obtain⟨h1,h2,h3,h4,h5⟩:=h
      exact⟨h1,h2,h3,fun e=>hk _ _ (h4 e),fun e=>hk _ _ (h5 e)⟩
    | hsl id off sz' n=>
      simp only at h⊢
      split at h<;>try exact h
      obtain⟨h1,h2,h3,h4,h5⟩:=h
      exact⟨h1,h2,h3,h4,hk _ _ h5⟩
    | _=>exact h
 case appf sz b x y=>
  simp only[stepP]at h⊢
  cases he:elems st sz (y.ev env)with
  | none=>rw[he]at h;exact h
  | some q=>
    obtain⟨ys,m⟩:=q
    rw[he]at h
    simp only at h⊢
    generalize x.ev env=xv at h⊢
    cases xv with
    | sl k cs n=>
      obtain⟨h1,h2,h3,h4,h5⟩:=h
      exact⟨h1,h2,h3,fun e=>hk _ _ (h4 e),fun e id hid=>hk _ _ (h5 e id hid)⟩
    | _=>exact h
 case appn sz b x y=>
  simp only[stepP]at h⊢
  cases he:elems st sz (y.ev env)with
  | none=>rw[he]at h;exact h
  | some q=>
    obtain⟨ys,m⟩:=q
    rw[he]at h
    simp only at h⊢
    generalize x.ev env=xv at h⊢
    cases xv with
    | sl k cs n=>
      obtain⟨h1,h2,h3,h4,h5⟩:=h
      exact⟨h1,h2,h3,fun e=>hk _ _ (h4 e),fun e=>hk _ _ (h5 e)⟩
    | _=>exact h
 all_goals exact key h
theorem stillP_alike {P:Program}(o:POp){env env':Env}(h:Alike o.xs env env')(st:St)(K:V→Prop):stillP P o env st K=stillP P o env' st K:=by
 have h1:=opV_alike o h st
 cases o
 case call f l=>simp only[POp.xs]at h;simp only[stillP,h.evs]
 case callv f l=>simp only[POp.xs]at h;simp only[stillP,h.head,h.tail.evs]
 case mksl ob sz b z x y=>cases ob<;>simp only[POp.xs]at h<;>simp only[stillP,h.head,h.tail.head,h1]
 all_goals
  simp only[stillP,h1]
theorem stillP_iff {P:Program}(o:POp){env:Env}{st:St}{K:V→Prop}:stillP P o env st K↔∃v,stillP P o env st (· =v)∧K v:=by
 cases o
 case call f l=>simp only[stillP];exact⟨fun⟨v,h,k⟩=>⟨v,⟨v,h,rfl⟩,k⟩,fun⟨v,⟨u,h,e⟩,k⟩=>⟨u,h,e ▸k⟩⟩
 case callv f l=>
  simp only[stillP]
  split
  ·exact⟨fun⟨ho,v,h,k⟩=>⟨v,⟨ho,v,h,rfl⟩,k⟩,fun⟨v,⟨ho,u,h,e⟩,k⟩=>⟨ho,u,h,e ▸k⟩⟩
  ·simp
 case mksl ob sz b z x y=>
  cases ob with
  | true=>simp[stillP,opV]
  | false=>
    simp only[stillP]
    split
    ·exact⟨fun⟨h,k⟩=>⟨_,⟨h,rfl⟩,k⟩,fun⟨v,⟨h,e⟩,k⟩=>⟨h,e ▸k⟩⟩
    ·simp
 all_goals
  simp only[stillP]
  split
  ·simp
  ·simp
def POp.pure:POp→Bool
 | .mv _ | .pick .. | .nilck _ | .bin .. | .eqa .. | .not _ | .neg _ | .inv _ | .conv .. | .same _ | .toBytes _ | .fldA .. | .fld .. | .idxArr .. | .idxSl .. | .idx .. | .idxStr .. | .build .. | .bsl false .. | .slStr .. | .sl .. | .lenStr _ | .lenSl _ | .lenK _ | .mkf .. | .ext .. | .max _ | .min _ | .chk3 .. | .mksl false .. | .carry .. | .loadE .. =>true
 | _=>false
theorem stillP_pure {P:Program}{o:POp}(hp:o.pure=true){env:Env}{st st':St}{K:V→Prop}:stillP P o env st K=stillP P o env st' K:=by
 cases o
 case bsl b sz n z ps=>cases b<;>first | rfl | (simp[POp.pure]at hp;done)
 case mksl ob sz b z x y=>cases ob<;>first | rfl | (simp[POp.pure]at hp;done)
 case max l=>cases l<;>rfl
 case min l=>cases l<;>rfl
 all_goals first
  | rfl
  | (simp[POp.pure]at hp;done)
theorem guardP_mono {g:Option (Nat×Bool)}{env:Env}{p p' q q':Prop}(hp:p→p')(hq:q→q')(h:guardP g env p q):guardP g env p' q':=by
 unfold guardP at *
 split
 ·exact hp h
 ·rename_i t b
  simp only at h
  split at h
  ·split at h
   ·rename_i hc
    rw[if_pos hc]
    exact hp h
   ·rename_i hc
    rw[if_neg hc]
    exact hq h
  ·exact hq h
  ·exact h
def PO.reads (o:PO):List Nat:=o.op.slots++(match o.guard with | some (t,_)=>[t] | none=>[])
def PO.apart (p q:PO):Bool:=
 (match p.dst with | some d=>!q.reads.contains d&&q.dst != some d | none=>true)&&(match q.dst with | some d=>!p.reads.contains d | none=>true)
theorem PO.apart_spec {p q:PO}(h:p.apart q=true):(∀d,p.dst=some d→d∉q.reads)∧(∀d,p.dst=some d→q.dst≠some d)∧(∀d,q.dst=some d→d∉p.reads):=by
 refine⟨fun d hd=>?_,fun d hd=>?_,fun d hd=>?_⟩<;>simp[PO.apart,hd]at h
 ·exact h.1.1
 ·exact h.1.2
 ·exact h.2
theorem put_reads {o:PO}{env:Env}{d:Option Nat}{v:V}(h: ∀x,d=some x→x∉o.reads): ∀t∈o.reads,(env.put d v) t=env t:=by
 intro t ht
 cases d with
 | none=>rfl
 | some x=>
   have:t≠x:=fun e=>h x rfl (e ▸ht)
   simp[Env.put,Env.upd,this]
theorem put_alike {o:PO}{env:Env}{d:Option Nat}{v:V}(h: ∀x,d=some x→x∉o.reads):Alike o.op.xs (env.put d v) env:=
 Alike.of fun t ht=>put_reads h t (List.mem_append_left _ ht)
theorem put_guard {o:PO}{env:Env}{d:Option Nat}{v:V}(h: ∀x,d=some x→x∉o.reads)(p q:Prop):guardP o.guard (env.put d v) p q=guardP o.guard env p q:=by
 unfold guardP
 cases hg:o.guard with
 | none=>rfl
 | some g=>
   obtain⟨t,b⟩:=g
   have:=put_reads (env:=env) (v:=v) h t (List.mem_append_right _ (by simp[hg]))
   simp only[this]
theorem put_comm {env:Env}{x y:Option Nat}{v u:V}(h: ∀d,x=some d→y≠some d):(env.put x v).put y u=(env.put y u).put x v:=by
 cases x with
 | none=>rfl
 | some d=>
   cases y with
   | none=>rfl
   | some e=>
     have hne:d≠e:=fun he=>h d rfl (he ▸rfl)
     funext t
     simp only[Env.put,Env.upd]
     by_cases h1:t=e
     ·subst h1
      rw[if_pos rfl,if_neg (fun q=>hne q.symm),if_pos rfl]
     ·rw[if_neg h1,if_neg h1]
def stillG (P:Program)(o:PO)(env:Env)(st:St)(v:V):Prop:=guardP o.guard env (stillP P o.op env st (· =v)) (v=.tup [])
theorem guard_still {P:Program}(o:PO){env:Env}{st:St}{K:V→Prop}:guardP o.guard env (stillP P o.op env st K) (K (.tup []))↔∃v,stillG P o env st v∧K v:=by
 have h0: ∀{p q:V→Prop},(∃v,(p v∧q v))↔∃v,p v∧q v:=Iff.rfl
 unfold stillG guardP
 cases hg:o.guard with
 | none=>exact stillP_iff o.op
 | some g=>
   obtain⟨t,b⟩:=g
   simp only
   split
   ·split
    ·exact stillP_iff o.op
    ·simp
   ·simp
   ·simp
def stepG (P:Program)(c:Cls)(o:PO)(env:Env)(st:St)(K:V→St→Prop):Prop:=guardP o.guard env (stepC P c o.op env st K) (K (.tup []) st)
theorem runD_cons {P:Program}{c:Cls}{o:PO}{l:List (Cls×PO)}{env:Env}{st:St}{K:Env→St→Prop}:
 runD P ((c,o)::l) env st K=stepG P c o env st fun v st'=>runD P l (env.put o.dst v) st' K:=rfl
theorem stepG_still {P:Program}{c:Cls}(hc:c=.e∨c=.s)(o:PO){env:Env}{st:St}{K:V→St→Prop}:stepG P c o env st K↔∃v,stillG P o env st v∧K v st:=by
 rcases hc with rfl | rfl<;>exact guard_still o (K:=fun v=>K v st)
theorem stepG_mono {P:Program}{c:Cls}{o:PO}{env:Env}{st:St}{K K':V→St→Prop}(hk: ∀v s,K v s→K' v s)(h:stepG P c o env st K):stepG P c o env st K':=by
 refine guardP_mono (fun h=>?_) (hk _ _) h
 cases c with
 | x=>exact stepP_mono _ hk h
 | a=>exact stepP_mono _ hk h
 | _=>
   obtain⟨v,h1,h2⟩:=(stillP_iff o.op).1 h
   exact(stillP_iff o.op).2 ⟨v,h1,hk _ _ h2⟩
theorem stillG_put {P:Program}{o:PO}{env:Env}{st:St}{v:V}{d:Option Nat}{u:V}(h: ∀x,d=some x→x∉o.reads):stillG P o (env.put d u) st v=stillG P o env st v:=by
 unfold stillG
 rw[put_guard h,stillP_alike o.op (put_alike h)]
theorem stepG_put {P:Program}{o:PO}{env:Env}{st:St}{K:V→St→Prop}{d:Option Nat}{u:V}(h: ∀x,d=some x→x∉o.reads):stepG P .x o (env.put d u) st K=stepG P .x o env st K:=by
 unfold stepG stepC
 rw[put_guard h,stepP_alike o.op (put_alike h)]
theorem stillG_pure {P:Program}{o:PO}(hp:o.op.pure=true){env:Env}{st st':St}{v:V}:stillG P o env st v=stillG P o env st' v:=by
 unfold stillG
 rw[stillP_pure hp (st:=st) (st':=st')]
theorem stepG_frame {P:Program}{c:Cls}{o:PO}{env:Env}{st fr:St}{K:V→St→Prop}(hd:Disj st fr)(h:stepG P c o env st K):stepG P c o env (st.add fr) (Beside fr K):=
 guardP_mono (fun h=>stepC_frame hd c o.op h) (fun h=>⟨st,hd,rfl,h⟩) h
def PO.allocs (o:PO):Bool:=o.guard.isNone&&match o.op with | .alloc _ | .mkmap=>true | _=>false
def okX (conf:List (Nat×Nat))(p q:POp):Bool:=match p,q with
 | .slArr false ..,.app .. | .slArr false ..,.appf .. | .slArr false ..,.store .. | .load ..,.appf .. | .load ..,.appn .. | .load ..,.mksl true .. | .slArr false ..,.mksl true .. =>true
 | .load _ _ (.t a),.store _ (.t b) _=>conf.contains (a,b)
 | _,_=>false
def okPair (conf:List (Nat×Nat))(p q:Cls×PO):Bool:=
 p.2.apart q.2&&match q.1,p.1 with
  | .a,_=>q.2.allocs
  | .x,.e=>p.2.op.pure
  | .x,.s=>p.2.guard.isNone&&q.2.guard.isNone&&okX conf p.2.op q.2.op
  | .e,.e | .e,.s | .s,.e | .s,.s=>true
  | _,_=>false
theorem seg_keep {st s:St}{id:Nat}(h:s id=st id)(o sz:Nat):s.seg id o sz=st.seg id o sz:=by
 unfold St.seg
 rw[h]
theorem slArr_keep {st s:St}(h: ∀id cs,st id=some (.ro cs)→s id=some (.ro cs)){env:Env}{n sz:Nat}{lo hi:Option X}{x v:V}(hv:slArrV st env false n sz lo hi x=some v):slArrV s env false n sz lo hi x=some v:=by
 unfold slArrV at hv⊢
 split at hv
 ·cases hv
 ·rename_i b l u hb
  simp only[Bool.false_eq_true,if_false]at hv⊢
  split at hv
  ·rename_i id o
   split at hv
   ·rename_i cs hc
    simp only[h _ _ hc]
    exact hv
   ·cases hv
  ·exact hv
  ·cases hv
theorem okX_keeps {P:Program}{conf:List (Nat×Nat)}{p q:POp}(hx:okX conf p q=true){env:Env}(hc:Conf conf env){st:St}{K:V→St→Prop}{u:V}(hu:opV p env st=some u)(h:stepP P q env st K):
  stepP P q env st fun v s=>K v s∧opV p env s=some u:=by
 have key: ∀{R:St→Prop},(∀s,(∀id ob,st id=some ob→s id=some ob)→R s)→∀id ob,st id=none→R (st.upd id ob):=fun hR id ob hid=>hR _ fun j o hj=>by
  have:j≠id:=fun e=>by rw[e,hid]at hj;cases hj
  simp[St.upd,this,hj]
 have grows: ∀s:St,(∀id ob,st id=some ob→s id=some ob)→opV p env s=some u:=fun s hs=>opV_sub hs hu
 have ro: ∀s:St,(∀id cs,st id=some (.ro cs)→s id=some (.ro cs))→(∃al n sz x lo hi,p=.slArr al n sz x lo hi∧al=false)→opV p env s=some u:=by
  rintro s hs ⟨al,n,sz,x,lo,hi,rfl,rfl⟩
  exact slArr_keep hs hu
 cases q<;>try (cases p<;>simp[okX]at hx;done)
 case mksl ob sz b z l c=>
  cases ob with
  | false=>cases p<;>simp[okX]at hx
  | true=>
    simp only[stepP]at h⊢
    split at h<;>try exact h
    refine⟨h.1,h.2.1,h.2.2.1,?_⟩
    have h4:=h.2.2.2
    simp only[if_true]at h4⊢
    exact fun id hid=>⟨h4 id hid,key grows _ _ hid⟩
 case appf sz b x y=>
  simp only[stepP]at h⊢
  split at h
  ·exact h
  ·split at h
   ·exact⟨h.1,h.2.1,h.2.2.1,fun e=>⟨h.2.2.2.1 e,hu⟩,fun e id hid=>⟨h.2.2.2.2 e id hid,key grows _ _ hid⟩⟩
   ·exact h
 case appn sz b x y=>
  simp only[stepP]at h⊢
  split at h
  ·exact h
  ·split at h
   ·exact⟨h.1,h.2.1,h.2.2.1,fun e=>⟨h.2.2.2.1 e,hu⟩,fun e=>⟨h.2.2.2.2 e,hu⟩⟩
   ·exact h
 case app sz b x y=>
  have hp: ∃al n sz x lo hi,p=.slArr al n sz x lo hi∧al=false:=by
   cases p<;>simp[okX]at hx
   rename_i al n sz x lo hi
   cases al
   ·exact⟨_,_,_,_,_,_,rfl,rfl⟩
   ·simp at hx
  simp only[stepP]at h⊢
  split at h
  ·exact h
  ·split at h
   ·exact⟨h.1,h.2.1,h.2.2.1,fun e=>⟨h.2.2.2.1 e,hu⟩,fun e id hid=>⟨h.2.2.2.2 e id hid,key grows _ _ hid⟩⟩
   ·split at h
    ·rename_i id off sz' n _ _ cs hid
     refine⟨h.1,h.2.1,?_⟩
     have h3:=h.2.2
     split at h3
     ·rename_i hle
      rw[if_pos hle]
      refine⟨h3,ro _ (fun j c hj=>?_) hp⟩
      have:j≠id:=fun e=>by rw[e,hid]at hj;cases hj
      simp[St.upd,this,hj]
     ·rename_i hle
      rw[if_neg hle]
      refine⟨h3.1,h3.2.1,fun id' hid'=>⟨h3.2.2 id' hid',ro _ (fun j c hj=>?_) hp⟩⟩
      have h1:j≠id:=fun e=>by rw[e,hid]at hj;cases hj
      have h2:j≠id':=fun e=>by
       rw[←e]at hid'
       simp[St.del,h1,hj]at hid'
      simp[St.upd,St.del,h1,h2,hj]
    ·exact h
   ·exact h
 case store sz x y=>
  have h':(match storeS st sz (x.ev env) (y.ev env)with | some st'=>K .junk st' | none=>False):=h
  show(match storeS st sz (x.ev env) (y.ev env)with | some st'=>K .junk st'∧opV p env st'=some u | none=>False)
  cases hst:storeS st sz (x.ev env) (y.ev env)with
  | none=>rw[hst]at h';exact h'.elim
  | some st'=>
    rw[hst]at h'
    refine⟨h',?_⟩
    unfold storeS at hst
    split at hst<;>try (cases hst;done)
    rename_i _ id o hxe
    split at hst<;>try (cases hst;done)
    rename_i cs hid
    split at hst<;>try (cases hst;done)
    rename_i vs hvs
    split at hst<;>cases hst
    have other: ∀j,j≠id→(st.upd id (.cells (spliceV cs o vs))) j=st j:=fun j hj=>by simp[St.upd,hj]
    cases p<;>try (simp[okX]at hx;done)
    case slArr al n sz' x' lo hi=>
     cases al
     ·refine ro _ (fun j c hj=>?_) ⟨_,_,_,_,_,_,rfl,rfl⟩
      rw[other j (fun e=>by rw[e,hid]at hj;cases hj),hj]
     ·simp[okX]at hx
    case load ag sz' x'=>
     cases x' with
     | k v=>simp[okX]at hx
     | t a=>
       cases x with
       | k v=>simp[okX]at hx
       | t b=>
         simp only[okX,List.contains_iff_mem]at hx
         have hap:=hc _ hx
         simp only at hap
         have hb:env b=.ptr (some (id,o)):=hxe
         rw[hb]at hap
         unfold apartV at hap
         split at hap
         ·rename_i i1 o1 i2 o2 ha hb'
          cases hb'
          have hseg:=seg_keep (other i1 hap) o1 sz'
          simp only[opV,X.ev,ha,ldCells,hseg]at hu⊢
          exact hu
         ·exact hap.elim
theorem move_still {P:Program}{conf:List (Nat×Nat)}{ci:Cls}{i:PO}(hci:ci=.e∨ci=.s){l2:List (Cls×PO)}{K:Env→St→Prop}: ∀(l1:List (Cls×PO)) (env:Env) (st:St),(∀p∈l1,okPair conf p (ci,i)=true)→
  runD P (l1++(ci,i)::l2) env st K→runD P ((ci,i)::(l1++l2)) env st K
 | [],env,st,_,h=>h
 | (cj,j)::l1,env,st,hok,h=>by
   have hp:=hok (cj,j) (by simp)
   simp only[okPair,Bool.and_eq_true]at hp
   obtain⟨hap,hp⟩:=hp
   have hcj:cj=.e∨cj=.s:=by rcases hci with rfl | rfl<;>cases cj<;>simp at hp⊢
   obtain⟨a1,a2,a3⟩:=PO.apart_spec hap
   rw[List.cons_append,runD_cons,stepG_still hcj]at h
   obtain⟨vj,h1,h2⟩:=h
   have ih:=move_still hci l1 _ st (fun p hp=>hok p (by simp[hp])) h2
   rw[runD_cons,stepG_still hci]at ih
   obtain⟨vi,h3,h4⟩:=ih
   rw[stillG_put a1]at h3
   rw[runD_cons,stepG_still hci]
   refine⟨vi,h3,?_⟩
   rw[List.cons_append,runD_cons,stepG_still hcj]
   refine⟨vj,?_,?_⟩
   ·rw[stillG_put a3]
    exact h1
   ·rw[←put_comm a2]
    exact h4
theorem conf_put {conf:List (Nat×Nat)}{env:Env}(h:Conf conf env){d:Option Nat}(hd: ∀x,d=some x→∀r∈conf,x≠r.1∧x≠r.2)(v:V):Conf conf (env.put d v):=fun r hr=>by
 have:=h r hr
 cases d with
 | none=>exact this
 | some x=>
   obtain⟨h1,h2⟩:=hd x rfl r hr
   simp only[Env.put,Env.upd]
   rw[if_neg (fun e=>h1 e.symm),if_neg (fun e=>h2 e.symm)]
   exact this
theorem move_step {P:Program}{conf:List (Nat×Nat)}{i:PO}{l2:List (Cls×PO)}{K:Env→St→Prop}: ∀(l1:List (Cls×PO)) (env:Env) (st:St),Conf conf env→(∀p∈l1,∀d,p.2.dst=some d→∀r∈conf,d≠r.1∧d≠r.2)→(∀p∈l1,okPair conf p (.x,i)=true)→
  runD P (l1++(.x,i)::l2) env st K→runD P ((.x,i)::(l1++l2)) env st K
 | [],env,st,_,_,_,h=>h
 | (cj,j)::l1,env,st,hconf,hun,hok,h=>by
   have hp:=hok (cj,j) (by simp)
   simp only[okPair,Bool.and_eq_true]at hp
   obtain⟨hap,hp⟩:=hp
   obtain⟨a1,a2,a3⟩:=PO.apart_spec hap
   have hcj:cj=.e∨cj=.s:=by cases cj<;>simp at hp⊢
   rw[List.cons_append,runD_cons,stepG_still hcj]at h
   obtain⟨vj,h1,h2⟩:=h
   have ih:=move_step l1 _ st (conf_put hconf (hun (cj,j) (by simp)) vj) (fun p hp=>hun p (by simp[hp])) (fun p hp=>hok p (by simp[hp])) h2
   rw[runD_cons,stepG_put a1]at ih
   rw[runD_cons]
   rcases hcj with rfl | rfl
   ·have hpu:j.op.pure=true:=hp
    refine stepG_mono (fun v s h3=>?_) ih
    rw[List.cons_append,runD_cons,stepG_still (.inl rfl)]
    refine⟨vj,?_,?_⟩
    ·rw[stillG_put a3,stillG_pure hpu (st:=s) (st':=st)]
     exact h1
    ·rw[←put_comm a2]
     exact h3
   ·simp only[Bool.and_eq_true,Option.isNone_iff_eq_none]at hp
    obtain⟨⟨g1,g2⟩,hx⟩:=hp
    have hop:opV j.op env st=some vj:=by
     unfold stillG guardP at h1
     rw[g1]at h1
     simp only at h1
     obtain⟨dst,op,g⟩:=j
     cases op<;>try (cases hi:i.op<;>simp[okX,hi]at hx;done)
     all_goals
      simp only[stillP]at h1⊢
      split at h1
      ·rename_i v hv
       rw[hv,h1]
      ·exact h1.elim
    have ih':stepP P i.op env st fun v s=>runD P (l1++l2) ((env.put j.dst vj).put i.dst v) s K:=by
     unfold stepG guardP at ih
     rw[g2]at ih
     exact ih
    have ih2:=okX_keeps hx hconf hop ih'
    show guardP i.guard env (stepP P i.op env st _) _
    unfold guardP
    rw[g2]
    refine stepP_mono _ (fun v s h3=>?_) ih2
    rw[List.cons_append,runD_cons,stepG_still (.inr rfl)]
    refine⟨vj,?_,?_⟩
    ·rw[stillG_put a3]
     unfold stillG guardP
     rw[g1]
     simp only
     have h4:=h3.2
     obtain⟨dst,op,g⟩:=j
     cases op<;>try (cases hi:i.op<;>simp[okX,hi]at hx;done)
     all_goals
      simp only[stillP]at h4⊢
      rw[h4]
    ·rw[←put_comm a2]
     exact h3.1
theorem stepG_putC {P:Program}{c:Cls}{o:PO}{env:Env}{st:St}{K:V→St→Prop}{d:Option Nat}{u:V}(h: ∀x,d=some x→x∉o.reads):stepG P c o (env.put d u) st K=stepG P c o env st K:=by
 unfold stepG stepC
 rw[put_guard h]
 cases c<;>simp only[stepP_alike o.op (put_alike h),stillP_alike o.op (put_alike h)]
theorem allocs_spec {P:Program}{i:PO}(h:i.allocs=true): ∃(ob:AObj) (mk:Nat→V),∀(env:Env) (st:St) (K:V→St→Prop),stepG P .a i env st K↔∀id,st id=none→K (mk id) (st.upd id ob):=by
 obtain⟨dst,op,g⟩:=i
 simp only[PO.allocs,Bool.and_eq_true,Option.isNone_iff_eq_none]at h
 obtain⟨rfl,h⟩:=h
 cases op<;>first | (cases h;done) | skip
 ·exact⟨.mp [],fun id=>.map (some id),fun env st K=>Iff.rfl⟩
 ·rename_i z
  exact⟨.cells z,fun id=>.ptr (some (id,0)),fun env st K=>Iff.rfl⟩
theorem move_alloc {P:Program}{conf:List (Nat×Nat)}{i:PO}(hi:i.allocs=true){l2:List (Cls×PO)}{K:Env→St→Prop}: ∀(l1:List (Cls×PO)) (env:Env) (st:St),(∀p∈l1,okPair conf p (.a,i)=true)→
  runD P (l1++(.a,i)::l2) env st K→runD P ((.a,i)::(l1++l2)) env st K
 | [],env,st,_,h=>h
 | (cj,j)::l1,env,st,hok,h=>by
   have hp:=hok (cj,j) (by simp)
   simp only[okPair,Bool.and_eq_true]at hp
   obtain⟨a1,a2,a3⟩:=PO.apart_spec hp.1
   obtain⟨ob,mk,hal⟩:=allocs_spec (P:=P) hi
   rw[List.cons_append,runD_cons]at h
   rw[runD_cons,hal]
   intro id hid
   have hd:Disj st (fun k=>if k=id then some ob else none):=fun k=>by
    by_cases e:k=id
    ·exact .inl (e ▸hid)
    ·exact .inr (by simp[e])
   have hadd: ∀s:St,s id=none→s.add (fun k=>if k=id then some ob else none)=s.upd id ob:=fun s hs=>by
    funext k
    by_cases e:k=id
    ·subst e
     simp[St.add,St.upd,hs]
    ·simp only[St.add,St.upd,e,if_false]
     cases s k<;>rfl
   have h1:=stepG_frame hd h
   rw[hadd st hid]at h1
   rw[List.cons_append,runD_cons,stepG_putC a3]
   refine stepG_mono (fun v s hk=>?_) h1
   obtain⟨s',hd',rfl,hk⟩:=hk
   have hs':s' id=none:=(hd' id).resolve_right (by simp)
   have ih:=move_alloc hi l1 _ s' (fun p hp=>hok p (by simp[hp])) hk
   rw[runD_cons,hal]at ih
   have:=ih id hs'
   rw[hadd s' hs',←put_comm a2]
   exact this
theorem move {P:Program}{conf:List (Nat×Nat)}{q:Cls×PO}{l1 l2:List (Cls×PO)}{K:Env→St→Prop}{env:Env}{st:St}(hconf:Conf conf env)(hun: ∀p∈l1,∀d,p.2.dst=some d→∀r∈conf,d≠r.1∧d≠r.2)(hok: ∀p∈l1,okPair conf p q=true)(h:runD P (l1++q::l2) env st K):runD P (q::(l1++l2)) env st K:=by
 obtain⟨c,o⟩:=q
 cases c with
 | x=>exact move_step l1 env st hconf hun hok h
 | e=>exact move_still (.inl rfl) l1 env st hok h
 | s=>exact move_still (.inr rfl) l1 env st hok h
 | a=>
   cases l1 with
   | nil=>exact h
   | cons p l1=>
     have:=hok p (by simp)
     simp only[okPair,Bool.and_eq_true]at this
     exact move_alloc this.2 _ env st hok h
theorem Same.trans {W:List Nat}{a b c:Env}(h:Same W a b)(k:Same W b c):Same W a c:=fun t ht=>(k t ht).trans (h t ht)
theorem Same.mono {W W':List Nat}{a b:Env}(hw: ∀t∈W,t∈W')(h:Same W a b):Same W' a b:=fun t ht=>h t fun e=>ht (hw t e)
theorem Same.put (env:Env)(d:Option Nat)(v:V):Same d.toList env (env.put d v):=fun t ht=>by
 cases d with
 | none=>rfl
 | some x=>
   have:t≠x:=by simpa using ht
   simp[Env.put,Env.upd,this]
theorem runP_frame {P:Program}{K K':Env→St→Prop}: ∀(l:List PO) (env:Env) (st:St),(∀env' st',Same (l.flatMap (·.dst.toList)) env env'→K env' st'→K' env' st')→runP P l env st K→runP P l env st K'
 | [],env,st,hk,h=>hk _ _ (Same.refl _ _) h
 | o::l,env,st,hk,h=>by
   have next: ∀v st',runP P l (env.put o.dst v) st' K→runP P l (env.put o.dst v) st' K':=fun v st' h=>
    runP_frame l _ st' (fun env' st' hs hk'=>hk _ _ (((Same.put env o.dst v).mono (by intro t ht;simp only[List.flatMap_cons,List.mem_append];exact .inl ht)).trans (hs.mono (by intro t ht;simp only[List.flatMap_cons,List.mem_append];exact .inr ht))) hk') h
   exact guardP_mono (stepP_mono _ next) (next _ _) h
theorem runD_frame {P:Program}{K K':Env→St→Prop}: ∀(l:List (Cls×PO)) (env:Env) (st:St),(∀env' st',Same (l.flatMap (·.2.dst.toList)) env env'→K env' st'→K' env' st')→runD P l env st K→runD P l env st K'
 | [],env,st,hk,h=>hk _ _ (Same.refl _ _) h
 | (c,o)::l,env,st,hk,h=>by
   have next: ∀v st',runD P l (env.put o.dst v) st' K→runD P l (env.put o.dst v) st' K':=fun v st' h=>
    runD_frame l _ st' (fun env' st' hs hk'=>hk _ _ (((Same.put env o.dst v).mono (by intro t ht;simp only[List.flatMap_cons,List.mem_append];exact .inl ht)).trans (hs.mono (by intro t ht;simp only[List.flatMap_cons,List.mem_append];exact .inr ht))) hk') h
   rw[runD_cons]at h⊢
   exact stepG_mono next h
theorem frzP_frame {K K':Env→St→Prop}: ∀(l:List Nat) (env:Env) (st:St),(∀env' st',Same l env env'→K env' st'→K' env' st')→frzP l env st K→frzP l env st K'
 | [],env,st,hk,h=>hk _ _ (Same.refl _ _) h
 | t::l,env,st,hk,h=>by
   simp only[frzP]at h⊢
   split at h<;>try exact h
   rename_i v s hv
   exact frzP_frame l _ s (fun env' st' hs hk'=>hk _ _ (((Same.put env (some t) v).mono (by intro t ht;simpa using Or.inl (by simpa using ht))).trans (hs.mono (by intro t ht;simp[ht]))) hk') h
theorem vc_frame {P:Program}: ∀(c:PC) (Q Q':Ex→Env→St→Prop) (env:Env) (st:St),(∀e env' st',Same c.writes env env'→Q e env' st'→Q' e env' st')→vc P c Q env st→vc P c Q' env st:=by
 intro c
 induction c with
 | skip=>exact fun Q Q' env st hq h=>hq _ _ _ (Same.refl _ _) h
 | exit id=>exact fun Q Q' env st hq h=>hq _ _ _ (Same.refl _ _) h
 | ret=>exact fun Q Q' env st hq h=>hq _ _ _ (Same.refl _ _) h
 | ops l=>exact fun Q Q' env st hq h=>runP_frame l env st (fun env' st' hs=>hq _ _ _ hs) h
 | draw l=>exact fun Q Q' env st hq h=>runD_frame l env st (fun env' st' hs=>hq _ _ _ hs) h
 | draw2 conf l=>exact fun Q Q' env st hq h=>⟨h.1,runD_frame l env st (fun env' st' hs=>hq _ _ _ hs) h.2⟩
 | draw3 pre x y post=>
   intro Q Q' env st hq h
   have w1: ∀t∈pre.flatMap (·.2.dst.toList),t∈(PC.draw3 pre x y post).writes:=fun t ht=>by
    simp only[PC.writes,List.flatMap_append,List.mem_append];exact .inl ht
   have w2: ∀t∈(x::y::post).flatMap (·.2.dst.toList),t∈(PC.draw3 pre x y post).writes:=fun t ht=>by
    simp only[PC.writes,List.flatMap_append,List.mem_append];exact .inr ht
   have w3: ∀t∈(y::x::post).flatMap (·.2.dst.toList),t∈(PC.draw3 pre x y post).writes:=fun t ht=>w2 t (by
    simp only[List.flatMap_cons,List.mem_append]at ht⊢
    rcases ht with h | h | h
    ·exact .inr (.inl h)
    ·exact .inl h
    ·exact .inr (.inr h))
   exact runD_frame pre env st (fun e1 s1 hs1 h1=>
    ⟨runD_frame (x::y::post) e1 s1 (fun env' st' hs=>hq _ _ _ ((hs1.mono w1).trans (hs.mono w2))) h1.1,
     runD_frame (y::x::post) e1 s1 (fun env' st' hs=>hq _ _ _ ((hs1.mono w1).trans (hs.mono w3))) h1.2⟩) h
 | frz l=>exact fun Q Q' env st hq h=>frzP_frame l env st (fun env' st' hs=>hq _ _ _ hs) h
 | seq a b iha ihb=>
   intro Q Q' env st hq h
   refine iha _ _ env st (fun e env' st' hs h'=>?_) h
   cases e with
   | normal=>exact ihb _ _ env' st' (fun e env'' st'' hs' h''=>hq _ _ _ ((hs.mono (by intro t ht;simp[PC.writes,ht])).trans (hs'.mono (by intro t ht;simp[PC.writes,ht]))) h'') h'
   | exit id=>exact hq _ _ _ (hs.mono (by intro t ht;simp[PC.writes,ht])) h'
   | ret=>exact hq _ _ _ (hs.mono (by intro t ht;simp[PC.writes,ht])) h'
 | cond c a b iha ihb=>
   intro Q Q' env st hq h
   simp only[vc]at h⊢
   split at h<;>try exact h
   split at h
   ·rename_i ht
    rw[if_pos ht]
    exact iha _ _ env st (fun e env' st' hs h'=>hq _ _ _ (hs.mono (by intro t ht;simp[PC.writes,ht])) h') h
   ·rename_i ht
    rw[if_neg ht]
    exact ihb _ _ env st (fun e env' st' hs h'=>hq _ _ _ (hs.mono (by intro t ht;simp[PC.writes,ht])) h') h
 | block id c ih=>
   intro Q Q' env st hq h
   refine ih _ _ env st (fun e env' st' hs h'=>?_) h
   cases e with
   | exit j=>
     simp only at h'⊢
     split at h'
     ·rename_i he
      rw[if_pos he]
      exact hq _ _ _ hs h'
     ·rename_i he
      rw[if_neg he]
      exact hq _ _ _ hs h'
   | normal=>exact hq _ _ _ hs h'
   | ret=>exact hq _ _ _ hs h'
 | loop c ih=>
   intro Q Q' env st hq h
   obtain⟨I,μ,h0,hr⟩:=h
   refine⟨I,μ,h0,fun env' st' hs hI=>?_⟩
   refine ih _ _ env' st' (fun e env'' st'' hs' h'=>?_) (hr env' st' hs hI)
   cases e with
   | normal=>exact h'
   | exit id=>exact hq _ _ _ (hs.trans hs') h'
   | ret=>exact hq _ _ _ (hs.trans hs') h'
theorem runP_beside {P:Program}{fr:St}{K:Env→St→Prop}: ∀(l:List PO) (env:Env) (st:St),Disj st fr→runP P l env st K→runP P l env (st.add fr) (Beside fr K)
 | [],env,st,hd,h=>⟨st,hd,rfl,h⟩
 | o::l,env,st,hd,h=>by
   have next: ∀v s,Beside fr (fun v st'=>runP P l (env.put o.dst v) st' K) v s→runP P l (env.put o.dst v) s (Beside fr K):=by
    rintro v s ⟨s',h1,rfl,h3⟩
    exact runP_beside l _ s' h1 h3
   exact guardP_mono (fun h=>stepP_mono _ next (stepP_frame hd o.op h)) (fun h=>next _ _ ⟨st,hd,rfl,h⟩) h
theorem runD_beside {P:Program}{fr:St}{K:Env→St→Prop}: ∀(l:List (Cls×PO)) (env:Env) (st:St),Disj st fr→runD P l env st K→runD P l env (st.add fr) (Beside fr K)
 | [],env,st,hd,h=>⟨st,hd,rfl,h⟩
 | (c,o)::l,env,st,hd,h=>by
   rw[runD_cons]at h⊢
   refine stepG_mono ?_ (stepG_frame hd h)
   rintro v s ⟨s',h1,rfl,h3⟩
   exact runD_beside l _ s' h1 h3
theorem frzOb_beside {fr st s:St}(hd:Disj st fr){id:Nat}(h:frzOb st id=some s):Disj s fr∧frzOb (st.add fr) id=some (s.add fr):=by
 unfold frzOb at h
 split at h<;>cases h
 ·rename_i cs hid
  refine⟨hd.upd (hd.some hid) _,?_⟩
  simp only[frzOb,add_some hid,upd_add]
 ·rename_i cs hid
  refine⟨hd,?_⟩
  simp only[frzOb,add_some hid]
theorem frzH_beside {fr st s:St}(hd:Disj st fr){v u:V}(h:frzH st v=some (u,s)):Disj s fr∧frzH (st.add fr) v=some (u,s.add fr):=by
 have triv:some (v,st)=some (u,s)→Disj s fr∧some (v,st.add fr)=some (u,s.add fr):=fun h=>by cases h;exact⟨hd,rfl⟩
 cases v with
 | hsl id off sz n=>
   simp only[frzH]at h⊢
   obtain⟨s',h1,h2⟩:=Option.bind_eq_some_iff.1 h
   obtain⟨c,h3,h4⟩:=Option.map_eq_some_iff.1 h2
   cases h4
   obtain⟨g1,g2⟩:=frzOb_beside hd h1
   refine⟨g1,?_⟩
   rw[g2]
   simp only[Option.bind_some]
   rw[seg_sub (sub_add _ fr) h3]
   rfl
 | _=>exact triv h
theorem frzL_beside {fr:St}: ∀(cs:List V) {st s:St} {cs':List V},Disj st fr→frzL st cs=some (cs',s)→Disj s fr∧frzL (st.add fr) cs=some (cs',s.add fr)
 | [],st,s,cs',hd,h=>by cases h;exact⟨hd,rfl⟩
 | v::cs,st,s,cs',hd,h=>by
   simp only[frzL]at h⊢
   obtain⟨p,h1,h2⟩:=Option.bind_eq_some_iff.1 h
   obtain⟨q,h3,h4⟩:=Option.map_eq_some_iff.1 h2
   cases h4
   obtain⟨g1,g2⟩:=frzH_beside hd (u:=p.1) (s:=p.2) h1
   obtain⟨k1,k2⟩:=frzL_beside cs g1 (cs':=q.1) (s:=q.2) h3
   refine⟨k1,?_⟩
   rw[g2]
   simp only[Option.bind_some]
   rw[k2]
   rfl
theorem frzV_beside {fr st s:St}(hd:Disj st fr){v u:V}(h:frzV st v=some (u,s)):Disj s fr∧frzV (st.add fr) v=some (u,s.add fr):=by
 have triv:some (v,st)=some (u,s)→Disj s fr∧some (v,st.add fr)=some (u,s.add fr):=fun h=>by cases h;exact⟨hd,rfl⟩
 cases v with
 | eptr cs=>
   simp only[frzV]at h⊢
   obtain⟨q,h1,h2⟩:=Option.map_eq_some_iff.1 h
   cases h2
   obtain⟨g1,g2⟩:=frzL_beside cs hd (cs':=q.1) (s:=q.2) h1
   exact⟨g1,by rw[g2];rfl⟩
 | ptr p=>
   cases p with
   | none=>exact triv h
   | some q=>
     obtain⟨id,o⟩:=q
     simp only[frzV]at h⊢
     obtain⟨s',h1,h2⟩:=Option.bind_eq_some_iff.1 h
     split at h2<;>cases h2
     rename_i cs hid
     obtain⟨g1,g2⟩:=frzOb_beside hd h1
     refine⟨g1,?_⟩
     rw[g2]
     simp only[Option.bind_some,add_some hid]
 | hsl id off sz n=>
   simp only[frzV]at h⊢
   obtain⟨s',h1,h2⟩:=Option.bind_eq_some_iff.1 h
   obtain⟨c,h3,h4⟩:=Option.map_eq_some_iff.1 h2
   cases h4
   obtain⟨g1,g2⟩:=frzOb_beside hd h1
   refine⟨g1,?_⟩
   rw[g2]
   simp only[Option.bind_some]
   rw[seg_sub (sub_add _ fr) h3]
   rfl
 | map mo=>
   cases mo with
   | none=>exact triv h
   | some id=>
     simp only[frzV]at h⊢
     cases hid:st id with
     | none=>rw[hid]at h;cases h
     | some ob=>
       rw[hid]at h
       rw[add_some hid]
       cases ob<;>(cases h;first | exact⟨hd,rfl⟩ | exact⟨hd.upd (hd.some hid) _,by rw[upd_add]⟩)
 | _=>exact triv h
theorem frzP_beside {fr:St}{K:Env→St→Prop}: ∀(l:List Nat) (env:Env) (st:St),Disj st fr→frzP l env st K→frzP l env (st.add fr) (Beside fr K)
 | [],env,st,hd,h=>⟨st,hd,rfl,h⟩
 | t::l,env,st,hd,h=>by
   simp only[frzP]at h⊢
   cases hx:frzV st (env t)with
   | none=>rw[hx]at h;exact h.elim
   | some q=>
     obtain⟨v,s⟩:=q
     rw[hx]at h
     obtain⟨g1,g2⟩:=frzV_beside hd hx
     rw[g2]
     exact frzP_beside l _ s g1 h
theorem vc_beside {P:Program}{fr:St}: ∀(c:PC) (Q:Ex→Env→St→Prop) (env:Env) (st:St),Disj st fr→vc P c Q env st→vc P c (fun e=>Beside fr (Q e)) env (st.add fr):=by
 intro c
 induction c with
 | skip=>exact fun Q env st hd h=>⟨st,hd,rfl,h⟩
 | exit id=>exact fun Q env st hd h=>⟨st,hd,rfl,h⟩
 | ret=>exact fun Q env st hd h=>⟨st,hd,rfl,h⟩
 | ops l=>exact fun Q env st hd h=>runP_beside l env st hd h
 | draw l=>exact fun Q env st hd h=>runD_beside l env st hd h
 | draw2 conf l=>exact fun Q env st hd h=>⟨h.1,runD_beside l env st hd h.2⟩
 | draw3 pre x y post=>
   intro Q env st hd h
   refine runD_frame pre env _ (fun e1 s1 _ h1=>?_) (runD_beside pre env st hd h)
   obtain⟨s,k1,rfl,k3⟩:=h1
   exact⟨runD_beside _ e1 s k1 k3.1,runD_beside _ e1 s k1 k3.2⟩
 | frz l=>exact fun Q env st hd h=>frzP_beside l env st hd h
 | seq a b iha ihb=>
   intro Q env st hd h
   refine vc_frame a _ _ env _ (fun e env' s _ h'=>?_) (iha _ env st hd h)
   obtain⟨s',h1,rfl,h3⟩:=h'
   cases e with
   | normal=>exact ihb _ env' s' h1 h3
   | exit id=>exact⟨s',h1,rfl,h3⟩
   | ret=>exact⟨s',h1,rfl,h3⟩
 | cond c a b iha ihb=>
   intro Q env st hd h
   simp only[vc]at h⊢
   split at h<;>try exact h
   split at h
   ·rename_i ht
    rw[if_pos ht]
    exact iha _ env st hd h
   ·rename_i ht
    rw[if_neg ht]
    exact ihb _ env st hd h
 | block id c ih=>
   intro Q env st hd h
   refine vc_frame c _ _ env _ (fun e env' s _ h'=>?_) (ih _ env st hd h)
   obtain⟨s',h1,rfl,h3⟩:=h'
   cases e with
   | exit j=>
     simp only at h3⊢
     split at h3
     ·rename_i he
      rw[if_pos he]
      exact⟨s',h1,rfl,h3⟩
     ·rename_i he
      rw[if_neg he]
      exact⟨s',h1,rfl,h3⟩
   | normal=>exact⟨s',h1,rfl,h3⟩
   | ret=>exact⟨s',h1,rfl,h3⟩
 | loop c ih=>
   intro Q env st hd h
   obtain⟨I,μ,h0,hr⟩:=h
   have back: ∀s':St,Disj s' fr→(fun i=>if(fr i).isSome=true then none else(s'.add fr) i)=s':=fun s' hd'=>by
    funext i
    rcases hd' i with e | e
    ·rw[e]
     split
     ·rfl
     ·rename_i hn
      simp only[St.add,e]
      cases hf:fr i with
      | none=>rfl
      | some o=>rw[hf]at hn;simp at hn
    ·rw[e]
     simp only[Option.isSome_none,Bool.false_eq_true,if_false,St.add]
     cases hs:s' i with
     | none=>exact e
     | some o=>rfl
   refine⟨Beside fr I,fun env s=>μ env (fun i=>if(fr i).isSome=true then none else s i),⟨st,hd,rfl,h0⟩,?_⟩
   rintro env' s hs ⟨s',h1,rfl,h3⟩
   refine vc_frame c _ _ env' _ (fun e env'' s2 _ h'=>?_) (ih _ env' s' h1 (hr env' s' hs h3))
   obtain⟨s2',k1,rfl,k3⟩:=h'
   cases e with
   | normal=>
     obtain⟨s3,k4,k5,k6⟩:=k3
     refine⟨s3.add fr,sub_add_sub k4 k1,⟨s3,k1.sub k4,rfl,k5⟩,?_⟩
     show μ env'' (fun i=>if(fr i).isSome=true then none else(s3.add fr) i)<μ env' (fun i=>if(fr i).isSome=true then none else(s'.add fr) i)
     rw[back _ h1,back _ (k1.sub k4)]
     exact k6
   | exit id=>exact⟨s2',k1,rfl,k3⟩
   | ret=>exact⟨s2',k1,rfl,k3⟩
abbrev Fn:=Nat→FuncId
def edges (ops:Array Oper)(i:Nat):List Nat:=match ops[i]? with | some o=>(o.after.toList.filter (Region.binds .any ·)).map (·.on) | none=>[]
def before (ops:Array Oper):Nat→Nat→Nat→Bool
 | 0,_,_=>false
 | k+1,i,j=>(edges ops i).any fun m=>m==j||before ops k m j
abbrev DI:=Nat×Cls×PO
def clsOf (calls:Cls)(o:POp):Cls:=if o.pure then .e else match o with | .toStr _ | .load .. | .slArr .. | .slw .. | .lenMap _ | .lookup .. | .entry _=>.s | .call .. | .callv .. =>calls | .alloc _ | .mkmap=>.a | _=>.x
def clsD (an:An)(calls:Cls)(p:PO):Cls:=match p.op with
 | .call .. | .callv .. =>if p.dst.any (an.wide.contains ·)then .s else clsOf calls p.op
 | _=>clsOf calls p.op
def orderD (ops:Array Oper)(cls:Nat→Cls):Nat→List Nat→List Nat
 | 0,_=>[]
 | k+1,rem=>
   let rs:=rem.filter fun i=>(edges ops i).all fun m=>!rem.contains m
   match rs.find? (fun i=>cls i==.e),rs.find? (fun i=>cls i != .a),rs with
   | some i,_,_=>i::orderD ops cls k (rem.erase i)
   | none,some i,_=>i::orderD ops cls k (rem.erase i)
   | none,none,i::_=>i::orderD ops cls k (rem.erase i)
   | none,none,[]=>[]
def orderE (ops:Array Oper)(cls:Nat→Cls):Nat→List Nat→List Nat
 | 0,_=>[]
 | k+1,rem=>
   let rs:=rem.filter fun i=>(edges ops i).all fun m=>!rem.contains m
   match rs.find? (fun i=>cls i==.e),rs.find? (fun i=>cls i==.s),rs.find? (fun i=>cls i != .a),rs with
   | some i,_,_,_=>i::orderE ops cls k (rem.erase i)
   | none,some i,_,_=>i::orderE ops cls k (rem.erase i)
   | none,none,some i,_=>i::orderE ops cls k (rem.erase i)
   | none,none,none,i::_=>i::orderE ops cls k (rem.erase i)
   | none,none,none,[]=>[]
def pairX (ex:List (Nat×Nat))(conf:List (Nat×Nat))(ops:Array Oper)(p q:DI):Bool:=p.1 != q.1&&!(edges ops p.1).contains q.1&&(before ops ops.size q.1 p.1||okPair conf p.2 q.2||ex.contains (p.1,q.1))
abbrev pairD:=pairX []
def pairsX (ex:List (Nat×Nat))(conf:List (Nat×Nat))(ops:Array Oper):List DI→Bool
 | []=>true
 | p::l=>!(edges ops p.1).contains p.1&&(edges ops p.1).all (· <ops.size)&&l.all (pairX ex conf ops p)&&pairsX ex conf ops l
abbrev pairsD:=pairsX []
def confD (l:List DI):List (Nat×Nat):=
 let w:=l.flatMap fun q=>q.2.2.dst.toList
 let ld:=l.flatMap fun q=>match q.2.2.op with | .load _ _ (.t a)=>if w.contains a then[]else[a] | _=>[]
 let sr:=l.flatMap fun q=>match q.2.2.op with | .store _ (.t b) _=>if w.contains b then[]else[b] | _=>[]
 (ld.flatMap fun a=>(sr.filter (· != a)).map fun b=>(a,b)).eraseDups
def itemsD (P:Program)(n:Nat)(an:An)(calls:Cls)(ops:Array Oper):List Nat→Option (List DI)
 | []=>some []
 | i::l=>match ops[i]? with
   | some o=>match compPO P n an ops o,itemsD P n an calls ops l with
     | some p,some ps=>some ((i,clsD an calls p,p)::ps)
     | _,_=>none
   | none=>none
def tryD (P:Program)(n:Nat)(an:An)(calls:Cls)(ops:Array Oper):Option (List DI):=
 match compPOs P n an ops ops.toList with
 | some ps=>
   let cs:=ps.map fun p=>clsD an calls p
   match itemsD P n an calls ops (orderD ops (fun i=>cs.getD i .x) ops.size (List.range ops.size))with
   | some l=>if(List.range ops.size).all (fun i=>(l.map (·.1)).contains i)&&pairsD [] ops l&&decide (l.length≤ops.size)then some l else none
   | none=>none
 | none=>none
def tryE (P:Program)(n:Nat)(an:An)(calls:Cls)(ops:Array Oper):Option (List DI):=
 match compPOs P n an ops ops.toList with
 | some ps=>
   let cs:=ps.map fun p=>clsD an calls p
   match itemsD P n an calls ops (orderE ops (fun i=>cs.getD i .x) ops.size (List.range ops.size))with
   | some l=>if(List.range ops.size).all (fun i=>(l.map (·.1)).contains i)&&pairsD (confD l) ops l&&decide (l.length≤ops.size)then some l else none
   | none=>none
 | none=>none
def splitF (ops:Array Oper)(l:List DI):Option (List DI×DI×DI×List DI):=
 match l.find? (fun p=>l.any fun q=>(l.map (·.1)).idxOf p.1< (l.map (·.1)).idxOf q.1&&!pairD [] ops p q)with
 | none=>none
 | some x=>match l.find? (fun q=>(l.map (·.1)).idxOf x.1< (l.map (·.1)).idxOf q.1&&!pairD [] ops x q)with
   | none=>none
   | some y=>
     let late:=fun(q:DI)=>before ops ops.size q.1 x.1||before ops ops.size q.1 y.1
     some (l.filter fun q=>!late q&&q.1 != x.1&&q.1 != y.1,x,y,l.filter late)
def tryF (P:Program)(n:Nat)(an:An)(calls:Cls)(ops:Array Oper):Option (List DI×DI×DI×List DI):=
 match compPOs P n an ops ops.toList with
 | some ps=>
   let cs:=ps.map fun p=>clsD an calls p
   match itemsD P n an calls ops (orderE ops (fun i=>cs.getD i .x) ops.size (List.range ops.size))with
   | some l=>match splitF ops l with
     | some r=>
       if(List.range ops.size).all (fun i=>((r.1++r.2.1::r.2.2.1::r.2.2.2).map (·.1)).contains i)&&pairsX [(r.2.1.1,r.2.2.1.1)] [] ops (r.1++r.2.1::r.2.2.1::r.2.2.2)&&pairsX [(r.2.2.1.1,r.2.1.1)] [] ops (r.1++r.2.2.1::r.2.1::r.2.2.2)&&
        r.2.2.2.all (fun q=>before ops ops.size q.1 r.2.1.1||before ops ops.size q.1 r.2.2.1.1)&&decide ((r.1++r.2.1::r.2.2.1::r.2.2.2).length≤ops.size)then some r else none
     | none=>none
   | none=>none
 | none=>none
def compReg (P:Program)(n:Nat)(an:An)(ops:Array Oper)(draw:Bool):Option PC:=
 if draw then
  match tryD P n an .x ops with
  | some l=>some (.draw (l.map (·.2)))
  | none=>match tryD P n an .s ops with
    | some l=>some (.draw (l.map (·.2)))
    | none=>match tryE P n an .x ops with
      | some l=>some (.draw2 (confD l) (l.map (·.2)))
      | none=>match tryE P n an .s ops with
        | some l=>some (.draw2 (confD l) (l.map (·.2)))
        | none=>(tryF P n an .x ops).map fun r=>.draw3 (r.1.map (·.2)) r.2.1.2 r.2.2.1.2 (r.2.2.2.map (·.2))
 else(compPOs P n an ops ops.toList).map .ops
def compCode (P:Program)(n:Nat)(an:An):Code→Option PC
 | .skip=>some .skip
 | .label _=>some .skip
 | .region id ops draw=>
   match compReg P n an ops draw with
   | some b=>match an.frz.lookup id with
     | some l=>if l.all (· <n)then some (.seq (.frz l) b)else none
     | none=>some b
   | none=>none
 | .seq a b=>match compCode P n an a,compCode P n an b with
   | some x,some y=>some (.seq x y)
   | _,_=>none
 | .cond c a b=>match ofX n c,compCode P n an a,compCode P n an b with
   | some z,some x,some y=>some (.cond z x y)
   | _,_,_=>none
 | .block id c=>(compCode P n an c).map (.block id)
 | .loop c=>(compCode P n an c).map .loop
 | .scope c=>compCode P n an c
 | .exit id=>some (.exit id)
 | .ret=>some .ret
 | _=>none
def compRes (P:Program)(n:Nat):ResultVar→Option PR
 | .tmp t=>if t<n then some (.t t)else none
 | .cell t ty=>if t<n then(packOf P ty).map fun p=>.cell t p.1 p.2 else none
def compRess (P:Program)(n:Nat):List ResultVar→Option (List PR)
 | []=>some []
 | r::l=>match compRes P n r,compRess P n l with
   | some x,some xs=>some (x::xs)
   | _,_=>none
def compFn (P:Program)(an:An)(f:FuncId):Option PF:=
 match P.funcs[f]? with
 | some fn=>match fn.body with
   | some c=>match compCode P fn.ntmps an c,compRess P fn.ntmps fn.results.toList with
     | some pc,some rs=>some ⟨fn.ntmps,fn.params.size,rs,pc⟩
     | _,_=>none
   | none=>none
 | none=>none
section
variable {P:Program} {B:Nat} {w0:World} {n:Nat} {an:An} {ops:Array Oper}
def Stands (B:Nat)(w0:World)(G0:Gh)(n:Nat)(K:Env→St→Prop)(a:Act)(w:World):Prop:=
 ∃G env st,G0.le G∧EnvRel G n env a∧StRel B w0 G st w∧K env st
theorem guard_wanted {G:Gh}{env:Env}{a:Act}{o:Oper}{p:PO}(hc:compPO P n an ops o=some p)(he:EnvRel G n env a){yes no:Prop}(h:guardP p.guard env yes no):
  compOp P n an o=some p.op∧p.dst=o.dst∧(∀d,o.dst=some d→d<n)∧((Region.wanted o (yielded ops a.tmps)=true∧yes)∨(Region.wanted o (yielded ops a.tmps)=false∧no)):=by
 unfold compPO at hc
 obtain⟨q,h1,hc⟩:=bind_some hc
 split at hc<;>try (cases hc;done)
 rename_i hall
 have hd: ∀d,o.dst=some d→d<n:=fun d e=>by simpa[e]using hall
 split at hc
 ·rename_i hg
  cases hc
  exact⟨h1,rfl,hd,.inl ⟨by simp[Region.wanted,hg],h⟩⟩
 ·rename_i g b hg
  split at hc<;>try (cases hc;done)
  rename_i t ht
  split at hc<;>try (cases hc;done)
  rename_i htn
  cases hc
  refine⟨h1,rfl,hd,?_⟩
  simp only[guardP]at h
  split at h<;>try exact h.elim
  case h_2 vs hev=>
   have hr:=he.2.2 t htn
   rw[hev]at hr
   have hlt:t<a.tmps.size:=by rw[he.1];exact htn
   rw[Array.getD_eq_getD_getElem?,Array.getElem?_eq_getElem hlt]at hr
   simp only[Option.getD_some]at hr
   have hy:yielded ops a.tmps g=none:=by
    simp only[yielded,ht,Option.bind_some,Array.getElem?_eq_getElem hlt]
    generalize a.tmps[t]=z at hr
    cases hr
    rfl
   exact .inr ⟨by simp[Region.wanted,hg,hy],h⟩
  rename_i c hev
  have hr:=he.2.2 t htn
  rw[hev]at hr
  have hx:a.tmps[t]? =some (.bool c):=by
   have hlt:t<a.tmps.size:=by rw[he.1];exact htn
   rw[Array.getElem?_eq_getElem hlt]
   rw[Array.getD_eq_getD_getElem?,Array.getElem?_eq_getElem hlt]at hr
   simp only[Option.getD_some]at hr
   generalize a.tmps[t]=z at hr
   cases hr
   rfl
  have hy:yielded ops a.tmps g=some c:=by simp[yielded,ht,hx]
  simp only[Region.wanted,hg,hy]
  split at h
  ·rename_i e
   exact .inl ⟨by simp[e],h⟩
  ·rename_i e
   exact .inr ⟨by simpa using e,h⟩
theorem put_rel {G:Gh}{env:Env}{a:Act}(he:EnvRel G n env a){d:Option Nat}(hd: ∀x,d=some x→x<n){v:V}{x:Value}(hv:VRel G v x):EnvRel G n (env.put d v) (a.put d x):=by
 cases d with
 | none=>exact he
 | some d=>exact he.put (hd d rfl) hv
theorem stillP_step {o:POp}{env:Env}{st:St}{K:V→Prop}(h:stillP P o env st K):stepP P o env st fun v st'=>st'=st∧K v:=by
 have key: ∀(o:POp),pureP o=true→(match opV o env st with | some v=>K v | none=>False)→stepP P o env st fun v st'=>st'=st∧K v:=by
  intro o hp h
  have h':(match opV o env st with | some v=>(st=st∧K v) | none=>False):=by
   split at h
   ·rename_i v hv
    exact⟨rfl,h⟩
   ·exact h
  cases o<;>first
   | exact h'
   | (simp only[pureP]at hp;cases hp;done)
   | skip
  rename_i ob sz nn z parts
  cases ob with
  | false=>exact h'
  | true=>simp only[pureP]at hp;cases hp
 cases o
 case call f l=>obtain⟨v,h1,h2⟩:=h;exact ACalls.mono h1 fun u s e=>⟨e.2,e.1 ▸h2⟩
 case callv f l=>
  simp only[stillP]at h
  simp only[stepP]
  split at h<;>try exact h.elim
  obtain⟨ho,v,h1,h2⟩:=h
  exact⟨ho,ACalls.mono h1 fun u s e=>⟨e.2,e.1 ▸h2⟩⟩
 case bsl b sz nn z parts=>cases b with
  | false=>exact key _ rfl h
  | true=>exact h.elim
 case mksl ob sz b z x y=>cases ob with
  | true=>exact h.elim
  | false=>
    simp only[stillP]at h
    simp only[stepP]
    split at h<;>try exact h.elim
    exact⟨h.1.1,h.1.2.1,h.1.2.2,by rw[if_neg (by simp)];exact⟨trivial,h.2⟩⟩
 all_goals first
  | exact key _ rfl h
  | exact h.elim
theorem stepC_step {c:Cls}{o:POp}{env:Env}{st:St}{K:V→St→Prop}(h:stepC P c o env st K):stepP P o env st K:=by
 cases c with
 | x=>exact h
 | a=>exact h
 | _=>exact stepP_mono o (fun v s e=>by obtain⟨rfl,hk⟩:=e;exact hk) (stillP_step h)
theorem oper_sound {G0 G:Gh}{env:Env}{a:Act}{st:St}{w:World}{o:Oper}{p:PO}(hc:compPO P n an ops o=some p)(hle:G0.le G)(he:EnvRel G n env a)(hs:StRel B w0 G st w){c:Cls}{K:Env→St→Prop}
  (h:stepG P c p env st fun v st'=>K (env.put p.dst v) st') {next:Act→World→Prop} {Q:Exit→Act→World→Prop} (hn: ∀a w,Stands B w0 G0 n K a w→next a w):
  if Region.wanted o (yielded ops a.tmps)=true then o.wp P a w next Q∨(o.asks P a w∧LetsOut Q)else next (a.put o.dst undef) w:=by
 obtain⟨h1,h2,h3,h4⟩:=guard_wanted hc he h
 rcases h4 with⟨hw,hy⟩ | ⟨hw,hy⟩
 ·rw[if_pos hw]
  left
  refine step_sound h1 he hs (stepC_step hy) fun v x G' st' w' g1 g2 g3 g4=>hn _ _ ⟨G',_,st',Gh.le_trans hle g1,?_,g3,g4⟩
  rw[h2]
  exact put_rel (he.mono g1) h3 g2
 ·rw[if_neg (by rw[hw];simp)]
  refine hn _ _ ⟨G,_,st,hle,?_,hs,hy⟩
  rw[h2]
  exact put_rel he h3 (.tup [] #[] rfl (fun i hi=>absurd hi (Nat.not_lt_zero _)))
theorem list_sound {G0:Gh}{K:Env→St→Prop}{Q:Exit→Act→World→Prop}(hQ: ∀a w,Stands B w0 G0 n K a w→Q .normal a w): ∀(l:List Oper) (ps:List PO),compPOs P n an ops l=some ps→∀{G:Gh} {env:Env} {a:Act} {st:St} {w:World},G0.le G→EnvRel G n env a→StRel B w0 G st w→runP P ps env st K→wpList P ops Q l a w
 | [],ps,hc,G,env,a,st,w,hle,he,hs,h=>by
   cases hc
   exact hQ _ _ ⟨G,env,st,hle,he,hs,h⟩
 | o::l,ps,hc,G,env,a,st,w,hle,he,hs,h=>by
   simp only[compPOs]at hc
   split at hc<;>try (cases hc;done)
   rename_i p ps' h1 h2
   cases hc
   exact oper_sound (c:=.x) (K:=fun env st=>runP P ps' env st K) h1 hle he hs h fun a w ⟨G',env',st',g1,g2,g3,g4⟩=>list_sound hQ l ps' h2 g1 g2 g3 g4
theorem itemsD_spec {calls:Cls}: ∀(l:List Nat) (r:List DI),itemsD P n an calls ops l=some r→∀q∈r,∃o,ops[q.1]? =some o∧compPO P n an ops o=some q.2.2
 | [],r,h,q,hq=>by cases h;cases hq
 | i::l,r,h,q,hq=>by
   simp only[itemsD]at h
   split at h<;>try (cases h;done)
   rename_i o ho
   split at h<;>try (cases h;done)
   rename_i p ps h1 h2
   cases h
   rcases List.mem_cons.1 hq with rfl | hq
   ·exact⟨o,ho,h1⟩
   ·exact itemsD_spec l ps h2 q hq
structure LeftX (ex:List (Nat×Nat)) (conf:List (Nat×Nat)) (ops:Array Oper) (r:List DI) (listed:Array Bool):Prop where
 mem: ∀i,i<ops.size→(listed.getD i true=false↔i∈r.map (·.1))
 size:listed.size=ops.size
 pairs:pairsX ex conf ops r=true
 lt: ∀q∈r,q.1<ops.size
 shut: ∀i,i<ops.size→i∉r.map (·.1)→∀m∈edges ops i,m∉r.map (·.1)
abbrev Left:=LeftX []
theorem pairsD_remove {ex conf:List (Nat×Nat)}: ∀(l1:List DI) {q:DI} {l2:List DI},pairsX ex conf ops (l1++q::l2)=true→pairsX ex conf ops (l1++l2)=true∧(∀p∈l1,pairX ex conf ops p q=true)∧(∀p∈l2,pairX ex conf ops q p=true)
 | [],q,l2,h=>by
   simp only[List.nil_append,pairsX,Bool.and_eq_true]at h
   exact⟨h.2,by simp,by simpa using h.1.2⟩
 | p::l1,q,l2,h=>by
   simp only[List.cons_append,pairsX,Bool.and_eq_true,List.all_append,List.all_cons]at h⊢
   obtain⟨⟨h0,h1,h2,h3⟩,h4⟩:=h
   obtain⟨i1,i2,i3⟩:=pairsD_remove l1 h4
   refine⟨⟨⟨h0,h1,h3⟩,i1⟩,fun x hx=>?_,i3⟩
   rcases List.mem_cons.1 hx with rfl | hx
   ·exact h2
   ·exact i2 x hx
theorem before_left {r:List DI}(shut: ∀i,i<ops.size→i∉r.map (·.1)→∀m∈edges ops i,m∉r.map (·.1)): ∀(k i j:Nat),before ops k i j=true→(∀m∈edges ops i,m∉r.map (·.1))→j∉r.map (·.1)
 | 0,i,j,h,_=>by cases h
 | k+1,i,j,h,he=>by
   simp only[before,List.any_eq_true,Bool.or_eq_true,beq_iff_eq]at h
   obtain⟨m,hm,h⟩:=h
   rcases h with rfl | h
   ·exact he m hm
   ·refine before_left shut k m j h ?_
    rcases Nat.lt_or_ge m ops.size with hlt | hge
    ·exact shut m hlt (he m hm)
    ·intro x hx
     simp[edges,Array.getElem?_eq_none hge]at hx
theorem mem_edges {i:Nat}{o:Oper}(ho:ops[i]? =some o){m:Nat}:m∈edges ops i↔∃e∈o.after,Region.binds .any e=true∧e.on=m:=by
 simp only[edges,ho,List.mem_map,List.mem_filter,Array.mem_toList_iff,and_assoc]
theorem pairsD_edges {ex conf:List (Nat×Nat)}: ∀{r:List DI},pairsX ex conf ops r=true→∀q∈r,q.1∉edges ops q.1∧∀m∈edges ops q.1,m<ops.size
 | [],_,q,hq=>by cases hq
 | p::r,h,q,hq=>by
   simp only[pairsX,Bool.and_eq_true,Bool.not_eq_true',List.all_eq_true,decide_eq_true_eq]at h
   rcases List.mem_cons.1 hq with rfl | hq
   ·exact⟨by simpa using h.1.1.1,h.1.1.2⟩
   ·exact pairsD_edges h.2 q hq
theorem ready_left {ex conf:List (Nat×Nat)}{r:List DI}{listed:Array Bool}(hL:LeftX ex conf ops r listed){i:Nat}(hi:i∈Region.ready .any ops listed):
  ∃q l1 l2,r=l1++q::l2∧q.1=i∧(∀m∈edges ops i,m∉r.map (·.1))∧∀p∈l1,okPair conf p.2 q.2=true∨ex.contains (p.1,q.1)=true:=by
 obtain⟨h0,o,ho,hall⟩:=mem_ready.1 hi
 have hlt:i<ops.size:=(Array.getElem?_eq_some_iff.1 ho).1
 obtain⟨q,hq,rfl⟩:=List.mem_map.1 ((hL.mem i hlt).1 h0)
 obtain⟨l1,l2,rfl⟩:=List.append_of_mem hq
 have hreq: ∀m∈edges ops q.1,m∉(l1++q::l2).map (·.1):=by
  intro m hm
  obtain⟨e,he,hb,rfl⟩:=(mem_edges ho).1 hm
  have hl:=hall e he hb
  have hlt:e.on<ops.size:=(pairsD_edges hL.pairs q (by simp)).2 _ hm
  intro hmem
  have h1:=(hL.mem _ hlt).2 hmem
  have hsz:e.on<listed.size:=by rw[hL.size];exact hlt
  rw[Array.getD_eq_getD_getElem?,Array.getElem?_eq_getElem hsz]at hl h1
  simp only[Option.getD_some]at hl h1
  rw[hl]at h1
  cases h1
 refine⟨q,l1,l2,rfl,rfl,hreq,fun p hp=>?_⟩
 obtain⟨_,h2,_⟩:=pairsD_remove l1 hL.pairs
 have h3:=h2 p hp
 simp only[pairX,Bool.and_eq_true,Bool.or_eq_true]at h3
 rcases h3.2 with (h4 | h4) | h4
 ·exact absurd (List.mem_map.2 ⟨p,by simp[hp],rfl⟩) (before_left hL.shut _ _ _ h4 hreq)
 ·exact .inl h4
 ·exact .inr h4
theorem left_step {ex conf:List (Nat×Nat)}{l1 l2:List DI}{q:DI}{listed:Array Bool}(hL:LeftX ex conf ops (l1++q::l2) listed)(hreq: ∀m∈edges ops q.1,m∉(l1++q::l2).map (·.1)):LeftX ex conf ops (l1++l2) (listed.setIfInBounds q.1 true):=by
 obtain⟨h1,h2,h3⟩:=pairsD_remove l1 hL.pairs
 have hq:q.1<ops.size:=hL.lt q (by simp)
 have hne:q.1∉(l1++l2).map (·.1):=by
  intro h
  obtain⟨p,hp,e⟩:=List.mem_map.1 h
  rcases List.mem_append.1 hp with hp | hp
  ·have:=h2 p hp
   simp[pairX,e]at this
  ·have:=h3 p hp
   simp[pairX,e]at this
 refine⟨fun i hi=>?_,by simp[hL.size],h1,fun p hp=>hL.lt p (by rcases List.mem_append.1 hp with h | h<;>simp[h]),fun i hi hni m hm hmr=>?_⟩
 ·by_cases e:i=q.1
  ·subst e
   constructor
   ·intro h
    rw[Array.getD_eq_getD_getElem?,Array.getElem?_setIfInBounds_self_of_lt (by rw[hL.size];exact hq)]at h
    cases h
   ·exact fun h=>absurd h hne
  ·rw[getD_set_ne true (fun h=>e h.symm),hL.mem i hi]
   simp[e]
 ·by_cases e:i=q.1
  ·subst e
   refine hreq m hm ?_
   simp only[List.map_append,List.map_cons,List.mem_append,List.mem_cons]at hmr⊢
   rcases hmr with h | h
   ·exact .inl h
   ·exact .inr (.inr h)
  ·have:i∉(l1++q::l2).map (·.1):=by
     simp only[List.map_append,List.map_cons,List.mem_append,List.mem_cons]at hni⊢
     rintro(h | h | h)
     ·exact hni (.inl h)
     ·exact e h
     ·exact hni (.inr h)
   refine hL.shut i hi this m hm ?_
   simp only[List.map_append,List.map_cons,List.mem_append,List.mem_cons]at hmr⊢
   rcases hmr with h | h
   ·exact .inl h
   ·exact .inr (.inr h)
theorem fin_left {ex conf:List (Nat×Nat)}: ∀{r:List DI} {listed:Array Bool},LeftX ex conf ops r listed→(∀q∈r,∃o,ops[q.1]? =some o∧compPO P n an ops o=some q.2.2)→Region.ready .any ops listed=[]→r=[]:=by
 intro r listed hL hc hr
 cases r with
 | nil=>rfl
 | cons q r=>
   exfalso
   obtain⟨o,ho,_⟩:=hc q (by simp)
   have hmem:q.1∈Region.ready .any ops listed:=by
    refine mem_ready.2 ⟨(hL.mem _ (hL.lt q (by simp))).2 (by simp),o,ho,fun e he hb=>?_⟩
    have hm:e.on∈edges ops q.1:=(mem_edges ho).2 ⟨e,he,hb,rfl⟩
    obtain⟨hself,hlt⟩:=pairsD_edges hL.pairs q (by simp)
    have hp:=hL.pairs
    simp only[pairsX,Bool.and_eq_true,List.all_eq_true]at hp
    have hni:e.on∉(q::r).map (·.1):=by
     intro h
     rw[List.map_cons,List.mem_cons]at h
     rcases h with h | h
     ·exact hself (h ▸hm)
     ·obtain⟨p,hpr,e'⟩:=List.mem_map.1 h
      have:=hp.1.2 p hpr
      simp only[pairX,Bool.and_eq_true,Bool.not_eq_true']at this
      rw[e']at this
      simp[hm]at this
    have hsz:e.on<listed.size:=by rw[hL.size];exact hlt _ hm
    rw[Array.getD_eq_getD_getElem?,Array.getElem?_eq_getElem hsz]
    have h1:=mt (hL.mem _ (hlt _ hm)).1 hni
    rw[Array.getD_eq_getD_getElem?,Array.getElem?_eq_getElem hsz]at h1
    simpa using h1
   rw[hr]at hmem
   cases hmem
theorem draw_sound {conf:List (Nat×Nat)}{G0:Gh}{K:Env→St→Prop}{Q:Exit→Act→World→Prop}(hQ: ∀a w,Stands B w0 G0 n K a w→Q .normal a w): ∀(fuel:Nat) (r:List DI) (listed:Array Bool),r.length≤fuel→Left conf ops r listed→(∀q∈r,∃o,ops[q.1]? =some o∧compPO P n an ops o=some q.2.2)→(∀q∈r,∀d,q.2.2.dst=some d→∀p∈conf,d≠p.1∧d≠p.2)→
  ∀{G:Gh} {env:Env} {a:Act} {st:St} {w:World},G0.le G→EnvRel G n env a→StRel B w0 G st w→Conf conf env→runD P (r.map (·.2)) env st K→wpAny P .any ops Q fuel listed a w:=by
 intro fuel
 induction fuel with
 | zero=>
   intro r listed hf hL hc hun G env a st w hle he hs hconf h
   have:r=[]:=List.eq_nil_of_length_eq_zero (by omega)
   subst this
   refine⟨?_,hQ _ _ ⟨G,env,st,hle,he,hs,h⟩⟩
   cases hr:Region.ready .any ops listed with
   | nil=>rfl
   | cons i l=>
     obtain⟨q,l1,l2,e,_⟩:=ready_left hL (i:=i) (by rw[hr];simp)
     simp at e
 | succ fuel ih=>
   intro r listed hf hL hc hun G env a st w hle he hs hconf h
   refine⟨fun hr=>?_,fun i hi=>?_⟩
   ·have:=fin_left hL hc hr
    subst this
    exact hQ _ _ ⟨G,env,st,hle,he,hs,h⟩
   ·obtain⟨q,l1,l2,rfl,rfl,hreq,hok⟩:=ready_left hL hi
    obtain⟨o,ho,hpo⟩:=hc q (by simp)
    have hm:=move (P:=P) (q:=q.2) (l1:=l1.map (·.2)) (l2:=l2.map (·.2)) (K:=K) (env:=env) (st:=st) hconf (fun p hp=>by obtain⟨x,hx,rfl⟩:=List.mem_map.1 hp;exact hun x (by simp[hx])) (fun p hp=>by obtain⟨x,hx,rfl⟩:=List.mem_map.1 hp;exact(hok x hx).resolve_right (by simp)) (by simpa using h)
    have hL':=left_step hL hreq
    unfold wpOp
    simp only[ho]
    obtain⟨qi,qc,qp⟩:=q
    rw[runD_cons]at hm
    have hm':=stepG_mono (fun v s (hk:runD P (l1.map (·.2)++l2.map (·.2)) (env.put qp.dst v) s K)=>And.intro (conf_put hconf (hun (qi,qc,qp) (by simp)) v) hk) hm
    exact oper_sound (c:=qc) (K:=fun env st=>Conf conf env∧runD P (l1.map (·.2)++l2.map (·.2)) env st K) hpo hle he hs hm' fun a w ⟨G',env',st',g1,g2,g3,g4⟩=>
     ih (l1++l2) _ (by simp at hf⊢;omega) hL' (fun p hp=>hc p (by rcases List.mem_append.1 hp with h | h<;>simp[h])) (fun p hp=>hun p (by rcases List.mem_append.1 hp with h | h<;>simp[h])) g1 g2 g3 g4.1 (by simpa using g4.2)
theorem pairX_drop {ex conf:List (Nat×Nat)}{p q:DI}(h:ex.contains (p.1,q.1)=false):pairX ex conf ops p q=pairD conf ops p q:=by
 simp only[pairX,h,List.contains_nil]
theorem pairsX_drop {ex conf:List (Nat×Nat)}: ∀{r:List DI},(∀p∈r,∀q∈r,ex.contains (p.1,q.1)=false)→pairsX ex conf ops r=true→pairsD conf ops r=true
 | [],_,_=>rfl
 | p::r,hex,h=>by
   simp only[pairsX,Bool.and_eq_true,List.all_eq_true]at h⊢
   refine⟨⟨h.1.1,fun q hq=>?_⟩,pairsX_drop (fun a ha b hb=>hex a (by simp[ha]) b (by simp[hb])) h.2⟩
   have:=h.1.2 q hq
   rwa [pairX_drop (hex p (by simp) q (by simp[hq]))]at this
theorem pairsX_ne {ex conf:List (Nat×Nat)}{l1:List DI}{q:DI}{l2:List DI}(h:pairsX ex conf ops (l1++q::l2)=true):(∀p∈l1,p.1≠q.1)∧∀p∈l2,q.1≠p.1:=by
 obtain⟨_,h2,h3⟩:=pairsD_remove l1 h
 refine⟨fun p hp e=>?_,fun p hp e=>?_⟩
 ·have:=h2 p hp
  simp[pairX,e]at this
 ·have:=h3 p hp
  simp[pairX,e]at this
theorem draw3_sound {G0:Gh}{K:Env→St→Prop}{Q:Exit→Act→World→Prop}(hQ: ∀a w,Stands B w0 G0 n K a w→Q .normal a w){x y:DI}{post:List DI}{KK:Env→St→Prop}(hKK: ∀env st,KK env st→runD P (x.2::y.2::post.map (·.2)) env st K∧runD P (y.2::x.2::post.map (·.2)) env st K)(hpost: ∀q∈post,before ops ops.size q.1 x.1=true∨before ops ops.size q.1 y.1=true): ∀(fuel:Nat) (pre:List DI) (listed:Array Bool),(pre++x::y::post).length≤fuel→
  LeftX [(x.1,y.1)] [] ops (pre++x::y::post) listed→pairsX [(y.1,x.1)] [] ops (pre++y::x::post)=true→(∀q∈pre++x::y::post,∃o,ops[q.1]? =some o∧compPO P n an ops o=some q.2.2)→
  ∀{G:Gh} {env:Env} {a:Act} {st:St} {w:World},G0.le G→EnvRel G n env a→StRel B w0 G st w→runD P (pre.map (·.2)) env st KK→wpAny P .any ops Q fuel listed a w:=by
 have app: ∀(l1 l2:List (Cls×PO)) (env:Env) (st:St) (K:Env→St→Prop),runD P (l1++l2) env st K↔runD P l1 env st fun env st=>runD P l2 env st K:=by
  intro l1
  induction l1 with
  | nil=>intros;rfl
  | cons p l1 ih=>
    intro l2 env st K
    obtain⟨c,o⟩:=p
    rw[List.cons_append,runD_cons,runD_cons]
    exact⟨stepG_mono fun v s h=>(ih l2 _ _ _).1 h,stepG_mono fun v s h=>(ih l2 _ _ _).2 h⟩
 have none: ∀(env:Env),Conf [] env:=fun env p hp=>by cases hp
 intro fuel
 induction fuel with
 | zero=>
   intro pre listed hf
   simp at hf
 | succ fuel ih=>
   intro pre listed hf hL hB hc G env a st w hle he hs h
   have hxy:x.1≠y.1:=(pairsX_ne hL.pairs).2 y (by simp)
   refine⟨fun hr=>?_,fun i hi=>?_⟩
   ·have:=fin_left hL hc hr
    simp at this
   ·obtain⟨q,l1,l2,e,rfl,hreq,hok⟩:=ready_left hL hi
    obtain⟨o,ho,hpo⟩:=hc q (by rw[e];simp)
    rcases List.append_eq_append_iff.1 e with⟨m,e1,e2⟩ | ⟨m,e1,e2⟩
    ·--l1=pre++m
     cases m with
     | nil=>
       rw[List.nil_append]at e2
       obtain⟨rfl,rfl⟩:=List.cons.inj e2
       rw[List.append_nil]at e1
       subst e1
       have hm:runD P (x.2::(l1.map (·.2)++y.2::post.map (·.2))) env st K:=by
        refine move (none env) (fun p hp d hd r hr=>by cases hr) (fun p hp=>?_) ((app _ _ env st K).2 (runD_frame _ env st (fun _ _ _ h=>(hKK _ _ h).1) h))
        obtain⟨z,hz,rfl⟩:=List.mem_map.1 hp
        refine(hok z hz).resolve_right fun hex=>?_
        simp only[List.contains_cons,List.contains_nil,Bool.or_false,beq_iff_eq,Prod.mk.injEq]at hex
        exact hxy hex.2
       have hL':=left_step hL hreq
       have hp':pairsD [] ops (l1++y::post)=true:=by
        refine pairsX_drop (fun p hp q hq=>?_) (pairsD_remove l1 hL.pairs).1
        have hne:=pairsX_ne hL.pairs
        have:p.1≠x.1:=by
         rcases List.mem_append.1 hp with hp | hp
         ·exact hne.1 p hp
         ·exact fun e=>hne.2 p hp e.symm
        simp[this]
       unfold wpOp
       simp only[ho]
       obtain⟨qi,qc,qp⟩:=x
       rw[runD_cons]at hm
       exact oper_sound (c:=qc) (K:=fun env st=>runD P (l1.map (·.2)++y.2::post.map (·.2)) env st K) hpo hle he hs hm fun a w ⟨G',env',st',g1,g2,g3,g4⟩=>
        draw_sound hQ fuel (l1++y::post) _ (by simp at hf⊢;omega) ⟨hL'.mem,hL'.size,hp',hL'.lt,hL'.shut⟩ (fun p hp=>hc p (by
         rcases List.mem_append.1 hp with h | h
         ·simp[h]
         ·rw[List.mem_append];exact .inr (List.mem_cons_of_mem _ h))) (fun p hp d hd r hr=>by cases hr) g1 g2 g3 (none env') (by simpa using g4)
     | cons z m=>
       rw[List.cons_append]at e2
       obtain⟨rfl,e3⟩:=List.cons.inj e2
       cases m with
       | nil=>
         rw[List.nil_append]at e3
         obtain⟨rfl,rfl⟩:=List.cons.inj e3
         subst e1
         have hm:runD P (y.2::(pre.map (·.2)++x.2::post.map (·.2))) env st K:=by
          refine move (none env) (fun p hp d hd r hr=>by cases hr) (fun p hp=>?_) ((app _ _ env st K).2 (runD_frame _ env st (fun _ _ _ h=>(hKK _ _ h).2) h))
          obtain⟨z,hz,rfl⟩:=List.mem_map.1 hp
          refine(hok z (by simp[hz])).resolve_right fun hex=>?_
          simp only[List.contains_cons,List.contains_nil,Bool.or_false,beq_iff_eq,Prod.mk.injEq]at hex
          exact(pairsX_ne hL.pairs).1 z hz hex.1
         have hL':=left_step (l1:=pre++[x]) (q:=y) (l2:=post) (by simpa using hL) (by simpa using hreq)
         have e5:(pre++[x])++post=pre++x::post:=by simp
         rw[e5]at hL'
         have hp':pairsD [] ops (pre++x::post)=true:=by
          refine pairsX_drop (fun p hp q hq=>?_) (pairsD_remove pre hB).1
          have hne:=pairsX_ne hB
          have:p.1≠y.1:=by
           rcases List.mem_append.1 hp with hp | hp
           ·exact hne.1 p hp
           ·exact fun e=>hne.2 p hp e.symm
          simp[this]
         unfold wpOp
         simp only[ho]
         obtain⟨qi,qc,qp⟩:=y
         rw[runD_cons]at hm
         exact oper_sound (c:=qc) (K:=fun env st=>runD P (pre.map (·.2)++x.2::post.map (·.2)) env st K) hpo hle he hs hm fun a w ⟨G',env',st',g1,g2,g3,g4⟩=>
          draw_sound hQ fuel (pre++x::post) _ (by simp at hf⊢;omega) ⟨hL'.mem,hL'.size,hp',hL'.lt,hL'.shut⟩ (fun p hp=>hc p (by
           rcases List.mem_append.1 hp with h | h
           ·simp[h]
           ·rcases List.mem_cons.1 h with rfl | h
            ·simp
            ·simp[h])) (fun p hp d hd r hr=>by cases hr) g1 g2 g3 (none env') (by simpa using g4)
       | cons z' m=>
         exfalso
         rw[List.cons_append]at e3
         obtain⟨rfl,e4⟩:=List.cons.inj e3
         have hq:q∈post:=by rw[e4];simp
         rcases hpost q hq with h1 | h1
         ·exact before_left hL.shut _ _ _ h1 hreq (by simp)
         ·exact before_left hL.shut _ _ _ h1 hreq (by simp)
    ·cases m with
     | nil=>
       rw[List.append_nil]at e1
       subst e1
       rw[List.nil_append]at e2
       obtain⟨rfl,rfl⟩:=List.cons.inj e2
       have hm:runD P (q.2::(pre.map (·.2)++y.2::post.map (·.2))) env st K:=by
        refine move (none env) (fun p hp d hd r hr=>by cases hr) (fun p hp=>?_) ((app _ _ env st K).2 (runD_frame _ env st (fun _ _ _ h=>(hKK _ _ h).1) h))
        obtain⟨z,hz,rfl⟩:=List.mem_map.1 hp
        refine(hok z hz).resolve_right fun hex=>?_
        simp only[List.contains_cons,List.contains_nil,Bool.or_false,beq_iff_eq,Prod.mk.injEq]at hex
        exact hxy hex.2
       have hL':=left_step hL hreq
       have hp':pairsD [] ops (pre++y::post)=true:=by
        refine pairsX_drop (fun p hp q' hq=>?_) (pairsD_remove pre hL.pairs).1
        have hne:=pairsX_ne hL.pairs
        have:p.1≠q.1:=by
         rcases List.mem_append.1 hp with hp | hp
         ·exact hne.1 p hp
         ·exact fun e=>hne.2 p hp e.symm
        simp[this]
       unfold wpOp
       simp only[ho]
       obtain⟨qi,qc,qp⟩:=q
       rw[runD_cons]at hm
       exact oper_sound (c:=qc) (K:=fun env st=>runD P (pre.map (·.2)++y.2::post.map (·.2)) env st K) hpo hle he hs hm fun a w ⟨G',env',st',g1,g2,g3,g4⟩=>
        draw_sound hQ fuel (pre++y::post) _ (by simp at hf⊢;omega) ⟨hL'.mem,hL'.size,hp',hL'.lt,hL'.shut⟩ (fun p hp=>hc p (by
         rcases List.mem_append.1 hp with h | h
         ·simp[h]
         ·rw[List.mem_append];exact .inr (List.mem_cons_of_mem _ h))) (fun p hp d hd r hr=>by cases hr) g1 g2 g3 (none env') (by simpa using g4)
     | cons z m=>
       rw[List.cons_append]at e2
       obtain⟨rfl,e3⟩:=List.cons.inj e2
       subst e1 e3
       have hL2:LeftX [(x.1,y.1)] [] ops (l1++q::(m++x::y::post)) listed:=by simpa using hL
       have hB2:pairsX [(y.1,x.1)] [] ops (l1++q::(m++y::x::post))=true:=by simpa using hB
       have hqy:q.1≠y.1:=(pairsX_ne hL2.pairs).2 y (by simp)
       have hm:runD P (q.2::(l1.map (·.2)++m.map (·.2))) env st KK:=by
        refine move (none env) (fun p hp d hd r hr=>by cases hr) (fun p hp=>?_) (by simpa using h)
        obtain⟨z,hz,rfl⟩:=List.mem_map.1 hp
        refine(hok z hz).resolve_right fun hex=>?_
        simp only[List.contains_cons,List.contains_nil,Bool.or_false,beq_iff_eq,Prod.mk.injEq]at hex
        exact hqy hex.2
       have hL':=left_step hL2 (by simpa using hreq)
       have e5:l1++(m++x::y::post)=(l1++m)++x::y::post:=by simp
       rw[e5]at hL'
       have hB':pairsX [(y.1,x.1)] [] ops ((l1++m)++y::x::post)=true:=by
        have:=(pairsD_remove l1 hB2).1
        simpa using this
       unfold wpOp
       simp only[ho]
       obtain⟨qi,qc,qp⟩:=q
       rw[runD_cons]at hm
       exact oper_sound (c:=qc) (K:=fun env st=>runD P (l1.map (·.2)++m.map (·.2)) env st KK) hpo hle he hs hm fun a w ⟨G',env',st',g1,g2,g3,g4⟩=>
        ih (l1++m) _ (by simp at hf⊢;omega) hL' hB' (fun p hp=>hc p (by
         simp only[List.append_assoc,List.mem_append,List.mem_cons]at hp⊢
         rcases hp with h | h | h
         ·exact .inl h
         ·exact .inr (.inl (.inr h))
         ·exact .inr (.inr h))) g1 g2 g3 (by simpa using g4)
theorem left_start {ex conf:List (Nat×Nat)}{r:List DI}(h1:((List.range ops.size).all (fun i=>(r.map (·.1)).contains i))=true)(h2:pairsX ex conf ops r=true)(hc: ∀q∈r,∃o,ops[q.1]? =some o∧compPO P n an ops o=some q.2.2):LeftX ex conf ops r (Array.replicate ops.size false):=by
 simp only[List.all_eq_true,List.mem_range]at h1
 have hin: ∀i,i<ops.size→i∈r.map (·.1):=fun i hi=>by simpa using h1 i hi
 refine⟨fun i hi=>⟨fun _=>hin i hi,fun _=>?_⟩,by simp,h2,fun q hq=>?_,fun i hi hni=>absurd (hin i hi) hni⟩
 ·simp[hi]
 ·obtain⟨o,ho,_⟩:=hc q hq
  exact(Array.getElem?_eq_some_iff.1 ho).1
theorem tryD_spec {calls:Cls}{l:List DI}(h:tryD P n an calls ops=some l):l.length≤ops.size∧Left [] ops l (Array.replicate ops.size false)∧∀q∈l,∃o,ops[q.1]? =some o∧compPO P n an ops o=some q.2.2:=by
 unfold tryD at h
 split at h<;>try (cases h;done)
 simp only at h
 split at h<;>try (cases h;done)
 rename_i l' hi
 split at h<;>try (cases h;done)
 rename_i hcond
 cases h
 simp only[Bool.and_eq_true,decide_eq_true_eq]at hcond
 have hs:=itemsD_spec _ _ hi
 exact⟨hcond.2,left_start hcond.1.1 hcond.1.2 hs,hs⟩
theorem tryE_spec {calls:Cls}{l:List DI}(h:tryE P n an calls ops=some l):l.length≤ops.size∧Left (confD l) ops l (Array.replicate ops.size false)∧∀q∈l,∃o,ops[q.1]? =some o∧compPO P n an ops o=some q.2.2:=by
 unfold tryE at h
 split at h<;>try (cases h;done)
 simp only at h
 split at h<;>try (cases h;done)
 rename_i l' hi
 split at h<;>try (cases h;done)
 rename_i hcond
 cases h
 simp only[Bool.and_eq_true,decide_eq_true_eq]at hcond
 have hs:=itemsD_spec _ _ hi
 exact⟨hcond.2,left_start hcond.1.1 hcond.1.2 hs,hs⟩
theorem splitF_mem {l:List DI}{r:List DI×DI×DI×List DI}(h:splitF ops l=some r): ∀q∈r.1++r.2.1::r.2.2.1::r.2.2.2,q∈l:=by
 unfold splitF at h
 split at h<;>try (cases h;done)
 rename_i x hx
 split at h<;>try (cases h;done)
 rename_i y hy
 cases h
 intro q hq
 simp only[List.mem_append,List.mem_cons,List.mem_filter]at hq
 rcases hq with h | rfl | rfl | h
 ·exact h.1
 ·exact List.mem_of_find?_eq_some hx
 ·exact List.mem_of_find?_eq_some hy
 ·exact h.1
theorem tryF_spec {calls:Cls}{r:List DI×DI×DI×List DI}(h:tryF P n an calls ops=some r):(r.1++r.2.1::r.2.2.1::r.2.2.2).length≤ops.size∧LeftX [(r.2.1.1,r.2.2.1.1)] [] ops (r.1++r.2.1::r.2.2.1::r.2.2.2) (Array.replicate ops.size false)∧
  pairsX [(r.2.2.1.1,r.2.1.1)] [] ops (r.1++r.2.2.1::r.2.1::r.2.2.2)=true∧(∀q∈r.2.2.2,before ops ops.size q.1 r.2.1.1=true∨before ops ops.size q.1 r.2.2.1.1=true)∧∀q∈r.1++r.2.1::r.2.2.1::r.2.2.2,∃o,ops[q.1]? =some o∧compPO P n an ops o=some q.2.2:=by
 unfold tryF at h
 split at h<;>try (cases h;done)
 simp only at h
 split at h<;>try (cases h;done)
 rename_i l hi
 split at h<;>try (cases h;done)
 rename_i r' hr
 split at h<;>try (cases h;done)
 rename_i hcond
 cases h
 rw[Bool.and_eq_true,Bool.and_eq_true,Bool.and_eq_true,Bool.and_eq_true]at hcond
 obtain⟨⟨⟨⟨c1,c2⟩,c3⟩,c4⟩,c5⟩:=hcond
 have hs:=fun q hq=>itemsD_spec _ _ hi q (splitF_mem hr q hq)
 exact⟨of_decide_eq_true c5,left_start c1 c2 hs,c3,fun q hq=>by simpa using List.all_eq_true.1 c4 q hq,hs⟩
theorem confD_apart (l:List DI): ∀q∈l,∀d,q.2.2.dst=some d→∀p∈confD l,d≠p.1∧d≠p.2:=by
 intro q hq d hd p hp
 have hw:d∈l.flatMap fun q=>q.2.2.dst.toList:=List.mem_flatMap.2 ⟨q,hq,by simp[hd]⟩
 simp only[confD,List.mem_eraseDups,List.mem_flatMap,List.mem_map,List.mem_filter]at hp
 obtain⟨a,⟨q1,_,h1⟩,b,⟨⟨q2,_,h2⟩,_⟩,rfl⟩:=hp
 simp only
 constructor
 ·rintro rfl
  split at h1
  ·split at h1
   ·simp at h1
   ·rename_i hn
    simp only[List.mem_singleton]at h1
    subst h1
    exact hn (by simpa using hw)
  ·simp at h1
 ·rintro rfl
  split at h2
  ·split at h2
   ·simp at h2
   ·rename_i hn
    simp only[List.mem_singleton]at h2
    subst h2
    exact hn (by simpa using hw)
  ·simp at h2
theorem region_sound (hm:P.follows .mixedOrders=true){draw:Bool}{pc:PC}(hc:compReg P n an ops draw=some pc){G0 G:Gh}{env:Env}{a:Act}{st:St}{w:World}{id:Nat}{Q:Ex→Env→St→Prop}{Q':Exit→Act→World→Prop}
  (hQ: ∀a w,Stands B w0 G0 n (Q .normal) a w→Q' .normal a w) (hle:G0.le G) (he:EnvRel G n env a) (hs:StRel B w0 G st w) (h:vc P pc Q env st):(Code.region id ops draw).wp P Q' a w:=by
 unfold compReg at hc
 have dr: ∀{calls:Cls} {l:List DI},tryD P n an calls ops=some l→runD P (l.map (·.2)) env st (Q .normal)→(Code.region id ops true).wp P Q' a w:=by
  intro calls l ht hr
  obtain⟨hlen,hL,hi⟩:=tryD_spec ht
  exact wp_region_any hm (draw_sound hQ _ l _ hlen hL hi (fun q _ d _ p hp=>by cases hp) hle he (hs.ext (below_drew w)) (fun p hp=>by cases hp) hr)
 have de: ∀{calls:Cls} {l:List DI},tryE P n an calls ops=some l→vc P (.draw2 (confD l) (l.map (·.2))) Q env st→(Code.region id ops true).wp P Q' a w:=by
  intro calls l ht hr
  obtain⟨hlen,hL,hi⟩:=tryE_spec ht
  exact wp_region_any hm (draw_sound hQ _ l _ hlen hL hi (confD_apart l) hle he (hs.ext (below_drew w)) hr.1 hr.2)
 cases draw with
 | false=>
   simp only[Bool.false_eq_true,if_false]at hc
   obtain⟨ps,h1,rfl⟩:=Option.map_eq_some_iff.1 hc
   exact wp_region_list (list_sound hQ _ ps h1 hle he hs h)
 | true=>
   simp only[if_true]at hc
   split at hc
   ·rename_i l hl
    cases hc
    exact dr hl h
   ·split at hc
    ·rename_i l hl
     cases hc
     exact dr hl h
    ·split at hc
     ·rename_i l hl
      cases hc
      exact de hl h
     ·split at hc
      ·rename_i l hl
       cases hc
       exact de hl h
      ·obtain⟨r,hr,rfl⟩:=Option.map_eq_some_iff.1 hc
       obtain⟨hlen,hL,hB,hp,hi⟩:=tryF_spec hr
       have h':runD P (r.1.map (·.2)) env st (fun env st=>runD P (r.2.1.2::r.2.2.1.2::r.2.2.2.map (·.2)) env st (Q .normal)∧runD P (r.2.2.1.2::r.2.1.2::r.2.2.2.map (·.2)) env st (Q .normal)):=h
       exact wp_region_any hm (draw3_sound (x:=r.2.1) (y:=r.2.2.1) (post:=r.2.2.2) hQ (KK:=fun env st=>runD P (r.2.1.2::r.2.2.1.2::r.2.2.2.map (·.2)) env st (Q .normal)∧runD P (r.2.2.1.2::r.2.1.2::r.2.2.2.map (·.2)) env st (Q .normal)) (fun _ _ h=>h) hp ops.size r.1 (Array.replicate ops.size false) hlen hL hB hi hle he (hs.ext (below_drew w)) h')
end
section
variable {P:Program} {B:Nat} {w0:World} {n:Nat} {an:An}
theorem frzOb_sound {G:Gh}{st s:St}{w:World}(hs:StRel B w0 G st w){id:Nat}(h:frzOb st id=some s): ∃G',G.le G'∧StRel B w0 G' s w∧∃cs,s id=some (.ro cs):=by
 unfold frzOb at h
 split at h<;>cases h
 ·rename_i cs hid
  obtain⟨b,l,m,h1,_⟩:=hs.obj id _ hid
  obtain⟨G',h2,h3⟩:=hs.freeze hid h1
  exact⟨G',h2,h3,cs,St.upd_same _ _ _⟩
 ·rename_i cs hid
  exact⟨G,G.le_refl,hs,cs,hid⟩
theorem frzMap_sound {G:Gh}{st:St}{w:World}(hs:StRel B w0 G st w){id:Nat}{u:V}{s:St}{x:Value}(hv:VRel G (.map (some id)) x)(h:frzV st (.map (some id))=some (u,s)): ∃G',G.le G'∧StRel B w0 G' s w∧VRel G' u x:=by
 simp only[frzV]at h
 split at h
 ·rename_i es bs clk hst
  cases h
  exact⟨G,G.le_refl,hs.toMp hv hst,hv⟩
 ·cases h;exact⟨G,G.le_refl,hs,hv⟩
 ·cases h
theorem frzH_sound {G:Gh}{st s:St}{w:World}(hs:StRel B w0 G st w){v u:V}{x:Value}(hv:VRel G v x)(h:frzH st v=some (u,s)): ∃G',G.le G'∧StRel B w0 G' s w∧VRel G' u x:=by
 cases v with
 | hsl id off sz nn=>
   simp only[frzH]at h
   obtain⟨s',h1,h2⟩:=Option.bind_eq_some_iff.1 h
   obtain⟨c,h3,h4⟩:=Option.map_eq_some_iff.1 h2
   cases h4
   obtain⟨G',g1,g2,cs,hid⟩:=frzOb_sound hs h1
   refine⟨G',g1,g2,?_⟩
   cases hv with
   | hsl _ _ _ _ b l m cap o hι hn hm hl ho=>
     obtain⟨b',l',m',k1,k2,k3,k4⟩:=g2.obj id _ hid
     rw[g1.ι _ _ hι]at k1
     obtain⟨rfl,rfl,rfl⟩:b=b'∧l=l'∧m=m':=by cases k1;exact⟨rfl,rfl,rfl⟩
     simp only[St.seg,hid,segOf]at h3
     split at h3<;>cases h3
     rename_i hle
     have hlen:((cs.drop off).take (nn*sz)).length=nn*sz:=by simp;omega
     have hget: ∀i,i<nn*sz→((cs.drop off).take (nn*sz)).getD i .junk=cs.getD (off+i) .junk:=fun i hi=>by
      simp[List.getD_eq_getElem?_getD,List.getElem?_take,hi,List.getElem?_drop]
     rcases Nat.eq_zero_or_pos cap with h0 | h0
     ·have hz:nn=0:=by omega
      subst hz
      refine .sl .some _ 0 b o cap (by simp) (Nat.zero_le _) (fun e=>by cases e) (fun _=>undef) (fun i hi=>?_) (fun i hi=>?_) (fun i hi=>?_)<;>(rw[hlen]at hi;simp at hi)
     ·have:=ho (by omega)
      subst this
      have key: ∀i,i<nn*sz→∃y,G'.pm b (o+i)=some y∧VRel G' (cs.getD (o+i) .junk) y∧y.oneCell'=true:=fun i hi=>k4 (o+i) (by omega)
      have pick: ∀i,i<nn*sz→∃y,(G'.pm b (o+i)).getD undef=y∧G'.pm b (o+i)=some y∧VRel G' (cs.getD (o+i) .junk) y∧y.oneCell'=true:=fun i hi=>by
       obtain⟨y,q1,q2,q3⟩:=key i hi
       exact⟨y,by rw[q1];rfl,q1,q2,q3⟩
      refine .sl .some _ nn b o cap (by simp) hn (fun e=>by cases e) (fun i=>(G'.pm b (o+i)).getD undef) (fun i hi=>?_) (fun i hi=>?_) (fun i hi=>?_)<;>rw[hlen]at hi<;>obtain⟨y,q1,q2,q3,q4⟩:=pick i hi
      ·rw[q1];exact q2
      ·rw[hget i hi,q1];exact q3
      ·rw[q1];exact q4
 | _=>cases h;exact⟨G,G.le_refl,hs,hv⟩
theorem frzL_sound {w:World}: ∀(cs:List V) {G:Gh} {st s:St} {cs':List V} {f:Nat→Value},StRel B w0 G st w→(∀i,i<cs.length→VRel G (cs.getD i .junk) (f i))→frzL st cs=some (cs',s)→
  ∃G',G.le G'∧StRel B w0 G' s w∧cs'.length=cs.length∧∀i,i<cs'.length→VRel G' (cs'.getD i .junk) (f i)
 | [],G,st,s,cs',f,hs,hv,h=>by
   cases h
   exact⟨G,G.le_refl,hs,rfl,hv⟩
 | v::cs,G,st,s,cs',f,hs,hv,h=>by
   simp only[frzL]at h
   obtain⟨p,h1,h2⟩:=Option.bind_eq_some_iff.1 h
   obtain⟨q,h3,h4⟩:=Option.map_eq_some_iff.1 h2
   cases h4
   have hv0:VRel G v (f 0):=hv 0 (by simp)
   obtain⟨G1,g1,g2,g3⟩:=frzH_sound hs hv0 (u:=p.1) (s:=p.2) h1
   obtain⟨G2,k1,k2,k3,k4⟩:=frzL_sound cs (f:=fun i=>f (i+1)) g2 (fun i hi=>(hv (i+1) (by simp;omega)).mono g1) (cs':=q.1) (s:=q.2) h3
   refine⟨G2,Gh.le_trans g1 k1,k2,by simp[k3],fun i hi=>?_⟩
   cases i with
   | zero=>exact g3.mono k1
   | succ i=>exact k4 i (by simpa using hi)
theorem frzV_sound {G:Gh}{st s:St}{w:World}(hs:StRel B w0 G st w){v u:V}{x:Value}(hv:VRel G v x)(h:frzV st v=some (u,s)): ∃G',G.le G'∧StRel B w0 G' s w∧VRel G' u x:=by
 cases v with
 | map mo=>
   cases mo with
   | none=>cases h;exact⟨G,G.le_refl,hs,hv⟩
   | some id=>exact frzMap_sound hs hv h
 | ptr p=>
   cases p with
   | none=>cases h;exact⟨G,G.le_refl,hs,hv⟩
   | some q=>
     obtain⟨id,o⟩:=q
     simp only[frzV]at h
     obtain⟨s',h1,h2⟩:=Option.bind_eq_some_iff.1 h
     split at h2<;>cases h2
     rename_i cs hid
     obtain⟨G',g1,g2,_⟩:=frzOb_sound hs h1
     refine⟨G',g1,g2,?_⟩
     cases hv with
     | ptr _ _ b l m hι=>
       obtain⟨b',l',m',k1,k2,k3,k4⟩:=g2.obj id _ hid
       rw[g1.ι _ _ hι]at k1
       obtain⟨rfl,rfl,rfl⟩:b=b'∧l=l'∧m=m':=by cases k1;exact⟨rfl,rfl,rfl⟩
       have hget: ∀i,(cs.drop o).getD i .junk=cs.getD (o+i) .junk:=fun i=>by simp[List.getD_eq_getElem?_getD,List.getElem?_drop]
       have key: ∀i,i< (cs.drop o).length→∃y,(G'.pm b (o+i)).getD undef=y∧G'.pm b (o+i)=some y∧VRel G' (cs.getD (o+i) .junk) y∧y.oneCell'=true:=fun i hi=>by
        rw[List.length_drop]at hi
        obtain⟨y,q1,q2,q3⟩:=k4 (o+i) (by omega)
        exact⟨y,by rw[q1];rfl,q1,q2,q3⟩
       refine .eptr _ b o (fun i=>(G'.pm b (o+i)).getD undef) (fun i hi=>?_) (fun i hi=>?_) (fun i hi=>?_)<;>obtain⟨y,q1,q2,q3,q4⟩:=key i hi
       ·rw[q1];exact q2
       ·rw[hget i,q1];exact q3
       ·rw[q1];exact q4
 | hsl id off sz nn=>exact frzH_sound hs hv h
 | eptr cs=>
   simp only[frzV]at h
   obtain⟨q,h1,h2⟩:=Option.map_eq_some_iff.1 h
   cases h2
   cases hv with
   | eptr _ b o f hp hv h1'=>
     obtain⟨G',g1,g2,g3,g4⟩:=frzL_sound cs hs hv h1
     exact⟨G',g1,g2,.eptr _ b o f (fun i hi=>g1.pm _ _ _ (hp i (by omega))) g4 (fun i hi=>h1' i (by omega))⟩
 | agg cs=>cases h;exact⟨G,G.le_refl,hs,hv⟩
 | _=>cases h;exact⟨G,G.le_refl,hs,hv⟩
theorem frz_same {n:Nat}{G:Gh}{env:Env}{a:Act}(he:EnvRel G n env a){t:Nat}{v:V}(hv:VRel G v (a.tmps.getD t undef)):EnvRel G n (env.upd t v) a:=by
 refine⟨he.1,he.2.1,fun u hu=>?_⟩
 by_cases e:u=t
 ·subst e
  simp only[Env.upd,if_true]
  exact hv
 ·simp only[Env.upd,if_neg e]
  exact he.2.2 u hu
theorem frzP_sound {G0:Gh}{K:Env→St→Prop}{a:Act}{w:World}: ∀(l:List Nat) {G:Gh} {env:Env} {st:St},(∀t∈l,t<n)→G0.le G→EnvRel G n env a→StRel B w0 G st w→frzP l env st K→Stands B w0 G0 n K a w
 | [],G,env,st,_,hle,he,hs,h=>⟨G,env,st,hle,he,hs,h⟩
 | t::l,G,env,st,hl,hle,he,hs,h=>by
   simp only[frzP]at h
   split at h<;>try exact h.elim
   rename_i v s hv
   obtain⟨G',g1,g2,g3⟩:=frzV_sound hs (he.2.2 t (hl t (by simp))) hv
   exact frzP_sound l (fun u hu=>hl u (by simp[hu])) (Gh.le_trans hle g1) (frz_same (he.mono g1) g3) g2 h
def Ends (B:Nat)(w0:World)(G0:Gh)(n:Nat)(Q:Ex→Env→St→Prop):Exit→Act→World→Prop
 | .normal,a,w=>Stands B w0 G0 n (Q .normal) a w
 | .exit id,a,w=>Stands B w0 G0 n (Q (.exit id)) a w
 | .ret,a,w=>Stands B w0 G0 n (Q .ret) a w
 | _,_,_=>False
theorem Stands.mono {G0:Gh}{K K':Env→St→Prop}{a:Act}{w:World}(hk: ∀env st,K env st→K' env st)(h:Stands B w0 G0 n K a w):Stands B w0 G0 n K' a w:=by
 obtain⟨G,env,st,h1,h2,h3,h4⟩:=h
 exact⟨G,env,st,h1,h2,h3,hk _ _ h4⟩
theorem Stands.le {G0 G1:Gh}(hle:G0.le G1){K:Env→St→Prop}{a:Act}{w:World}(h:Stands B w0 G1 n K a w):Stands B w0 G0 n K a w:=by
 obtain⟨G,env,st,h1,h2,h3,h4⟩:=h
 exact⟨G,env,st,Gh.le_trans hle h1,h2,h3,h4⟩
theorem Ends.le {G0 G1:Gh}(hle:G0.le G1){Q:Ex→Env→St→Prop}{e:Exit}{a:Act}{w:World}(h:Ends B w0 G1 n Q e a w):Ends B w0 G0 n Q e a w:=by
 cases e<;>first | exact Stands.le hle h | exact h
theorem code_sound (hm:P.follows .mixedOrders=true): ∀(c:Code) (pc:PC),compCode P n an c=some pc→∀(Q:Ex→Env→St→Prop) {G:Gh} {env:Env} {a:Act} {st:St} {w:World},EnvRel G n env a→StRel B w0 G st w→vc P pc Q env st→c.wp P (Ends B w0 G n Q) a w:=by
 intro c
 induction c with
 | skip=>
   intro pc hc Q G env a st w he hs h
   cases hc
   exact wp_skip ⟨G,env,st,G.le_refl,he,hs,h⟩
 | label l=>
   intro pc hc Q G env a st w he hs h
   cases hc
   exact wp_label ⟨G,env,st,G.le_refl,he,hs,h⟩
 | exit id=>
   intro pc hc Q G env a st w he hs h
   cases hc
   exact wp_exit ⟨G,env,st,G.le_refl,he,hs,h⟩
 | ret=>
   intro pc hc Q G env a st w he hs h
   cases hc
   exact wp_ret ⟨G,env,st,G.le_refl,he,hs,h⟩
 | region id ops draw=>
   intro pc hc Q G env a st w he hs h
   simp only[compCode]at hc
   split at hc<;>try (cases hc;done)
   rename_i b hb
   split at hc
   ·rename_i l hl
    split at hc<;>cases hc
    rename_i hall
    have h':frzP l env st (fun env st=>vc P b Q env st):=h
    obtain⟨G1,env1,st1,g1,g2,g3,g4⟩:=frzP_sound (G0:=G) l (fun t ht=>by simpa using List.all_eq_true.1 hall t ht) G.le_refl he hs h'
    exact region_sound hm hb (fun a w h=>h) g1 g2 g3 g4
   ·cases hc
    exact region_sound hm hb (fun a w h=>h) G.le_refl he hs h
 | seq x y ihx ihy=>
   intro pc hc Q G env a st w he hs h
   simp only[compCode]at hc
   split at hc<;>try (cases hc;done)
   rename_i px py hx hy
   cases hc
   refine wp_seq (wp_mono (ihx px hx _ he hs h) fun e a w hq=>?_)
   cases e with
   | normal=>
     obtain⟨G1,env1,st1,g1,g2,g3,g4⟩:=hq
     exact wp_mono (ihy py hy _ g2 g3 g4) fun e a w hq=>hq.le g1
   | exit id=>exact hq
   | ret=>exact hq
   | goto l=>exact hq
   | panic c=>exact hq
   | outgrown=>exact hq
 | cond c x y ihx ihy=>
   intro pc hc Q G env a st w he hs h
   simp only[compCode]at hc
   split at hc<;>try (cases hc;done)
   rename_i z px py hz hx hy
   cases hc
   simp only[vc]at h
   split at h<;>try exact h.elim
   rename_i t ht
   have hr:=ofX_rel he hz
   rw[ht]at hr
   have hce:a.eval c=.bool t:=by generalize a.eval c=q at hr;cases hr;rfl
   refine wp_cond hce ?_
   cases t with
   | true=>exact ihx px hx _ he hs (by simpa using h)
   | false=>exact ihy py hy _ he hs (by simpa using h)
 | block id c ih=>
   intro pc hc Q G env a st w he hs h
   simp only[compCode]at hc
   obtain⟨px,hx,rfl⟩:=Option.map_eq_some_iff.1 hc
   refine wp_block (wp_mono (ih px hx _ he hs h) fun e a w hq=>?_)
   cases e with
   | exit j=>
     simp only[Exit.inBlock]
     obtain⟨G1,env1,st1,g1,g2,g3,g4⟩:=hq
     simp only at g4
     split
     ·rename_i e
      rw[if_pos e]at g4
      exact⟨G1,env1,st1,g1,g2,g3,g4⟩
     ·rename_i e
      rw[if_neg e]at g4
      exact⟨G1,env1,st1,g1,g2,g3,g4⟩
   | normal=>exact hq
   | ret=>exact hq
   | goto l=>exact hq
   | panic c=>exact hq
   | outgrown=>exact hq
 | loop c ih=>
   intro pc hc Q G env a st w he hs h
   simp only[compCode]at hc
   obtain⟨px,hx,rfl⟩:=Option.map_eq_some_iff.1 hc
   obtain⟨I,μ,h0,hr⟩:=h
   refine wp_loop_ghost (fun k a w=>Stands B w0 G n (fun env' st'=>Same px.writes env env'∧I env' st'∧μ env' st'=k) a w) (μ env st) ⟨G,env,st,G.le_refl,he,hs,Same.refl _ _,h0,rfl⟩ ?_
   rintro k a w ⟨G1,env1,st1,g1,g2,g3,g4,g5,rfl⟩
   have h1:=vc_frame px _ (fun e env2 st2=>Same px.writes env1 env2∧match e with | .normal=>(∃s,St.sub s st2∧I env2 s∧μ env2 s<μ env1 st1) | e=>Q e env2 st2) env1 st1 (fun e env2 st2 hs hq=>⟨hs,hq⟩) (hr env1 st1 g4 g5)
   refine wp_mono (ih px hx _ g2 g3 h1) fun e a w hq=>?_
   cases e with
   | normal=>
     obtain⟨G2,env2,st2,k1,k2,k3,k4,s,k5,k6,k7⟩:=hq
     exact⟨_,k7,G2,env2,s,Gh.le_trans g1 k1,k2,k3.sub k5,g4.trans k4,k6,rfl⟩
   | exit id=>exact(Stands.mono (fun _ _ h=>h.2) hq).le g1
   | ret=>exact(Stands.mono (fun _ _ h=>h.2) hq).le g1
   | goto l=>exact hq
   | panic c=>exact hq
   | outgrown=>exact hq
 | rangeFunc f ps x y _ _=>intro pc hc;cases hc
 | scope c ih=>
   intro pc hc Q G env a st w he hs h
   refine wp_scope_straight (wp_mono (ih pc hc Q he hs h) fun e a w hq=>?_)
   cases e<;>exact hq
 | goto l=>intro pc hc;cases hc
 | refuse s=>intro pc hc;cases hc
theorem res_run {G:Gh}{env:Env}{a:Act}{st:St}{w:World}(he:EnvRel G n env a)(hs:StRel B w0 G st w){r:ResultVar}{p:PR}(hc:compRes P n r=some p){v:V}(hv:resOne env st p=some v):
  ∃x,((match r with | .tmp t=>pure (a.tmps.getD t undef) | .cell ad t=>(do loadVar t (←asAddr (a.tmps.getD ad undef))):Sem Value)).run P w=.ok x w∧VRel G v x:=by
 cases r with
 | tmp t=>
   simp only[compRes]at hc
   split at hc<;>cases hc
   rename_i ht
   cases hv
   exact⟨_,rfl,he.2.2 t ht⟩
 | cell ad t=>
   simp only[compRes]at hc
   split at hc<;>try (cases hc;done)
   rename_i ht
   obtain⟨q,hq,rfl⟩:=Option.map_eq_some_iff.1 hc
   obtain⟨y,h1,h2⟩:=load_sound hs hq (he.2.2 ad ht) hv
   refine⟨y,?_,h2⟩
   obtain⟨c,hcc,hpk⟩:=Option.bind_eq_some_iff.1 hv
   obtain⟨b,o,xs,hx,k1,k2,k3⟩:=ldCells_rel hs (he.2.2 ad ht) hcc
   simp only[hx]at h1⊢
   simpa[Instr.loadAt,Instr.sureAddr,asAddr]using h1
theorem ress_run {G:Gh}{env:Env}{a:Act}{st:St}{w:World}(he:EnvRel G n env a)(hs:StRel B w0 G st w): ∀{l:List ResultVar} {ps:List PR},compRess P n l=some ps→∀{vs:List V},resAll env st ps=some vs→
  ∃xs,(l.mapM (fun r=>(match r with | .tmp t=>pure (a.tmps.getD t undef) | .cell ad t=>(do loadVar t (←asAddr (a.tmps.getD ad undef))):Sem Value))).run P w=.ok xs w∧LRel G vs xs
 | [],ps,hc,vs,hv=>by
   cases hc
   cases hv
   exact⟨[],by simp,rfl,fun i hi=>by simp at hi⟩
 | r::l,ps,hc,vs,hv=>by
   simp only[compRess]at hc
   split at hc<;>try (cases hc;done)
   rename_i p ps' h1 h2
   cases hc
   simp only[resAll]at hv
   obtain⟨v,h3,hv⟩:=Option.bind_eq_some_iff.1 hv
   obtain⟨vs',h4,rfl⟩:=Option.map_eq_some_iff.1 hv
   obtain⟨x,h5,h6⟩:=res_run he hs h1 h3
   obtain⟨xs,h7,h8⟩:=ress_run he hs h2 h4
   refine⟨x::xs,?_,by simp[h8.1],fun i hi=>?_⟩
   ·rw[List.mapM_cons,Sem.run_bind,h5,Result.andThen_ok,Sem.run_bind,h7]
    rfl
   ·cases i with
    | zero=>exact h6
    | succ i=>exact h8.2 i (by simpa using hi)
theorem results_run {G:Gh}{env:Env}{a:Act}{st:St}{w:World}(he:EnvRel G n env a)(hs:StRel B w0 G st w){fn:Func}{ps:List PR}(hc:compRess P n fn.results.toList=some ps){v:V}(hv:resV env st ps=some v):
  ∃x,(results fn a.tmps).run P w=.ok x w∧VRel G v x:=by
 obtain⟨vs,h1,rfl⟩:=Option.map_eq_some_iff.1 hv
 obtain⟨xs,h2,h3⟩:=ress_run he hs hc h1
 unfold results
 rw[Array.mapM_eq_mapM_toList]
 have hrun: ∀(f:ResultVar→Sem Value),(fn.results.toList.mapM f).run P w=.ok xs w→((do let vs ←List.toArray<$>fn.results.toList.mapM f;pure (if h:vs.size=1 then vs[0]else .tuple vs)):Sem Value).run P w=.ok (if h:xs.toArray.size=1 then xs.toArray[0]else .tuple xs.toArray) w:=by
  intro f hf
  simp only[map_eq_pure_bind,bind_assoc,pure_bind,Sem.run_bind,hf,Result.andThen_ok,Sem.run_pure]
 refine⟨_,hrun _ ?_,?_⟩
 ·exact h2
 ·match vs,xs,h3 with
  | [],[],_=>exact .tup _ _ rfl fun i hi=>by simp at hi
  | [v],[x],h=>exact h.2 0 (by simp)
  | v::u::l,x::y::m,h=>
    have:¬((x::y::m).toArray.size=1):=by simp
    rw[dif_neg this]
    refine .tup _ _ (by have:=h.1;simpa using this) fun i hi=>?_
    have:=h.2 i hi
    rw[getD_toList]
    simpa using this
  | [],x::_,h=>exact absurd h.1 (by simp)
  | [v],[],h=>exact absurd h.1 (by simp)
  | [v],x::y::m,h=>exact absurd h.1 (by simp)
  | v::u::l,[],h=>exact absurd h.1 (by simp)
  | v::u::l,[x],h=>exact absurd h.1 (by simp)
theorem argEnv_getD: ∀(l:List V) (t:Nat),argEnv l t=l.getD t .junk
 | [],t=>by simp[argEnv]
 | v::l,0=>rfl
 | v::l,t+1=>by rw[argEnv,argEnv_getD l t];rfl
theorem acalls_of_shows (hm:P.follows .mixedOrders=true){f:FuncId}{F:PF}(hc:compFn P an f=some F){args:List V}{st:St}{R:V→St→Prop}(hl:args.length≤F.n)(h:F.shows P args st R):ACalls P f args st R:=by
 unfold compFn at hc
 split at hc<;>try (cases hc;done)
 rename_i fn hf
 split at hc<;>try (cases hc;done)
 rename_i c hb
 split at hc<;>try (cases hc;done)
 rename_i pc rs h1 h2
 cases hc
 intro fr hd B w0 G w xs hs ha
 refine calls_of_wp hf hb ?_
 have he:EnvRel G fn.ntmps (argEnv args) {tmps:=xs.toArray++Array.replicate (fn.ntmps-xs.toArray.size) undef,defers:=[]}:=by
  have hlen:xs.length=args.length:=ha.1
  have hl':args.length≤fn.ntmps:=hl
  refine⟨by simp;omega,rfl,fun t ht=>?_⟩
  rw[argEnv_getD]
  by_cases hta:t<args.length
  ·have:=ha.2 t hta
   have e:(xs.toArray++Array.replicate (fn.ntmps-xs.toArray.size) undef).getD t undef=xs.getD t undef:=by
    rw[Array.getD_eq_getD_getElem?,Array.getElem?_append_left (by simp;omega),List.getD_eq_getElem?_getD]
    simp
   rw[e]
   exact this
  ·rw[List.getD_eq_getElem?_getD,List.getElem?_eq_none (by omega)]
   exact .junk _
 refine wp_mono (code_sound hm c pc h1 _ he hs (vc_beside pc _ _ _ hd h)) fun e a w' hq=>?_
 have fin: ∀(Q:Env→St→Prop),(∀env st',Q env st'→match resV env st' rs with | some v=>∃s,St.sub s st'∧R v s | none=>False)→Stands B w0 G fn.ntmps (Beside fr Q) a w'→a.defers=[]∧∃v,(results fn a.tmps).run P w'=.ok v w'∧∃v' x G' st',Ending.returned v=.returned x∧G.le G'∧VRel G' v' x∧Disj st' fr∧StRel B w0 G' (st'.add fr) w'∧R v' st':=by
  rintro Q hQ ⟨G1,env1,st1,g1,g2,g3,st2,g4,rfl,g5⟩
  have h5:=hQ _ _ g5
  split at h5<;>try exact h5.elim
  rename_i v hv
  obtain⟨s,hsub,hR⟩:=h5
  obtain⟨x,h6,h7⟩:=results_run g2 (g3.sub (sub_add st2 fr)) h2 hv
  exact⟨g2.2.1,x,h6,v,x,G1,s,rfl,g1,h7,g4.sub hsub,g3.sub (sub_add_sub hsub g4),hR⟩
 cases e with
 | normal=>exact fin _ (fun env st' hq=>hq.2) hq
 | ret=>exact fin _ (fun env st' hq=>hq.2) hq
 | exit id=>
   obtain⟨G1,env1,st1,g1,g2,g3,st2,g4,rfl,g5⟩:=hq
   rcases g5.1 with e | e<;>cases e
 | goto l=>exact hq.elim
 | panic c=>exact hq.elim
 | outgrown=>exact hq.elim
end
end Go.Ab
namespace Go.Ab
open Go Go.RowKit
@[simp] theorem env_upd (e:Env)(d t:Nat)(v:V):(e.upd d v) t=if t=d then v else e t:=_root_.id rfl
@[simp] theorem env_put_some (e:Env)(d:Nat)(v:V):e.put (some d) v=e.upd d v:=_root_.id rfl
@[simp] theorem env_put_none (e:Env)(v:V):e.put none v=e:=_root_.id rfl
@[simp] theorem st_upd (s:St)(i j:Nat)(o:AObj):(s.upd i o) j=if j=i then some o else s j:=_root_.id rfl
theorem ne_id {st:St}{i j:Nat}{o:AObj}(h:st i=some o)(k:st j=none):i≠j:=fun e=>by subst e;rw[h]at k;cases k
theorem sub_upd {st:St}{i:Nat}{o:AObj}(h:st i=none):St.sub st (st.upd i o):=fun j x hx=>by
 simp[ne_id hx h,hx]
theorem seg_at {st:St}{id off n sz:Nat}{rows:List V}(h:st.seg id off (n*sz)=some rows){i:Nat}(hi:i<n):st.seg id (off+i*sz) sz=some ((rows.drop (i*sz)).take sz):=by
 have hle:i*sz+sz≤n*sz:=by rw[←Nat.succ_mul];exact Nat.mul_le_mul_right _ hi
 have key: ∀cs:List V,segOf cs off (n*sz)=some rows→segOf cs (off+i*sz) sz=some ((rows.drop (i*sz)).take sz):=fun cs hc=>by
  unfold segOf at *
  split at hc<;>cases hc
  rw[if_pos (by omega),List.drop_take,List.drop_drop,List.take_take,Nat.min_eq_left (by omega)]
 unfold St.seg at *
 split at h<;>first | exact key _ h | cases h
theorem wrap64 {x:Int}(h0:-9223372036854775808≤x)(h1:x≤9223372036854775807):IntKind.i64.wrap x=x:=by
 simp only[IntKind.wrap,IntKind.signed,IntKind.bits]
 simp
 omega
@[simp] theorem wrap_lit (n:Nat)(h:n≤9223372036854775807):IntKind.i64.wrap (no_index (@OfNat.ofNat Int n instOfNat))=@OfNat.ofNat Int n instOfNat:=by
  have:(@OfNat.ofNat Int n instOfNat:Int)=(n:Int):=rfl
  rw[this]
  exact wrap64 (by omega) (by omega)
@[simp] theorem wrap_neg_lit (n:Nat)(h:n≤9223372036854775807):IntKind.i64.wrap (-(no_index (@OfNat.ofNat Int n instOfNat)))=-(@OfNat.ofNat Int n instOfNat):=by
  have:(@OfNat.ofNat Int n instOfNat:Int)=(n:Int):=rfl
  rw[this]
  exact wrap64 (by omega) (by omega)
@[simp] theorem sub_self (st:St):St.sub st st:=St.sub_refl st
@[simp] theorem upd_upd (s:St)(i:Nat)(a b:AObj):(s.upd i a).upd i b=s.upd i b:=by
  funext j
  by_cases e:j=i<;>simp[e]
theorem sub_trans {a b c:St}(h:St.sub a b)(k:St.sub b c):St.sub a c:=fun i o e=>k i o (h i o e)
@[simp] theorem natOf_cast (k:IntKind)(n:Nat):natOf (.int k (n:Int))=some n:=by simp[natOf]
@[simp] theorem natOf_lit (k:IntKind)(n:Nat):natOf (.int k (no_index (@OfNat.ofNat Int n instOfNat)))=some n:=by
  have:(@OfNat.ofNat Int n instOfNat:Int)=(n:Int):=rfl
  rw[this]
  exact natOf_cast k n
@[simp] theorem boundOf_none (env:Env)(n:Nat):boundOf env n none=some n:=_root_.id rfl
@[simp] theorem boundOf_some (env:Env)(n:Nat)(x:X):boundOf env n (some x)=natOf (x.ev env):=_root_.id rfl
@[simp] theorem ld_ptr (st:St)(sz id o:Nat):ldCells st sz (.ptr (some (id,o)))=st.seg id o sz:=_root_.id rfl
@[simp] theorem ld_eptr (st:St)(sz:Nat)(cs:List V):ldCells st sz (.eptr cs)=segOf cs 0 sz:=_root_.id rfl
attribute [simp] argEnv X.ev packV nilckV notV binI extV
@[simp] theorem fldA_ptr (off id o:Nat):fldAV off (.ptr (some (id,o)))=some (.ptr (some (id,o+off))):=_root_.id rfl
@[simp] theorem fldA_eptr (off:Nat)(cs:List V):fldAV off (.eptr cs)=some (.eptr (cs.drop off)):=_root_.id rfl
@[simp] theorem cells_agg (cs:List V):(V.agg cs).cells? =some cs:=_root_.id rfl
@[simp] theorem cells_bool (b:Bool):(V.bool b).cells? =some [.bool b]:=_root_.id rfl
@[simp] theorem cells_int (k:IntKind)(n:Int):(V.int k n).cells? =some [.int k n]:=_root_.id rfl
@[simp] theorem cells_ptr (p:Option (Nat×Nat)):(V.ptr p).cells? =some [.ptr p]:=_root_.id rfl
@[simp] theorem cells_sl (k:SK)(cs:List V)(n:Nat):(V.sl k cs n).cells? =some [.sl k cs n]:=_root_.id rfl
@[simp] theorem cells_hsl (a b c d:Nat):(V.hsl a b c d).cells? =some [.hsl a b c d]:=_root_.id rfl
@[simp] theorem cells_map (m:Option Nat):(V.map m).cells? =some [.map m]:=_root_.id rfl
@[simp] theorem binV_int (op:BinOp)(k k':IntKind)(a b:Int):binV op (.int k a) (.int k' b)=(match op with
 | .shl=>if b<0 then none else some (.int k (k.wrap (a*2 ^ (Nat.min b.toNat k.bits))))
 | .shr=>if b<0 then none else some (.int k (a.fdiv (2 ^ (Nat.min b.toNat k.bits))))
 | op=>if k=k' then binI op k a b else none):=_root_.id rfl
@[simp] theorem binV_str (op:BinOp)(a b:ByteArray):binV op (.str a) (.str b)=(match op with | .eql=>some (.bool (a==b)) | .neq=>some (.bool (a != b)) | .add=>if a.size+b.size≤1000000000 then some (.str (a++b))else none | _=>none):=_root_.id rfl
@[simp] theorem lenSlV_sl (k:SK)(cs:List V)(n:Nat):lenSlV (.sl k cs n)=some (.int .i64 n):=_root_.id rfl
@[simp] theorem lenSlV_hsl (id off sz n:Nat):lenSlV (.hsl id off sz n)=some (.int .i64 n):=_root_.id rfl
@[simp] theorem idxSlV_sl (sz:Nat)(k:SK)(cs:List V)(n:Nat)(kd:IntKind)(i:Int):idxSlV sz (.sl k cs n) (.int kd i)=if 0≤i∧i<n then some (.eptr (cs.drop (i.toNat*sz)))else none:=_root_.id rfl
@[simp] theorem idxSlV_hsl (sz id off sz' n:Nat)(kd:IntKind)(i:Int):idxSlV sz (.hsl id off sz' n) (.int kd i)=if sz'=sz∧0≤i∧i<n then some (.ptr (some (id,off+i.toNat*sz)))else none:=_root_.id rfl
def onV (v:Option V)(K:V→St→Prop)(st:St):Prop:=match v with | some v=>K v st | none=>False
@[simp] theorem onV_some (v:V)(K:V→St→Prop)(st:St):onV (some v) K st=K v st:=_root_.id rfl
def onS (s:Option St)(K:V→St→Prop):Prop:=match s with | some s=>K .junk s | none=>False
@[simp] theorem onS_some (s:St)(K:V→St→Prop):onS (some s) K=K .junk s:=_root_.id rfl
def mkNew (ob:AObj)(mk:Nat→V)(K:V→St→Prop)(st:St):Prop:=∀id,st id=none→K (mk id) (st.upd id ob)
def mkBox (cs:Option (List V))(mk:Nat→V)(K:V→St→Prop)(st:St):Prop:=match cs with | some cs=>mkNew (.cells cs) mk K st | none=>False
@[simp] theorem mkBox_some (cs:List V)(mk:Nat→V)(K:V→St→Prop)(st:St):mkBox (some cs) mk K st=mkNew (.cells cs) mk K st:=_root_.id rfl
section
variable (P:Program)
def runK (l:List PO)(d:Option Nat)(env:Env)(K:Env→St→Prop):V→St→Prop:=fun v st'=>runP P l (env.put d v) st' K
@[simp] theorem runK_ap (l:List PO)(d:Option Nat)(env:Env)(K:Env→St→Prop)(v:V)(st:St):runK P l d env K v st=runP P l (env.put d v) st K:=_root_.id rfl
def gdB (v:V)(b:Bool)(o:POp)(d:Option Nat)(l:List PO)(env:Env)(st:St)(K:Env→St→Prop):Prop:=match v with
 | .bool c=>if c=b then stepP P o env st (runK P l d env K)else runP P l (env.put d (.tup [])) st K
 | .tup _=>runP P l (env.put d (.tup [])) st K
 | _=>False
@[simp] theorem gdB_tt (o:POp)(d:Option Nat)(l:List PO)(env:Env)(st:St)(K:Env→St→Prop):gdB P (.bool true) true o d l env st K=stepP P o env st (runK P l d env K):=_root_.id rfl
@[simp] theorem gdB_ff (o:POp)(d:Option Nat)(l:List PO)(env:Env)(st:St)(K:Env→St→Prop):gdB P (.bool false) false o d l env st K=stepP P o env st (runK P l d env K):=_root_.id rfl
@[simp] theorem gdB_tf (o:POp)(d:Option Nat)(l:List PO)(env:Env)(st:St)(K:Env→St→Prop):gdB P (.bool true) false o d l env st K=runP P l (env.put d (.tup [])) st K:=_root_.id rfl
@[simp] theorem gdB_ft (o:POp)(d:Option Nat)(l:List PO)(env:Env)(st:St)(K:Env→St→Prop):gdB P (.bool false) true o d l env st K=runP P l (env.put d (.tup [])) st K:=_root_.id rfl
@[simp] theorem gdB_un (vs:List V)(b:Bool)(o:POp)(d:Option Nat)(l:List PO)(env:Env)(st:St)(K:Env→St→Prop):gdB P (.tup vs) b o d l env st K=runP P l (env.put d (.tup [])) st K:=_root_.id rfl
@[simp] theorem runP_nil (env:Env)(st:St)(K:Env→St→Prop):runP P [] env st K=K env st:=_root_.id rfl
@[simp] theorem runP_cons0 (d:Option Nat)(o:POp)(l:List PO)(env:Env)(st:St)(K:Env→St→Prop):runP P (⟨d,o,none⟩::l) env st K=stepP P o env st (runK P l d env K):=_root_.id rfl
@[simp] theorem runP_cons1 (d:Option Nat)(o:POp)(t:Nat)(b:Bool)(l:List PO)(env:Env)(st:St)(K:Env→St→Prop):runP P (⟨d,o,some (t,b)⟩::l) env st K=gdB P (env t) b o d l env st K:=_root_.id rfl
def runDK (l:List (Cls×PO))(d:Option Nat)(env:Env)(K:Env→St→Prop):V→St→Prop:=fun v st'=>runD P l (env.put d v) st' K
@[simp] theorem runDK_ap (l:List (Cls×PO))(d:Option Nat)(env:Env)(K:Env→St→Prop)(v:V)(st:St):runDK P l d env K v st=runD P l (env.put d v) st K:=_root_.id rfl
def stillV (o:POp)(env:Env)(st:St)(K:V→St→Prop):Prop:=stillP P o env st fun v=>K v st
def gdD (v:V)(b:Bool)(c:Cls)(o:POp)(d:Option Nat)(l:List (Cls×PO))(env:Env)(st:St)(K:Env→St→Prop):Prop:=match v with
 | .bool t=>if t=b then runD P ((c,⟨d,o,none⟩)::l) env st K else runD P l (env.put d (.tup [])) st K
 | .tup _=>runD P l (env.put d (.tup [])) st K
 | _=>False
@[simp] theorem gdD_tt (c:Cls)(o:POp)(d:Option Nat)(l:List (Cls×PO))(env:Env)(st:St)(K:Env→St→Prop):gdD P (.bool true) true c o d l env st K=runD P ((c,⟨d,o,none⟩)::l) env st K:=_root_.id rfl
@[simp] theorem gdD_ff (c:Cls)(o:POp)(d:Option Nat)(l:List (Cls×PO))(env:Env)(st:St)(K:Env→St→Prop):gdD P (.bool false) false c o d l env st K=runD P ((c,⟨d,o,none⟩)::l) env st K:=_root_.id rfl
@[simp] theorem gdD_tf (c:Cls)(o:POp)(d:Option Nat)(l:List (Cls×PO))(env:Env)(st:St)(K:Env→St→Prop):gdD P (.bool true) false c o d l env st K=runD P l (env.put d (.tup [])) st K:=_root_.id rfl
@[simp] theorem gdD_ft (c:Cls)(o:POp)(d:Option Nat)(l:List (Cls×PO))(env:Env)(st:St)(K:Env→St→Prop):gdD P (.bool false) true c o d l env st K=runD P l (env.put d (.tup [])) st K:=_root_.id rfl
@[simp] theorem runD_nil (env:Env)(st:St)(K:Env→St→Prop):runD P [] env st K=K env st:=_root_.id rfl
@[simp] theorem runD_x (d:Option Nat)(o:POp)(l:List (Cls×PO))(env:Env)(st:St)(K:Env→St→Prop):runD P ((.x,⟨d,o,none⟩)::l) env st K=stepP P o env st (runDK P l d env K):=_root_.id rfl
@[simp] theorem runD_a (d:Option Nat)(o:POp)(l:List (Cls×PO))(env:Env)(st:St)(K:Env→St→Prop):runD P ((.a,⟨d,o,none⟩)::l) env st K=stepP P o env st (runDK P l d env K):=_root_.id rfl
@[simp] theorem runD_e (d:Option Nat)(o:POp)(l:List (Cls×PO))(env:Env)(st:St)(K:Env→St→Prop):runD P ((.e,⟨d,o,none⟩)::l) env st K=stillV P o env st (runDK P l d env K):=_root_.id rfl
@[simp] theorem runD_s (d:Option Nat)(o:POp)(l:List (Cls×PO))(env:Env)(st:St)(K:Env→St→Prop):runD P ((.s,⟨d,o,none⟩)::l) env st K=stillV P o env st (runDK P l d env K):=_root_.id rfl
@[simp] theorem runD_g (c:Cls)(d:Option Nat)(o:POp)(t:Nat)(b:Bool)(l:List (Cls×PO))(env:Env)(st:St)(K:Env→St→Prop):runD P ((c,⟨d,o,some (t,b)⟩)::l) env st K=gdD P (env t) b c o d l env st K:=by cases c<;>rfl
variable (env:Env) (st:St) (K:V→St→Prop)
@[simp] theorem step_mv (x:X):stepP P (.mv x) env st K=K (x.ev env) st:=_root_.id rfl
def pickV (c a b:V):Option V:=match c with | .bool t=>some (if t then a else b) | _=>none
@[simp] theorem pickV_bool (t:Bool)(a b:V):pickV (.bool t) a b=some (if t then a else b):=_root_.id rfl
@[simp] theorem step_pick (c a b:X):stepP P (.pick c a b) env st K=onV (pickV (c.ev env) (a.ev env) (b.ev env)) K st:=by
  show(match(match c.ev env with | .bool t=>some (if t then a.ev env else b.ev env) | _=>none)with | some v=>K v st | none=>False)=_
  unfold pickV onV
  rfl
@[simp] theorem step_nilck (x:X):stepP P (.nilck x) env st K=onV (nilckV (x.ev env)) K st:=_root_.id rfl
@[simp] theorem step_bin (op:BinOp)(x y:X):stepP P (.bin op x y) env st K=onV (binV op (x.ev env) (y.ev env)) K st:=_root_.id rfl
@[simp] theorem step_eqa (e:EK)(neg:Bool)(x y:X):stepP P (.eqa e neg x y) env st K=onV ((eqK e (x.ev env) (y.ev env)).map fun b=>.bool (if neg then !b else b)) K st:=_root_.id rfl
@[simp] theorem step_not (x:X):stepP P (.not x) env st K=onV (notV (x.ev env)) K st:=_root_.id rfl
@[simp] theorem step_inv (x:X):stepP P (.inv x) env st K=onV (invV (x.ev env)) K st:=_root_.id rfl
@[simp] theorem step_conv (k:IntKind)(x:X):stepP P (.conv k x) env st K=onV (convV k (x.ev env)) K st:=_root_.id rfl
@[simp] theorem step_toStr (x:X):stepP P (.toStr x) env st K=onV (toStrV st (x.ev env)) K st:=_root_.id rfl
@[simp] theorem step_fldA (o:Nat)(x:X):stepP P (.fldA o x) env st K=onV (fldAV o (x.ev env)) K st:=_root_.id rfl
@[simp] theorem step_fld (ag:Bool)(o s:Nat)(x:X):stepP P (.fld ag o s x) env st K=onV (fldV ag o s (x.ev env)) K st:=_root_.id rfl
@[simp] theorem step_idxArr (n s:Nat)(x i:X):stepP P (.idxArr n s x i) env st K=onV (idxArrV n s (x.ev env) (i.ev env)) K st:=_root_.id rfl
@[simp] theorem step_idxSl (s:Nat)(x i:X):stepP P (.idxSl s x i) env st K=onV (idxSlV s (x.ev env) (i.ev env)) K st:=_root_.id rfl
@[simp] theorem step_idx (n:Nat)(ag:Bool)(s:Nat)(x i:X):stepP P (.idx n ag s x i) env st K=onV (idxV n ag s (x.ev env) (i.ev env)) K st:=_root_.id rfl
@[simp] theorem step_idxStr (x i:X):stepP P (.idxStr x i) env st K=onV (idxStrV (x.ev env) (i.ev env)) K st:=_root_.id rfl
@[simp] theorem step_load (ag:Bool)(s:Nat)(x:X):stepP P (.load ag s x) env st K=onV ((ldCells st s (x.ev env)).bind (packV ag)) K st:=_root_.id rfl
@[simp] theorem step_build (z:List V)(ps:List (Nat×Nat×X)):stepP P (.build z ps) env st K=onV ((fillV z (ps.map fun p=>(p.1,p.2.1,p.2.2.ev env))).map V.agg) K st:=_root_.id rfl
@[simp] theorem step_bsl (s n:Nat)(z:List V)(ps:List (Nat×Nat×X)):stepP P (.bsl false s n z ps) env st K=onV ((fillV (repV z n) (ps.map fun p=>(p.1,p.2.1,p.2.2.ev env))).map fun cs=>.sl .full cs n) K st:=_root_.id rfl
@[simp] theorem step_slStr (x:X)(lo hi:Option X):stepP P (.slStr x lo hi) env st K=onV (opV (.slStr x lo hi) env st) K st:=_root_.id rfl
@[simp] theorem step_sl (s:Nat)(x:X)(lo hi mx:Option X):stepP P (.sl s x lo hi mx) env st K=onV (slV env s lo hi mx (x.ev env)) K st:=_root_.id rfl
@[simp] theorem step_slArr (al:Bool)(n s:Nat)(x:X)(lo hi:Option X):stepP P (.slArr al n s x lo hi) env st K=onV (slArrV st env al n s lo hi (x.ev env)) K st:=_root_.id rfl
@[simp] theorem ldE_eptr (sz:Nat)(cs:List V):ldE sz (.eptr cs)=segOf cs 0 sz:=_root_.id rfl
@[simp] theorem step_loadE (ag:Bool)(s:Nat)(x:X):stepP P (.loadE ag s x) env st K=onV ((ldE s (x.ev env)).bind (packV ag)) K st:=_root_.id rfl
@[simp] theorem step_carry (neg:Bool)(x y c:X):stepP P (.carry neg x y c) env st K=onV (carryV neg (x.ev env) (y.ev env) (c.ev env)) K st:=_root_.id rfl
@[simp] theorem step_lenSl (x:X):stepP P (.lenSl x) env st K=onV (lenSlV (x.ev env)) K st:=_root_.id rfl
@[simp] theorem step_lenMap (x:X):stepP P (.lenMap x) env st K=onV (lenMapV st (x.ev env)) K st:=_root_.id rfl
@[simp] theorem step_ext (i:Nat)(x:X):stepP P (.ext i x) env st K=onV (extV i (x.ev env)) K st:=_root_.id rfl
@[simp] theorem step_max (x:X)(l:List X):stepP P (.max (x::l)) env st K=onV (foldV max2V (x.ev env) (l.map fun x=>X.ev env x)) K st:=_root_.id rfl
@[simp] theorem step_min (x:X)(l:List X):stepP P (.min (x::l)) env st K=onV (foldV min2V (x.ev env) (l.map fun x=>X.ev env x)) K st:=_root_.id rfl
@[simp] theorem step_lookup (kk:KK)(z:V)(ok:Bool)(m k:X):stepP P (.lookup kk z ok m k) env st K=onV (lookupV st kk z ok (m.ev env) (k.ev env)) K st:=_root_.id rfl
@[simp] theorem step_store (s:Nat)(a v:X):stepP P (.store s a v) env st K=onS (storeS st s (a.ev env) (v.ev env)) K:=_root_.id rfl
@[simp] theorem step_estore (m s v:X):stepP P (.estore m s v) env st K=onS (entS st (m.ev env) (s.ev env) (v.ev env)) K:=_root_.id rfl
@[simp] theorem step_mset (kk:KK)(m k v:X):stepP P (.mset kk m k v) env st K=onS (msetS st kk (m.ev env) (k.ev env) (v.ev env)) K:=_root_.id rfl
@[simp] theorem step_mdel (kk:KK)(m k:X):stepP P (.mdel kk m k) env st K=onS (mdelS st kk (m.ev env) (k.ev env)) K:=_root_.id rfl
@[simp] theorem step_alloc (z:List V):stepP P (.alloc z) env st K=mkNew (.cells z) (fun id=>.ptr (some (id,0))) K st:=_root_.id rfl
@[simp] theorem step_mkmap:stepP P .mkmap env st K=mkNew (.mp []) (fun id=>.map (some id)) K st:=_root_.id rfl
@[simp] theorem step_box (x:X):stepP P (.box x) env st K=mkBox ((x.ev env).cells?) (fun id=>.ptr (some (id,0))) K st:=by
  show(match((x.ev env).cells?.map fun cs=>((AObj.cells cs,fun id=>V.ptr (some (id,0))):AObj×(Nat→V)))with | some (ob,mk)=>∀id,st id=none→K (mk id) (st.upd id ob) | none=>False)=_
  cases (x.ev env).cells?<;>rfl
@[simp] theorem step_call (f:FuncId)(l:List X):stepP P (.call f l) env st K=ACalls P f (l.map fun x=>X.ev env x) st K:=_root_.id rfl
def appS (sz bytes:Nat)(x:V)(e:Option (List V×Nat))(st:St)(K:V→St→Prop):Prop:=
 match e with
 | none=>False
 | some (ys,m)=>
   match x with
   | .sl k cs n=>
     (k=.nil∨k=.full)∧cs.length=n*sz∧(n+m)*bytes≤140737488355328∧
     (m=0→K (.sl k cs n) st)∧(m≠0→mkNew (.cells (cs++ys)) (fun id=>.hsl id 0 sz (n+m)) K st)
   | .hsl id off sz' n=>
     match st id with
     | some (.cells cs)=>
       sz'=sz∧(n+m)*bytes≤140737488355328∧
       if off+(n+m)*sz≤cs.length then K (.hsl id off sz (n+m)) (st.upd id (.cells (spliceV cs (off+n*sz) ys)))
       else off=0∧cs.length=n*sz∧mkNew (.cells (cs++ys)) (fun id=>.hsl id 0 sz (n+m)) K (st.del id)
     | _=>False
   | _=>False
@[simp] theorem step_app (sz b:Nat)(x y:X):stepP P (.app sz b x y) env st K=appS sz b (x.ev env) (elems st sz (y.ev env)) st K:=by
  simp only[stepP,appS,mkNew]
  cases elems st sz (y.ev env)with
  | none=>rfl
  | some q=>cases (x.ev env)<;>rfl
theorem app_nil {sz b:Nat}{k:SK}{ys:List V}{m:Nat}(hk:k=.nil∨k=.full)(hm:m≠0)(hb:m*b≤140737488355328)(h:mkNew (.cells ys) (fun id=>.hsl id 0 sz m) K st):appS sz b (.sl k [] 0) (some (ys,m)) st K:=
 ⟨hk,by simp,by simpa using hb,fun e=>absurd e hm,fun _=>by simpa using h⟩
theorem app_room {sz b id off n:Nat}{cs ys:List V}{m:Nat}(hs:st id=some (.cells cs))(hb:(n+m)*b≤140737488355328)(hr:off+(n+m)*sz≤cs.length)(h:K (.hsl id off sz (n+m)) (st.upd id (.cells (spliceV cs (off+n*sz) ys)))):appS sz b (.hsl id off sz n) (some (ys,m)) st K:=by
 simp only[appS,hs]
 refine⟨trivial,hb,?_⟩
 rw[if_pos hr]
 exact h
theorem app_grow {sz b id n:Nat}{cs ys:List V}{m:Nat}(hs:st id=some (.cells cs))(hb:(n+m)*b≤140737488355328)(hl:cs.length=n*sz)(hr:cs.length< (n+m)*sz)(h:mkNew (.cells (cs++ys)) (fun id=>.hsl id 0 sz (n+m)) K (st.del id)):appS sz b (.hsl id 0 sz n) (some (ys,m)) st K:=by
 simp only[appS,hs]
 refine⟨trivial,hb,?_⟩
 rw[if_neg (by omega)]
 exact⟨trivial,hl,h⟩
def appnS (sz bytes:Nat)(x:V)(e:Option (List V×Nat))(K:V→Prop):Prop:=
 match e with
 | none=>False
 | some (ys,m)=>
   match x with
   | .sl k cs n=>
     (k=.nil∨k=.full)∧cs.length=n*sz∧(n+m)*bytes≤140737488355328∧(m=0→K (.sl k cs n))∧(m≠0→K (.sl .some (cs++ys) (n+m)))
   | _=>False
@[simp] theorem step_appn (sz b:Nat)(x y:X):stepP P (.appn sz b x y) env st K=appnS sz b (x.ev env) (elems st sz (y.ev env)) fun v=>K v st:=by
  simp only[stepP,appnS]
  generalize x.ev env=xv
  cases elems st sz (y.ev env)<;>cases xv<;>rfl
def appzS (sz bytes:Nat)(x:V)(e:Option (List V×Nat))(st:St)(K:V→St→Prop):Prop:=
 match e with
 | none=>False
 | some (ys,m)=>
   match x with
   | .sl k cs n=>
     (k=.nil∨k=.full)∧cs.length=n*sz∧(n+m)*bytes≤140737488355328∧(m=0→K (.sl k cs n) st)∧(m≠0→K (.sl .some (cs++ys) (n+m)) st)
   | .hsl id off sz' n=>
     match st id with
     | some (.cells cs)=>
       sz'=sz∧(n+m)*bytes≤140737488355328∧off=0∧n*sz≤cs.length∧
       K (.sl .some (cs.take (n*sz)++ys) (n+m)) (st.upd id (.ro (cs.take (n*sz)++List.replicate (cs.length-n*sz) .junk)))
     | _=>False
   | _=>False
@[simp] theorem step_appz (sz b:Nat)(x y:X):stepP P (.appz sz b x y) env st K=appzS sz b (x.ev env) (elems st sz (y.ev env)) st K:=by
  simp only[stepP,appzS]
  rfl
def rngMapS (v:V)(st:St)(K:V→St→Prop):Prop:=
 match v with
 | .map none=>∀it,st it=none→K (.ptr (some (it,0))) (st.upd it (.mit none 0 [] 0))
 | .map (some id)=>
   match st id with
   | some (.mp es)=>∀it,st it=none→∀(bs:List Nat) (clk:Nat),bs.length=es.length→bs.Pairwise (· < ·)→(∀b∈bs,b<clk)→K (.ptr (some (it,0))) ((st.upd id (.mpi es bs clk)).upd it (.mit (some id) clk [] clk))
   | _=>False
 | _=>False
@[simp] theorem step_rngMap (x:X):stepP P (.rngMap x) env st K=rngMapS (x.ev env) st K:=by
  simp only[stepP,rngMapS]
  rfl
def mentS (kk:KK)(zero:V)(m k:V)(st:St)(K:V→St→Prop):Prop:=
 match m with
 | .map (some id)=>
   match st id with
   | some (.mp es)=>isKey kk k=true∧∀(bs:List Nat) (clk:Nat),bs.length=es.length→bs.Pairwise (· < ·)→(∀b∈bs,b<clk)→
      match mfindI kk k es 0 with
      | some (some i)=>K (.tup [(es.getD i default).2,.int .i64 ((bs.getD i 0:Nat):Int)]) (st.upd id (.mpi (es.set i (k,(es.getD i default).2)) bs clk))
      | some none=>K (.tup [zero,.int .i64 (clk:Int)]) (st.upd id (.mpi (es++[(k,zero)]) (bs++[clk]) (clk+1)))
      | none=>False
   | _=>False
 | _=>False
@[simp] theorem step_ment (kk:KK)(zero:V)(m k:X):stepP P (.ment kk zero m k) env st K=mentS kk zero (m.ev env) (k.ev env) st K:=_root_.id rfl
def nextMapS (v:V)(st:St)(K:V→St→Prop):Prop:=
 match v with
 | .ptr (some (it,0))=>
   match st it with
   | some (.mit none _ _ _)=>K (.tup [.bool false]) st
   | some (.mit (some id) since seen stp)=>
     match st id with
     | some (.mpi es bs clk)=>(∀b∈bs,b<since)∧since≤stp∧bs.length=es.length∧((∀b∈bs,b∈seen)→K (.tup [.bool false]) st)∧
        ∀i,i<es.length→bs.getD i 0∉seen→K (.tup [.bool true,(es.getD i default).1,(es.getD i default).2]) (st.upd it (.mit (some id) since (seen++[bs.getD i 0]) clk))
     | _=>False
   | _=>False
 | _=>False
@[simp] theorem step_nextMap (x:X):stepP P (.nextMap x) env st K=nextMapS (x.ev env) st K:=by
  simp only[stepP,nextMapS]
  rfl
@[simp] theorem step_entry (x:X):stepP P (.entry x) env st K=onV (entryV st (x.ev env)) K st:=_root_.id rfl
def mkslS (ob:Bool)(sz b:Nat)(z:List V)(l c:Option Nat)(st:St)(K:V→St→Prop):Prop:=
 match l,c with
 | some n,some c=>n≤c∧c*b≤140737488355328∧z.length=sz∧(if ob then mkNew (.cells (repV z n)) (fun id=>.hsl id 0 sz n) K st else K (.sl .some (repV z n) n) st)
 | _,_=>False
@[simp] theorem step_mksl (ob:Bool)(sz b:Nat)(z:List V)(l c:X):stepP P (.mksl ob sz b z l c) env st K=mkslS ob sz b z (natOf (l.ev env)) (natOf (c.ev env)) st K:=by
  show(match natOf (l.ev env),natOf (c.ev env)with | some n,some c=>n≤c∧c*b≤140737488355328∧z.length=sz∧(if ob then∀id,st id=none→K (.hsl id 0 sz n) (st.upd id (.cells (repV z n)))else K (.sl .some (repV z n) n) st) | _,_=>False)=_
  unfold mkslS mkNew
  cases natOf (l.ev env)<;>cases natOf (c.ev env)<;>rfl
@[simp] theorem still_mv (x:X):stillV P (.mv x) env st K=K (x.ev env) st:=_root_.id rfl
@[simp] theorem still_pick (c a b:X):stillV P (.pick c a b) env st K=onV (pickV (c.ev env) (a.ev env) (b.ev env)) K st:=step_pick P env st K c a b
@[simp] theorem still_nilck (x:X):stillV P (.nilck x) env st K=onV (nilckV (x.ev env)) K st:=_root_.id rfl
@[simp] theorem still_bin (op:BinOp)(x y:X):stillV P (.bin op x y) env st K=onV (binV op (x.ev env) (y.ev env)) K st:=_root_.id rfl
@[simp] theorem still_eqa (e:EK)(neg:Bool)(x y:X):stillV P (.eqa e neg x y) env st K=onV ((eqK e (x.ev env) (y.ev env)).map fun b=>.bool (if neg then !b else b)) K st:=_root_.id rfl
@[simp] theorem still_not (x:X):stillV P (.not x) env st K=onV (notV (x.ev env)) K st:=_root_.id rfl
@[simp] theorem still_inv (x:X):stillV P (.inv x) env st K=onV (invV (x.ev env)) K st:=_root_.id rfl
@[simp] theorem still_conv (k:IntKind)(x:X):stillV P (.conv k x) env st K=onV (convV k (x.ev env)) K st:=_root_.id rfl
@[simp] theorem still_fldA (o:Nat)(x:X):stillV P (.fldA o x) env st K=onV (fldAV o (x.ev env)) K st:=_root_.id rfl
@[simp] theorem still_fld (ag:Bool)(o s:Nat)(x:X):stillV P (.fld ag o s x) env st K=onV (fldV ag o s (x.ev env)) K st:=_root_.id rfl
@[simp] theorem still_idxArr (n s:Nat)(x i:X):stillV P (.idxArr n s x i) env st K=onV (idxArrV n s (x.ev env) (i.ev env)) K st:=_root_.id rfl
@[simp] theorem still_idxSl (s:Nat)(x i:X):stillV P (.idxSl s x i) env st K=onV (idxSlV s (x.ev env) (i.ev env)) K st:=_root_.id rfl
@[simp] theorem still_idxStr (x i:X):stillV P (.idxStr x i) env st K=onV (idxStrV (x.ev env) (i.ev env)) K st:=_root_.id rfl
@[simp] theorem still_load (ag:Bool)(s:Nat)(x:X):stillV P (.load ag s x) env st K=onV ((ldCells st s (x.ev env)).bind (packV ag)) K st:=_root_.id rfl
@[simp] theorem still_build (z:List V)(ps:List (Nat×Nat×X)):stillV P (.build z ps) env st K=onV ((fillV z (ps.map fun p=>(p.1,p.2.1,p.2.2.ev env))).map V.agg) K st:=_root_.id rfl
@[simp] theorem still_bsl (s n:Nat)(z:List V)(ps:List (Nat×Nat×X)):stillV P (.bsl false s n z ps) env st K=onV ((fillV (repV z n) (ps.map fun p=>(p.1,p.2.1,p.2.2.ev env))).map fun cs=>.sl .full cs n) K st:=_root_.id rfl
@[simp] theorem still_slArr (al:Bool)(n s:Nat)(x:X)(lo hi:Option X):stillV P (.slArr al n s x lo hi) env st K=onV (slArrV st env al n s lo hi (x.ev env)) K st:=_root_.id rfl
@[simp] theorem still_loadE (ag:Bool)(s:Nat)(x:X):stillV P (.loadE ag s x) env st K=onV ((ldE s (x.ev env)).bind (packV ag)) K st:=_root_.id rfl
@[simp] theorem still_carry (neg:Bool)(x y c:X):stillV P (.carry neg x y c) env st K=onV (carryV neg (x.ev env) (y.ev env) (c.ev env)) K st:=_root_.id rfl
@[simp] theorem still_slStr (x:X)(lo hi:Option X):stillV P (.slStr x lo hi) env st K=onV (opV (.slStr x lo hi) env st) K st:=_root_.id rfl
@[simp] theorem still_lenSl (x:X):stillV P (.lenSl x) env st K=onV (lenSlV (x.ev env)) K st:=_root_.id rfl
@[simp] theorem still_ext (i:Nat)(x:X):stillV P (.ext i x) env st K=onV (extV i (x.ev env)) K st:=_root_.id rfl
@[simp] theorem still_max (x:X)(l:List X):stillV P (.max (x::l)) env st K=onV (foldV max2V (x.ev env) (l.map fun x=>X.ev env x)) K st:=_root_.id rfl
@[simp] theorem still_min (x:X)(l:List X):stillV P (.min (x::l)) env st K=onV (foldV min2V (x.ev env) (l.map fun x=>X.ev env x)) K st:=_root_.id rfl
@[simp] theorem still_lookup (kk:KK)(z:V)(ok:Bool)(m k:X):stillV P (.lookup kk z ok m k) env st K=onV (lookupV st kk z ok (m.ev env) (k.ev env)) K st:=_root_.id rfl
theorem still_call {f:FuncId}{l:List X}{v:V}(h:ACalls P f (l.map fun x=>X.ev env x) st fun v' st'=>v'=v∧st'=st)(hk:K v st):stillV P (.call f l) env st K:=⟨v,h,hk⟩
variable (Q:Ex→Env→St→Prop)
def seqK (b:PC)(Q:Ex→Env→St→Prop):Ex→Env→St→Prop:=fun e env' st'=>match e with | .normal=>vc P b Q env' st' | e=>Q e env' st'
@[simp] theorem seqK_n (b:PC):seqK P b Q .normal env st=vc P b Q env st:=_root_.id rfl
@[simp] theorem seqK_e (b:PC)(i:Nat):seqK P b Q (.exit i) env st=Q (.exit i) env st:=_root_.id rfl
@[simp] theorem seqK_r (b:PC):seqK P b Q .ret env st=Q .ret env st:=_root_.id rfl
def blkK (id:Nat)(Q:Ex→Env→St→Prop):Ex→Env→St→Prop:=fun e env' st'=>match e with | .exit j=>if j=id then Q .normal env' st' else Q (.exit j) env' st' | e=>Q e env' st'
@[simp] theorem blkK_n (i:Nat):blkK i Q .normal env st=Q .normal env st:=_root_.id rfl
@[simp] theorem blkK_r (i:Nat):blkK i Q .ret env st=Q .ret env st:=_root_.id rfl
@[simp] theorem blkK_e (i j:Nat):blkK i Q (.exit j) env st=if j=i then Q .normal env st else Q (.exit j) env st:=_root_.id rfl
def condB (v:V)(a b:PC)(Q:Ex→Env→St→Prop)(env:Env)(st:St):Prop:=match v with | .bool t=>if t=true then vc P a Q env st else vc P b Q env st | _=>False
@[simp] theorem condB_t (a b:PC):condB P (.bool true) a b Q env st=vc P a Q env st:=_root_.id rfl
@[simp] theorem condB_f (a b:PC):condB P (.bool false) a b Q env st=vc P b Q env st:=_root_.id rfl
@[simp] theorem vc_skip:vc P .skip Q env st=Q .normal env st:=_root_.id rfl
@[simp] theorem vc_exit (id:Nat):vc P (.exit id) Q env st=Q (.exit id) env st:=_root_.id rfl
@[simp] theorem vc_ret:vc P .ret Q env st=Q .ret env st:=_root_.id rfl
@[simp] theorem vc_ops (l:List PO):vc P (.ops l) Q env st=runP P l env st (Q .normal):=_root_.id rfl
@[simp] theorem vc_draw2 (conf:List (Nat×Nat))(l:List (Cls×PO)):vc P (.draw2 conf l) Q env st=(Conf conf env∧runD P l env st (Q .normal)):=_root_.id rfl
@[simp] theorem vc_draw3 (pre:List (Cls×PO))(x y:Cls×PO)(post:List (Cls×PO)):vc P (.draw3 pre x y post) Q env st=runD P pre env st fun env st=>runD P (x::y::post) env st (Q .normal)∧runD P (y::x::post) env st (Q .normal):=_root_.id rfl
@[simp] theorem vc_draw (l:List (Cls×PO)):vc P (.draw l) Q env st=runD P l env st (Q .normal):=_root_.id rfl
@[simp] theorem vc_frz (l:List Nat):vc P (.frz l) Q env st=frzP l env st (Q .normal):=_root_.id rfl
@[simp] theorem vc_seq (a b:PC):vc P (.seq a b) Q env st=vc P a (seqK P b Q) env st:=_root_.id rfl
@[simp] theorem vc_cond (c:X)(a b:PC):vc P (.cond c a b) Q env st=condB P (c.ev env) a b Q env st:=_root_.id rfl
@[simp] theorem vc_block (id:Nat)(c:PC):vc P (.block id c) Q env st=vc P c (blkK id Q) env st:=_root_.id rfl
def loopK (I:Nat→Env→St→Prop)(n:Nat)(Q:Ex→Env→St→Prop):Ex→Env→St→Prop:=fun e env' st'=>match e with | .normal=>(∃n' s,n'<n∧St.sub s st'∧I n' env' s) | e=>Q e env' st'
def Round (I:Nat→Env→St→Prop)(n:Nat)(env:Env)(st:St):Prop:=∃n' s,n'<n∧St.sub s st∧I n' env s
@[simp] theorem loopK_n (I:Nat→Env→St→Prop)(n:Nat):loopK I n Q .normal env st=Round I n env st:=_root_.id rfl
@[simp] theorem loopK_e (I:Nat→Env→St→Prop)(n i:Nat):loopK I n Q (.exit i) env st=Q (.exit i) env st:=_root_.id rfl
@[simp] theorem loopK_r (I:Nat→Env→St→Prop)(n:Nat):loopK I n Q .ret env st=Q .ret env st:=_root_.id rfl
end
section
variable {P:Program} {Q:Ex→Env→St→Prop} {env:Env} {st:St}
theorem vc_loop {c:PC}(I:Nat→Env→St→Prop)(n0:Nat)(h0:I n0 env st)
  (round: ∀n env' st',Same c.writes env env'→I n env' st'→vc P c (loopK I n Q) env' st'):vc P (.loop c) Q env st:=by
 refine⟨fun env st=>∃n,I n env st,fun env st=>leastOf fun n=>I n env st,⟨n0,h0⟩,fun env' st' hs hI=>?_⟩
 refine vc_frame c _ _ env' st' (fun e env'' st'' _ hq=>?_) (round _ env' st' hs (leastOf_spec hI).1)
 cases e with
 | normal=>
   obtain⟨n',s,hlt,hsub,hI'⟩:=hq
   exact⟨s,hsub,⟨n',hI'⟩,Nat.lt_of_le_of_lt ((leastOf_spec ⟨n',hI'⟩).2 n' hI') hlt⟩
 | exit id=>exact hq
 | ret=>exact hq
theorem vc_loopJ {c:PC}(I:Nat→Env→St→Prop)(n0:Nat)(h0:I n0 env st)
  (round: ∀J:Nat→Env→St→Prop,(∀n e s,I n e s→J n e s)→∀n env' st',Same c.writes env env'→I n env' st'→vc P c (loopK J n Q) env' st'):vc P (.loop c) Q env st:=
 vc_loop I n0 h0 (round I fun _ _ _ h=>h)
theorem Round.mk {I:Nat→Env→St→Prop}{n:Nat}(n':Nat)(s:St)(h1:n'<n)(h2:St.sub s st)(h3:I n' env s):Round I n env st:=⟨n',s,h1,h2,h3⟩
theorem vc_cut {a b:PC}(M:Env→St→Prop)(h:vc P a (fun e env' st'=>match e with | .normal=>M env' st' | e=>Q e env' st') env st)(k: ∀env' st',M env' st'→vc P b Q env' st'):vc P (.seq a b) Q env st:=
 vc_frame a _ _ env st (fun e env' st' _ h=>by cases e<;>first | exact k _ _ h | exact h) h
def endK (res:List PR)(R:V→St→Prop):Ex→Env→St→Prop:=fun e env st=>(e=.normal∨e=.ret)∧match resV env st res with | some v=>∃s,St.sub s st∧R v s | none=>False
def onR (v:Option V)(R:V→St→Prop)(st:St):Prop:=match v with | some v=>∃s,St.sub s st∧R v s | none=>False
@[simp] theorem endK_n (res:List PR)(R:V→St→Prop):endK res R .normal env st=onR (resV env st res) R st:=by simp[endK,onR]
@[simp] theorem endK_r (res:List PR)(R:V→St→Prop):endK res R .ret env st=onR (resV env st res) R st:=by simp[endK,onR]
@[simp] theorem endK_e (res:List PR)(R:V→St→Prop)(i:Nat):endK res R (.exit i) env st=False:=by simp[endK]
@[simp] theorem onR_some (v:V)(R:V→St→Prop):onR (some v) R st= ∃s,St.sub s st∧R v s:=_root_.id rfl
attribute [simp] resV resAll resOne
theorem shows_call {an:An}{f:FuncId}{F:PF}(hm:P.follows .mixedOrders=true)(hc:compFn P an f=some F){args:List V}{R:V→St→Prop}(hl:args.length≤F.n)
 (h:vc P F.code (endK F.res R) (argEnv args) st):ACalls P f args st R:=acalls_of_shows hm hc hl h
theorem store_pt {id o sz:Nat}{cs vs:List V}{v:V}(h:st id=some (.cells cs))(hv:v.cells? =some vs)(hs:vs.length=sz)(hl:o+sz≤cs.length):storeS st sz (.ptr (some (id,o))) v=some (st.upd id (.cells (spliceV cs o vs))):=by
 simp only[storeS,h,hv]
 rw[if_pos ⟨hs,hl⟩]
end
end Go.Ab
namespace Go.Ab
open Go Go.RowKit
abbrev Asn:=St→Prop
def pt (i:Nat)(o:AObj):Asn:=fun h=>h i=some o
def Sep:List Asn→St→Prop
 | [],_=>True
 | A::L,st=>∃h r,Disj h r∧St.sub (h.add r) st∧A h∧Sep L r
theorem disj_symm {a b:St}(h:Disj a b):Disj b a:=fun i=>(h i).symm
theorem disj_sub {a a' b:St}(h:Disj a b)(hs:St.sub a' a):Disj a' b:=h.sub hs
theorem sub_right {h r:St}(hd:Disj h r):St.sub r (h.add r):=fun i o e=>by
 have:h i=none:=(hd i).resolve_right (by rw[e];simp)
 simp[St.add,this,e]
theorem Sep.sub {L:List Asn}{st st':St}(h:Sep L st)(hs:St.sub st st'):Sep L st':=by
 cases L with
 | nil=>trivial
 | cons A L=>
   obtain⟨a,r,h1,h2,h3,h4⟩:=h
   exact⟨a,r,h1,sub_trans h2 hs,h3,h4⟩
theorem Sep.get {i:Nat}{o:AObj}{L:List Asn}{st:St}(h:Sep (pt i o::L) st):st i=some o:=by
 obtain⟨a,r,h1,h2,h3,h4⟩:=h
 exact h2 i o (add_some h3)
theorem Sep.drop {A:Asn}{L:List Asn}{st:St}(h:Sep (A::L) st):Sep L st:=by
 obtain⟨a,r,h1,h2,h3,h4⟩:=h
 exact Sep.sub h4 (sub_trans (sub_right h1) h2)
theorem Sep.head {A A':Asn}{L:List Asn}{st:St}(hA: ∀h,A h→A' h)(h:Sep (A::L) st):Sep (A'::L) st:=by
 obtain⟨a,r,h1,h2,h3,h4⟩:=h
 exact⟨a,r,h1,h2,hA _ h3,h4⟩
theorem Sep.swap {A B:Asn}{L:List Asn}{st:St}(h:Sep (A::B::L) st):Sep (B::A::L) st:=by
 obtain⟨a,r,h1,h2,h3,b,r',k1,k2,k3,k4⟩:=h
 have hab:Disj a b:=disj_symm (Disj.sub (disj_symm h1) (sub_trans (sub_add b r') k2))
 have har:Disj a r':=disj_symm (Disj.sub (disj_symm h1) (sub_trans (sub_right k1) k2))
 refine⟨b,a.add r',fun i=>?_,fun i o e=>h2 i o ?_,k3,a,r',har,St.sub_refl _,h3,k4⟩
 ·rcases hab i with e | e
  ·rcases k1 i with e' | e'
   ·exact .inl e'
   ·exact .inr (add_none.2 ⟨e,e'⟩)
  ·exact .inl e
 ·cases ha:a i with
  | some x=>
    have hb:b i=none:=(hab i).resolve_left (by rw[ha];simp)
    simp only[St.add,hb,ha]at e
    cases e
    exact add_some ha
  | none=>
    have:(b.add r') i=some o:=by
     simp only[St.add,ha]at e⊢
     exact e
    simp only[St.add,ha]
    exact k2 i o this
theorem Sep.tail {A:Asn}{L L':List Asn}{st:St}(hL: ∀r,Sep L r→Sep L' r)(h:Sep (A::L) st):Sep (A::L') st:=by
 obtain⟨a,r,h1,h2,h3,h4⟩:=h
 exact⟨a,r,h1,h2,h3,hL _ h4⟩
def pull:Nat→List Asn→List Asn
 | _,[]=>[]
 | 0,l=>l
 | n+1,A::l=>match pull n l with
   | B::m=>B::A::m
   | []=>[A]
theorem Sep.pull {st:St}: ∀(n:Nat) (L:List Asn),Sep L st→Sep (Ab.pull n L) st:=by
 intro n
 induction n generalizing st with
 | zero=>intro L h;cases L<;>exact h
 | succ n ih=>
   intro L h
   cases L with
   | nil=>trivial
   | cons A L=>
     have h1:=Sep.tail (fun r hr=>ih L hr) h
     simp only[Ab.pull]
     cases hp:Ab.pull n L with
     | nil=>rw[hp]at h1;exact h1
     | cons B m=>rw[hp]at h1;exact h1.swap
theorem Sep.new {L:List Asn}{st:St}(h:Sep L st){i:Nat}(hi:st i=none)(o:AObj):Sep (pt i o::L) (st.upd i o):=by
 refine⟨fun j=>if j=i then some o else none,st,fun j=>?_,fun j x e=>?_,by simp[pt],h⟩
 ·by_cases e:j=i
  ·exact .inr (e ▸hi)
  ·exact .inl (by simp[e])
 ·by_cases e':j=i
  ·subst e'
   simpa[St.add,St.upd]using e
  ·simpa[St.add,St.upd,e']using e
theorem Sep.set {L:List Asn}{st:St}{i:Nat}{o:AObj}(h:Sep (pt i o::L) st)(o':AObj):Sep (pt i o'::L) (st.upd i o'):=by
 obtain⟨a,r,h1,h2,h3,h4⟩:=h
 refine⟨a.upd i o',r,h1.upd (h1.some h3) _,fun j x e=>?_,by simp[pt],h4⟩
 rw[upd_add]at e
 by_cases e':j=i
 ·subst e'
  simpa[St.upd]using e
 ·simp only[St.upd,e',if_false]at e⊢
  exact h2 j x e
theorem Sep.ne {i j:Nat}{o o':AObj}{L:List Asn}{st:St}(h:Sep (pt i o::pt j o'::L) st):i≠j:=by
 obtain⟨a,r,h1,h2,h3,h4⟩:=h
 have hj:=Sep.get h4
 intro e
 subst e
 rw[h1.some h3]at hj
 cases hj
theorem Sep.one {A:Asn}{st:St}(h:A st):Sep [A] st:=by
 refine⟨st,fun _=>none,fun _=>.inr rfl,fun i o e=>?_,h,trivial⟩
 simp only[St.add]at e
 cases hs:st i with
 | some x=>rw[hs]at e;exact e
 | none=>rw[hs]at e;cases e
theorem Sep.call {P:Program}{f:FuncId}{args:List V}{A:Asn}{L:List Asn}{st:St}(h:Sep (A::L) st){R:V→St→Prop}(hc: ∀h,A h→ACalls P f args h R):ACalls P f args st fun v st'=>Sep (R v::L) st':=by
 obtain⟨a,r,h1,h2,h3,h4⟩:=h
 have hd:Disj a (fun i=>if(a i).isSome=true then none else st i):=fun i=>by
  cases e:a i with
  | none=>exact .inl rfl
  | some o=>exact .inr (by simp[e])
 have e:a.add (fun i=>if(a i).isSome=true then none else st i)=st:=by
  funext i
  simp only[St.add]
  cases e:a i with
  | some o=>exact(h2 i o (add_some e)).symm
  | none=>simp[e]
 have:=(hc a h3).frame hd
 rw[e]at this
 refine this.mono ?_
 rintro v s ⟨s',k1,rfl,k3⟩
 have hr:St.sub r (fun i=>if(a i).isSome=true then none else st i):=fun i o e=>by
  have:a i=none:=(h1 i).resolve_right (by rw[e];simp)
  simp only[this,Option.isSome_none,Bool.false_eq_true,if_false]
  exact h2 i o (sub_right h1 i o e)
 refine⟨s',r,disj_symm (Disj.sub (disj_symm k1) hr),?_,k3,h4⟩
 intro i o e
 simp only[St.add]at e⊢
 cases hs:s' i with
 | some x=>rw[hs]at e;exact e
 | none=>rw[hs]at e;exact hr i o e
theorem Sep.part {A:Asn}{L:List Asn}{st:St}(h:Sep (A::L) st): ∃h',St.sub h' st∧A h':=by
 obtain⟨a,r,h1,h2,h3,h4⟩:=h
 exact⟨a,sub_trans (sub_add a r) h2,h3⟩
def Was (st:St):Asn:=fun h=>h=st
theorem Sep.was {st0 st:St}{L:List Asn}(h:Sep (Was st0::L) st):St.sub st0 st:=by
 obtain⟨h',h1,rfl⟩:=h.part
 exact h1
theorem Sep.start (st:St):Sep [Was st] st:=Sep.one rfl
theorem Same.get {W:List Nat}{env env':Env}(h:Same W env env')(t:Nat)(ht:W.contains t=false):env' t=env t:=h t (by simpa using ht)
def rowsOf {α:Type}(f:α→List V)(l:List α):List V:=l.flatMap f
section
variable {α:Type} {f:α→List V} {sz:Nat}
@[simp] theorem rowsOf_nil:rowsOf f []=[]:=by simp[rowsOf]
@[simp] theorem rowsOf_cons (a:α)(l:List α):rowsOf f (a::l)=f a++rowsOf f l:=by simp[rowsOf]
@[simp] theorem rowsOf_append (a b:List α):rowsOf f (a++b)=rowsOf f a++rowsOf f b:=by simp[rowsOf]
theorem rowsOf_length (hf: ∀a,(f a).length=sz): ∀(l:List α),(rowsOf f l).length=l.length*sz
 | []=>by simp[rowsOf]
 | a::l=>by
   have:=rowsOf_length hf l
   simp only[rowsOf,List.flatMap_cons,List.length_append,List.length_cons,hf,Nat.succ_mul]at this⊢
   omega
theorem rowsOf_drop (hf: ∀a,(f a).length=sz): ∀(i:Nat) (l:List α),(rowsOf f l).drop (i*sz)=rowsOf f (l.drop i)
 | 0,l=>by simp
 | i+1,[]=>by simp
 | i+1,a::l=>by
   have:=rowsOf_drop hf i l
   rw[rowsOf_cons,List.drop_succ_cons,←this,show(i+1)*sz=(f a).length+i*sz by rw[hf,Nat.succ_mul];omega,←List.drop_drop,List.drop_left]
theorem rowsOf_take (hf: ∀a,(f a).length=sz)(i:Nat)(l:List α):(rowsOf f l).take (i*sz)=rowsOf f (l.take i):=by
 by_cases h:i≤l.length
 ·have e:rowsOf f l=rowsOf f (l.take i)++rowsOf f (l.drop i):=by rw[←rowsOf_append,List.take_append_drop]
  have e2:i*sz=(rowsOf f (l.take i)).length:=by rw[rowsOf_length hf,List.length_take,Nat.min_eq_left h]
  rw[e,e2,List.take_left]
 ·have h1:(rowsOf f l).length≤i*sz:=by
    rw[rowsOf_length hf]
    exact Nat.mul_le_mul_right _ (by omega)
  have h2:l.length≤i:=by omega
  rw[List.take_of_length_le h1,List.take_of_length_le h2]
theorem rowsOf_row (hf: ∀a,(f a).length=sz)(l:List α)(sp:List V){i:Nat}(h:i<l.length):((rowsOf f l++sp).drop (i*sz)).take sz=f l[i]:=by
 have hl:=rowsOf_length hf l
 have hle:i*sz≤l.length*sz:=Nat.mul_le_mul_right _ (by omega)
 rw[List.drop_append_of_le_length (by omega),rowsOf_drop hf,List.drop_eq_getElem_cons h,rowsOf_cons,List.append_assoc,←hf l[i],List.take_left]
theorem rowsOf_seg (hf: ∀a,(f a).length=sz)(l:List α)(sp:List V){i:Nat}(h:i<l.length):segOf (rowsOf f l++sp) (i*sz) sz=some (f l[i]):=by
 have hl:=rowsOf_length hf l
 have hle:(i+1)*sz≤l.length*sz:=Nat.mul_le_mul_right _ (by omega)
 rw[Nat.succ_mul]at hle
 unfold segOf
 rw[if_pos (by simp;omega),rowsOf_row hf l sp h]
theorem rowsOf_part (hf: ∀a,(f a).length=sz)(l:List α)(sp:List V){i o n:Nat}(h:i<l.length)(hn:o+n≤sz):segOf (rowsOf f l++sp) (i*sz+o) n=some (((f l[i]).drop o).take n):=by
 have hl:=rowsOf_length hf l
 have hle:(i+1)*sz≤l.length*sz:=Nat.mul_le_mul_right _ (by omega)
 rw[Nat.succ_mul]at hle
 have hr:=rowsOf_row hf l sp h
 unfold segOf
 rw[if_pos (by simp;omega),←List.drop_drop,←hr,List.drop_take,List.take_take,Nat.min_eq_left (by omega)]
theorem rowsOf_eptr (hf: ∀a,(f a).length=sz)(l:List α){i:Nat}(h:i<l.length):segOf ((rowsOf f l).drop (i*sz)) 0 sz=some (f l[i]):=by
 have hs:=rowsOf_row hf l [] h
 have hl:=rowsOf_length hf l
 have hle:(i+1)*sz≤l.length*sz:=Nat.mul_le_mul_right _ (by omega)
 rw[Nat.succ_mul]at hle
 rw[List.append_nil]at hs
 unfold segOf
 rw[if_pos (by simp;omega),List.drop_zero,hs]
theorem rowsOf_splice (hf: ∀a,(f a).length=sz)(l:List α)(sp:List V){i o:Nat}(h:i<l.length){vs:List V}(hn:o+vs.length≤sz){a:α}(ha:f a=spliceV (f l[i]) o vs):
  spliceV (rowsOf f l++sp) (i*sz+o) vs=rowsOf f (l.set i a)++sp:=by
 have hli:=hf l[i]
 have e:rowsOf f l=rowsOf f (l.take i)++(f l[i]++rowsOf f (l.drop (i+1))):=by
  rw[←rowsOf_cons,←List.drop_eq_getElem_cons h,←rowsOf_append,List.take_append_drop]
 have e2:rowsOf f (l.set i a)=rowsOf f (l.take i)++(f a++rowsOf f (l.drop (i+1))):=by
  rw[List.set_eq_take_append_cons_drop,if_pos h,rowsOf_append,rowsOf_cons]
 have e3:(rowsOf f (l.take i)).length=i*sz:=by rw[rowsOf_length hf,List.length_take,Nat.min_eq_left (by omega)]
 have e4:rowsOf f l++sp=rowsOf f (l.take i)++(f l[i]++(rowsOf f (l.drop (i+1))++sp)):=by rw[e];simp only[List.append_assoc]
 rw[e4,e2,ha]
 unfold spliceV
 rw[←e3,List.take_length_add_append,List.take_append_of_le_length (by omega)]
 rw[Nat.add_assoc,List.drop_length_add_append,List.drop_append_of_le_length (by omega)]
 simp only[List.append_assoc]
def Sl (sz:Nat)(f:α→List V)(s:V)(l:List α):Asn:=fun h=>
 ((s=.sl .nil [] 0∨s=.sl .full [] 0)∧l=[])∨∃sid spare,s=.hsl sid 0 sz l.length∧h sid=some (.cells (rowsOf f l++spare))∧sz∣spare.length
def Rd (sz:Nat)(f:α→List V)(s:V)(l:List α)(st:St):Prop:=
 (∃k,s=.sl k (rowsOf f l) l.length)∨∃sid off,s=.hsl sid off sz l.length∧st.seg sid off (l.length*sz)=some (rowsOf f l)
theorem Rd.len {s:V}{l:List α}{st:St}(h:Rd sz f s l st):lenSlV s=some (.int .i64 l.length):=by
 rcases h with⟨k,rfl⟩ | ⟨sid,off,rfl,_⟩<;>rfl
theorem Rd.elems (hf: ∀a,(f a).length=sz){s:V}{l:List α}{st:St}(h:Rd sz f s l st):elems st sz s=some (rowsOf f l,l.length):=by
 rcases h with⟨k,rfl⟩ | ⟨sid,off,rfl,hs⟩
 ·simp[Ab.elems,rowsOf_length hf]
 ·simp[Ab.elems,hs]
theorem Rd.idx (hf: ∀a,(f a).length=sz){s:V}{l:List α}{st:St}(h:Rd sz f s l st){i:Nat}(hi:i<l.length)(k:IntKind): ∃p,idxSlV sz s (.int k i)=some p∧ldCells st sz p=some (f l[i]):=by
 rcases h with⟨k,rfl⟩ | ⟨sid,off,rfl,hs⟩
 ·refine⟨.eptr ((rowsOf f l).drop (i*sz)),?_,?_⟩
  ·simp[hi]
  ·simp[rowsOf_eptr hf l hi]
 ·refine⟨.ptr (some (sid,off+i*sz)),?_,?_⟩
  ·simp[hi]
  ·rw[ld_ptr,seg_at hs hi]
   have:=rowsOf_row hf l [] hi
   rw[List.append_nil]at this
   rw[this]
theorem Rd.sub {s:V}{l:List α}{st st':St}(h:Rd sz f s l st)(hs:St.sub st st'):Rd sz f s l st':=by
 rcases h with⟨k,rfl⟩ | ⟨sid,off,rfl,h⟩
 ·exact .inl ⟨k,rfl⟩
 ·exact .inr ⟨sid,off,rfl,seg_sub hs h⟩
theorem Sl.rd (hf: ∀a,(f a).length=sz){s:V}{l:List α}{h:St}(hs:Sl sz f s l h):Rd sz f s l h:=by
 rcases hs with⟨hs | hs,rfl⟩ | ⟨sid,spare,rfl,h1,_⟩
 ·exact .inl ⟨.nil,by rw[hs];rfl⟩
 ·exact .inl ⟨.full,by rw[hs];rfl⟩
 ·have hl:=rowsOf_length hf l
  refine .inr ⟨sid,0,rfl,?_⟩
  simp only[St.seg,h1,segOf]
  rw[if_pos (by simp;omega),List.drop_zero,←hl,List.take_left]
theorem Sep.rd (hf: ∀a,(f a).length=sz){s:V}{l:List α}{L:List Asn}{st:St}(h:Sep (Sl sz f s l::L) st):Rd sz f s l st:=by
 obtain⟨h',h1,h2⟩:=h.part
 exact(h2.rd hf).sub h1
theorem Sep.put {A:Asn}{L:List Asn}{st:St}(h:Sep L st)(hA:A fun _=>none):Sep (A::L) st:=
 ⟨fun _=>none,st,fun _=>.inl rfl,fun i o e=>by simpa[St.add]using e,hA,h⟩
theorem Sep.slNil {L:List Asn}{st:St}(h:Sep L st):Sep (Sl sz f (.sl .nil [] 0) []::L) st:=h.put (.inl ⟨.inl rfl,rfl⟩)
theorem Sep.app1 (hf: ∀a,(f a).length=sz)(hsz:0<sz){s:V}{l:List α}{L:List Asn}{st:St}(h:Sep (Sl sz f s l::L) st){b:Nat}{a:α}{ys:List V}(hys:ys=f a)(hb:(l.length+1)*b≤140737488355328){K:V→St→Prop}
  (hK: ∀s' st',Sep (Sl sz f s' (l++[a])::L) st'→K s' st'):appS sz b s (some (ys,1)) st K:=by
 subst hys
 obtain⟨a0,r,h1,h2,h3,h4⟩:=h
 have hl:=rowsOf_length hf l
 rcases h3 with⟨hs,rfl⟩ | ⟨sid,spare,rfl,h5,h6⟩
 ·have key: ∀k,(k=.nil∨k=.full)→appS sz b (.sl k [] 0) (some (f a,1)) st K:=fun k hk=>
    app_nil _ _ hk (by omega) (by simpa using hb) (fun id hid=>hK _ _ (by
     have hsub:St.sub r st:=sub_trans (sub_right h1) h2
     have:=(h4.sub hsub).new hid (.cells (f a))
     exact this.head fun h hh=>.inr ⟨id,[],rfl,hh.trans (by simp),by simp⟩))
  rcases hs with rfl | rfl
  ·exact key _ (.inl rfl)
  ·exact key _ (.inr rfl)
 ·have hsid:st sid=some (.cells (rowsOf f l++spare)):=h2 _ _ (add_some h5)
  by_cases hsp:spare=[]
  ·subst hsp
   rw[List.append_nil]at hsid h5
   refine app_grow _ _ hsid hb hl (by rw[hl,Nat.succ_mul];omega) (fun id hid=>hK _ _ ?_)
   have hd:Sep L (st.del sid):=h4.sub fun j x e=>by
    have:j≠sid:=fun e'=>by
     subst e'
     rw[h1.some h5]at e
     cases e
    simp only[St.del,this,if_false]
    exact h2 j x (sub_right h1 j x e)
   exact(hd.new hid (.cells (rowsOf f l++f a))).head fun h hh=>.inr ⟨id,[],by simp,hh.trans (by simp),by simp⟩
  ·have hge:sz≤spare.length:=by
     cases spare with
     | nil=>exact absurd rfl hsp
     | cons x l=>exact Nat.le_of_dvd (by simp) h6
   refine app_room _ _ hsid hb (by simp[hl,Nat.succ_mul];omega) (hK _ _ ?_)
   have hsep:Sep (pt sid (.cells (rowsOf f l++spare))::L) st:=⟨a0,r,h1,h2,h5,h4⟩
   refine(hsep.set _).head fun h hh=>.inr ⟨sid,spare.drop sz,by simp,hh.trans (congrArg (fun c=>some (AObj.cells c)) ?_),?_⟩
   ·rw[List.length_drop]
    exact Nat.dvd_sub h6 (Nat.dvd_refl _)
   ·unfold spliceV
    rw[Nat.zero_add,←hl,List.take_left,hf,List.drop_length_add_append]
    simp
def Slx (sz:Nat)(f:α→List V)(s:V)(l:List α):Asn:=fun h=>
 ((s=.sl .nil [] 0∨s=.sl .full [] 0)∧l=[])∨∃sid,s=.hsl sid 0 sz l.length∧h sid=some (.cells (rowsOf f l))
theorem Slx.sl {s:V}{l:List α}{h:St}(hs:Slx sz f s l h):Sl sz f s l h:=by
 rcases hs with h | ⟨sid,rfl,h⟩
 ·exact .inl h
 ·exact .inr ⟨sid,[],rfl,by rw[h,List.append_nil],by simp⟩
theorem Sep.slxNil {L:List Asn}{st:St}(h:Sep L st):Sep (Slx sz f (.sl .nil [] 0) []::L) st:=h.put (.inl ⟨.inl rfl,rfl⟩)
theorem Sep.slxFull {L:List Asn}{st:St}(h:Sep L st):Sep (Slx sz f (.sl .full [] 0) []::L) st:=h.put (.inl ⟨.inr rfl,rfl⟩)
theorem Sep.appx (hf: ∀a,(f a).length=sz)(hsz:0<sz){s:V}{l:List α}{L:List Asn}{st:St}(h:Sep (Slx sz f s l::L) st){b:Nat}{m:List α}(hb:(l.length+m.length)*b≤140737488355328){K:V→St→Prop}
  (hK: ∀s' st',Sep (Slx sz f s' (l++m)::L) st'→K s' st'):appS sz b s (some (rowsOf f m,m.length)) st K:=by
 have h0:=h
 obtain⟨a0,r,h1,h2,h3,h4⟩:=h
 have hl:=rowsOf_length hf l
 have hm:=rowsOf_length hf m
 rcases h3 with⟨hs,rfl⟩ | ⟨sid,rfl,h5⟩
 ·have key: ∀k,s=.sl k [] 0→(k=.nil∨k=.full)→appS sz b (.sl k [] 0) (some (rowsOf f m,m.length)) st K:=fun k hs hk=>by
    by_cases h0':m=[]
    ·subst h0'
     refine⟨hk,by simp,by simp,fun _=>hK _ _ (by rw[←hs];exact h0),fun e=>absurd rfl e⟩
    ·refine app_nil _ _ hk (by simpa using h0') (by simpa using hb) (fun id hid=>hK _ _ ?_)
     have hsub:St.sub r st:=sub_trans (sub_right h1) h2
     have:=(h4.sub hsub).new hid (.cells (rowsOf f m))
     exact this.head fun h hh=>.inr ⟨id,by simp,hh.trans (by simp)⟩
  rcases hs with rfl | rfl
  ·exact key _ rfl (.inl rfl)
  ·exact key _ rfl (.inr rfl)
 ·have hsid:st sid=some (.cells (rowsOf f l)):=h2 _ _ (add_some h5)
  by_cases h0':m=[]
  ·subst h0'
   refine app_room _ _ hsid hb (by simp[hl]) (hK _ _ ?_)
   have hsep:Sep (pt sid (.cells (rowsOf f l))::L) st:=⟨a0,r,h1,h2,h5,h4⟩
   refine(hsep.set _).head fun h hh=>.inr ⟨sid,by simp,hh.trans (congrArg (fun c=>some (AObj.cells c)) ?_)⟩
   unfold spliceV
   rw[Nat.zero_add,←hl,List.take_length]
   simp
  ·have hpos:0<m.length:=List.length_pos_iff.2 h0'
   refine app_grow _ _ hsid hb hl (by
    rw[hl,Nat.add_mul]
    have:0<m.length*sz:=Nat.mul_pos hpos hsz
    omega) (fun id hid=>hK _ _ ?_)
   have hd:Sep L (st.del sid):=h4.sub fun j x e=>by
    have:j≠sid:=fun e'=>by
     subst e'
     rw[h1.some h5]at e
     cases e
    simp only[St.del,this,if_false]
    exact h2 j x (sub_right h1 j x e)
   exact(hd.new hid (.cells (rowsOf f l++rowsOf f m))).head fun h hh=>.inr ⟨id,by simp,hh.trans (by simp)⟩
theorem Sep.slObj {s:V}{l:List α}{L:List Asn}{st:St}(h:Sep (Sl sz f s l::L) st)(hl:l≠[]): ∃sid spare,s=.hsl sid 0 sz l.length∧sz∣spare.length∧Sep (pt sid (.cells (rowsOf f l++spare))::L) st:=by
 obtain⟨a0,r,h1,h2,h3,h4⟩:=h
 rcases h3 with⟨_,rfl⟩ | ⟨sid,spare,rfl,h5,h6⟩
 ·exact absurd rfl hl
 ·exact⟨sid,spare,rfl,h6,a0,r,h1,h2,h5,h4⟩
theorem Sep.ofObj {l:List α}{L:List Asn}{st:St}{sid:Nat}{spare:List V}(h:Sep (pt sid (.cells (rowsOf f l++spare))::L) st)(hs:sz∣spare.length):Sep (Sl sz f (.hsl sid 0 sz l.length) l::L) st:=
 h.head fun h hh=>.inr ⟨sid,spare,rfl,hh,hs⟩
end
def e1 (n:Int):List V:=[.int .i64 n]
def e2 (r:Int×Int):List V:=[.int .i64 r.1,.int .i64 r.2]
def e3 (r:Int×Int×Int):List V:=[.int .i64 r.1,.int .i64 r.2.1,.int .i64 r.2.2]
theorem e1_len (n:Int):(e1 n).length=1:=rfl
def e8 (b:UInt8):List V:=[.int .u8 b.toNat]
theorem e8_len (b:UInt8):(e8 b).length=1:=rfl
def All (L:List Asn):Asn:=fun h=>Sep L h
theorem Sep.app {L1 L2:List Asn}: ∀{st:St},Sep (All L1::L2) st→Sep (L1++L2) st:=by
 induction L1 with
 | nil=>exact fun h=>h.drop
 | cons A L1 ih=>
   intro st h
   obtain⟨a,r,h1,h2,⟨b,c,k1,k2,k3,k4⟩,h4⟩:=h
   have hcr:Disj c r:=disj_sub h1 (sub_trans (sub_right k1) k2)
   have hbr:Disj b r:=disj_sub h1 (sub_trans (sub_add b c) k2)
   refine⟨b,c.add r,fun i=>?_,fun i o e=>h2 i o ?_,k3,ih ⟨c,r,hcr,St.sub_refl _,k4,h4⟩⟩
   ·rcases k1 i with e | e
    ·exact .inl e
    ·rcases hbr i with e' | e'
     ·exact .inl e'
     ·exact .inr (add_none.2 ⟨e,e'⟩)
   ·simp only[St.add]at e⊢
    cases hb:b i with
    | some x=>
      rw[hb]at e
      cases e
      rw[k2 i o (by simp[St.add,hb])]
    | none=>
      rw[hb]at e
      simp only at e
      cases hc:c i with
      | some x=>
        rw[hc]at e
        cases e
        rw[k2 i o (by simp[St.add,hb,hc])]
      | none=>
        rw[hc]at e
        simp only at e
        have:a i=none:=(h1 i).resolve_right (by rw[e];simp)
        rw[this]
        exact e
theorem Sep.all {L1 L2:List Asn}: ∀{st:St},Sep (L1++L2) st→Sep (All L1::L2) st:=by
 induction L1 with
 | nil=>exact fun h=>h.put trivial
 | cons A L1 ih=>
   intro st h
   obtain⟨a,r,h1,h2,h3,h4⟩:=h
   obtain⟨c,d,k1,k2,k3,k4⟩:=ih h4
   have hac:Disj a c:=disj_symm (disj_sub (disj_symm h1) (sub_trans (sub_add c d) k2))
   have had:Disj a d:=disj_symm (disj_sub (disj_symm h1) (sub_trans (sub_right k1) k2))
   refine⟨a.add c,d,fun i=>?_,fun i o e=>h2 i o ?_,⟨a,c,hac,St.sub_refl _,h3,k3⟩,k4⟩
   ·rcases had i with e | e
    ·rcases k1 i with e' | e'
     ·exact .inl (add_none.2 ⟨e,e'⟩)
     ·exact .inr e'
    ·exact .inr e
   ·simp only[St.add]at e⊢
    cases ha:a i with
    | some x=>rw[ha]at e;exact e
    | none=>
      rw[ha]at e
      simp only at e⊢
      exact k2 i o (by simpa[St.add]using e)
section
variable {K A:Type} [DecidableEq K] (ek:K→V) (ev:A→V)
def encM (l:List (K×A)):List (V×V):=l.map fun p=>(ek p.1,ev p.2)
def aSet (k:K)(v:A):List (K×A)→List (K×A)
 | []=>[(k,v)]
 | p::l=>if k=p.1 then(k,v)::l else p::aSet k v l
def aDel (k:K):List (K×A)→List (K×A)
 | []=>[]
 | p::l=>if k=p.1 then l else p::aDel k l
structure Keyed (kk:KK):Prop where
 key: ∀k,isKey kk (ek k)=true
 eq: ∀a b,keyEq kk (ek a) (ek b)=some (decide (a=b))
variable {ek ev} {kk:KK} (hk:Keyed ek kk)
include hk
theorem mfind_enc (k:K): ∀l:List (K×A),mfind kk (ek k) (encM ek ev l)=some ((l.lookup k).map ev)
 | []=>by simp[mfind,encM]
 | (k',v')::l=>by
   have ih:=mfind_enc k l
   simp only[encM,List.map_cons,mfind,hk.eq,List.lookup_cons]at ih⊢
   by_cases h:k=k'
   ·simp[h]
   ·have:(k==k')=false:=by simp[h]
    simp only[h,decide_false,this]
    exact ih
theorem mput_enc (k:K)(v:A): ∀l:List (K×A),mput kk (ek k) (ev v) (encM ek ev l)=some (encM ek ev (aSet k v l))
 | []=>by simp[mput,encM,aSet]
 | p::l=>by
   have ih:=mput_enc k v l
   simp only[encM,List.map_cons,mput,hk.eq,aSet]at ih⊢
   by_cases h:k=p.1
   ·simp[h]
   ·simp only[h,decide_false,if_false,List.map_cons]
    rw[ih]
    rfl
theorem mrem_enc (k:K): ∀l:List (K×A),mrem kk (ek k) (encM ek ev l)=some (encM ek ev (aDel k l))
 | []=>by simp[mrem,encM,aDel]
 | p::l=>by
   have ih:=mrem_enc k l
   simp only[encM,List.map_cons,mrem,hk.eq,aDel]at ih⊢
   by_cases h:k=p.1
   ·simp[h]
   ·simp only[h,decide_false,if_false,List.map_cons]
    rw[ih]
    rfl
theorem lookup_enc {st:St}{id:Nat}{l:List (K×A)}(h:st id=some (.mp (encM ek ev l)))(z:V)(ok:Bool)(k:K):
  lookupV st kk z ok (.map (some id)) (ek k)=some (if ok then .tup [((l.lookup k).map ev).getD z,.bool (l.lookup k).isSome]else((l.lookup k).map ev).getD z):=by
 simp[lookupV,hk.key,mapOf,h,mfind_enc hk]
theorem lookup_none {st:St}(z:V)(ok:Bool)(k:K):lookupV st kk z ok (.map none) (ek k)=some (if ok then .tup [z,.bool false]else z):=by
 simp[lookupV,hk.key,mapOf,mfind]
theorem mset_enc {st:St}{id:Nat}{l:List (K×A)}(h:st id=some (.mp (encM ek ev l)))(k:K)(v:A):msetS st kk (.map (some id)) (ek k) (ev v)=some (st.upd id (.mp (encM ek ev (aSet k v l)))):=by
 simp[msetS,hk.key,h,mput_enc hk]
theorem mdel_enc {st:St}{id:Nat}{l:List (K×A)}(h:st id=some (.mp (encM ek ev l)))(k:K):mdelS st kk (.map (some id)) (ek k)=some (st.upd id (.mp (encM ek ev (aDel k l)))):=by
 simp[mdelS,hk.key,h,mrem_enc hk]
theorem mdel_none {st:St}(k:K):mdelS st kk (.map none) (ek k)=some st:=by
 simp[mdelS,hk.key]
end
def kInt (n:Int):V:=.int .i64 n
theorem keyed_int:Keyed kInt .int:=⟨fun _=>rfl,fun a b=>by
 simp only[kInt,keyEq,if_true]
 congr 1⟩
abbrev Id:=Vector UInt8 32
def eId (x:Id):List V:=x.toList.map fun b=>V.int .u8 b.toNat
theorem eId_len (x:Id):(eId x).length=32:=by simp[eId]
def kId (x:Id):V:=.agg (eId x)
def eBytes (l:List UInt8):List V:=l.map fun b=>V.int .u8 b.toNat
theorem eqL_bytes: ∀(a b:List UInt8),a.length=b.length→eqL (eBytes a) (eBytes b)=some (decide (a=b))
 | [],[],_=>rfl
 | [],_::_,h=>by simp at h
 | _::_,[],h=>by simp at h
 | x::a,y::b,h=>by
   have ih:=eqL_bytes a b (by simpa using h)
   simp only[eBytes,List.map_cons,eqL,if_true]at ih⊢
   rw[ih]
   simp only[Option.map_some,Option.some.injEq]
   rw[Bool.eq_iff_iff]
   simp only[Bool.and_eq_true,beq_iff_eq,decide_eq_true_eq,List.cons.injEq]
   constructor
   ·rintro⟨h1,h2⟩
    exact⟨UInt8.toNat_inj.1 (by omega),h2⟩
   ·rintro⟨h1,h2⟩
    exact⟨by rw[h1],h2⟩
theorem eqL_id (a b:Id):eqL (eId a) (eId b)=some (decide (a=b)):=by
 have:=eqL_bytes a.toList b.toList (by simp)
 rw[show eId a=eBytes a.toList from rfl,show eId b=eBytes b.toList from rfl,this]
 congr 1
 rw[Bool.eq_iff_iff]
 simp only[decide_eq_true_eq]
 exact⟨fun h=>Vector.toList_inj.1 h,fun h=>by rw[h]⟩
theorem keyed_id:Keyed kId (.agg 32):=⟨fun k=>by simp[isKey,kId,eId],fun a b=>by
 simp only[keyEq,kId]
 rw[if_pos (eId_len a),eqL_id]⟩
def Going (m it:Nat)(l:List ((V×V)×Bool))(last:Option Nat):Asn:=fun h=>
 ∃(bs:List Nat) (clk since:Nat) (seen:List Nat) (stp:Nat),h m=some (.mpi (l.map (·.1)) bs clk)∧h it=some (.mit (some m) since seen stp)∧bs.length=l.length∧bs.Pairwise (· < ·)∧(∀b∈bs,b<since)∧since≤stp∧stp≤clk∧
  (∀i (hi:i<l.length),bs.getD i 0∈seen↔l[i].2=true)∧∀i,last=some i→i<l.length∧seen.getLast? =some (bs.getD i 0)∧stp=clk
theorem pw_inj {bs:List Nat}(h:bs.Pairwise (· < ·)){i j:Nat}(hi:i<bs.length)(hj:j<bs.length)(e:bs.getD i 0=bs.getD j 0):i=j:=by
 have hp:=List.pairwise_iff_getElem.1 h
 simp only[List.getD_eq_getElem?_getD,List.getElem?_eq_getElem hi,List.getElem?_eq_getElem hj,Option.getD_some]at e
 rcases Nat.lt_trichotomy i j with hlt | he | hgt
 ·have:=hp i j hi hj hlt;omega
 ·exact he
 ·have:=hp j i hj hi hgt;omega
theorem Sep.rng {m:Nat}{es:List (V×V)}{L:List Asn}{st:St}(h:Sep (pt m (.mp es)::L) st){K:V→St→Prop}(hK: ∀it st',Sep (Going m it (es.map fun e=>(e,false)) none::L) st'→K (.ptr (some (it,0))) st'):rngMapS (.map (some m)) st K:=by
 simp only[rngMapS,h.get]
 intro it hit bs clk h1 h2 h3
 refine hK it _ ?_
 have hm:=ne_id h.get hit
 obtain⟨a,r,k1,k2,k3,k4⟩:=h
 have hra:a it=none:=by
  cases e:a it with
  | none=>rfl
  | some o=>have:=k2 it o (add_some e);rw[hit]at this;cases this
 have hrr:r it=none:=by
  cases e:r it with
  | none=>rfl
  | some o=>have:=k2 it o (sub_right k1 it o e);rw[hit]at this;cases this
 refine⟨(a.upd m (.mpi es bs clk)).upd it (.mit (some m) clk [] clk),r,(k1.upd (k1.some k3) _).upd hrr _,fun i o e=>?_,?_,k4⟩
 ·rw[upd_add,upd_add]at e
  by_cases e1:i=it
  ·simpa[e1]using e
  ·by_cases e2:i=m
   ·simpa[e1,e2]using e
   ·simp only[st_upd,e1,e2,if_false]at e⊢
    exact k2 i o e
 ·refine⟨bs,clk,clk,[],clk,?_,by simp,by simpa using h1,h2,h3,Nat.le_refl _,Nat.le_refl _,fun i hi=>by simp,fun i e=>by cases e⟩
  have:(es.map fun e=>(e,false)).map (·.1)=es:=by simp[Function.comp_def]
  rw[this]
  simp[hm]
theorem Sep.next {m it:Nat}{l:List ((V×V)×Bool)}{last:Option Nat}{L:List Asn}{st:St}(h:Sep (Going m it l last::L) st){K:V→St→Prop}
  (h1:(∀x∈l,x.2=true)→K (.tup [.bool false]) st)
  (h2: ∀i (hi:i<l.length),l[i].2=false→∀st',Sep (Going m it (l.set i (l[i].1,true)) (some i)::L) st'→K (.tup [.bool true,l[i].1.1,l[i].1.2]) st'):nextMapS (.ptr (some (it,0))) st K:=by
 obtain⟨a,r,k1,k2,⟨bs,clk,since,seen,stp,g1,g2,g3,g4,g5,g6,g7,g8,g9⟩,k4⟩:=h
 have e1:=k2 _ _ (add_some g1)
 have e2:=k2 _ _ (add_some g2)
 simp only[nextMapS,e2,e1]
 refine⟨g5,g6,by simpa using g3,fun hs=>h1 fun x hx=>?_,fun i hi hn=>?_⟩
 ·obtain⟨i,hi,rfl⟩:=List.getElem_of_mem hx
  refine(g8 i hi).1 (hs _ ?_)
  rw[List.getD_eq_getElem?_getD,List.getElem?_eq_getElem (by omega)]
  exact List.getElem_mem _
 ·have hi':i<l.length:=by simpa using hi
  have hf:l[i].2=false:=by
   cases hb:l[i].2 with
   | false=>rfl
   | true=>exact absurd ((g8 i hi').2 hb) hn
  have hd:(l.map (·.1)).getD i default=l[i].1:=by
   rw[List.getD_eq_getElem?_getD,List.getElem?_map,List.getElem?_eq_getElem hi']
   rfl
  rw[hd]
  refine h2 i hi' hf _ ?_
  have hne:m≠it:=fun e=>by rw[e,g2]at g1;cases g1
  refine⟨a.upd it (.mit (some m) since (seen++[bs.getD i 0]) clk),r,k1.upd (k1.some g2) _,fun j o e=>?_,⟨bs,clk,since,seen++[bs.getD i 0],clk,?_,by simp,by simpa using g3,g4,g5,by omega,Nat.le_refl _,fun j hj=>?_,fun j e=>?_⟩,k4⟩
  ·rw[upd_add]at e
   by_cases ej:j=it
   ·simpa[ej]using e
   ·simp only[st_upd,ej,if_false]at e⊢
    exact k2 j o e
  ·have:(l.set i (l[i].1,true)).map (·.1)=l.map (·.1):=by
     rw[List.map_set]
     apply List.ext_getElem
     ·simp
     ·intro j q1 q2
      simp only[List.getElem_set,List.getElem_map]
      split
      ·rename_i e;subst e;rfl
      ·rfl
   rw[this]
   simp[hne,g1]
  ·simp only[List.length_set]at hj
   simp only[List.mem_append,List.mem_singleton,List.getElem_set]
   by_cases e:i=j
   ·subst e;simp
   ·simp only[e,if_false]
    rw[←g8 j hj]
    constructor
    ·rintro(h | h)
     ·exact h
     ·exact absurd (pw_inj g4 (by omega) (by omega) h).symm e
    ·exact .inl
  ·cases e
   exact⟨by simpa using hi',by simp,rfl⟩
theorem Sep.ent {m it i:Nat}{l:List ((V×V)×Bool)}{L:List Asn}{st:St}(h:Sep (Going m it l (some i)::L) st): ∃hi:i<l.length,entryV st (.ptr (some (it,0)))=some (.tup [l[i].1.1,l[i].1.2]):=by
 obtain⟨a,r,k1,k2,⟨bs,clk,since,seen,stp,g1,g2,g3,g4,g5,g6,g7,g8,g9⟩,k4⟩:=h
 have e1:=k2 _ _ (add_some g1)
 have e2:=k2 _ _ (add_some g2)
 obtain⟨hi,q1,q2⟩:=g9 i rfl
 refine⟨hi,?_⟩
 have hib:i<bs.length:=by omega
 have hf:bs.findIdx? (· ==bs.getD i 0)=some i:=by
  rw[List.findIdx?_eq_some_iff_getElem]
  refine⟨hib,by simp[List.getD_eq_getElem?_getD,hib],fun j hj=>?_⟩
  simp only[Bool.not_eq_true,beq_eq_false_iff_ne,ne_eq]
  intro e
  have:=pw_inj g4 (i:=j) (j:=i) (by omega) hib (by simp only[List.getD_eq_getElem?_getD,List.getElem?_eq_getElem (show j<bs.length by omega),Option.getD_some]at e⊢;exact e)
  omega
 simp only[entryV,e2,e1,q2,if_true,q1,Option.bind_some,hf,List.getElem?_map,List.getElem?_eq_getElem hi,Option.map_some]
def unseen (l:List ((V×V)×Bool)):Nat:=l.countP fun x=>!x.2
theorem unseen_set {l:List ((V×V)×Bool)}{i:Nat}(hi:i<l.length)(hf:l[i].2=false)(x:V×V):unseen (l.set i (x,true))<unseen l:=by
 unfold unseen
 rw[List.countP_set hi]
 have:0<l.countP fun x=>!x.2:=List.countP_pos_iff.2 ⟨l[i],List.getElem_mem _,by simp[hf]⟩
 simp[hf]
 omega
theorem Sep.mem {i:Nat}{o:AObj}: ∀{L:List Asn} {st:St},Sep L st→pt i o∈L→st i=some o
 | [],_,_,h=>by cases h
 | A::L,st,hs,h=>by
   rcases List.mem_cons.1 h with e | h
   ·subst e;exact hs.get
   ·obtain⟨a,r,h1,h2,h3,h4⟩:=hs
    exact h2 _ _ (sub_right h1 _ _ (Sep.mem h4 h))
theorem Sep.memA {A:Asn}: ∀{L:List Asn} {st:St},Sep L st→A∈L→∃h',St.sub h' st∧A h'
 | [],_,_,h=>by cases h
 | B::L,st,hs,h=>by
   rcases List.mem_cons.1 h with e | h
   ·subst e;exact hs.part
   ·obtain⟨a,r,h1,h2,h3,h4⟩:=hs
    obtain⟨h',k1,k2⟩:=Sep.memA h4 h
    exact⟨h',sub_trans k1 (sub_trans (sub_right h1) h2),k2⟩
end Go.Ab

import Derived.Test.YtjcpdljfkhbbkaaGreatT4
import Derived.Test.YtjcpdljfkhbbkaaGreatT7
import Derived.Test.YtjcpdljfkhbbkaaGreatT5
import Derived.Test.YtjcpdljfkhbbkaaGreatT6
set_option linter.unusedVariables false
set_option linter.unusedSimpArgs false
set_option linter.unusedSectionVars false
namespace Go.Ab
open Go Go.RowKit
set_option maxRecDepth 10000
abbrev Coin1:=Out1×Int
def eCoin (c:Coin1):List V:=eOut c.1++[.int .i64 c.2]
def vCoin (c:Coin1):V:=.agg (eCoin c)
theorem eCoin_len (c:Coin1):(eCoin c).length=34:=by simp[eCoin,eOut_len]
abbrev CM:=List (Pt×Coin1)
structure Hole (f:V→List V) (off:Nat):Prop where
 seg: ∀v,segOf (f v) off 1=some [v]
 spl: ∀v w,spliceV (f v) off [w]=f w
def SetL (o:Nat)(f:V→List V)(cm:CM):Option Nat→List Asn
 | none=>[pt o (.cells (f (.map none)))]
 | some m=>[pt o (.cells (f (.map (some m)))),pt m (.mp (encM kPt vCoin cm))]
def SetS (o:Nat)(f:V→List V)(cm:CM)(L:List Asn)(st:St):Prop:=∃mo,(mo=none→cm=[])∧Sep (SetL o f cm mo++L) st
theorem SetS.tail {o:Nat}{f:V→List V}{cm:CM}{L L':List Asn}{st:St}(h:SetS o f cm L st)(hL: ∀r,Sep L r→Sep L' r):SetS o f cm L' st:=by
 obtain⟨mo,h0,S⟩:=h
 refine⟨mo,h0,?_⟩
 cases mo with
 | none=>exact S.tail hL
 | some m=>exact S.tail fun r h=>h.tail hL
theorem SetS.new {o:Nat}{f:V→List V}{cm:CM}{L:List Asn}{st:St}(h:SetS o f cm L st){i:Nat}(hi:st i=none)(x:AObj):SetS o f cm (pt i x::L) (st.upd i x):=by
 obtain⟨mo,h0,S⟩:=h
 refine⟨mo,h0,?_⟩
 have S:=S.new hi x
 cases mo with
 | none=>exact S.swap
 | some m=>exact(S.pull 2).pull 2
def layHit (id:Id)(cm:CM):Nat→List Out1→Bool
 | _,[]=>false
 | j,_::l=>(lk (id,BitVec.ofNat 32 j) cm).isSome||layHit id cm (j+1) l
def layL (id:Id)(h:Int):Nat→List Out1→CM→CM
 | _,[],cm=>cm
 | j,o::l,cm=>layL id h (j+1) l (aSet (id,BitVec.ofNat 32 j) (o,h) cm)
def layM (t:Tx1)(h:Int)(cm:CM):Int×CM:=if layHit (txIdM t) cm 0 t.outs=true then(5,cm)else(0,layL (txIdM t) h 0 t.outs cm)
theorem wrap32 (i:Nat):V.int .u32 (IntKind.u32.wrap (i:Int))=w32 (BitVec.ofNat 32 i):=by
 rw[wrap_u32,BitVec.ofInt_natCast];rfl
theorem zPt:z33_1371=eId id0++[w32 0#32]:=rfl
theorem ptFill (id:Id)(x:W32):fillV z33_1371 [(0,32,.agg (eId id)),(32,1,w32 x)]=some (ePt (id,x)):=by
 simp[fillV,zPt,spliceV,eId_len,ePt,w32]
theorem coinFill (c:Coin1):fillV z34_7943 [(0,33,.agg (eOut c.1)),(33,1,.int .i64 c.2)]=some (eCoin c):=by
 have z:z34_7943=eOut ⟨0,id0⟩++[.int .i64 0]:=rfl
 simp[fillV,z,spliceV,eOut_len,eCoin]
def coin0:Coin1:=(⟨0,id0⟩,0)
theorem coin0_cells:z34_7943=eCoin coin0:=rfl
section
variable {P:Program} {F:Fn}
set_option maxHeartbeats 4000000 in
theorem spec258 (ok:OkCoins P F){st:St}{o off:Nat}{f:V→List V}(hf:Hole f off){cm:CM}{L:List Asn}(h0:SetS o f cm L st)(t:Tx1)(ht:t.ok 100)(h:Int):
  ACalls P (F 258) [.ptr (some (o,off)),.agg (eTx t),.int .i64 h] st fun v st'=>v=.int .i64 (layM t h cm).1∧SetS o f (layM t h cm).2 L st':=by
 have okt:=ok.toOkCheck2.toOkCheck.toOkTx
 refine shows_call ok.mixed ok.h258 (by simp[k258]) ?_
 simp only[k258]
 refine vc_cut (M:=fun env' st'=>env' 0=.ptr (some (o,off))∧env' 2=.int .i64 h∧∃i4,env' 4=.ptr (some (i4,0))∧SetS o f cm (pt i4 (.cells (eTx t))::L) st') ?_ ?_
 ·simp
  intro i4 h4
  simp
  exact h0.new h4 _
 rintro env1 st1 ⟨g0,g2,i4,g4,W⟩
 refine vc_cut (M:=fun env' st'=>env' 0=.ptr (some (o,off))∧env' 2=.int .i64 h∧env' 4=.ptr (some (i4,0))∧∃m,Sep (pt o (.cells (f (.map (some m))))::pt m (.mp (encM kPt vCoin cm))::pt i4 (.cells (eTx t))::L) st') ?_ ?_
 ·obtain⟨mo,hc,S⟩:=W
  have hsg:=hf.seg
  cases mo with
  | none=>
    have he:cm=[]:=hc rfl
    subst he
    have oo:=S.get
    simp[St.seg,oo,hsg,g0,eqK]
    intro m hm
    have S:=S.new hm (.mp [])
    have o2:=S.drop.get
    have hst:=store_pt (sz:=1) (o:=off) o2 (v:=.map (some m)) (vs:=[.map (some m)]) rfl rfl (by have:=hf.seg (.map none);simp[segOf]at this;omega)
    rw[hf.spl]at hst
    have S:=S.setAt (.cells (f (.map (some m)))) 1 rfl
    simp only[List.set_cons_succ,List.set_cons_zero]at S
    simp[hst,g0,g2,g4]
    exact⟨m,S.swap⟩
  | some m=>
    have oo:=S.get
    simp[St.seg,oo,hsg,g0,g2,g4,eqK]
    exact⟨m,S⟩
 rintro env2 st2 ⟨g0,g2,g4,m,S⟩
 have o4:=S.drop.drop.get
 simp[g4,St.seg,o4,tsegAll]
 refine(spec198 okt st2 t ht).mono ?_
 rintro v st3 ⟨rfl,rfl⟩
 simp
 intro i7 h7
 have S:=S.new h7 (.cells zR32_w80)
 have hst:=store_z32 S.get (txIdM t)
 have S:=S.set (.cells (eId (txIdM t)))
 simp[hst]at S⊢
 generalize st3.upd i7 (.cells (eId (txIdM t)))=st5 at S⊢
 have S:Sep (pt o (.cells (f (.map (some m))))::pt m (.mp (encM kPt vCoin cm))::pt i7 (.cells (eId (txIdM t)))::pt i4 (.cells (eTx t))::L) st5:=(S.pull 1).tail fun r h=>h.swap
 have o4:=S.drop.drop.drop.get
 have so:=tsegOuts t
 have lo:=outsV_len t
 have hsg:=hf.seg
 simp[g4,St.seg,o4,so,lo]
 refine vc_joinB (M:=fun env' st'=>layHit (txIdM t) cm 0 t.outs=false∧Sep (pt o (.cells (f (.map (some m))))::pt m (.mp (encM kPt vCoin cm))::pt i7 (.cells (eId (txIdM t)))::pt i4 (.cells (eTx t))::L) st') ?_ ?_
 ·refine vc_loopJ (fun c env' st'=>∃i:Nat,i≤t.outs.length∧c=t.outs.length-i∧env' 27=.int .i64 (i:Nat)∧layHit (txIdM t) cm i (t.outs.drop i)=layHit (txIdM t) cm 0 t.outs∧Sep (pt o (.cells (f (.map (some m))))::pt m (.mp (encM kPt vCoin cm))::pt i7 (.cells (eId (txIdM t)))::pt i4 (.cells (eTx t))::L) st') t.outs.length
    ⟨0,by omega,by omega,by simp,by simp,S⟩ ?_
  rintro J hJ c env' st4 hsame ⟨i,hi,rfl,h27,hgo,S⟩
  have g0:=(hsame.get 0 rfl).trans (by simp[g0]:_=V.ptr (some (o,off)))
  have g7:=(hsame.get 7 rfl).trans (by simp:_=V.ptr (some (i7,0)))
  have g26:=(hsame.get 26 rfl).trans (by simp:_=V.int .i64 (t.outs.length:Int))
  clear hsame
  have oo:=S.get
  have om:=S.drop.get
  have o7:=S.drop.drop.get
  by_cases hlt:i<t.outs.length
  ·rw[List.drop_eq_getElem_cons hlt,layHit]at hgo
   have w1:IntKind.i64.wrap ((i:Int)+1)=(i:Int)+1:=wrap64 (by omega) (by have:=ht.2.1;omega)
   have w2:=wrap32 i
   have hfl:=ptFill (txIdM t) (BitVec.ofNat 32 i)
   have hlk:=lookup_lk keyed_pt (ev:=vCoin) om (V.agg z34_7943) (txIdM t,BitVec.ofNat 32 i)
   have hz:(V.agg z34_7943)=vCoin coin0:=by rw[coin0_cells];rfl
   have hx:((lk (txIdM t,BitVec.ofNat 32 i) cm).map vCoin).getD (V.agg z34_7943)=vCoin ((lk (txIdM t,BitVec.ofNat 32 i) cm).getD coin0):=by
    rw[hz];cases lk (txIdM t,BitVec.ofNat 32 i) cm<;>rfl
   rw[hx]at hlk
   have s7:segOf (eId (txIdM t)) 0 32=some (eId (txIdM t)):=seg_of_drop (zs:=[]) (by simp) (eId_len _) (by omega)
   simp[g0,g7,g26,h27,hlt,St.seg,oo,hsg,o7,s7,w2,hfl]
   rw[show V.agg (ePt (txIdM t,BitVec.ofNat 32 i))=kPt (txIdM t,BitVec.ofNat 32 i)from rfl,hlk]
   simp
   intro i9 h9
   have S:=S.new h9 (.cells z34_7943)
   obtain⟨c9,hc9⟩: ∃c9,c9=(lk (txIdM t,BitVec.ofNat 32 i) cm).getD coin0:=⟨_,rfl⟩
   rw[←hc9]
   have hst:=store_pt (sz:=34) (o:=0) S.get (v:=vCoin c9) (vs:=eCoin c9) rfl (eCoin_len _) (by simp)
   rw[show spliceV z34_7943 0 (eCoin c9)=eCoin c9 by simp[spliceV,eCoin_len]]at hst
   have S:=S.set (.cells (eCoin c9))
   simp[hst]at S⊢
   generalize st4.upd i9 (.cells (eCoin c9))=st6 at S⊢
   have S:=S.drop
   cases hs:(lk (txIdM t,BitVec.ofNat 32 i) cm).isSome with
   | true=>
     rw[hs,Bool.true_or]at hgo
     have e:layM t h cm=(5,cm):=by rw[layM,if_pos hgo.symm]
     simp[e]
     exact⟨st6,sub_self _,some m,(fun e=>by cases e),S.tail fun r h=>h.tail fun r h=>h.drop.drop⟩
   | false=>
     rw[hs,Bool.false_or]at hgo
     simp[h27,w1]
     exact Round.mk (t.outs.length-(i+1)) _ (by omega) (sub_self _) (hJ _ _ _ ⟨i+1,by omega,rfl,by simp,hgo,S⟩)
  ·have:i=t.outs.length:=by omega
   subst this
   rw[List.drop_length,layHit]at hgo
   simp[g26,h27]
   exact⟨hgo.symm,S⟩
 rintro env3 st4 hsame ⟨hno,S⟩
 have e:layM t h cm=(0,layL (txIdM t) h 0 t.outs cm):=by rw[layM,if_neg (by rw[hno];decide)]
 have g0:=(hsame.get 0 rfl).trans (by simp[g0]:_=V.ptr (some (o,off)))
 have g2:=(hsame.get 2 rfl).trans (by simp[g2]:_=V.int .i64 h)
 have g4:=(hsame.get 4 rfl).trans (by simp[g4]:_=V.ptr (some (i4,0)))
 have g7:=(hsame.get 7 rfl).trans (by simp:_=V.ptr (some (i7,0)))
 clear hsame
 have o4:=S.drop.drop.drop.get
 simp[g4,St.seg,o4,so,lo]
 refine vc_joinB (M:=fun env' st'=>Sep (pt o (.cells (f (.map (some m))))::pt m (.mp (encM kPt vCoin (layL (txIdM t) h 0 t.outs cm)))::pt i7 (.cells (eId (txIdM t)))::pt i4 (.cells (eTx t))::L) st') ?_ ?_
 ·refine vc_loopJ (fun c env' st'=>∃(i:Nat) (cm':CM),i≤t.outs.length∧c=t.outs.length-i∧env' 47=.int .i64 (i:Nat)∧layL (txIdM t) h i (t.outs.drop i) cm'=layL (txIdM t) h 0 t.outs cm∧Sep (pt o (.cells (f (.map (some m))))::pt m (.mp (encM kPt vCoin cm'))::pt i7 (.cells (eId (txIdM t)))::pt i4 (.cells (eTx t))::L) st') t.outs.length
    ⟨0,cm,by omega,by omega,by simp,by simp,S⟩ ?_
  rintro J hJ c env' st5 hsame ⟨i,cm',hi,rfl,h47,hgo,S⟩
  have g0:=(hsame.get 0 rfl).trans (by simp[g0]:_=V.ptr (some (o,off)))
  have g2:=(hsame.get 2 rfl).trans (by simp[g2]:_=V.int .i64 h)
  have g7:=(hsame.get 7 rfl).trans (by simp[g7]:_=V.ptr (some (i7,0)))
  have g45:=(hsame.get 45 rfl).trans (by simp:_=outsV t)
  have g46:=(hsame.get 46 rfl).trans (by simp:_=V.int .i64 (t.outs.length:Int))
  clear hsame
  by_cases hlt:i<t.outs.length
  ·obtain⟨r1,r2,r3,r4⟩:=(rd_outs t st5).row eOut_len hlt
   rw[List.drop_eq_getElem_cons hlt,layL]at hgo
   obtain⟨x,hx⟩: ∃x,x=t.outs[i]:=⟨_,rfl⟩
   rw[←hx]at r3 hgo
   have w1:IntKind.i64.wrap ((i:Int)+1)=(i:Int)+1:=wrap64 (by omega) (by have:=ht.2.1;omega)
   have w2:=wrap32 i
   have hfl:=ptFill (txIdM t) (BitVec.ofNat 32 i)
   have hfc:=coinFill (x,h)
   have s7:segOf (eId (txIdM t)) 0 32=some (eId (txIdM t)):=seg_of_drop (zs:=[]) (by simp) (eId_len _) (by omega)
   simp[g45,g46,h47,hlt,r1,r3]
   intro i12 h12
   have S:=S.new h12 (.cells z33_0be4)
   have hst:=store_pt (sz:=33) (o:=0) S.get (v:=.agg (eOut x)) (vs:=eOut x) rfl (eOut_len _) (by simp)
   rw[show spliceV z33_0be4 0 (eOut x)=eOut x by simp[spliceV,eOut_len]]at hst
   have S:=S.set (.cells (eOut x))
   simp[hst]at S⊢
   generalize st5.upd i12 (.cells (eOut x))=st6 at S⊢
   have o12:=S.get
   have S:=S.drop
   have oo:=S.get
   have om:=S.drop.get
   have o7:=S.drop.drop.get
   have sx:segOf (eOut x) 0 33=some (eOut x):=seg_of_drop (zs:=[]) (by simp) (eOut_len _) (by omega)
   simp[g0,g2,g7,St.seg,oo,hsg,o7,s7,w2,hfl,o12,sx,hfc]
   have hms:=mset_enc keyed_pt (ev:=vCoin) om (txIdM t,BitVec.ofNat 32 i) (x,h)
   rw[show V.agg (ePt (txIdM t,BitVec.ofNat 32 i))=kPt (txIdM t,BitVec.ofNat 32 i)from rfl,show V.agg (eCoin (x,h))=vCoin (x,h)from rfl,hms]
   have S:=S.setAt (.mp (encM kPt vCoin (aSet (txIdM t,BitVec.ofNat 32 i) (x,h) cm'))) 1 rfl
   simp only[List.set_cons_succ,List.set_cons_zero]at S
   simp[h47,w1]
   exact Round.mk (t.outs.length-(i+1)) _ (by omega) (sub_self _) (hJ _ _ _ ⟨i+1,_,by omega,rfl,by simp,hgo,S⟩)
  ·have:i=t.outs.length:=by omega
   subst this
   rw[List.drop_length,layL]at hgo
   rw[hgo]at S
   simp[g46,h47]
   exact S
 rintro env4 st5 hsame S
 simp[e]
 exact⟨st5,sub_self _,some m,(fun e=>by cases e),S.tail fun r h=>h.tail fun r h=>h.drop.drop⟩
end
def lone (v:V):List V:=[v]
theorem lone_hole:Hole lone 0:=⟨fun _=>rfl,fun _ _=>rfl⟩
def undo0:V:=.agg [.sl .nil [] 0,.sl .nil [] 0]
theorem SetS.ext {o:Nat}{f:V→List V}{cm:CM}{L:List Asn}{st:St}(h:SetS o f cm L st){i:Nat}{x:AObj}(hm:pt i x∈L):st i=some x:=by
 obtain⟨mo,h0,S⟩:=h
 cases mo with
 | none=>exact S.mem (List.mem_append.2 (.inr hm))
 | some m=>exact S.mem (List.mem_append.2 (.inr hm))
theorem SetS.setL {o:Nat}{f:V→List V}{cm:CM}{L:List Asn}{st:St}{i:Nat}{x:AObj}(h:SetS o f cm (pt i x::L) st)(y:AObj):SetS o f cm (pt i y::L) (st.upd i y):=by
 obtain⟨mo,h0,S⟩:=h
 refine⟨mo,h0,?_⟩
 cases mo with
 | none=>exact S.setAt y 1 rfl
 | some m=>exact S.setAt y 2 rfl
theorem bury {o:Nat}{f:V→List V}{cm:CM}{mo:Option Nat}{A:Asn}{L:List Asn}{st:St}(S:Sep (A::(SetL o f cm mo++L)) st):Sep (SetL o f cm mo++A::L) st:=by
 cases mo with
 | none=>exact S.swap
 | some m=>exact(S.pull 2).pull 2
theorem bury2 {ic o:Nat}{g f:V→List V}{cm cm':CM}{mo mo2:Option Nat}{A:Asn}{L:List Asn}{st:St}(S:Sep (A::(SetL ic g cm' mo2++(SetL o f cm mo++L))) st):Sep (SetL ic g cm' mo2++(SetL o f cm mo++A::L)) st:=by
 have S:=bury S
 cases mo2 with
 | none=>exact S.tail fun r h=>bury h
 | some m=>exact S.tail fun r h=>h.tail fun r h=>bury h
theorem takeOver {ic o:Nat}{f:V→List V}{cm cm':CM}{mo mo2:Option Nat}{L:List Asn}{st:St}(S:Sep (SetL ic lone cm' mo2++(SetL o f cm mo++L)) st):
  st ic=some (.cells [.map mo2])∧st o=some (.cells (f (.map mo)))∧Sep (SetL o f cm' mo2++L) (st.upd o (.cells (f (.map mo2)))):=by
 cases mo2 with
 | none=>
   cases mo with
   | none=>exact⟨S.get,S.drop.get,S.drop.set _⟩
   | some m=>exact⟨S.get,S.drop.get,(S.drop.set _).tail fun r h=>h.drop⟩
 | some m2=>
   cases mo with
   | none=>exact⟨S.get,S.drop.drop.get,(S.drop.swap.set _).tail fun r h=>h⟩
   | some m=>exact⟨S.get,S.drop.drop.get,(S.drop.swap.set _).tail fun r h=>h.tail fun r h=>h.drop⟩
section
variable {P:Program} {F:Fn}
set_option maxHeartbeats 2000000 in
theorem spec255 (ok:OkCoins P F)(hc:CloneC P (F 256)){st:St}{o off:Nat}{f:V→List V}(hf:Hole f off){cm:CM}{mo:Option Nat}(h0:mo=none→cm=[]){L:List Asn}(S:Sep (SetL o f cm mo++L) st):
  ACalls P (F 255) [.ptr (some (o,off))] st fun v st'=>∃i,v=.ptr (some (i,0))∧SetS i lone cm (SetL o f cm mo++L) st':=by
 refine shows_call ok.mixed ok.h255 (by simp[k255]) ?_
 simp only[k255]
 have hsg:=hf.seg
 cases mo with
 | none=>
   have oo:=S.get
   simp[St.seg,oo,hsg]
   refine(hc.nil st).mono ?_
   rintro v st' ⟨rfl,rfl⟩
   simp[fillV,spliceV]
   intro i hi
   have S:=S.new hi (.cells [.map none])
   simp
   exact⟨_,sub_self _,none,fun _=>h0 rfl,S⟩
 | some m=>
   have oo:=S.get
   have om:=S.drop.get
   simp[St.seg,oo,hsg]
   refine(hc.some st m _ om).mono ?_
   rintro v st' ⟨n,rfl,hn,rfl⟩
   have S:=S.new hn (.mp (encM kPt vCoin cm))
   generalize st.upd n _=st2 at S⊢
   simp[fillV,spliceV]
   intro i hi
   have S:=S.new hi (.cells [.map (some n)])
   simp
   exact⟨_,sub_self _,some n,(fun e=>by cases e),S⟩
end
section
variable {P:Program} {F:Fn}
theorem spec160 (ok:OkIndexZ P F){st:St}{tid:Nat}{r:Rl}{l:List Nd}(h:TreeR tid r l st):ACalls P (F 160) [.ptr (some (tid,0))] st fun v st'=>v=.agg (eRl r)∧st'=st:=by
 obtain⟨sid,mid,spare,es,h⟩:=h
 refine shows_call ok.mixed ok.h160 (by simp[k160]) ?_
 simp only[k160]
 simp
 intro i2 h2
 have hz:z74_2f53.length=74:=rfl
 have hsp:spliceV z74_2f53 0 (eRl r)=eRl r:=by simp[spliceV,eRl_len,hz]
 have h':=h.sub (sub_upd (o:=.cells z74_2f53) h2)
 have o1:=h'.top
 have hall:segOf (eRl r) 0 74=some (eRl r):=by
  unfold segOf
  rw[if_pos (by rw[eRl_len];omega),List.drop_zero,←eRl_len r,List.take_length]
 have hst:storeS (st.upd i2 (.cells z74_2f53)) 74 (.ptr (some (i2,0))) (.agg (eRl r))=some (st.upd i2 (.cells (eRl r))):=by
  simp[storeS,eRl_len,hsp,hz]
 generalize hst1:st.upd i2 (.cells z74_2f53)=st1 at h' hst o1⊢
 have hsub: ∀x,St.sub st (st.upd i2 (.cells x)):=fun x=>sub_upd h2
 simp[St.seg,o1,tree_seg0,hst,hall,hsub]
theorem spec162 (ok:OkIndexZ P F){st:St}{tid:Nat}{r:Rl}{l:List Nd}(h:TreeR tid r l st)(k:Id):ACalls P (F 162) [.ptr (some (tid,0)),.agg (eId k)] st fun v st'=>v=.tup [.int .i64 (((findM l k).getD 0:Nat):Int),.bool (findM l k).isSome]∧st'=st:=by
 obtain⟨sid,mid,spare,es,h⟩:=h
 refine shows_call ok.mixed ok.h162 (by simp[k162]) ?_
 simp only[k162]
 simp
 intro i3 h3
 have S:=(Sep.start st).new h3 (.cells (eId k))
 generalize st.upd i3 _=st1 at S⊢
 have hs:St.sub st st1:=S.was' (by simp)
 have h:=h.sub hs
 have o3:=S.mem (i:=i3) (o:=.cells (eId k)) (by simp)
 have hk:segOf (eId k) 0 32=some (eId k):=by
  unfold segOf
  rw[if_pos (by rw[eId_len];omega),List.drop_zero,←eId_len k,List.take_length]
 have hl:=lookup_lk keyed_id (ev:=kInt) h.by_ (.int .i64 0) k
 rw[h.look]at hl
 simp only[kId]at hl
 simp[St.seg,h.top,tree_seg75,o3,hk,hl]
 cases e:findM l k<;>simp[kInt,hs]
end
structure Undo1 where
 pk:SK
 ps:List Pt
 ck:SK
 cs:List Coin1
def vUndo (u:Undo1):V:=.agg [.sl u.pk (rowsOf ePt u.ps) u.ps.length,.sl u.ck (rowsOf eCoin u.cs) u.cs.length]
def vBlk (b:Blk1):V:=.agg (eBlk b)
def chF (tid bid uid:Nat)(tip:Int)(v:V):List V:=[.ptr (some (tid,0)),v,.map (some bid),.map (some uid),.int .i64 tip]
theorem ch_hole (tid bid uid:Nat)(tip:Int):Hole (chF tid bid uid tip) 1:=⟨fun _=>rfl,fun _ _=>rfl⟩
abbrev Bods:=List (Int×Blk1)
abbrev Unds:=List (Int×Undo1)
structure Ch where
 r:Rl
 l:List Nd
 cm:CM
 bs:Bods
 us:Unds
 tip:Int
def ChL (c:Ch)(tid bid uid:Nat):List Asn:=[TreeS tid c.r c.l,pt bid (.mp (encM kInt vBlk c.bs)),pt uid (.mp (encM kInt vUndo c.us))]
def ChS (cid:Nat)(c:Ch)(L:List Asn)(st:St):Prop:=∃tid bid uid,SetS cid (chF tid bid uid c.tip) c.cm (ChL c tid bid uid++L) st
structure ChR (cid:Nat) (c:Ch) (st:St) (mo:Option Nat) (tid bid uid:Nat):Prop where
 top:st cid=some (.cells (chF tid bid uid c.tip (.map mo)))
 tree:c.l≠[]→TreeR tid c.r c.l st
 bod:st bid=some (.mp (encM kInt vBlk c.bs))
 und:st uid=some (.mp (encM kInt vUndo c.us))
theorem ChS.read {cid:Nat}{c:Ch}{L:List Asn}{st:St}(h:ChS cid c L st): ∃mo tid bid uid,ChR cid c st mo tid bid uid:=by
 obtain⟨tid,bid,uid,mo,h0,S⟩:=h
 refine⟨mo,tid,bid,uid,?_⟩
 cases mo with
 | none=>exact⟨S.get,fun hl=>S.drop.treeR hl,S.drop.drop.get,S.drop.drop.drop.get⟩
 | some m=>exact⟨S.get,fun hl=>S.drop.drop.treeR hl,S.drop.drop.drop.get,S.drop.drop.drop.drop.get⟩
theorem ChR.sub {cid:Nat}{c:Ch}{st st':St}{mo:Option Nat}{tid bid uid:Nat}(h:ChR cid c st mo tid bid uid)(hs:St.sub st st'):ChR cid c st' mo tid bid uid:=
 ⟨hs _ _ h.top,fun hl=>(h.tree hl).sub hs,hs _ _ h.bod,hs _ _ h.und⟩
theorem rsegBlk (r:Rl):segOf (eRl r) 5 69=some (eHdr r.gen++[r.txs]):=by
 refine rseg r ?_ (by omega)
 show(eHdr r.gen++[r.txs]).take 69=_
 rw[List.take_of_length_le]
 simp[eHdr_len]
section
variable {P:Program} {F:Fn}
variable {cid tid bid uid:Nat} {c:Ch} {mo:Option Nat}
theorem cseg0 (tid bid uid:Nat)(tip:Int)(v:V):segOf (chF tid bid uid tip v) 0 1=some [.ptr (some (tid,0))]:=rfl
theorem cseg2 (tid bid uid:Nat)(tip:Int)(v:V):segOf (chF tid bid uid tip v) 2 1=some [.map (some bid)]:=rfl
theorem cseg3 (tid bid uid:Nat)(tip:Int)(v:V):segOf (chF tid bid uid tip v) 3 1=some [.map (some uid)]:=rfl
theorem cseg4 (tid bid uid:Nat)(tip:Int)(v:V):segOf (chF tid bid uid tip v) 4 1=some [.int .i64 tip]:=rfl
theorem spec266 (ok:OkChain P F){st:St}(h:ChR cid c st mo tid bid uid):ACalls P (F 266) [.ptr (some (cid,0))] st fun v st'=>v=.int .i64 c.tip∧st'=st:=by
 refine shows_call ok.mixed ok.h266 (by simp[k266]) ?_
 simp only[k266]
 simp[St.seg,h.top,cseg4]
theorem nseg107 (x:Nd):segOf (eNd x) 107 1=some [.bool x.failed]:=seg_of_take (nsegFail x) (by rw[eNd_len];omega)
def hasM (c:Ch)(i:Int):Bool:=(lk i c.bs).isSome
theorem spec268 (ok:OkChain P F){st:St}(h:ChR cid c st mo tid bid uid)(i:Int):ACalls P (F 268) [.ptr (some (cid,0)),.int .i64 i] st fun v st'=>v=.bool (hasM c i)∧st'=st:=by
 refine shows_call ok.mixed ok.h268 (by simp[k268]) ?_
 simp only[k268]
 have hl:=lookup_lk keyed_int (ev:=vBlk) h.bod (V.agg z69_adc1) i
 obtain⟨ys,hys,hlen⟩: ∃ys,((lk i c.bs).map vBlk).getD (V.agg z69_adc1)=.agg ys∧ys.length=69:=by
  cases lk i c.bs with
  | none=>exact⟨_,rfl,rfl⟩
  | some b=>exact⟨_,rfl,eBlk_len b⟩
 rw[hys]at hl
 have hl:lookupV st .int (V.agg z69_adc1) true (.map (some bid)) (.int .i64 i)=some (.tup [.agg ys,.bool (hasM c i)]):=hl
 simp[St.seg,h.top,cseg2,hl]
 intro i5 h5
 have hst:=store_pt (sz:=69) (o:=0) (St.upd_same st i5 (.cells z69_adc1)) (v:=.agg ys) (vs:=ys) rfl hlen (by simp)
 simp[hst]
 exact sub_upd h5
theorem inI_nat {l:List Nd}{i:Nat}(h:i<l.length):inI l (i:Int)=i:=by
 unfold inI
 rw[if_neg (by omega)]
 omega
end
def kindOf {α:Type}(l:List α):SK:=if l=[]then .nil else .some
def cloneI (x:In1):In1:=⟨x.tx,x.ix,if x.key.length=0 then .full else .some,x.key⟩
def cloneT (t:Tx1):Tx1:=⟨kindOf (t.ins.map cloneI),t.ins.map cloneI,kindOf t.outs,t.outs⟩
def cloneB (b:Blk1):Blk1:=⟨b.hdr,kindOf (b.txs.map cloneT),b.txs.map cloneT⟩
theorem frzH_plain {st:St}{v:V}(h: ∀id off sz n,v≠.hsl id off sz n):frzH st v=some (v,st):=by
 cases v<;>first | rfl | exact absurd rfl (h _ _ _ _)
theorem frzL_app {st:St}: ∀(vs ws:List V),(∀v∈vs,∀id off sz n,v≠.hsl id off sz n)→frzL st (vs++ws)=(frzL st ws).map fun q=>(vs++q.1,q.2)
 | [],ws,_=>by cases h:frzL st ws<;>simp[h]
 | v::vs,ws,h=>by
   rw[List.cons_append,frzL,frzH_plain (h v (by simp)),Option.bind_some,frzL_app vs ws fun x hx=>h x (by simp[hx])]
   cases frzL st ws<;>rfl
theorem eHdr_plain (h:Hdr): ∀v∈eHdr h,∀id off sz n,v≠.hsl id off sz n:=by
 intro v hv id off sz n e
 subst e
 simp[eHdr,eId,w32]at hv
theorem Sep.frzHx {α:Type}{f:α→List V}{sz:Nat}(hf: ∀a,(f a).length=sz){s:V}{l:List α}{L:List Asn}{st:St}(h:Sep (Slx sz f s l::L) st)(hnil:l=[]→s=.sl .nil [] 0):
  ∃st',frzH st s=some (.sl (kindOf l) (rowsOf f l) l.length,st')∧Sep L st':=by
 by_cases hl:l=[]
 ·subst hl
  rw[hnil rfl]
  exact⟨st,rfl,h.drop⟩
 ·obtain⟨k,st',h1,h2,h3⟩:=Sep.frzSl hf (h.head fun h hh=>hh.sl)
  have hk:=h3 hl
  subst hk
  obtain⟨a0,r,q1,q2,q3,q4⟩:=h
  rcases q3 with⟨-,q3⟩ | ⟨sid,rfl,-⟩
  ·exact absurd q3 hl
  ·refine⟨st',?_,h2⟩
   rw[kindOf,if_neg hl]
   exact h1
theorem Sep.slxCells {α:Type}{f:α→List V}{sz:Nat}{s:V}{l:List α}{L:List Asn}{st:St}(h:Sep (Slx sz f s l::L) st):s.cells? =some [s]:=by
 obtain⟨a0,r,h1,h2,h3,h4⟩:=h
 rcases h3 with⟨rfl | rfl,-⟩ | ⟨sid,rfl,-⟩<;>rfl
theorem Sep.appx0 {α:Type}{f:α→List V}{sz:Nat}(hf: ∀a,(f a).length=sz)(hsz:0<sz){L:List Asn}{st:St}(h:Sep L st){b:Nat}(m:List α){ys:List V}{n:Nat}(hys:ys=rowsOf f m)(hn:n=m.length)(hb:n*b≤140737488355328){K:V→St→Prop}
  (hK: ∀s' st',(m=[]→s'=.sl .nil [] 0)→Sep (Slx sz f s' m::L) st'→K s' st'):appS sz b (.sl .nil [] 0) (some (ys,n)) st K:=by
 subst hys hn
 by_cases hm:m=[]
 ·subst hm
  exact⟨.inl rfl,by simp,by simp,fun _=>hK _ _ (fun _=>rfl) h.slxNil,fun e=>absurd rfl e⟩
 ·refine Sep.appx hf hsz (l:=[]) h.slxNil (m:=m) (by simpa using hb) fun s' st' S=>hK _ _ (fun e=>absurd e hm) ?_
  simpa using S
theorem appn_full {sz b:Nat}{ys:List V}{m:Nat}{K:V→Prop}(h0:m=0→ys=[])(hb:m*b≤140737488355328)(h:K (.sl (if m=0 then .full else .some) ys m)):appnS sz b (.sl .full [] 0) (some (ys,m)) K:=by
 refine⟨.inr rfl,by simp,by simpa using hb,fun e=>?_,fun e=>?_⟩
 ·rw[if_pos e,h0 e,e]at h
  exact h
 ·rw[if_neg e]at h
  simpa using h
section
variable {P:Program} {F:Fn}
set_option maxHeartbeats 8000000 in
theorem spec271 (ok:OkChain P F)(st:St)(b:Blk1)(hl:b.txs.length≤1000)(hk: ∀t∈b.txs,t.ok 100):
  ACalls P (F 271) [.agg (eBlk b)] st fun v st'=>v=vBlk (cloneB b)∧st'=st:=by
 refine shows_call ok.mixed ok.h271 (by simp[k271]) ?_
 simp only[k271]
 have hsT:=bsegT b
 have hsH:=bsegH b
 have z69:fillV z69_adc1 [(0,68,.agg (eHdr b.hdr))]=some (eHdr b.hdr++[.sl .nil [] 0]):=by
  have z:z69_adc1=eHdr hdr0++[.sl .nil [] 0]:=rfl
  simp[fillV,z,spliceV,eHdr_len]
 simp
 intro i1 h1
 have S:=(Sep.start st).new h1 (.cells (eBlk b))
 generalize st.upd i1 _=st1 at S⊢
 simp
 intro i2 h2
 have S:=S.new h2 (.cells z69_adc1)
 generalize st1.upd i2 _=st2 at S⊢
 have o1:=S.drop.get
 simp[St.seg,o1,hsH,z69]
 intro i3 h3
 have S:=S.new h3 (.cells z69_adc1)
 have hst:=store_pt (sz:=69) (o:=0) S.get (v:=.agg (eHdr b.hdr++[.sl .nil [] 0])) (vs:=eHdr b.hdr++[.sl .nil [] 0]) rfl (by simp[eHdr_len]) (by decide)
 have hsp:spliceV z69_adc1 0 (eHdr b.hdr++[.sl .nil [] 0])=eHdr b.hdr++[.sl .nil [] 0]:=by
  have z:z69_adc1.length=69:=rfl
  simp[spliceV,eHdr_len,z]
 rw[hsp]at hst
 have S:=S.set (.cells (eHdr b.hdr++[.sl .nil [] 0]))
 simp[hst]at S⊢
 generalize st2.upd i3 _=st3 at S⊢
 have o1:=S.drop.drop.get
 have hln:lenSlV (txsV b.tk b.txs)=some (.int .i64 (b.txs.length:Nat)):=rfl
 simp[St.seg,o1,hsT,hln]
 have sT: ∀v:V,segOf (eHdr b.hdr++[v]) 68 1=some [v]:=fun v=>seg_of_drop (zs:=[]) (by rw[List.drop_left' (eHdr_len _)];rfl) rfl (by omega)
 have sAll: ∀v:V,segOf (eHdr b.hdr++[v]) 0 69=some (eHdr b.hdr++[v]):=fun v=>seg_of_take (by rw[List.drop_zero,List.take_of_length_le (by simp[eHdr_len])]) (by simp[eHdr_len])
 have spT: ∀v u:V,spliceV (eHdr b.hdr++[v]) 68 [u]=eHdr b.hdr++[u]:=fun v u=>by
  have:(eHdr b.hdr).take 68=eHdr b.hdr:=List.take_of_length_le (by rw[eHdr_len];exact Nat.le_refl _)
  simp[spliceV,eHdr_len,List.take_append_of_le_length,this]
 have s2a: ∀v u:V,segOf [v,u] 0 1=some [v]:=fun _ _=>rfl
 have s2b: ∀v u:V,segOf [v,u] 1 1=some [u]:=fun _ _=>rfl
 refine vc_joinB (M:=fun env' st'=>∃tv,(b.txs=[]→tv=.sl .nil [] 0)∧Sep [Slx 2 eTx tv (b.txs.map cloneT),pt i3 (.cells (eHdr b.hdr++[tv])),pt i2 (.cells z69_adc1),pt i1 (.cells (eBlk b)),Was st] st') ?_ ?_
 ·refine vc_loopJ (fun n env' st'=>∃(i:Nat) (tv:V),i≤b.txs.length∧n=b.txs.length-i∧env' 15=.int .i64 (i:Nat)∧(i=0→tv=.sl .nil [] 0)∧Sep [Slx 2 eTx tv ((b.txs.map cloneT).take i),pt i3 (.cells (eHdr b.hdr++[tv])),pt i2 (.cells z69_adc1),pt i1 (.cells (eBlk b)),Was st] st') b.txs.length
    ⟨0,.sl .nil [] 0,by omega,by omega,by simp,fun _=>rfl,by
     have S:Sep [Slx 2 eTx (.sl .nil [] 0) [],pt i3 (.cells (eHdr b.hdr++[.sl .nil [] 0])),pt i2 (.cells z69_adc1),pt i1 (.cells (eBlk b)),Was st] st3:=Sep.slxNil S
     simpa using S⟩ ?_
  clear S o1 hst
  rintro J hJ n env1 st4 hsame ⟨i,tv,hi,rfl,h15,htv,S⟩
  have g1:=(hsame.get 1 rfl).trans (by simp:_=V.ptr (some (i1,0)))
  have g3:=(hsame.get 3 rfl).trans (by simp:_=V.ptr (some (i3,0)))
  have g13:=(hsame.get 13 rfl).trans (by simp:_=txsV b.tk b.txs)
  have g14:=(hsame.get 14 rfl).trans (by simp:_=V.int .i64 (b.txs.length:Int))
  clear hsame
  by_cases hlt:i<b.txs.length
  ·have w1:IntKind.i64.wrap ((i:Int)+1)=(i:Int)+1:=wrap64 (by omega) (by omega)
   obtain⟨r1,r2,r3,r4⟩:=(rd_txs b st4).row eTx_len hlt
   obtain⟨t,ht⟩: ∃t,t=b.txs[i]:=⟨_,rfl⟩
   rw[←ht]at r3
   have htk:(b.txs.map cloneT).take (i+1)=(b.txs.map cloneT).take i++[cloneT t]:=by
    rw[List.take_succ_eq_append_getElem (by rw[List.length_map];exact hlt),List.getElem_map,←ht]
   have hto:=hk t (ht ▸List.getElem_mem hlt)
   simp[g13,g14,h15,hlt,r1,r3]
   intro i5 h5
   have S:=S.new h5 (.cells [.sl .nil [] 0,.sl .nil [] 0])
   have hst:=store_pt (sz:=2) (o:=0) S.get (v:=.agg (eTx t)) (vs:=eTx t) rfl rfl (by simp)
   rw[show spliceV [V.sl .nil [] 0,V.sl .nil [] 0] 0 (eTx t)=eTx t from rfl]at hst
   have S:=S.set (.cells (eTx t))
   simp[hst]at S⊢
   generalize st4.upd i5 _=st5 at S⊢
   intro i6 h6
   have S:=S.new h6 (.cells [.sl .nil [] 0,.sl .nil [] 0])
   generalize st5.upd i6 _=st6 at S⊢
   have o5:=S.drop.get
   have hli:lenSlV (insV t)=some (.int .i64 (t.ins.length:Nat)):=rfl
   simp[St.seg,o5,tsegIns,hli]
   refine vc_joinB (M:=fun env' st'=>∃iv,(t.ins=[]→iv=.sl .nil [] 0)∧Sep [Slx 34 eIn iv (t.ins.map cloneI),pt i6 (.cells [iv,.sl .nil [] 0]),pt i5 (.cells (eTx t)),Slx 2 eTx tv ((b.txs.map cloneT).take i),pt i3 (.cells (eHdr b.hdr++[tv])),pt i2 (.cells z69_adc1),pt i1 (.cells (eBlk b)),Was st] st') ?_ ?_
   ·refine vc_loopJ (fun n env' st'=>∃(k:Nat) (iv:V),k≤t.ins.length∧n=t.ins.length-k∧env' 22=.int .i64 (k:Nat)∧(k=0→iv=.sl .nil [] 0)∧Sep [Slx 34 eIn iv ((t.ins.map cloneI).take k),pt i6 (.cells [iv,.sl .nil [] 0]),pt i5 (.cells (eTx t)),Slx 2 eTx tv ((b.txs.map cloneT).take i),pt i3 (.cells (eHdr b.hdr++[tv])),pt i2 (.cells z69_adc1),pt i1 (.cells (eBlk b)),Was st] st') t.ins.length
      ⟨0,.sl .nil [] 0,by omega,by omega,by simp,fun _=>rfl,by
       have S:Sep [Slx 34 eIn (.sl .nil [] 0) [],pt i6 (.cells [.sl .nil [] 0,.sl .nil [] 0]),pt i5 (.cells (eTx t)),Slx 2 eTx tv ((b.txs.map cloneT).take i),pt i3 (.cells (eHdr b.hdr++[tv])),pt i2 (.cells z69_adc1),pt i1 (.cells (eBlk b)),Was st] st6:=Sep.slxNil S
       simpa using S⟩ ?_
    clear S o5 hst
    rintro J2 hJ2 n env2 st7 hsame ⟨k,iv,hkl,rfl,h22,hiv,S⟩
    have g6:=(hsame.get 6 rfl).trans (by simp:_=V.ptr (some (i6,0)))
    have g20:=(hsame.get 20 rfl).trans (by simp:_=insV t)
    have g21:=(hsame.get 21 rfl).trans (by simp:_=V.int .i64 (t.ins.length:Int))
    clear hsame
    by_cases hkt:k<t.ins.length
    ·have w2:IntKind.i64.wrap ((k:Int)+1)=(k:Int)+1:=wrap64 (by omega) (by have:=hto.1;omega)
     obtain⟨q1,q2,q3,q4⟩:=(rd_ins t st7).row eIn_len hkt
     obtain⟨x,hx⟩: ∃x,x=t.ins[k]:=⟨_,rfl⟩
     rw[←hx]at q3
     have hxk:=hto.2.2 x (hx ▸List.getElem_mem hkt)
     have htk2:(t.ins.map cloneI).take (k+1)=(t.ins.map cloneI).take k++[cloneI x]:=by
      rw[List.take_succ_eq_append_getElem (by rw[List.length_map];exact hkt),List.getElem_map,←hx]
     simp[g20,g21,h22,hkt,q1,q3]
     intro i8 h8
     have S:=S.new h8 (.cells z34_1838)
     have hst:=store_pt (sz:=34) (o:=0) S.get (v:=.agg (eIn x)) (vs:=eIn x) rfl (eIn_len _) (by decide)
     rw[show spliceV z34_1838 0 (eIn x)=eIn x by simp[spliceV,eIn_len]]at hst
     have S:=S.set (.cells (eIn x))
     simp[hst]at S⊢
     generalize st7.upd i8 _=st8 at S⊢
     have o8:=S.get
     have o6:=S.drop.drop.get
     have hfe:fillV (repV [w8 0] 0) []=some []:=rfl
     have hke:elems st8 1 (keyV x.kk x.key)=some (rowsOf e8 x.key,x.key.length):=Rd.elems e8_len (.inl ⟨x.kk,rfl⟩)
     have hfI: ∀kd:SK,fillV z34_1838 [(0,33,.agg (ePt x.pt)),(33,1,.sl kd (rowsOf e8 x.key) x.key.length)]=some (eIn ⟨x.tx,x.ix,kd,x.key⟩):=fun kd=>by
      have z:z34_1838=ePt (id0,0#32)++[.sl .nil [] 0]:=rfl
      simp[fillV,z,spliceV,ePt_len,eIn,keyV]
      simp[ePt,In1.pt,eId_len]
     have hfr:fillV (repV z34_1838 1) [(0,34,.agg (eIn (cloneI x)))]=some (eIn (cloneI x)):=by
      rw[show repV z34_1838 1=z34_1838 from rfl]
      have z:z34_1838.length=34:=rfl
      simp[fillV,spliceV,eIn_len,z]
     have hel: ∀s:St,elems s 34 (.sl .full (eIn (cloneI x)) 1)=some (rowsOf eIn [cloneI x],1):=fun s=>by simp[elems,eIn_len,rowsOf]
     simp[g6,hfe,St.seg,o8,o6,insegPt,insegKey,s2a,hke]
     refine appn_full (ys:=rowsOf e8 x.key) (m:=x.key.length) (b:=1) (fun e=>by rw[List.length_eq_zero_iff.1 e];rfl) (by omega) ?_
     rw[show(if x.key.length=0 then SK.full else SK.some)=(cloneI x).kk from rfl]
     simp[hfI]
     rw[show(⟨x.tx,x.ix,(cloneI x).kk,x.key⟩:In1)=cloneI x from rfl]
     simp[hfr,hel]
     refine Sep.appx' (b:=64) eIn_len (by omega) S.drop [cloneI x] (by simp[rowsOf]) rfl (by simp only[List.length_singleton,List.length_map,List.length_take];have:=hto.1;omega) ?_
     intro s' st9 S
     rw[←htk2]at S
     have o6:=S.drop.get
     have hst:=store_pt (sz:=1) (o:=0) o6 (v:=s') (vs:=[s']) S.slxCells rfl (by simp)
     rw[show spliceV [iv,V.sl .nil [] 0] 0 [s']=[s',.sl .nil [] 0]from rfl]at hst
     have S:=S.setAt (.cells [s',.sl .nil [] 0]) 1 rfl
     simp only[List.set_cons_succ,List.set_cons_zero]at S
     simp[g6,hst,h22,w2]
     exact Round.mk (t.ins.length-(k+1)) _ (by omega) (sub_self _) (hJ2 _ _ _ ⟨k+1,s',by omega,rfl,by simp,(fun e=>by omega),S⟩)
    ·have:k=t.ins.length:=by omega
     subst this
     rw[List.take_of_length_le (by rw[List.length_map];exact Nat.le_refl _)]at S
     simp[g21,h22]
     exact⟨iv,(fun e=>hiv (by rw[e];rfl)),S⟩
   clear S o5 hst
   rintro env2 st7 hsame ⟨iv,hiv,S⟩
   have g3:=(hsame.get 3 rfl).trans (by simp[g3]:_=V.ptr (some (i3,0)))
   have g5:=(hsame.get 5 rfl).trans (by simp:_=V.ptr (some (i5,0)))
   have g6:=(hsame.get 6 rfl).trans (by simp:_=V.ptr (some (i6,0)))
   have g15:=(hsame.get 15 rfl).trans (by simp[h15]:_=V.int .i64 (i:Int))
   clear hsame
   have o5:=S.drop.drop.get
   have o6:=S.drop.get
   have heo:elems st7 33 (outsV t)=some (rowsOf eOut t.outs,t.outs.length):=(rd_outs t st7).elems eOut_len
   simp[g5,g6,St.seg,o5,o6,s2b,tsegOuts,heo]
   refine Sep.appx0 (b:=40) eOut_len (by omega) S t.outs rfl rfl (by have:=hto.2.1;omega) ?_
   clear S o5 o6
   intro ov st8 hov S
   have o6:=S.drop.drop.get
   have hst:=store_pt (sz:=1) (o:=1) o6 (v:=ov) (vs:=[ov]) S.slxCells rfl (by simp)
   rw[show spliceV [iv,V.sl .nil [] 0] 1 [ov]=[iv,ov]from rfl]at hst
   have S:=S.setAt (.cells [iv,ov]) 2 rfl
   simp only[List.set_cons_succ,List.set_cons_zero]at S
   simp[g6,hst]
   clear hst o6
   generalize st8.upd i6 _=st9 at S⊢
   have o6:=S.drop.drop.get
   have S:=S.setAt (.ro [iv,ov]) 2 rfl
   simp only[List.set_cons_succ,List.set_cons_zero]at S
   have S:Sep [Slx 34 eIn iv (t.ins.map cloneI),Slx 33 eOut ov t.outs,pt i5 (.cells (eTx t)),Slx 2 eTx tv ((b.txs.map cloneT).take i),pt i3 (.cells (eHdr b.hdr++[tv])),pt i2 (.cells z69_adc1),pt i1 (.cells (eBlk b)),Was st] (st9.upd i6 (.ro [iv,ov])):=S.swap.tail fun r h=>h.tail fun r h=>h.drop
   obtain⟨sa,ha,S⟩:=Sep.frzHx eIn_len S (fun e=>hiv (by simpa using e))
   obtain⟨sb,hb,S⟩:=Sep.frzHx eOut_len S hov
   have hfL:frzL (st9.upd i6 (.ro [iv,ov])) [iv,ov]=some (eTx (cloneT t),sb):=by
    simp only[frzL,ha,hb,Option.bind_some,Option.map_some]
    rfl
   have S:=S.drop
   have o3:=S.drop.get
   have hfr:fillV (repV [V.sl .nil [] 0,V.sl .nil [] 0] 1) [(0,2,.agg (eTx (cloneT t)))]=some (eTx (cloneT t)):=rfl
   have hel: ∀s:St,elems s 2 (.sl .full (eTx (cloneT t)) 1)=some (rowsOf eTx [cloneT t],1):=fun s=>by simp[elems,eTx_len,rowsOf]
   have hle:ldE 2 (.eptr (eTx (cloneT t)))=some (eTx (cloneT t)):=rfl
   simp[frzP,frzV,frzOb,o6,g6,hfL,g3,St.seg,o3,sT,hle,hfr,hel]
   refine Sep.appx' (b:=48) eTx_len (by omega) S [cloneT t] (by simp[rowsOf]) rfl (by simp only[List.length_singleton,List.length_map,List.length_take];omega) ?_
   intro s' st10 S
   rw[←htk]at S
   have o3:=S.drop.get
   have hst:=store_pt (sz:=1) (o:=68) o3 (v:=s') (vs:=[s']) S.slxCells rfl (by simp[eHdr_len])
   rw[spT]at hst
   have S:=S.setAt (.cells (eHdr b.hdr++[s'])) 1 rfl
   simp only[List.set_cons_succ,List.set_cons_zero]at S
   simp[g3,hst,g15,w1]
   exact Round.mk (b.txs.length-(i+1)) _ (by omega) (sub_self _) (hJ _ _ _ ⟨i+1,s',by omega,rfl,by simp,(fun e=>by omega),S⟩)
  ·have:i=b.txs.length:=by omega
   subst this
   rw[List.take_of_length_le (by rw[List.length_map];exact Nat.le_refl _)]at S
   simp[g14,h15]
   exact⟨tv,(fun e=>htv (by rw[e];rfl)),S⟩
 clear S o1 hst
 rintro env1 st4 hsame ⟨tv,htv,S⟩
 have g2:=(hsame.get 2 rfl).trans (by simp:_=V.ptr (some (i2,0)))
 have g3:=(hsame.get 3 rfl).trans (by simp:_=V.ptr (some (i3,0)))
 clear hsame
 have o3:=S.drop.get
 have S:=S.setAt (.ro (eHdr b.hdr++[tv])) 1 rfl
 simp only[List.set_cons_succ,List.set_cons_zero]at S
 have S:Sep [Slx 2 eTx tv (b.txs.map cloneT),pt i2 (.cells z69_adc1),pt i1 (.cells (eBlk b)),Was st] (st4.upd i3 (.ro (eHdr b.hdr++[tv]))):=S.tail fun r h=>h.drop
 obtain⟨sa,ha,S⟩:=Sep.frzHx eTx_len S (fun e=>htv (by simpa using e))
 have hfL:frzL (st4.upd i3 (.ro (eHdr b.hdr++[tv]))) (eHdr b.hdr++[tv])=some (eBlk (cloneB b),sa):=by
  rw[frzL_app _ _ (eHdr_plain b.hdr)]
  simp only[frzL,ha,Option.bind_some,Option.map_some]
  rfl
 have hle:ldE 69 (.eptr (eBlk (cloneB b)))=some (eBlk (cloneB b)):=by simp[ldE,bsegAll]
 have hst:=store_pt (sz:=69) (o:=0) S.get (v:=.agg (eBlk (cloneB b))) (vs:=eBlk (cloneB b)) rfl (eBlk_len _) (by decide)
 have hsp:spliceV z69_adc1 0 (eBlk (cloneB b))=eBlk (cloneB b):=by
  have z:z69_adc1.length=69:=rfl
  simp[spliceV,eBlk_len,z]
 rw[hsp]at hst
 have S:=S.set (.cells (eBlk (cloneB b)))
 simp[frzP,frzV,frzOb,o3,g3,hfL,hle,g2,hst]
 have o2:=S.get
 simp[St.seg,bsegAll,vBlk]
 exact S.was' (st0:=st) (by simp)
end
theorem condB_cut {P:Program}{v:V}{a b rest:PC}{Q:Ex→Env→St→Prop}{env:Env}{st:St}(M:Env→St→Prop)
  (h:condB P v a b (fun e env' st'=>match e with | .normal=>M env' st' | e=>Q e env' st') env st) (k: ∀env' st',M env' st'→vc P rest Q env' st'):condB P v a b (seqK P rest Q) env st:=by
 unfold condB at h⊢
 cases v<;>simp only at h⊢
 case bool t=>
  have key: ∀c,vc P c (fun e env' st'=>match e with | .normal=>M env' st' | e=>Q e env' st') env st→vc P c (seqK P rest Q) env st:=fun c h=>
   vc_frame c _ _ env st (fun e env' st' _ h=>by cases e<;>first | exact k _ _ h | exact h) h
  cases t
  ·simp only[Bool.false_eq_true,if_false]at h⊢
   exact key _ h
  ·simp only[if_true]at h⊢
   exact key _ h
def takeL (id:Id):Nat→List Out1→CM→CM
 | _,[],cm=>cm
 | j,_::l,cm=>takeL id (j+1) l (aDel (id,BitVec.ofNat 32 j) cm)
def takeM (t:Tx1)(cm:CM):CM:=takeL (txIdM t) 0 t.outs cm
section
variable {P:Program} {F:Fn}
set_option maxHeartbeats 4000000 in
theorem spec261m (ok:OkCoins P F){st:St}{o off:Nat}{f:V→List V}(hf:Hole f off){cm:CM}{mo:Option Nat}(hmo:mo=none→cm=[]){L:List Asn}(S:Sep (SetL o f cm mo++L) st)(t:Tx1)(ht:t.ok 100):
  ACalls P (F 261) [.ptr (some (o,off)),.agg (eTx t)] st fun v st'=>(mo=none→takeM t cm=[])∧Sep (SetL o f (takeM t cm) mo++L) st':=by
 have okt:=ok.toOkCheck2.toOkCheck.toOkTx
 refine shows_call ok.mixed ok.h261 (by simp[k261]) ?_
 simp only[k261]
 have hsg:=hf.seg
 simp
 intro i3 h3
 have S:=bury (S.new h3 (.cells (eTx t)))
 generalize st.upd i3 _=st1 at S⊢
 have o3:st1 i3=some (.cells (eTx t)):=S.mem (by simp)
 simp[St.seg,o3,tsegAll]
 refine(spec198 okt st1 t ht).mono ?_
 rintro v st2 ⟨rfl,rfl⟩
 simp
 intro i4 h4
 have S:=S.new h4 (.cells zR32_w80)
 have hst:=store_z32 S.get (txIdM t)
 have S:=bury (S.set (.cells (eId (txIdM t))))
 simp[hst]at S⊢
 generalize st2.upd i4 (.cells (eId (txIdM t)))=st5 at S⊢
 have o3:st5 i3=some (.cells (eTx t)):=S.mem (by simp)
 have so:=tsegOuts t
 have lo:=outsV_len t
 simp[St.seg,o3,so,lo]
 ·refine vc_loopJ (fun c env' st'=>∃(i:Nat) (cm':CM),i≤t.outs.length∧c=t.outs.length-i∧env' 11=.int .i64 (i:Nat)∧takeL (txIdM t) i (t.outs.drop i) cm'=takeM t cm∧(mo=none→cm'=[])∧Sep (SetL o f cm' mo++(pt i4 (.cells (eId (txIdM t)))::pt i3 (.cells (eTx t))::L)) st') t.outs.length
    ⟨0,cm,by omega,by omega,by simp,by simp[takeM],hmo,S⟩ ?_
  clear S o3 hst hmo
  rintro J hJ c env' st4 hsame ⟨i,cm',hi,rfl,h11,hgo,hmo,S⟩
  have g0:=(hsame.get 0 rfl).trans (by simp:_=V.ptr (some (o,off)))
  have g4:=(hsame.get 4 rfl).trans (by simp:_=V.ptr (some (i4,0)))
  have g10:=(hsame.get 10 rfl).trans (by simp:_=V.int .i64 (t.outs.length:Int))
  clear hsame
  by_cases hlt:i<t.outs.length
  ·rw[List.drop_eq_getElem_cons hlt,takeL]at hgo
   have w1:IntKind.i64.wrap ((i:Int)+1)=(i:Int)+1:=wrap64 (by omega) (by have:=ht.2.1;omega)
   have w2:=wrap32 i
   have hfl:=ptFill (txIdM t) (BitVec.ofNat 32 i)
   have s7:segOf (eId (txIdM t)) 0 32=some (eId (txIdM t)):=seg_of_drop (zs:=[]) (by simp) (eId_len _) (by omega)
   have o4:st4 i4=some (.cells (eId (txIdM t))):=S.mem (by simp)
   cases mo with
   | none=>
     have he:cm'=[]:=hmo rfl
     subst he
     have oo:=S.get
     have hd:=mdel_none keyed_pt (st:=st4) (txIdM t,BitVec.ofNat 32 i)
     simp[g0,g4,g10,h11,hlt,St.seg,oo,hsg,o4,s7,w2,hfl]
     rw[show V.agg (ePt (txIdM t,BitVec.ofNat 32 i))=kPt (txIdM t,BitVec.ofNat 32 i)from rfl,hd]
     simp[h11,w1]
     exact Round.mk (t.outs.length-(i+1)) _ (by omega) (sub_self _) (hJ _ _ _ ⟨i+1,[],by omega,rfl,by simp,hgo,fun _=>rfl,S⟩)
   | some m=>
     have oo:=S.get
     have om:=S.drop.get
     have hd:=mdel_enc keyed_pt (ev:=vCoin) om (txIdM t,BitVec.ofNat 32 i)
     simp[g0,g4,g10,h11,hlt,St.seg,oo,hsg,o4,s7,w2,hfl]
     rw[show V.agg (ePt (txIdM t,BitVec.ofNat 32 i))=kPt (txIdM t,BitVec.ofNat 32 i)from rfl,hd]
     simp[h11,w1]
     exact Round.mk (t.outs.length-(i+1)) _ (by omega) (sub_self _) (hJ _ _ _ ⟨i+1,_,by omega,rfl,by simp,hgo,(fun e=>by cases e),(S.swap.set _).swap⟩)
  ·have:i=t.outs.length:=by omega
   subst this
   rw[List.drop_length,takeL]at hgo
   rw[←hgo]
   simp[g10,h11]
   refine⟨st4,sub_self _,hmo,?_⟩
   cases mo with
   | none=>exact S.tail fun r h=>h.drop.drop
   | some m=>exact S.tail fun r h=>h.tail fun r h=>h.drop.drop
end
theorem dig {o:Nat}{f:V→List V}{cm:CM}{mo:Option Nat}{A:Asn}{L:List Asn}{st:St}(S:Sep (SetL o f cm mo++A::L) st):Sep (A::(SetL o f cm mo++L)) st:=by
 cases mo with
 | none=>exact S.swap
 | some m=>exact S.pull 2
theorem SetS.front {o:Nat}{f:V→List V}{cm:CM}{A:Asn}{L:List Asn}{st:St}(W:SetS o f cm (A::L) st): ∃mo,(mo=none→cm=[])∧Sep (A::(SetL o f cm mo++L)) st:=by
 obtain⟨mo,h0,S⟩:=W
 exact⟨mo,h0,dig S⟩
theorem SetS.back {o:Nat}{f:V→List V}{cm:CM}{A:Asn}{L:List Asn}{st:St}{mo:Option Nat}(h0:mo=none→cm=[])(S:Sep (A::(SetL o f cm mo++L)) st):SetS o f cm (A::L) st:=⟨mo,h0,bury S⟩
structure Sp where
 n:Int
 e:Int
 cm:CM
 ps:List Pt
 cs:List Coin1
def ptOf (i:In1):Pt:=(i.tx,i.ix)
def spendGo:CM→List Pt→List Coin1→Int→List In1→Sp
 | cm,ps,cs,n,[]=>⟨n,0,cm,ps,cs⟩
 | cm,ps,cs,n,i::l=>
   match lk (ptOf i) cm with
   | none=>⟨0,130,cm,ps,cs⟩
   | some c=>if sha i.key≠c.1.lock then⟨0,131,cm,ps,cs⟩else spendGo (aDel (ptOf i) cm) (ps++[ptOf i]) (cs++[c]) (IntKind.i64.wrap (n+c.1.amt)) l
theorem isegPt (x:In1):segOf (eIn x) 0 33=some (ePt (ptOf x)):=by
 refine seg_of_drop (zs:=[keyV x.kk x.key]) ?_ (ePt_len _) (by omega)
 simp[eIn,ePt,ptOf]
theorem isegKey (x:In1):segOf (eIn x) 33 1=some [keyV x.kk x.key]:=by
 refine seg_of_drop (zs:=[]) ?_ rfl (by omega)
 rw[show eIn x=(eId x.tx++[w32 x.ix])++[keyV x.kk x.key] by simp[eIn],List.drop_left' (by simp[eId_len])]
 rfl
def UndL (ui:Nat)(p c:V)(ps:List Pt)(cs:List Coin1):List Asn:=[pt ui (.cells [p,c]),Sl 33 ePt p ps,Sl 34 eCoin c cs]
theorem SetS.look {o:Nat}{f:V→List V}{cm:CM}{L:List Asn}{st:St}(W:SetS o f cm L st): ∃mv,st o=some (.cells (f mv))∧∀z k,lookupV st (.agg 33) z true mv (.agg (ePt k))=some (.tup [((lk k cm).map vCoin).getD z,.bool (lk k cm).isSome]):=by
 obtain⟨mo,h0,S⟩:=W
 cases mo with
 | none=>
   have he:cm=[]:=h0 rfl
   subst he
   refine⟨_,S.get,fun z k=>?_⟩
   have:=lookup_none keyed_pt (st:=st) z true k
   simpa[lk,kPt]using this
 | some m=>exact⟨_,S.get,fun z k=>lookup_lk keyed_pt (ev:=vCoin) S.drop.get z k⟩
theorem SetS.cut {o:Nat}{f:V→List V}{cm:CM}{L:List Asn}{st:St}(W:SetS o f cm L st)(k:Pt): ∃mv st',st o=some (.cells (f mv))∧mdelS st (.agg 33) mv (.agg (ePt k))=some st'∧SetS o f (aDel k cm) L st':=by
 obtain⟨mo,h0,S⟩:=W
 cases mo with
 | none=>
   have he:cm=[]:=h0 rfl
   subst he
   exact⟨_,_,S.get,mdel_none keyed_pt (st:=st) k,none,fun _=>rfl,S⟩
 | some m=>exact⟨_,_,S.get,mdel_enc keyed_pt (ev:=vCoin) S.drop.get k,some m,(fun e=>by cases e),(S.swap.set _).swap⟩
theorem cosegAll (c:Coin1):segOf (eCoin c) 0 34=some (eCoin c):=seg_of_drop (zs:=[]) (by simp) (eCoin_len _) (by omega)
theorem cosegLock (c:Coin1):segOf (eCoin c) 1 32=some (eId c.1.lock):=seg_of_drop (zs:=[.int .i64 c.2]) (by simp[eCoin,eOut]) (eId_len _) (by omega)
theorem cosegAmt (c:Coin1):segOf (eCoin c) 0 1=some [.int .i64 c.1.amt]:=by simp[segOf,eCoin,eOut]
theorem Sep.slCells {α:Type}{f:α→List V}{sz:Nat}{s:V}{l:List α}{L:List Asn}{st:St}(h:Sep (Sl sz f s l::L) st):s.cells? =some [s]:=by
 obtain⟨a0,r,h1,h2,h3,h4⟩:=h
 rcases h3 with⟨hs,-⟩ | ⟨sid,sp,rfl,-,-⟩
 ·rcases hs with rfl | rfl<;>rfl
 ·rfl
section
variable {P:Program} {F:Fn}
set_option maxHeartbeats 8000000 in
theorem spec257 (ok:OkCoins P F){st:St}{o off:Nat}{f:V→List V}(hf:Hole f off){cm:CM}{ui:Nat}{p c:V}{ps:List Pt}{cs:List Coin1}{L:List Asn}(h0:SetS o f cm (UndL ui p c ps cs++L) st)(t:Tx1)(ht:t.ok 100)(hps:ps.length≤100000)(hcs:cs.length≤100000):
  ACalls P (F 257) [.ptr (some (o,off)),.ptr (some (ui,0)),insV t] st fun v st'=>v=.tup [.int .i64 (spendGo cm ps cs 0 t.ins).n,.int .i64 (spendGo cm ps cs 0 t.ins).e]∧∃p' c',((spendGo cm ps cs 0 t.ins).ps=[]→p'=p)∧((spendGo cm ps cs 0 t.ins).cs=[]→c'=c)∧SetS o f (spendGo cm ps cs 0 t.ins).cm (UndL ui p' c' (spendGo cm ps cs 0 t.ins).ps (spendGo cm ps cs 0 t.ins).cs++L) st':=by
 have okh:=ok.toOkCheck2.toOkCheck.toOkTx.toOkHead.toOkHash
 refine shows_call ok.mixed ok.h257 (by simp[k257]) ?_
 simp only[k257]
 have hsg:=hf.seg
 have hln:lenSlV (insV t)=some (.int .i64 (t.ins.length:Nat)):=rfl
 obtain⟨R,hR⟩: ∃R,R=spendGo cm ps cs 0 t.ins:=⟨_,rfl⟩
 rw[←hR]
 simp[hln]
 refine vc_joinB (M:=fun env' st'=>R.e=0∧env' 8=.int .i64 R.n∧∃p' c',(R.ps=[]→p'=p)∧(R.cs=[]→c'=c)∧SetS o f R.cm (UndL ui p' c' R.ps R.cs++L) st') ?_ ?_
 ·refine vc_loopJ (fun d env' st'=>∃(i:Nat) (cm':CM) (ps':List Pt) (cs':List Coin1) (n:Int) (p' c':V),i≤t.ins.length∧d=t.ins.length-i∧env' 15=.int .i64 (i:Nat)∧env' 8=.int .i64 n∧spendGo cm' ps' cs' n (t.ins.drop i)=R∧ps'.length≤100000+i∧cs'.length≤100000+i∧(ps'=[]→p'=p)∧(cs'=[]→c'=c)∧SetS o f cm' (UndL ui p' c' ps' cs'++L) st') t.ins.length
    ⟨0,cm,ps,cs,0,p,c,by omega,by omega,by simp,by simp,by rw[List.drop_zero,hR],by omega,by omega,fun _=>rfl,fun _=>rfl,h0⟩ ?_
  clear h0 hR hps hcs
  rintro J hJ d env1 st1 hsame ⟨i,cm',ps',cs',n,p',c',hi,rfl,h15,h8,hgo,hps,hcs,hpn,hcn,W⟩
  have g0:=(hsame.get 0 rfl).trans (by simp:_=V.ptr (some (o,off)))
  have g1:=(hsame.get 1 rfl).trans (by simp:_=V.ptr (some (ui,0)))
  have g13:=(hsame.get 13 rfl).trans (by simp:_=insV t)
  have g14:=(hsame.get 14 rfl).trans (by simp:_=V.int .i64 (t.ins.length:Int))
  clear hsame
  by_cases hlt:i<t.ins.length
  ·have hil:=ht.1
   have w1:IntKind.i64.wrap ((i:Int)+1)=(i:Int)+1:=wrap64 (by omega) (by omega)
   obtain⟨r1,r2,r3,r4⟩:=(rd_ins t st1).row eIn_len hlt
   rw[List.drop_eq_getElem_cons hlt,spendGo]at hgo
   have hkl:=ht.2.2 _ (List.getElem_mem hlt)
   obtain⟨x,hx⟩: ∃x,x=t.ins[i]:=⟨_,rfl⟩
   rw[←hx]at r3 hgo hkl
   simp[g13,g14,h15,hlt,r1,r3]
   intro i10 h10
   have hz:z34_1838.length=34:=rfl
   have W:=W.new h10 (.cells z34_1838)
   have o10:=W.ext (i:=i10) (x:=.cells z34_1838) (by simp)
   have hst:=store_pt (sz:=34) (o:=0) o10 (v:=.agg (eIn x)) (vs:=eIn x) rfl (eIn_len x) (by rw[hz];omega)
   rw[show spliceV z34_1838 0 (eIn x)=eIn x by simp[spliceV,eIn_len,hz]]at hst
   have W:=W.setL (.cells (eIn x))
   simp[hst]at W⊢
   generalize st1.upd i10 (.cells (eIn x))=st2 at W⊢
   have o10:=W.ext (i:=i10) (x:=.cells (eIn x)) (by simp)
   obtain⟨mv,oo,hlk⟩:=W.look
   have s0:=isegPt x
   have s33:=isegKey x
   have hl9:V.agg z34_7943=vCoin coin0:=by rw[coin0_cells];rfl
   have hl8:=hlk (V.agg z34_7943) (ptOf x)
   have hx9:((lk (ptOf x) cm').map vCoin).getD (V.agg z34_7943)=vCoin ((lk (ptOf x) cm').getD coin0):=by rw[hl9];cases lk (ptOf x) cm'<;>rfl
   rw[hx9]at hl8
   obtain⟨c9,hc9⟩: ∃c9,c9=(lk (ptOf x) cm').getD coin0:=⟨_,rfl⟩
   rw[←hc9]at hl8
   simp[g0,St.seg,oo,hsg,o10,s0,hl8]
   intro i11 h11
   have W:=W.new h11 (.cells z34_7943)
   have o11:=W.ext (i:=i11) (x:=.cells z34_7943) (by simp)
   have hst:=store_pt (sz:=34) (o:=0) o11 (v:=vCoin c9) (vs:=eCoin c9) rfl (eCoin_len _) (by simp)
   rw[show spliceV z34_7943 0 (eCoin c9)=eCoin c9 by simp[spliceV,eCoin_len]]at hst
   have W:=W.setL (.cells (eCoin c9))
   simp[hst]at W⊢
   generalize st2.upd i11 (.cells (eCoin c9))=st3 at W⊢
   have o11:=W.ext (i:=i11) (x:=.cells (eCoin c9)) (by simp)
   have o10:=W.ext (i:=i10) (x:=.cells (eIn x)) (by simp)
   cases hs:lk (ptOf x) cm' with
   | none=>
     rw[hs]at hgo
     simp only at hgo
     subst hgo
     simp
     exact⟨st3,sub_self _,p',hpn,c',hcn,W.tail fun r h=>h.drop.drop⟩
   | some y=>
     rw[hs]at hgo hc9
     simp only[Option.getD_some]at hgo hc9
     subst hc9
     have hp:Parts st3 [keyV x.kk x.key] [x.key]:=.cons (.inl ⟨x.kk,rfl⟩) .nil
     have hsp:=spec103 okh st3 hp .full (by simp;omega) (by simp)
     have hfs:fillV (repV [V.sl SK.nil [] 0] 1) [(0,1,keyV x.kk x.key)]=some [keyV x.kk x.key]:=rfl
     have sl:=cosegLock c9
     simp[St.seg,o10,s33,hfs,o11,sl]
     refine still_call _ _ _ _ (by simpa using hsp) ?_
     have hq:eqK (.agg 32) (.agg (eId (sha x.key))) (.agg (eId c9.1.lock))=some (decide (sha x.key=c9.1.lock)):=by simp[eqK,eId_len,eqL_id]
     simp[St.seg,o11,sl,hq]
     by_cases hk:sha x.key=c9.1.lock
     ·rw[if_neg (by simpa using hk)]at hgo
      simp[hk]
      obtain⟨mv2,st4,oo2,hd,W⟩:=W.cut (ptOf x)
      simp[g0,St.seg,oo2,hsg,o10,s0,hd]
      have o11:=W.ext (i:=i11) (x:=.cells (eCoin c9)) (by simp)
      have W:=W.setL (i:=i11) (.ro (eCoin c9))
      have sA:=cosegAll c9
      have hf1:fillV (repV z34_7943 1) [(0,34,.agg (eCoin c9))]=some (eCoin c9):=by rw[show repV z34_7943 1=z34_7943 by simp[repV]];simp[fillV,eCoin_len,spliceV]
      have hf2:fillV (repV z33_1371 1) [(0,33,.agg (ePt (ptOf x)))]=some (ePt (ptOf x)):=by rw[show repV z33_1371 1=z33_1371 by simp[repV]];simp[fillV,ePt_len,spliceV]
      simp[frzP,frzV,frzOb,frzL,frzH,o11]
      generalize st4.upd i11 (.ro (eCoin c9))=st5 at W⊢
      have ou:=W.ext (i:=ui) (x:=.cells [p',c']) (by simp[UndL])
      have o10:=W.ext (i:=i10) (x:=.cells (eIn x)) (by simp)
      have u0:segOf [p',c'] 0 1=some [p']:=rfl
      have u1:segOf [p',c'] 1 1=some [c']:=rfl
      simp[g1,St.seg,ou,u0,u1,o10,s0,sA,hf1,hf2]
      have he1: ∀s,elems s 33 (.sl .full (ePt (ptOf x)) 1)=some (ePt (ptOf x),1):=fun s=>by simp[elems,ePt_len]
      have he2: ∀s,elems s 34 (.sl .full (eCoin c9) 1)=some (eCoin c9,1):=fun s=>by simp[elems,eCoin_len]
      have hamt:=cosegAmt c9
      have hp1:(ps'++[ptOf x]).length≤100000+(i+1):=by rw[List.length_append,List.length_singleton];omega
      have hc1:(cs'++[c9]).length≤100000+(i+1):=by rw[List.length_append,List.length_singleton];omega
      obtain⟨mo,hmo,S⟩:=(W.tail fun r h=>h.pull 3).front
      constructor
      all_goals
       simp[he1]
       refine Sep.app1 (b:=36) ePt_len (by omega) S (a:=ptOf x) rfl (by omega) ?_
       intro p2 st6 S
       obtain⟨mo,hmo,S⟩:=((SetS.back hmo S).tail fun r h=>h.pull 4).front
       have ou:=(SetS.back hmo S).ext (i:=ui) (x:=.cells [p',c']) (by simp)
       simp[he2,St.seg,ou,u1]
       refine Sep.app1 (b:=48) eCoin_len (by omega) S (a:=c9) rfl (by omega) ?_
       intro c2 st7 S
       have hcc:=S.slCells
       have W:=SetS.back hmo S
       obtain⟨mo,hmo,S⟩:=(W.tail fun r h=>h.pull 1).front
       have hcp:=S.slCells
       have W:SetS o f (aDel (ptOf x) cm') (pt ui (.cells [p',c'])::Sl 33 ePt p2 (ps'++[ptOf x])::Sl 34 eCoin c2 (cs'++[c9])::pt i11 (.ro (eCoin c9))::pt i10 (.cells (eIn x))::L) st7:=(SetS.back hmo S).tail fun r h=>h.pull 4
       have ou:=W.ext (i:=ui) (x:=.cells [p',c']) (by simp)
       have hs1:=store_pt (sz:=1) (o:=0) ou hcp rfl (by simp)
       rw[show spliceV [p',c'] 0 [p2]=[p2,c']from rfl]at hs1
       have W:=W.setL (.cells [p2,c'])
       generalize st7.upd ui (.cells [p2,c'])=st8 at W hs1
       have ou:=W.ext (i:=ui) (x:=.cells [p2,c']) (by simp)
       have hs2:=store_pt (sz:=1) (o:=1) ou hcc rfl (by simp)
       rw[show spliceV [p2,c'] 1 [c2]=[p2,c2]from rfl]at hs2
       have W:=W.setL (.cells [p2,c2])
       generalize st8.upd ui (.cells [p2,c2])=st9 at W hs2
       simp[hs1,hs2,h8,St.seg,hamt,h15,w1]
       exact Round.mk (t.ins.length-(i+1)) _ (by omega) (sub_self _) (hJ _ _ _ ⟨i+1,_,_,_,_,p2,c2,by omega,rfl,by simp,by simp,hgo,hp1,hc1,fun h=>by simp at h,fun h=>by simp at h,W.tail fun r h=>h.tail fun r h=>h.tail fun r h=>h.tail fun r h=>h.drop.drop⟩)
     ·rw[if_pos hk]at hgo
      subst hgo
      simp[hk]
      exact⟨st3,sub_self _,p',hpn,c',hcn,W.tail fun r h=>h.drop.drop⟩
  ·have:i=t.ins.length:=by omega
   subst this
   rw[List.drop_length,spendGo]at hgo
   subst hgo
   simp[g14,h15]
   exact⟨h8,p',hpn,c',hcn,W⟩
 clear h0
 rintro env1 st1 hsame ⟨he,h8,p',c',hpn,hcn,W⟩
 simp[h8,he]
 exact⟨st1,sub_self _,p',hpn,c',hcn,W⟩
end
theorem Sep.frzHs {α:Type}{f:α→List V}{sz:Nat}(hf: ∀a,(f a).length=sz){s:V}{l:List α}{L:List Asn}{st:St}(h:Sep (Sl sz f s l::L) st)(hnil:l=[]→s=.sl .nil [] 0):
  ∃st',frzH st s=some (.sl (kindOf l) (rowsOf f l) l.length,st')∧Sep L st':=by
 by_cases hl:l=[]
 ·subst hl
  rw[hnil rfl]
  exact⟨st,rfl,h.drop⟩
 ·obtain⟨k,st',h1,h2,h3⟩:=Sep.frzSl hf h
  have hk:=h3 hl
  subst hk
  obtain⟨a0,r,q1,q2,q3,q4⟩:=h
  rcases q3 with⟨-,q3⟩ | ⟨sid,sp,rfl,-⟩
  ·exact absurd q3 hl
  ·refine⟨st',?_,h2⟩
   rw[kindOf,if_neg hl]
   exact h1
structure Cn where
 e:Int
 cm:CM
 ps:List Pt
 cs:List Coin1
 fee:Int
def connGo (h:Int):CM→List Pt→List Coin1→Int→List Tx1→Cn
 | cm,ps,cs,n,[]=>⟨0,cm,ps,cs,n⟩
 | cm,ps,cs,n,t::l=>
   let r:=spendGo cm ps cs 0 t.ins
   if r.e≠0 then⟨r.e,r.cm,r.ps,r.cs,n⟩
   else if(sumM t.outs).2=false∨r.n< (sumM t.outs).1 then⟨121,r.cm,r.ps,r.cs,n⟩
   else if(layM t h r.cm).1≠0 then⟨(layM t h r.cm).1,(layM t h r.cm).2,r.ps,r.cs,n⟩
   else connGo h (layM t h r.cm).2 r.ps r.cs (IntKind.i64.wrap (n+IntKind.i64.wrap (r.n-(sumM t.outs).1))) l
def connM (b:Blk1)(h sub:Int)(cm:CM):Cn:=
 let r:=connGo h cm [] [] 0 b.txs.tail
 if r.e≠0 then r
 else match b.txs with
 | []=>{r with e:=120}
 | t::_=>if(sumM t.outs).2=false∨r.fee<IntKind.i64.wrap ((sumM t.outs).1-sub)then{r with e:=121}else{r with e:=(layM t h r.cm).1,cm:=(layM t h r.cm).2}
def uOf (r:Cn):Undo1:=⟨kindOf r.ps,r.ps,kindOf r.cs,r.cs⟩
theorem spendGo_len: ∀(l:List In1) (cm:CM) (ps:List Pt) (cs:List Coin1) (n:Int),(spendGo cm ps cs n l).ps.length≤ps.length+l.length∧(spendGo cm ps cs n l).cs.length≤cs.length+l.length
 | [],cm,ps,cs,n=>⟨Nat.le_refl _,Nat.le_refl _⟩
 | i::l,cm,ps,cs,n=>by
   rw[spendGo]
   split
   ·simp
   ·split
    ·simp
    ·obtain⟨h1,h2⟩:=spendGo_len l (aDel (ptOf i) cm) (ps++[ptOf i]) (cs++[‹Coin1›]) (IntKind.i64.wrap (n+(‹Coin1›).1.amt))
     simp at h1 h2⊢
     omega
theorem spendGo_pre: ∀(l:List In1) (cm:CM) (ps:List Pt) (cs:List Coin1) (n:Int),(∃q,(spendGo cm ps cs n l).ps=ps++q)∧∃q,(spendGo cm ps cs n l).cs=cs++q
 | [],cm,ps,cs,n=>⟨⟨[],by simp[spendGo]⟩,[],by simp[spendGo]⟩
 | i::l,cm,ps,cs,n=>by
   rw[spendGo]
   split
   ·exact⟨⟨[],by simp⟩,[],by simp⟩
   ·split
    ·exact⟨⟨[],by simp⟩,[],by simp⟩
    ·obtain⟨⟨q,h1⟩,q',h2⟩:=spendGo_pre l (aDel (ptOf i) cm) (ps++[ptOf i]) (cs++[‹Coin1›]) (IntKind.i64.wrap (n+(‹Coin1›).1.amt))
     exact⟨⟨_,h1.trans (List.append_assoc _ _ _)⟩,_,h2.trans (List.append_assoc _ _ _)⟩
theorem conn_ret {o i10 i8:Nat}{f:V→List V}{cm:CM}{p c a0 c0:V}{ps:List Pt}{cs:List Coin1}{B:Asn}{L:List Asn}{st:St}(W:SetS o f cm (UndL i10 p c ps cs++(B::pt i8 (.cells [a0,c0])::L)) st):
  st i10=some (.cells [p,c])∧storeS st 2 (.ptr (some (i8,0))) (.agg [p,c])=some (st.upd i8 (.cells [p,c]))∧SetS o f cm L (st.upd i8 (.cells [p,c])):=by
 have W2:SetS o f cm (pt i8 (.cells [a0,c0])::pt i10 (.cells [p,c])::Sl 33 ePt p ps::Sl 34 eCoin c cs::B::L) st:=W.tail fun r h=>h.pull 4
 have o8:=W2.ext (i:=i8) (x:=.cells [a0,c0]) (by simp)
 have hst:=store_pt (sz:=2) (o:=0) o8 (v:=.agg [p,c]) (vs:=[p,c]) rfl rfl (by simp)
 exact⟨W2.ext (by simp),hst,(W2.setL _).tail fun r h=>h.drop.drop.drop.drop.drop⟩
section
variable {P:Program} {F:Fn}
set_option maxHeartbeats 16000000 in
theorem spec259 (ok:OkCoins P F){st:St}{o off:Nat}{f:V→List V}(hf:Hole f off){cm:CM}{L:List Asn}(h0:SetS o f cm L st)(b:Blk1)(hb:b.txs.length≤900)(ht: ∀t∈b.txs,t.ok 100)(h sub:Int):
  ACalls P (F 259) [.ptr (some (o,off)),.agg (eBlk b),.int .i64 h,.int .i64 sub] st fun v st'=>∃x y,v=.tup [.agg [x,y],.int .i64 (connM b h sub cm).e]∧((connM b h sub cm).e=0→V.agg [x,y]=vUndo (uOf (connM b h sub cm)))∧SetS o f (connM b h sub cm).cm L st':=by
 have okc:=ok.toOkCheck2.toOkCheck
 refine shows_call ok.mixed ok.h259 (by simp[k259]) ?_
 simp only[k259]
 obtain⟨n,hn⟩: ∃n,n=b.txs.length:=⟨_,rfl⟩
 have hln:lenSlV (txsV b.tk b.txs)=some (.int .i64 (n:Int)):=by rw[hn];rfl
 have hsT:=bsegT b
 obtain⟨C,hC⟩: ∃C,C=connM b h sub cm:=⟨_,rfl⟩
 obtain⟨R,hR⟩: ∃R,R=connGo h cm [] [] 0 b.txs.tail:=⟨_,rfl⟩
 have hCR:C=if R.e≠0 then R else match b.txs with
  | []=>{R with e:=120}
  | t::_=>if(sumM t.outs).2=false∨R.fee<IntKind.i64.wrap ((sumM t.outs).1-sub)then{R with e:=121}else{R with e:=(layM t h R.cm).1,cm:=(layM t h R.cm).2}:=by rw[hC,connM,hR]
 rw[←hC]
 simp
 intro i5 h5
 have W:=h0.new h5 (.cells (eBlk b))
 generalize st.upd i5 _=st1 at W⊢
 simp
 intro i8 h8
 have W:=W.new h8 (.cells [.sl .nil [] 0,.sl .nil [] 0])
 generalize st1.upd i8 _=st2 at W⊢
 simp
 intro i10 h10
 have W:=W.new h10 (.cells [.sl .nil [] 0,.sl .nil [] 0])
 generalize st2.upd i10 _=st3 at W⊢
 have o5:=W.ext (i:=i5) (x:=.cells (eBlk b)) (by simp)
 have W:SetS o f cm (UndL i10 (.sl .nil [] 0) (.sl .nil [] 0) [] []++(pt i8 (.cells [.sl .nil [] 0,.sl .nil [] 0])::pt i5 (.cells (eBlk b))::L)) st3:=W.tail fun r h=>h.tail fun r h=>Sep.slNil (Sep.slNil h)
 have hu: ∀x y:V,segOf [x,y] 0 2=some [x,y]:=fun _ _=>rfl
 simp[St.seg,o5,hsT,hln]
 refine vc_joinB (M:=fun env' st'=>R.e=0∧env' 11=.int .i64 R.fee∧∃p' c',(R.ps=[]→p'=.sl .nil [] 0)∧(R.cs=[]→c'=.sl .nil [] 0)∧SetS o f R.cm (UndL i10 p' c' R.ps R.cs++(pt i8 (.cells [.sl .nil [] 0,.sl .nil [] 0])::pt i5 (.cells (eBlk b))::L)) st') ?_ ?_
 ·refine vc_loopJ (fun d env' st'=>∃(i:Nat) (cm':CM) (ps':List Pt) (cs':List Coin1) (fe:Int) (p' c':V),i≤n∧d=n-i∧env' 24=.int .i64 (i:Nat)∧env' 11=.int .i64 fe∧connGo h cm' ps' cs' fe (b.txs.drop (max i 1))=R∧ps'.length≤100*i∧cs'.length≤100*i∧(ps'=[]→p'=.sl .nil [] 0)∧(cs'=[]→c'=.sl .nil [] 0)∧
     SetS o f cm' (UndL i10 p' c' ps' cs'++(pt i8 (.cells [.sl .nil [] 0,.sl .nil [] 0])::pt i5 (.cells (eBlk b))::L)) st') n
    ⟨0,cm,[],[],0,_,_,by omega,by omega,by simp,by simp,by rw[hR,show max 0 1=1 from rfl,List.drop_one],by simp,by simp,fun _=>rfl,fun _=>rfl,W⟩ ?_
  clear W o5 hR
  rintro J hJ d env1 st4 hsame ⟨i,cm',ps',cs',fe,p',c',hi,rfl,h24,h11,hgo,hps,hcs,hpn,hcn,W⟩
  have g0:=(hsame.get 0 rfl).trans (by simp:_=V.ptr (some (o,off)))
  have g2:=(hsame.get 2 rfl).trans (by simp:_=V.int .i64 h)
  have g8:=(hsame.get 8 rfl).trans (by simp:_=V.ptr (some (i8,0)))
  have g10:=(hsame.get 10 rfl).trans (by simp:_=V.ptr (some (i10,0)))
  have g22:=(hsame.get 22 rfl).trans (by simp:_=txsV b.tk b.txs)
  have g23:=(hsame.get 23 rfl).trans (by simp:_=V.int .i64 (n:Int))
  clear hsame
  by_cases hlt:i<n
  ·have w1:IntKind.i64.wrap ((i:Int)+1)=(i:Int)+1:=wrap64 (by omega) (by omega)
   have hib:i<b.txs.length:=by omega
   obtain⟨r1,r2,r3,r4⟩:=(rd_txs b st4).row eTx_len hib
   have hto:=ht _ (List.getElem_mem hib)
   have hdr:=List.drop_eq_getElem_cons hib
   obtain⟨x,hx⟩: ∃x,x=b.txs[i]:=⟨_,rfl⟩
   rw[←hx]at r3 hto hdr
   simp[g22,g23,h24,hlt,r1,r3]
   intro i13 h13
   have W:=W.new h13 (.cells [.sl .nil [] 0,.sl .nil [] 0])
   have o13:=W.ext (i:=i13) (x:=.cells [.sl .nil [] 0,.sl .nil [] 0]) (by simp)
   have hst:=store_pt (sz:=2) (o:=0) o13 (v:=.agg (eTx x)) (vs:=eTx x) rfl rfl (by simp)
   rw[show spliceV [V.sl .nil [] 0,V.sl .nil [] 0] 0 (eTx x)=eTx x from rfl]at hst
   have W:=W.setL (i:=i13) (.cells (eTx x))
   simp[hst,h24]at W⊢
   generalize st4.upd i13 (.cells (eTx x))=st5 at W⊢
   by_cases hz:i=0
   ·subst hz
    have hzb:(((0:Nat):Int)==0)=true:=rfl
    simp[hzb,h24]
    exact Round.mk (n-1) _ (by omega) (sub_self _) (hJ _ _ _ ⟨1,cm',ps',cs',fe,p',c',by omega,rfl,by simp,by simp[h11],hgo,by omega,by omega,hpn,hcn,W.tail fun r h=>h.drop⟩)
   ·rw[show max i 1=i by omega,hdr]at hgo
    unfold connGo at hgo
    have o13:=W.ext (i:=i13) (x:=.cells (eTx x)) (by simp)
    have sI:=tsegIns x
    have sO:=tsegOuts x
    have sA:=tsegAll x
    have hzb:((i:Int)==0)=false:=beq_eq_false_iff_ne.2 (by omega)
    simp[hzb,g0,g10,St.seg,o13,sI]
    have W:SetS o f cm' (UndL i10 p' c' ps' cs'++(pt i13 (.cells (eTx x))::pt i8 (.cells [.sl .nil [] 0,.sl .nil [] 0])::pt i5 (.cells (eBlk b))::L)) st5:=W.tail fun r h=>by
     have h:=h.swap
     exact h.tail fun r h=>h.swap.tail fun r h=>h.swap
    refine(spec257 ok hf W x hto (by omega) (by omega)).mono ?_
    clear W
    have hlen:=spendGo_len x.ins cm' ps' cs' 0
    have hxi:=hto.1
    have hpre:=spendGo_pre x.ins cm' ps' cs' 0
    obtain⟨S,hS⟩: ∃S,S=spendGo cm' ps' cs' 0 x.ins:=⟨_,rfl⟩
    rw[←hS]at hgo hlen hpre⊢
    rintro v st6 ⟨rfl,p2,c2,hp2,hc2,W⟩
    by_cases hSe:S.e=0
    ·rw[if_neg (by simpa using hSe)]at hgo
     have o13:=W.ext (i:=i13) (x:=.cells (eTx x)) (by simp[UndL])
     simp[hSe,St.seg,o13,sO]
     refine(spec250 okc st6 (rd_outs x st6) (by have:=hto.2.1;omega)).mono ?_
     rintro v st7 ⟨rfl,rfl⟩
     simp
     by_cases hbad:(sumM x.outs).2=false∨S.n< (sumM x.outs).1
     ·rw[if_pos hbad]at hgo
      obtain⟨q1,q2,q3⟩:=conn_ret W
      have hC2:C=R:=by rw[hCR,if_pos (by rw[←hgo];exact fun h=>by cases h)]
      have hCe:C.e=121:=by rw[hC2,←hgo]
      have hCc:C.cm=S.cm:=by rw[hC2,←hgo]
      cases hok:(sumM x.outs).2 with
      | false=>
        simp[hok,St.seg,g10,g8,q1,hu,q2]
        exact⟨_,sub_self _,p2,c2,⟨⟨rfl,rfl⟩,hCe.symm⟩,fun h=>by(rw[hCe]at h;cases h),by rw[hCc];exact q3.tail fun r h=>h.drop⟩
      | true=>
        have c1:S.n< (sumM x.outs).1:=by simpa[hok]using hbad
        simp[hok,c1,St.seg,g10,g8,q1,hu,q2]
        exact⟨_,sub_self _,p2,c2,⟨⟨rfl,rfl⟩,hCe.symm⟩,fun h=>by(rw[hCe]at h;cases h),by rw[hCc];exact q3.tail fun r h=>h.drop⟩
     ·rw[if_neg hbad]at hgo
      have hok:(sumM x.outs).2=true:=by
       cases h:(sumM x.outs).2 with
       | true=>rfl
       | false=>exact absurd (.inl h) hbad
      have c1:¬S.n< (sumM x.outs).1:=fun h=>hbad (.inr h)
      simp[hok,c1,g0,g2,St.seg,o13,sA]
      refine(spec258 ok hf W x hto h).mono ?_
      clear W
      obtain⟨Y,hY⟩: ∃Y,Y=layM x h S.cm:=⟨_,rfl⟩
      rw[←hY]at hgo⊢
      rintro v st8 ⟨rfl,W⟩
      by_cases hYe:Y.1=0
      ·rw[if_neg (by simpa using hYe)]at hgo
       simp[hYe,h11,h24,w1]
       refine Round.mk (n-(i+1)) _ (by omega) (sub_self _) (hJ _ _ _ ⟨i+1,Y.2,S.ps,S.cs,IntKind.i64.wrap (fe+IntKind.i64.wrap (S.n-(sumM x.outs).1)),p2,c2,by omega,rfl,by simp,by simp,by rw[show max (i+1) 1=i+1 by omega];exact hgo,by omega,by omega,fun h=>?_,fun h=>?_,W.tail fun r h=>h.tail fun r h=>h.tail fun r h=>h.tail fun r h=>h.drop⟩)
       ·rw[hp2 h]
        obtain⟨⟨q,e⟩,-⟩:=hpre
        exact hpn (List.append_eq_nil_iff.1 (e.symm.trans h)).1
       ·rw[hc2 h]
        obtain⟨-,q,e⟩:=hpre
        exact hcn (List.append_eq_nil_iff.1 (e.symm.trans h)).1
      ·rw[if_pos hYe]at hgo
       obtain⟨q1,q2,q3⟩:=conn_ret W
       have hC2:C=R:=by rw[hCR,if_pos (by rw[←hgo];exact hYe)]
       have hCe:C.e=Y.1:=by rw[hC2,←hgo]
       have hCc:C.cm=Y.2:=by rw[hC2,←hgo]
       have hYb:(Y.1 != 0)=true:=by simpa using hYe
       simp[hYb,hYe,St.seg,g10,g8,q1,hu,q2]
       exact⟨_,sub_self _,p2,c2,⟨⟨rfl,rfl⟩,hCe.symm⟩,fun h=>by(rw[hCe]at h;exact absurd h hYe),by rw[hCc];exact q3.tail fun r h=>h.drop⟩
    ·rw[if_pos hSe]at hgo
     obtain⟨q1,q2,q3⟩:=conn_ret W
     have hC2:C=R:=by rw[hCR,if_pos (by rw[←hgo];exact hSe)]
     have hCe:C.e=S.e:=by rw[hC2,←hgo]
     have hCc:C.cm=S.cm:=by rw[hC2,←hgo]
     have hSb:(S.e != 0)=true:=by simpa using hSe
     simp[hSb,hSe,St.seg,g10,g8,q1,hu,q2]
     exact⟨_,sub_self _,p2,c2,⟨⟨rfl,rfl⟩,hCe.symm⟩,fun h=>by(rw[hCe]at h;exact absurd h hSe),by rw[hCc];exact q3.tail fun r h=>h.drop⟩
  ·have:i=n:=by omega
   subst this
   have hd:b.txs.drop (max i 1)=[]:=List.drop_eq_nil_of_le (by omega)
   rw[hd,connGo]at hgo
   subst hgo
   simp[g23,h24]
   exact⟨h11,p',hpn,c',hcn,W⟩
 clear W o5
 rintro env1 st4 hsame ⟨hRe,h11,p',c',hpn,hcn,W⟩
 have g0:=(hsame.get 0 rfl).trans (by simp:_=V.ptr (some (o,off)))
 have g2:=(hsame.get 2 rfl).trans (by simp:_=V.int .i64 h)
 have g3:=(hsame.get 3 rfl).trans (by simp:_=V.int .i64 sub)
 have g5:=(hsame.get 5 rfl).trans (by simp:_=V.ptr (some (i5,0)))
 have g8:=(hsame.get 8 rfl).trans (by simp:_=V.ptr (some (i8,0)))
 have g10:=(hsame.get 10 rfl).trans (by simp:_=V.ptr (some (i10,0)))
 clear hsame
 have o5:=W.ext (i:=i5) (x:=.cells (eBlk b)) (by simp[UndL])
 rw[if_neg (by simpa using hRe)]at hCR
 have Wr:SetS o f R.cm (UndL i10 p' c' R.ps R.cs++((fun _=>True)::pt i8 (.cells [.sl .nil [] 0,.sl .nil [] 0])::pt i5 (.cells (eBlk b))::L)) st4:=W.tail fun r h=>h.tail fun r h=>h.tail fun r h=>h.tail fun r h=>h.put trivial
 obtain⟨q1,q2,q3⟩:=conn_ret Wr
 clear Wr
 have q3:=q3.tail (L':=L) fun r h=>h.drop
 cases hbt:b.txs with
 | nil=>
   rw[hbt]at hCR hn
   simp only at hCR
   have hn0:n=0:=hn
   subst hn0
   have hCe:C.e=120:=by rw[hCR]
   have hCc:C.cm=R.cm:=by rw[hCR]
   simp[g5,g10,g8,St.seg,o5,hsT,hln,q1,hu,q2]
   exact⟨_,sub_self _,p',c',⟨⟨rfl,rfl⟩,hCe.symm⟩,fun h=>by(rw[hCe]at h;cases h),by rw[hCc];exact q3⟩
 | cons t0 tl=>
   have hn0:0<b.txs.length:=by rw[hbt];simp
   have hb0:b.txs[0]'hn0=t0:=by simp[hbt]
   have ht0:=ht t0 (by rw[hbt];exact List.mem_cons_self)
   rw[hbt]at hCR
   simp only at hCR
   obtain⟨r1,r2,r3,r4⟩:=(rd_txs b st4).row eTx_len hn0
   obtain⟨e1,e2⟩:=r4 1 1 (by omega)
   rw[hb0]at r3 e2
   simp at r1
   have e2':ldCells st4 1 (fldP 1 (rowP 2 (txsV b.tk b.txs) 0))=some [outsV t0]:=e2
   have hnb:((n:Int)==0)=false:=beq_eq_false_iff_ne.2 (by omega)
   simp[g5,h11,St.seg,o5,hsT,hln,hnb,r1,e1,e2']
   refine(spec250 okc st4 (rd_outs t0 st4) (by have:=ht0.2.1;omega)).mono ?_
   rintro v st5 ⟨rfl,rfl⟩
   simp
   obtain⟨D,hD⟩: ∃D,D=IntKind.i64.wrap ((sumM t0.outs).1-sub):=⟨_,rfl⟩
   rw[←hD]at hCR
   by_cases hbad:(sumM t0.outs).2=false∨R.fee<D
   ·rw[if_pos hbad]at hCR
    have hCe:C.e=121:=by rw[hCR]
    have hCc:C.cm=R.cm:=by rw[hCR]
    cases hok:(sumM t0.outs).2 with
    | false=>
      simp[hok,St.seg,g10,g8,q1,hu,q2]
      exact⟨_,sub_self _,p',c',⟨⟨rfl,rfl⟩,hCe.symm⟩,fun h=>by(rw[hCe]at h;cases h),by rw[hCc];exact q3⟩
    | true=>
      have c1:R.fee<D:=by simpa[hok]using hbad
      simp[hok,g3,h11,←hD,c1,St.seg,g10,g8,q1,hu,q2]
      exact⟨_,sub_self _,p',c',⟨⟨rfl,rfl⟩,hCe.symm⟩,fun h=>by(rw[hCe]at h;cases h),by rw[hCc];exact q3⟩
   ·rw[if_neg hbad]at hCR
    have hCe:C.e=(layM t0 h R.cm).1:=by rw[hCR]
    have hCc:C.cm=(layM t0 h R.cm).2:=by rw[hCR]
    have hCu:uOf C=uOf R:=by rw[hCR];rfl
    have hok:(sumM t0.outs).2=true:=by
     cases h:(sumM t0.outs).2 with
     | true=>rfl
     | false=>exact absurd (.inl h) hbad
    have c1:¬R.fee<D:=fun h=>hbad (.inr h)
    clear q1 q2 q3 r1 r2 r3 r4 e1 e2 e2'
    have W:SetS o f R.cm (pt i10 (.cells [p',c'])::Sl 33 ePt p' R.ps::Sl 34 eCoin c' R.cs::pt i8 (.cells [.sl .nil [] 0,.sl .nil [] 0])::pt i5 (.cells (eBlk b))::L) st5:=W
    have o10:=W.ext (i:=i10) (x:=.cells [p',c']) (by simp)
    obtain⟨mo,hmo,S⟩:=((W.setL (.ro [p',c'])).tail fun r h=>h.swap).front
    obtain⟨s6,z1,S⟩:=Sep.frzHs ePt_len S hpn
    have W:SetS o f R.cm (pt i10 (.ro [p',c'])::Sl 34 eCoin c' R.cs::pt i8 (.cells [.sl .nil [] 0,.sl .nil [] 0])::pt i5 (.cells (eBlk b))::L) s6:=⟨mo,hmo,S⟩
    obtain⟨mo,hmo,S⟩:=(W.tail fun r h=>h.swap).front
    obtain⟨s7,z2,S⟩:=Sep.frzHs eCoin_len S hcn
    have W:SetS o f R.cm (pt i10 (.ro [p',c'])::pt i8 (.cells [.sl .nil [] 0,.sl .nil [] 0])::pt i5 (.cells (eBlk b))::L) s7:=⟨mo,hmo,S⟩
    obtain⟨x,hx⟩: ∃x,x=V.sl (kindOf R.ps) (rowsOf ePt R.ps) R.ps.length:=⟨_,rfl⟩
    obtain⟨y,hy⟩: ∃y,y=V.sl (kindOf R.cs) (rowsOf eCoin R.cs) R.cs.length:=⟨_,rfl⟩
    rw[←hx]at z1
    rw[←hy]at z2
    have hxy:V.agg [x,y]=vUndo (uOf C):=by rw[hCu,hx,hy];rfl
    simp[hok,g3,h11,←hD,c1,frzP,frzV,frzOb,frzL,g10,o10,z1,z2]
    have o5:=W.ext (i:=i5) (x:=.cells (eBlk b)) (by simp)
    obtain⟨r1,r2,r3,r4⟩:=(rd_txs b s7).row eTx_len hn0
    rw[hb0]at r3
    simp at r1
    simp[hu,g0,g2,g5,St.seg,o5,hsT,r1,r3]
    refine(spec258 ok hf W t0 ht0 h).mono ?_
    clear W S o5
    rintro v s8 ⟨rfl,W⟩
    have W:SetS o f C.cm (pt i8 (.cells [.sl .nil [] 0,.sl .nil [] 0])::pt i10 (.ro [p',c'])::pt i5 (.cells (eBlk b))::L) s8:=by rw[hCc];exact W.tail fun r h=>h.swap
    have o8:=W.ext (i:=i8) (x:=.cells [.sl .nil [] 0,.sl .nil [] 0]) (by simp)
    have hst:=store_pt (sz:=2) (o:=0) o8 (v:=.agg [x,y]) (vs:=[x,y]) rfl rfl (by simp)
    rw[show spliceV [V.sl .nil [] 0,V.sl .nil [] 0] 0 [x,y]=[x,y]from rfl]at hst
    simp[g8,hst,St.seg,hu]
    exact⟨_,sub_self _,x,y,⟨⟨rfl,rfl⟩,hCe.symm⟩,fun _=>hxy,(W.setL _).tail fun r h=>h.drop.drop.drop⟩
end
theorem vc_joinB2 {P:Program}{c rest:PC}{id id2:Nat}{Q:Ex→Env→St→Prop}{env:Env}{st:St}(M:Env→St→Prop)
  (h:vc P c (blkK id (blkK id2 (unrK M Q))) env st) (k: ∀env' st',Same c.writes env env'→M env' st'→vc P rest Q env' st'):vc P c (blkK id (blkK id2 (seqK P rest Q))) env st:=by
 refine vc_frame c _ _ env st (fun ex env' st' hs hq=>?_) h
 cases ex with
 | normal=>exact k env' st' hs hq
 | exit j=>
   unfold blkK at hq⊢
   by_cases hj:j=id
   ·simp only[hj,if_true]at hq⊢
    exact k env' st' hs hq
   ·simp only[hj,if_false]at hq⊢
    by_cases hj2:j=id2
    ·simp only[hj2,if_true]at hq⊢
     exact k env' st' hs hq
    ·simp only[hj2,if_false]at hq⊢
     exact hq
 | ret=>exact hq
section
variable {P:Program} {F:Fn}
set_option maxHeartbeats 4000000 in
theorem spec260 (ok:OkCoins P F)(hc:CloneC P (F 256)){st:St}{o off:Nat}{f:V→List V}(hf:Hole f off){cm:CM}{L:List Asn}(h0:SetS o f cm L st)(b:Blk1)(hb:b.txs.length≤900)(ht: ∀t∈b.txs,t.ok 100)(h sub:Int):
  ACalls P (F 260) [.ptr (some (o,off)),.agg (eBlk b),.int .i64 h,.int .i64 sub] st fun v st'=>v=.tup [if(connM b h sub cm).e=0 then vUndo (uOf (connM b h sub cm))else undo0,.int .i64 (connM b h sub cm).e]∧SetS o f (if(connM b h sub cm).e=0 then(connM b h sub cm).cm else cm) L st':=by
 refine shows_call ok.mixed ok.h260 (by simp[k260]) ?_
 simp only[k260]
 simp
 intro i5 h5
 have W:=h0.new h5 (.cells (eBlk b))
 generalize st.upd i5 _=st1 at W⊢
 simp
 intro i8 h8
 have W:=W.new h8 (.cells [.sl .nil [] 0,.sl .nil [] 0])
 generalize st1.upd i8 _=st2 at W⊢
 obtain⟨mo,hmo,S⟩:=W
 simp
 refine(spec255 ok hc hf hmo S).mono ?_
 rintro v st3 ⟨ic,rfl,W⟩
 have o5:=W.ext (i:=i5) (x:=.cells (eBlk b)) (by cases mo<;>simp[SetL])
 have sb:=bsegAll b
 simp[St.seg,o5,sb]
 refine(spec259 ok lone_hole W b hb ht h sub).mono ?_
 obtain⟨C,hC⟩: ∃C,C=connM b h sub cm:=⟨_,rfl⟩
 rw[←hC]
 rintro v st4 ⟨x,y,rfl,hxy,W⟩
 obtain⟨mo2,hmo2,S⟩:=W
 simp
 intro i11 h11
 have S:=S.new h11 (.cells [.sl .nil [] 0,.sl .nil [] 0])
 have hst:=store_pt (sz:=2) (o:=0) S.get (v:=.agg [x,y]) (vs:=[x,y]) rfl rfl (by simp)
 rw[show spliceV [V.sl .nil [] 0,V.sl .nil [] 0] 0 [x,y]=[x,y]from rfl]at hst
 have S:=S.set (.cells [x,y])
 simp[hst]at S⊢
 generalize st4.upd i11 _=st5 at S⊢
 have hu: ∀a b:V,segOf [a,b] 0 2=some [a,b]:=fun _ _=>rfl
 have hfl:fillV [V.sl .nil [] 0,V.sl .nil [] 0] []=some [V.sl .nil [] 0,V.sl .nil [] 0]:=rfl
 have S:=bury2 S
 have o8:st5 i8=some (.cells [V.sl .nil [] 0,V.sl .nil [] 0]):=S.mem (by cases mo<;>cases mo2<;>simp[SetL])
 by_cases he:C.e=0
 ·have hb':(C.e != 0)=false:=by rw[he];rfl
  obtain⟨t1,t2,t3⟩:=takeOver (L:=pt i11 (.cells [x,y])::pt i8 (.cells [V.sl .nil [] 0,V.sl .nil [] 0])::pt i5 (.cells (eBlk b))::L) S
  have hsg:segOf [V.map mo2] 0 1=some [.map mo2]:=rfl
  have hsto:=store_pt (sz:=1) (o:=off) t2 (v:=.map mo2) (vs:=[.map mo2]) rfl rfl (by have:=hf.seg (.map mo);simp[segOf]at this;omega)
  rw[hf.spl]at hsto
  have W:SetS o f C.cm (pt i11 (.cells [x,y])::pt i8 (.cells [V.sl .nil [] 0,V.sl .nil [] 0])::pt i5 (.cells (eBlk b))::L) (st5.upd o (.cells (f (.map mo2)))):=⟨mo2,hmo2,t3⟩
  obtain⟨st6,hst6⟩: ∃s,s=st5.upd o (.cells (f (.map mo2))):=⟨_,rfl⟩
  rw[←hst6]at hsto W
  simp[hb',St.seg,t1,lone,hsg,hsto]
  have o11:=W.ext (i:=i11) (x:=.cells [x,y]) (by simp)
  have W:SetS o f C.cm (pt i8 (.cells [V.sl .nil [] 0,V.sl .nil [] 0])::pt i11 (.cells [x,y])::pt i5 (.cells (eBlk b))::L) st6:=W.tail fun r h=>h.swap
  have o8:=W.ext (i:=i8) (x:=.cells [.sl .nil [] 0,.sl .nil [] 0]) (by simp)
  have hst8:=store_pt (sz:=2) (o:=0) o8 (v:=.agg [x,y]) (vs:=[x,y]) rfl rfl (by simp)
  rw[show spliceV [V.sl .nil [] 0,V.sl .nil [] 0] 0 [x,y]=[x,y]from rfl]at hst8
  simp[o11,hu,hst8,St.seg,he]
  exact⟨_,sub_self _,hxy he,(W.setL _).tail fun r h=>h.drop.drop.drop⟩
 ·have hb':(C.e != 0)=true:=by simpa using he
  have hst8:=store_pt (sz:=2) (o:=0) o8 (v:=undo0) (vs:=[V.sl .nil [] 0,V.sl .nil [] 0]) rfl rfl (by simp)
  rw[show spliceV [V.sl .nil [] 0,V.sl .nil [] 0] 0 [V.sl .nil [] 0,V.sl .nil [] 0]=[V.sl .nil [] 0,V.sl .nil [] 0]from rfl]at hst8
  have hst8':st5.upd i8 (.cells [V.sl .nil [] 0,V.sl .nil [] 0])=st5:=funext fun k=>by
   by_cases ej:k=i8
   ·rw[ej,St.upd_same,o8]
   ·rw[St.upd_other _ _ ej]
  rw[hst8',undo0]at hst8
  simp[hb',he,hfl,hst8,St.seg,o8,hu,undo0]
  exact⟨st5,sub_self _,mo,hmo,by
   cases mo2 with
   | none=>
     cases mo with
     | none=>exact S.drop.tail fun r h=>h.drop.drop.drop
     | some m=>exact S.drop.tail fun r h=>h.tail fun r h=>h.drop.drop.drop
   | some m2=>
     cases mo with
     | none=>exact S.drop.drop.tail fun r h=>h.drop.drop.drop
     | some m=>exact S.drop.drop.tail fun r h=>h.tail fun r h=>h.drop.drop.drop⟩
def giveGo (ps:List Pt)(cs:List Coin1):Nat→Nat→CM→CM
 | _,0,cm=>cm
 | n,k+1,cm=>giveGo ps cs (n-1) k (aSet (ps.getD (n-1) (id0,0#32)) (cs.getD (n-1) coin0) cm)
def disGo (ps:List Pt)(cs:List Coin1):List Tx1→Nat→CM→CM
 | [],_,cm=>cm
 | t::l,n,cm=>disGo ps cs l (n-t.ins.length) (giveGo ps cs n t.ins.length (takeM t cm))
def insN (l:List Tx1):Nat:=(l.map fun t=>t.ins.length).sum
def disM (b:Blk1)(u:Undo1)(cm:CM):Int×CM:=
 match b.txs with
 | []=>(120,cm)
 | t::l=>if insN l≠u.ps.length∨insN l≠u.cs.length then(120,cm)else(0,disGo u.ps u.cs l.reverse (insN l) (takeM t cm))
theorem insN_nil:insN []=0:=rfl
theorem insN_cons (t:Tx1)(l:List Tx1):insN (t::l)=t.ins.length+insN l:=by simp[insN]
theorem insN_append (a b:List Tx1):insN (a++b)=insN a+insN b:=by simp[insN]
theorem getD_lt {α:Type}{l:List α}{i:Nat}(h:i<l.length)(d:α):l.getD i d=l[i]:=by
 rw[List.getD_eq_getElem?_getD,List.getElem?_eq_getElem h,Option.getD_some]
set_option maxHeartbeats 16000000 in
theorem spec262 (ok:OkCoins P F)(hc:CloneC P (F 256)){st:St}{o off:Nat}{f:V→List V}(hf:Hole f off){cm:CM}{L:List Asn}(h0:SetS o f cm L st)(b:Blk1)(hb:b.txs.length≤900)(ht: ∀t∈b.txs,t.ok 100)(u:Undo1):
  ACalls P (F 262) [.ptr (some (o,off)),.agg (eBlk b),vUndo u] st fun v st'=>v=.int .i64 (disM b u cm).1∧SetS o f (disM b u cm).2 L st':=by
 refine shows_call ok.mixed ok.h262 (by simp[k262]) ?_
 simp only[k262]
 obtain⟨n,hn⟩: ∃n,n=b.txs.length:=⟨_,rfl⟩
 have hln:lenSlV (txsV b.tk b.txs)=some (.int .i64 (n:Int)):=by rw[hn];rfl
 have hsT:=bsegT b
 obtain⟨up,hup⟩: ∃up,up=V.sl u.pk (rowsOf ePt u.ps) u.ps.length:=⟨_,rfl⟩
 obtain⟨uc,huc⟩: ∃uc,uc=V.sl u.ck (rowsOf eCoin u.cs) u.cs.length:=⟨_,rfl⟩
 have hvu:vUndo u=.agg [up,uc]:=by rw[hup,huc];rfl
 have rdp: ∀s,Rd 33 ePt up u.ps s:=fun s=>.inl ⟨u.pk,hup⟩
 have rdc: ∀s,Rd 34 eCoin uc u.cs s:=fun s=>.inl ⟨u.ck,huc⟩
 have hlp:=(rdp st).len
 have hlc:=(rdc st).len
 have hul: ∀i (l:List Tx1),l=b.txs.drop i→insN l≤90000:=fun i l hl=>by
  have: ∀m:List Tx1,(∀t∈m,t.ok 100)→insN m≤100*m.length:=fun m hm=>by
   induction m with
   | nil=>simp[insN]
   | cons t m ih=>
     have h1:=ih fun x hx=>hm x (List.mem_cons_of_mem _ hx)
     have h2:=(hm t List.mem_cons_self).1
     rw[insN_cons,List.length_cons]
     omega
  have h1:=this l fun t h=>ht t (List.mem_of_mem_drop (hl ▸h))
  have:l.length≤900:=by rw[hl,List.length_drop];omega
  omega
 obtain⟨N,hN⟩: ∃N,N=insN (b.txs.drop 1):=⟨_,rfl⟩
 have hN9:N≤90000:=by rw[hN];exact hul 1 _ rfl
 simp
 intro i4 h4
 have W:=h0.new h4 (.cells (eBlk b))
 generalize st.upd i4 _=st1 at W⊢
 simp[hvu]
 intro i5 h5
 have W:=W.new h5 (.cells [up,uc])
 generalize st1.upd i5 _=st2 at W⊢
 have o4:=W.ext (i:=i4) (x:=.cells (eBlk b)) (by simp)
 simp[St.seg,o4,hsT,hln]
 refine vc_joinB (M:=fun env' st'=>env' 7=.int .i64 (N:Int)∧SetS o f cm (pt i5 (.cells [up,uc])::pt i4 (.cells (eBlk b))::L) st') ?_ ?_
 ·refine vc_loopJ (fun c env' st'=>∃i m:Nat,i≤n∧c=n-i∧env' 15=.int .i64 (i:Nat)∧env' 7=.int .i64 (m:Int)∧m+insN (b.txs.drop (max i 1))=N∧SetS o f cm (pt i5 (.cells [up,uc])::pt i4 (.cells (eBlk b))::L) st') n
    ⟨0,0,by omega,by omega,by simp,by simp,by rw[hN,show max 0 1=1 from rfl,Nat.zero_add],W⟩ ?_
  clear W o4
  rintro J hJ c env' st4 hsame ⟨i,m,hi,rfl,h15,h7,hm,W⟩
  have g13:=(hsame.get 13 rfl).trans (by simp:_=txsV b.tk b.txs)
  have g14:=(hsame.get 14 rfl).trans (by simp:_=V.int .i64 (n:Int))
  clear hsame
  by_cases hlt:i<n
  ·have w1:IntKind.i64.wrap ((i:Int)+1)=(i:Int)+1:=wrap64 (by omega) (by omega)
   have hib:i<b.txs.length:=by omega
   obtain⟨r1,r2,r3,r4⟩:=(rd_txs b st4).row eTx_len hib
   have hto:=ht _ (List.getElem_mem hib)
   have hdr:=List.drop_eq_getElem_cons hib
   obtain⟨x,hx⟩: ∃x,x=b.txs[i]:=⟨_,rfl⟩
   rw[←hx]at r3 hto hdr
   simp[g13,g14,h15,hlt,r1,r3]
   intro i9 h9
   have W:=W.new h9 (.cells [.sl .nil [] 0,.sl .nil [] 0])
   have o9:=W.ext (i:=i9) (x:=.cells [.sl .nil [] 0,.sl .nil [] 0]) (by simp)
   have hst:=store_pt (sz:=2) (o:=0) o9 (v:=.agg (eTx x)) (vs:=eTx x) rfl rfl (by simp)
   rw[show spliceV [V.sl .nil [] 0,V.sl .nil [] 0] 0 (eTx x)=eTx x from rfl]at hst
   have W:=W.setL (i:=i9) (.cells (eTx x))
   simp[hst,h15]at W⊢
   generalize st4.upd i9 (.cells (eTx x))=st5 at W⊢
   have o9:=W.ext (i:=i9) (x:=.cells (eTx x)) (by simp)
   by_cases hz:i=0
   ·subst hz
    simp[h15]
    exact Round.mk (n-1) _ (by omega) (sub_self _) (hJ _ _ _ ⟨1,m,by omega,rfl,by simp,by simp[h7],hm,W.tail fun r h=>h.drop⟩)
   ·rw[show max i 1=i by omega,hdr,insN_cons]at hm
    have hzp:0< (i:Int):=by omega
    have hzp':0<i:=by omega
    have lI:lenSlV (insV x)=some (.int .i64 (x.ins.length:Nat)):=rfl
    have sI:=tsegIns x
    have w2:IntKind.i64.wrap ((m:Int)+(x.ins.length:Int))=((m+x.ins.length:Nat):Int):=by
     have:=wrap64 (x:=(m:Int)+(x.ins.length:Int)) (by omega) (by omega)
     omega
    simp[hzp,hzp',h7,St.seg,o9,sI,lI,h15,w1,w2]
    exact Round.mk (n-(i+1)) _ (by omega) (sub_self _) (hJ _ _ _ ⟨i+1,m+x.ins.length,by omega,rfl,by simp,by simp,by rw[show max (i+1) 1=i+1 by omega];omega,W.tail fun r h=>h.drop⟩)
  ·have:i=n:=by omega
   subst this
   rw[List.drop_eq_nil_of_le (by omega),insN_nil]at hm
   have:m=N:=by omega
   subst this
   simp[g14,h15]
   exact⟨h7,W⟩
 clear W o4
 rintro env1 st3 hsame ⟨g7,W⟩
 have g0:=(hsame.get 0 rfl).trans (by simp:_=V.ptr (some (o,off)))
 have g4:=(hsame.get 4 rfl).trans (by simp:_=V.ptr (some (i4,0)))
 have g5:=(hsame.get 5 rfl).trans (by simp:_=V.ptr (some (i5,0)))
 clear hsame
 have o4:=W.ext (i:=i4) (x:=.cells (eBlk b)) (by simp)
 have o5:=W.ext (i:=i5) (x:=.cells [up,uc]) (by simp)
 have u0:segOf [up,uc] 0 1=some [up]:=rfl
 have u1:segOf [up,uc] 1 1=some [uc]:=rfl
 cases hbt:b.txs with
 | nil=>
   have hd:disM b u cm=(120,cm):=by simp only[disM,hbt]
   have hn0:n=0:=by rw[hn,hbt];rfl
   subst hn0
   simp[g4,g7,St.seg,o4,hsT,hln,hd]
   exact⟨st3,sub_self _,W.tail fun r h=>h.drop.drop⟩
 | cons t l=>
   have hNl:N=insN l:=by rw[hN,hbt];rfl
   have hnl:n=l.length+1:=by rw[hn,hbt];rfl
   have hd0:disM b u cm=if insN l≠u.ps.length∨insN l≠u.cs.length then(120,cm)else(0,disGo u.ps u.cs l.reverse (insN l) (takeM t cm)):=by simp only[disM,hbt]
   rw[←hNl]at hd0
   have hnb:((n:Int)==0)=false:=beq_eq_false_iff_ne.2 (by omega)
   by_cases hp:N=u.ps.length
   case neg=>
    have hpb:((N:Int) != (u.ps.length:Int))=true:=bne_iff_ne.2 (by omega)
    rw[if_pos (.inl hp)]at hd0
    simp[g4,g5,g7,St.seg,o4,o5,u0,u1,hsT,hln,hlp,hlc,hnb,hpb,hd0]
    exact⟨st3,sub_self _,W.tail fun r h=>h.drop.drop⟩
   by_cases hcl:N=u.cs.length
   case neg=>
    have hpb:((N:Int) != (u.ps.length:Int))=false:=bne_eq_false_iff_eq.2 (by omega)
    have hcb:((N:Int) != (u.cs.length:Int))=true:=bne_iff_ne.2 (by omega)
    rw[if_pos (.inr hcl)]at hd0
    simp[g4,g5,g7,St.seg,o4,o5,u0,u1,hsT,hln,hlp,hlc,hnb,hpb,hcb,hd0]
    exact⟨st3,sub_self _,W.tail fun r h=>h.drop.drop⟩
   have hpb:((N:Int) != (u.ps.length:Int))=false:=bne_eq_false_iff_eq.2 (by omega)
   have hcb:((N:Int) != (u.cs.length:Int))=false:=bne_eq_false_iff_eq.2 (by omega)
   rw[if_neg (by rintro(h | h);exact h hp;exact h hcl)]at hd0
   rw[hd0]
   obtain⟨mo,hmo,S⟩:=W
   simp[g0,g4,g5,g7,St.seg,o4,o5,u0,u1,hsT,hln,hlp,hlc,hnb,hpb,hcb]
   refine(spec255 ok hc hf hmo S).mono ?_
   rintro v st4 ⟨ic,rfl,W⟩
   clear S o4 o5
   obtain⟨mo2,hmo2,S⟩:=W
   have hsg: ∀v:V,segOf (lone v) 0 1=some [v]:=fun _=>rfl
   have oo:st4 ic=some (.cells (lone (.map mo2))):=by cases mo2<;>exact S.get
   obtain⟨bb,hbb⟩: ∃bb,bb=mo2.isNone:=⟨_,rfl⟩
   have heq:eqK .map (V.map mo2) (V.map none)=some bb:=by rw[hbb];cases mo2<;>rfl
   simp[St.seg,oo,hsg,heq]
   refine condB_cut (M:=fun env' st'=>env' 0=.ptr (some (o,off))∧env' 4=.ptr (some (i4,0))∧env' 5=.ptr (some (i5,0))∧env' 7=.int .i64 (N:Int)∧env' 10=.ptr (some (ic,0))∧∃m,Sep (SetL ic lone cm (some m)++(SetL o f cm mo++(pt i5 (.cells [up,uc])::pt i4 (.cells (eBlk b))::L))) st') ?_ ?_
   ·cases mo2 with
    | none=>
      have he:cm=[]:=hmo2 rfl
      subst he
      have hb1:bb=true:=hbb
      subst hb1
      simp
      intro m hm
      have S:=S.new hm (.mp [])
      have o2:=S.drop.get
      have hst:=store_pt (sz:=1) (o:=0) o2 (v:=.map (some m)) (vs:=[.map (some m)]) rfl rfl (by simp[lone])
      rw[show spliceV (lone (.map none)) 0 [V.map (some m)]=lone (.map (some m))from rfl]at hst
      have S:=S.setAt (.cells (lone (.map (some m)))) 1 rfl
      simp only[List.set_cons_succ,List.set_cons_zero]at S
      simp[hst,g0,g4,g5,g7]
      exact⟨m,S.swap⟩
    | some m=>
      have hb1:bb=false:=hbb
      subst hb1
      simp[g0,g4,g5,g7]
      exact⟨m,S⟩
   clear S oo g0 g4 g5 g7
   rintro env2 st5 ⟨g0,g4,g5,g7,g10,m,S⟩
   have o4:st5 i4=some (.cells (eBlk b)):=S.mem (by cases mo<;>simp[SetL])
   have hn0:0<b.txs.length:=by rw[hbt];simp
   have hb0:b.txs[0]'hn0=t:=by simp[hbt]
   have ht0:=ht t (by rw[hbt];exact List.mem_cons_self)
   obtain⟨r1,r2,r3,r4⟩:=(rd_txs b st5).row eTx_len hn0
   rw[hb0]at r3
   simp at r1
   simp[g4,g10,St.seg,o4,hsT,r1,r3]
   refine(spec261m ok lone_hole (fun e=>by cases e) S t ht0).mono ?_
   clear S o4 r1 r2 r3 r4
   rintro v st6 ⟨-,S⟩
   have o4:st6 i4=some (.cells (eBlk b)):=S.mem (by cases mo<;>simp[SetL])
   have wn:IntKind.i64.wrap ((n:Int)-1)=(l.length:Int):=by
    have:=wrap64 (x:=(n:Int)-1) (by omega) (by omega)
    omega
   obtain⟨Res,hRes⟩: ∃R,R=disGo u.ps u.cs l.reverse N (takeM t cm):=⟨_,rfl⟩
   rw[←hRes]
   simp[g4,St.seg,o4,hsT,hln,wn]
   refine vc_joinB (M:=fun env' st'=>Sep (SetL ic lone Res (some m)++(SetL o f cm mo++(pt i5 (.cells [up,uc])::pt i4 (.cells (eBlk b))::L))) st') ?_ ?_
   ·refine vc_loopJ (fun d env' st'=>∃(i mm:Nat) (cm':CM),i≤l.length∧d=i∧env' 11=.int .i64 (i:Nat)∧env' 7=.int .i64 (mm:Nat)∧mm=insN (l.take i)∧disGo u.ps u.cs (l.take i).reverse mm cm'=Res∧Sep (SetL ic lone cm' (some m)++(SetL o f cm mo++(pt i5 (.cells [up,uc])::pt i4 (.cells (eBlk b))::L))) st') l.length
      ⟨l.length,N,takeM t cm,by omega,rfl,by simp,by simp[g7],by rw[List.take_length,hNl],by rw[List.take_length,hRes],S⟩ ?_
    clear S o4
    rintro J hJ d env3 st7 hsame ⟨i,mm,cm',hi,rfl,h11,h7,hmm,hgo,S⟩
    have g4:=(hsame.get 4 rfl).trans (by simp[g4]:_=V.ptr (some (i4,0)))
    have g5:=(hsame.get 5 rfl).trans (by simp[g5]:_=V.ptr (some (i5,0)))
    have g10:=(hsame.get 10 rfl).trans (by simp[g10]:_=V.ptr (some (ic,0)))
    clear hsame
    cases d with
    | zero=>
      rw[List.take_zero,List.reverse_nil,disGo]at hgo
      rw[←hgo]
      simp[h11]
      exact S
    | succ i=>
      have hil:i<l.length:=by omega
      have hib:i+1<b.txs.length:=by omega
      obtain⟨r1,r2,r3,r4⟩:=(rd_txs b st7).row eTx_len hib
      obtain⟨e1,e2⟩:=r4 0 1 (by omega)
      have hto:=ht _ (List.getElem_mem hib)
      have hxl:b.txs[i+1]=l[i]:=by simp[hbt]
      rw[List.take_succ_eq_append_getElem hil,List.reverse_append,List.reverse_singleton,List.singleton_append,disGo]at hgo
      rw[List.take_succ_eq_append_getElem hil,insN_append,insN_cons,insN_nil]at hmm
      have hml:insN (l.take i)+(l[i].ins.length+0)≤N:=by
       have h1:insN l=insN (l.take i)+insN (l.drop i):=by rw[←insN_append,List.take_append_drop]
       rw[List.drop_eq_getElem_cons hil,insN_cons]at h1
       omega
      rw[hxl]at r3 e2 hto
      obtain⟨x,hx⟩: ∃x,x=l[i]:=⟨_,rfl⟩
      rw[←hx]at r3 e2 hto hgo hmm hml
      have o4:st7 i4=some (.cells (eBlk b)):=S.mem (by cases mo<;>simp[SetL])
      have hcast:((i+1:Nat):Int)=(i:Int)+1:=by omega
      rw[hcast]at r1
      simp[h11,g4,g10,St.seg,o4,hsT,r1,r3]
      refine(spec261m ok lone_hole (fun e=>by cases e) S x hto).mono ?_
      clear S o4
      rintro v st8 ⟨-,S⟩
      have o4:st8 i4=some (.cells (eBlk b)):=S.mem (by cases mo<;>simp[SetL])
      have lI:lenSlV (insV x)=some (.int .i64 (x.ins.length:Nat)):=rfl
      obtain⟨k1,k2,k3,k4⟩:=(rd_txs b st8).row eTx_len hib
      obtain⟨e1,e2⟩:=k4 0 1 (by omega)
      rw[hxl,←hx]at e2
      rw[show((eTx x).drop 0).take 1=[insV x]from rfl]at e2
      obtain⟨G,hG⟩: ∃G,G=giveGo u.ps u.cs mm x.ins.length (takeM x cm'):=⟨_,rfl⟩
      rw[←hG]at hgo
      simp[g4,h11,St.seg,o4,hsT,r1,e1,e2,lI]
      refine vc_joinB2 (M:=fun env' st'=>env' 7=.int .i64 ((mm-x.ins.length:Nat):Int)∧Sep (SetL ic lone G (some m)++(SetL o f cm mo++(pt i5 (.cells [up,uc])::pt i4 (.cells (eBlk b))::L))) st') ?_ ?_
      ·refine vc_loopJ (fun d env' st'=>∃(j:Nat) (cm2:CM),j≤x.ins.length∧d=x.ins.length-j∧env' 85=.int .i64 (j:Nat)∧env' 7=.int .i64 ((mm-j:Nat):Int)∧giveGo u.ps u.cs (mm-j) (x.ins.length-j) cm2=G∧Sep (SetL ic lone cm2 (some m)++(SetL o f cm mo++(pt i5 (.cells [up,uc])::pt i4 (.cells (eBlk b))::L))) st') x.ins.length
         ⟨0,takeM x cm',by omega,by omega,by simp,by simp[h7],by rw[hG];rfl,S⟩ ?_
       clear S o4 e1 e2 r1 r2 r3 r4 k1 k2 k3 k4
       rintro J2 hJ2 d env4 st9 hsame ⟨j,cm2,hj,rfl,h85,h7,hgi,S⟩
       have g5:=(hsame.get 5 rfl).trans (by simp[g5]:_=V.ptr (some (i5,0)))
       have g10:=(hsame.get 10 rfl).trans (by simp[g10]:_=V.ptr (some (ic,0)))
       have g84:=(hsame.get 84 rfl).trans (by simp:_=V.int .i64 (x.ins.length:Int))
       clear hsame
       by_cases hlt:j<x.ins.length
       ·have w1:IntKind.i64.wrap ((j:Int)+1)=(j:Int)+1:=wrap64 (by omega) (by omega)
        obtain⟨q,hq⟩: ∃q,q=mm-(j+1):=⟨_,rfl⟩
        have w2:IntKind.i64.wrap (((mm-j:Nat):Int)-1)=(q:Int):=by
         have:=wrap64 (x:=((mm-j:Nat):Int)-1) (by omega) (by omega)
         omega
        have hqp:q<u.ps.length:=by omega
        have hqc:q<u.cs.length:=by omega
        rw[show mm-j=q+1 by omega,show x.ins.length-j=(x.ins.length-(j+1))+1 by omega,giveGo,Nat.add_sub_cancel,getD_lt hqp,getD_lt hqc]at hgi
        obtain⟨p1,p2,p3,p4⟩:=(rdp st9).row ePt_len hqp
        obtain⟨c1,c2,c3,c4⟩:=(rdc st9).row eCoin_len hqc
        have o5:st9 i5=some (.cells [up,uc]):=S.mem (by cases mo<;>simp[SetL])
        have oi:st9 ic=some (.cells (lone (.map (some m)))):=S.get
        have om:=S.drop.get
        have hms:=mset_enc keyed_pt (ev:=vCoin) om u.ps[q] u.cs[q]
        have S2:=S.swap.set (.mp (encM kPt vCoin (aSet u.ps[q] u.cs[q] cm2)))
        have hms:msetS st9 (.agg 33) (.map (some m)) (.agg (ePt u.ps[q])) (.agg (eCoin u.cs[q]))=some (st9.upd m (.mp (encM kPt vCoin (aSet u.ps[q] u.cs[q] cm2)))):=hms
        obtain⟨P1,hP1⟩: ∃P1,P1=u.ps[q]:=⟨_,rfl⟩
        obtain⟨C1,hC1⟩: ∃C1,C1=u.cs[q]:=⟨_,rfl⟩
        rw[←hP1]at p3 hms S2
        rw[←hC1]at c3 hms S2
        simp[g84,h85,hlt,h7,w2,g10,g5,St.seg,o5,oi,hsg,u0,u1,p1,p3,c1,c3,hms,w1]
        refine Round.mk (x.ins.length-(j+1)) _ (by omega) (sub_self _) (hJ2 _ _ _ ⟨j+1,aSet P1 C1 cm2,by omega,rfl,by simp,by simp[hq],?_,S2.swap⟩)
        rw[hP1,hC1,←hq]
        exact hgi
       ·have:j=x.ins.length:=by omega
        subst this
        rw[Nat.sub_self,giveGo]at hgi
        rw[←hgi]
        simp[g84,h85]
        exact⟨h7,S⟩
      clear S o4
      rintro env4 st9 hsame ⟨h7,S⟩
      have g11:=(hsame.get 11 rfl).trans (by simp[h11]:_=V.int .i64 ((i:Int)+1))
      clear hsame
      have w1:IntKind.i64.wrap (i:Int)=(i:Int):=wrap64 (by omega) (by omega)
      simp[g11,w1]
      exact Round.mk i _ (by omega) (sub_self _) (hJ _ _ _ ⟨i,mm-x.ins.length,G,by omega,rfl,by simp,by simp[h7],by omega,hgo,S⟩)
   clear S o4
   rintro env3 st7 hsame S
   have g0:=(hsame.get 0 rfl).trans (by simp[g0]:_=V.ptr (some (o,off)))
   have g10:=(hsame.get 10 rfl).trans (by simp[g10]:_=V.ptr (some (ic,0)))
   clear hsame
   obtain⟨t1,t2,t3⟩:=takeOver S
   have hsto:=store_pt (sz:=1) (o:=off) t2 (v:=.map (some m)) (vs:=[.map (some m)]) rfl rfl (by have:=hf.seg (.map mo);simp[segOf]at this;omega)
   rw[hf.spl]at hsto
   have hsg1:segOf [V.map (some m)] 0 1=some [.map (some m)]:=rfl
   simp[g0,g10,St.seg,t1,lone,hsg1,hsto]
   exact⟨_,sub_self _,some m,(fun e=>by cases e),t3.tail fun r h=>h.tail fun r h=>h.drop.drop⟩
end
def rw0:Rw:=(⟨hdr0,id0,0,0,0,0,false⟩,.nil,[])
def stp (k:Nat):Int:=((2 ^ (k-10):Nat):Int)
section
variable {P:Program} {F:Fn}
theorem fill1 (x:Int):fillV (repV [.int .i64 0] 1) [(0,1,.int .i64 x)]=some (e1 x):=rfl
theorem el1 (st:St)(k:SK)(x:Int):elems st 1 (.sl k (e1 x) 1)=some (e1 x,1):=by simp[elems,e1]
end
def On (l:List Nd)(i k:Nat):Prop:=hgt l i≤hgt l k∧anc l k (hgt l i)=i
theorem onB_on {l:List Nd}{i k:Nat}(hi:i<l.length)(hk:k<l.length):onB l i k=true↔On l i k:=by
 rw[onB_nat hi hk];simp[On]
theorem ancI_nat {l:List Nd}{i h:Nat}(hi:i<l.length)(hh:h≤hgt l i):ancI l i h=(anc l i h:Nat):=by
 unfold ancI
 rw[if_neg (by simp only[Int.toNat_natCast];omega),Int.toNat_natCast,Int.toNat_natCast]
theorem onB_range {l:List Nd}{i k:Int}(h:onB l i k=true): ∃a b:Nat,i=a∧k=b∧a<l.length∧b<l.length:=by
 unfold onB at h
 simp only[Bool.and_eq_true,decide_eq_true_eq,beq_iff_eq]at h
 obtain⟨⟨h1,h2⟩,h3⟩:=h
 unfold ancI at h3
 split at h3
 ·omega
 ·exact⟨i.toNat,k.toNat,by omega,by omega,by omega,by omega⟩
section
variable {l:List Nd} (w:Wf l)
include w
theorem On.refl' (i:Nat):On l i i:=⟨Nat.le_refl _,anc_self i⟩
theorem On.le {i k:Nat}(hk:k<l.length)(h:On l i k):i≤k:=by
 have:=w.anc_le (h:=hgt l i) hk
 rw[h.2]at this
 exact this
theorem On.of {k h:Nat}(hk:k<l.length)(hh:h≤hgt l k):On l (anc l k h) k:=by
 have e:=w.anc_hgt hk hh
 refine⟨by omega,by rw[e]⟩
theorem On.trans {i j k:Nat}(hk:k<l.length)(h1:On l i j)(h2:On l j k):On l i k:=by
 refine⟨Nat.le_trans h1.1 h2.1,?_⟩
 have:=w.anc_anc hk h1.1 h2.1
 rw[h2.2,h1.2]at this
 exact this.symm
theorem On.chain {i j k:Nat}(hk:k<l.length)(h1:On l i k)(h2:On l j k)(h:hgt l i≤hgt l j):On l i j:=by
 refine⟨h,?_⟩
 have:=w.anc_anc hk h h2.1
 rw[h2.2,h1.2]at this
 exact this
theorem hgt_zero_iff {i:Nat}(hi:i<l.length)(h:hgt l i=0):i=0:=by
 rcases Nat.eq_zero_or_pos i with e | e
 ·exact e
 ·have:=w.hgt_par e hi;omega
theorem On.zero {k:Nat}(hk:k<l.length):On l 0 k:=by
 have h0:=w.hgt_zero
 have e:=w.anc_hgt hk (h:=0) (by omega)
 refine⟨by omega,?_⟩
 rw[h0]
 exact hgt_zero_iff w (w.anc_lt hk) e
theorem On.par {i k:Nat}(hk:k<l.length)(h:On l i k)(hne:i≠k):On l i (par l k)∧0<k:=by
 have hlt:hgt l i<hgt l k:=by
  rcases Nat.lt_or_ge (hgt l i) (hgt l k)with g | g
  ·exact g
  ·have e:hgt l i=hgt l k:=by have:=h.1;omega
   have:=h.2
   rw[e,anc_self]at this
   exact absurd this.symm hne
 have hp:=w.pos_of_hgt (i:=k) (by omega)
 have h2:=w.hgt_par hp hk
 refine⟨⟨by omega,?_⟩,hp⟩
 rw[←w.anc_par hk hlt]
 exact h.2
theorem On.up {k:Nat}(hp:0<k)(hk:k<l.length):On l (Ab.par l k) k:=by
 have h1:=w.hgt_par hp hk
 have h2:=w.anc_par hk (h:=hgt l (Ab.par l k)) (by omega)
 refine⟨by omega,?_⟩
 rw[h2,anc_self]
end
def meetGo (l:List Nd):Nat→Nat→Nat→Nat
 | 0,a,_=>a
 | n+1,a,b=>if a=b then a else meetGo l n (par l a) (par l b)
def meetM (l:List Nd)(a b:Nat):Nat:=meetGo l (min (hgt l a) (hgt l b)) (anc l a (min (hgt l a) (hgt l b))) (anc l b (min (hgt l a) (hgt l b)))
structure Meets (l:List Nd) (a b m:Nat):Prop where
 lt:m<l.length
 on1:On l m a
 on2:On l m b
 top: ∀i,On l i a→On l i b→On l i m
theorem meetGo_spec {l:List Nd}(w:Wf l): ∀(n a b:Nat),a<l.length→b<l.length→hgt l a=n→hgt l b=n→Meets l a b (meetGo l n a b)
 | 0,a,b,ha,hb,e1,e2=>by
   have h1:=hgt_zero_iff w ha e1
   have h2:=hgt_zero_iff w hb e2
   subst h1 h2
   exact⟨ha,On.refl' w _,On.refl' w _,fun i h _=>h⟩
 | n+1,a,b,ha,hb,e1,e2=>by
   unfold meetGo
   by_cases h:a=b
   ·subst h
    rw[if_pos rfl]
    exact⟨ha,On.refl' w _,On.refl' w _,fun i h _=>h⟩
   ·rw[if_neg h]
    have pa:=w.pos_of_hgt (i:=a) (by omega)
    have pb:=w.pos_of_hgt (i:=b) (by omega)
    have ia:=w.par_lt pa ha
    have ib:=w.par_lt pb hb
    have ga:=w.hgt_par pa ha
    have gb:=w.hgt_par pb hb
    have ih:=meetGo_spec w n (par l a) (par l b) (by omega) (by omega) (by omega) (by omega)
    refine⟨ih.lt,On.trans w ha ih.on1 (On.up w pa ha),On.trans w hb ih.on2 (On.up w pb hb),fun i h1 h2=>?_⟩
    have na:i≠a:=fun e=>by
     subst e
     have:=h2.2
     rw[e1,←e2,anc_self]at this
     exact h this.symm
    have nb:i≠b:=fun e=>by
     subst e
     have:=h1.2
     rw[e2,←e1,anc_self]at this
     exact h this
    exact ih.top i (On.par w ha h1 na).1 (On.par w hb h2 nb).1
theorem meet_spec {l:List Nd}(w:Wf l){a b:Nat}(ha:a<l.length)(hb:b<l.length):Meets l a b (meetM l a b):=by
 obtain⟨h,hh⟩: ∃h,h=min (hgt l a) (hgt l b):=⟨_,rfl⟩
 have i1:=w.anc_lt (h:=h) ha
 have i2:=w.anc_lt (h:=h) hb
 have g1:=w.anc_hgt ha (h:=h) (by omega)
 have g2:=w.anc_hgt hb (h:=h) (by omega)
 have m:=meetGo_spec w h (anc l a h) (anc l b h) i1 i2 g1 g2
 have o1:=On.of w ha (h:=h) (by omega)
 have o2:=On.of w hb (h:=h) (by omega)
 have e:meetM l a b=meetGo l h (anc l a h) (anc l b h):=by rw[meetM,←hh]
 rw[e]
 refine⟨m.lt,On.trans w ha m.on1 o1,On.trans w hb m.on2 o2,fun i k1 k2=>?_⟩
 have hi:hgt l i≤h:=by have:=k1.1;have:=k2.1;omega
 exact m.top i (On.chain w ha k1 o1 (by omega)) (On.chain w hb k2 o2 (by omega))
def wayM (l:List Nd)(a b:Nat):List Int:=(List.range (hgt l b-hgt l a)).map fun k=>((anc l b (hgt l a+1+k):Nat):Int)
def wayI (l:List Nd)(a b:Int):List Int:=if onB l a b=true then wayM l a.toNat b.toNat else[]
theorem wayM_len (l:List Nd)(a b:Nat):(wayM l a b).length=hgt l b-hgt l a:=by simp[wayM]
theorem wayM_rev {l:List Nd}(a b:Nat):((List.range (hgt l b-hgt l a)).map fun k=>((anc l b (hgt l b-k):Nat):Int)).reverse=wayM l a b:=by
 apply List.ext_getElem
 ·simp[wayM]
 ·intro i h1 h2
  have hi:i<hgt l b-hgt l a:=by simpa[wayM]using h2
  rw[List.getElem_reverse]
  simp only[wayM,List.getElem_map,List.getElem_range,List.length_map,List.length_range]
  congr 2
  omega
def revTo (l:List Int)(i:Nat):List Int:=(List.range l.length).map fun k=>if k<i∨l.length-1-k<i then l.getD (l.length-1-k) 0 else l.getD k 0
@[simp] theorem revTo_len (l:List Int)(i:Nat):(revTo l i).length=l.length:=by simp[revTo]
theorem revTo_get (l:List Int)(i k:Nat)(h:k<l.length):(revTo l i)[k]'(by simpa using h)=if k<i∨l.length-1-k<i then l.getD (l.length-1-k) 0 else l.getD k 0:=by simp[revTo]
theorem revTo_zero (l:List Int):revTo l 0=l:=by
 apply List.ext_getElem
 ·simp
 ·intro k h1 h2
  rw[revTo_get _ _ _ h2,if_neg (by omega)]
  simp[h2]
theorem revTo_all (l:List Int){i:Nat}(h:l.length≤2*i+1):revTo l i=l.reverse:=by
 apply List.ext_getElem
 ·simp
 ·intro k h1 h2
  have hk:k<l.length:=by simpa using h1
  rw[revTo_get _ _ _ hk,List.getElem_reverse]
  have e: ∀j (hj:j<l.length),l.getD j 0=l[j]:=fun j hj=>by simp[hj]
  split
  ·exact e _ (by omega)
  ·have:k=l.length-1-k:=by omega
   rw[e k hk]
   congr 1
theorem revTo_succ (l:List Int){i:Nat}(h:2*i+1<l.length):((revTo l i).set i ((revTo l i)[l.length-1-i]'(by simp;omega))).set (l.length-1-i) ((revTo l i)[i]'(by simp;omega))=revTo l (i+1):=by
 apply List.ext_getElem
 ·simp
 ·intro k h1 h2
  have hk:k<l.length:=by simpa using h2
  rw[List.getElem_set,List.getElem_set,revTo_get _ _ _ hk,revTo_get _ _ _ (show i<l.length by omega),revTo_get _ _ _ (show l.length-1-i<l.length by omega),revTo_get _ _ _ hk]
  by_cases c1:l.length-1-i=k
  ·rw[if_pos c1,if_neg (by omega),if_pos (by omega)]
   congr 1;omega
  ·rw[if_neg c1]
   by_cases c2:i=k
   ·rw[if_pos c2,if_neg (by omega),if_pos (by omega)]
    congr 1;omega
   ·rw[if_neg c2]
    by_cases c3:k<i∨l.length-1-k<i
    ·rw[if_pos c3,if_pos (by omega)]
    ·rw[if_neg c3,if_neg (by omega)]
section
variable {P:Program} {F:Fn}
theorem e1_read {st:St}{id:Nat}{xs:List Int}{sp:List V}(h:st id=some (.cells (rowsOf e1 xs++sp))){i:Nat}(hi:i<xs.length):st.seg id i 1=some [.int .i64 xs[i]]:=by
 have:=rowsOf_seg e1_len xs sp hi
 rw[Nat.mul_one]at this
 simp only[St.seg,h]
 exact this
theorem e1_store {st:St}{id:Nat}{xs:List Int}{sp:List V}(h:st id=some (.cells (rowsOf e1 xs++sp))){i:Nat}(hi:i<xs.length)(x:Int):storeS st 1 (.ptr (some (id,i))) (.int .i64 x)=some (st.upd id (.cells (rowsOf e1 (xs.set i x)++sp))):=by
 have hs:=rowsOf_splice e1_len xs sp hi (o:=0) (vs:=[.int .i64 x]) (by simp) (a:=x) rfl
 rw[Nat.mul_one,Nat.add_zero]at hs
 simp only[storeS,h,cells_int]
 rw[if_pos ⟨rfl,by rw[List.length_append,rowsOf_length e1_len];omega⟩,hs]
set_option maxHeartbeats 1000000 in
theorem spec230 (ok:OkLocate P F){st:St}{s:V}{l:List Int}{L:List Asn}(S:Sep (Sl 1 e1 s l::L) st)(hl:l.length≤1000000):ACalls P (F 230) [s] st fun v st'=>Sep (Sl 1 e1 s l.reverse::L) st':=by
 refine shows_call ok.mixed ok.h230 (by simp[k230]) ?_
 simp only[k230]
 have hlen:=(Sep.rd e1_len S).len
 by_cases hne:l=[]
 ·subst hne
  have w0:IntKind.i64.wrap (-1)=-1:=rfl
  simp at hlen
  simp[hlen,w0]
  refine vc_loopJ (fun c env' st'=>env' 2=.int .i64 0∧env' 3=.int .i64 (-1)∧st'=st) 0 ⟨by simp,by simp,rfl⟩ ?_
  rintro J hJ c env' st1 hsame ⟨h2,h3,rfl⟩
  simp[h2,h3]
  exact⟨st1,sub_self _,by simpa using S⟩
 ·obtain⟨sid,spare,rfl,hsp,S⟩:=S.slObj hne
  have hp:=List.length_pos_iff.2 hne
  have w0:IntKind.i64.wrap ((l.length:Int)-1)=(l.length:Int)-1:=wrap64 (by omega) (by omega)
  simp[w0]
  have S:Sep (pt sid (.cells (rowsOf e1 (revTo l 0)++spare))::L) st:=by rw[revTo_zero];exact S
  refine vc_loopJ (fun c env' st'=>∃i:Nat,2*i≤l.length∧c=l.length-i∧env' 2=.int .i64 (i:Nat)∧env' 3=.int .i64 ((l.length:Int)-1-i)∧Sep (pt sid (.cells (rowsOf e1 (revTo l i)++spare))::L) st') l.length
   ⟨0,by omega,by omega,by simp,by simp,S⟩ ?_
  clear S
  rintro J hJ c env' st1 hsame ⟨i,hi,rfl,h2,h3,S⟩
  have g0:=(hsame.get 0 rfl).trans (by simp:_=V.hsl sid 0 1 l.length)
  clear hsame
  by_cases hlt:(i:Int)< (l.length:Int)-1-i
  ·obtain⟨j,hj⟩: ∃j,j=l.length-1-i:=⟨_,rfl⟩
   have ej:(l.length:Int)-1-i=(j:Int):=by omega
   rw[ej]at h3 hlt
   have hil:i< (revTo l i).length:=by simp;omega
   have hjl:j< (revTo l i).length:=by simp;omega
   have hin:(i:Int)<l.length:=by omega
   have hjn:(j:Int)<l.length:=by omega
   have ri:=e1_read S.get hil
   have rj:=e1_read S.get hjl
   have hst1:=e1_store S.get hil ((revTo l i)[j])
   have S1:=S.set (.cells (rowsOf e1 ((revTo l i).set i ((revTo l i)[j]))++spare))
   have hst2:=e1_store (i:=j) S1.get (by simpa using hjl) ((revTo l i)[i])
   have S2:=S1.set (.cells (rowsOf e1 (((revTo l i).set i ((revTo l i)[j])).set j ((revTo l i)[i]))++spare))
   have hsu:=revTo_succ l (i:=i) (by omega)
   have e1':(revTo l i)[l.length-1-i]'(by simp;omega)=(revTo l i)[j]:=by congr 1;omega
   rw[e1',←hj]at hsu
   rw[hsu]at hst2 S2
   have w1:IntKind.i64.wrap ((i:Int)+1)=(i:Int)+1:=wrap64 (by omega) (by omega)
   have w2:IntKind.i64.wrap ((j:Int)-1)=(j:Int)-1:=wrap64 (by omega) (by omega)
   generalize st1.upd sid (.cells (rowsOf e1 ((revTo l i).set i ((revTo l i)[j]))++spare))=st2 at hst1 hst2 S2
   have hlt':i<j:=by omega
   have hin':i<l.length:=by omega
   have hjn':j<l.length:=by omega
   simp[g0,h2,h3,hlt',hin',hjn',ri,rj,hst1,hst2,w1,w2]
   refine Round.mk (l.length-(i+1)) _ (by omega) (sub_self _) (hJ _ _ _ ⟨i+1,by omega,rfl,by simp,?_,S2⟩)
   simp
   omega
  ·have S:=S
   rw[revTo_all l (by omega)]at S
   simp[h2,h3,hlt]
   refine⟨st1,sub_self _,?_⟩
   have:=Sep.ofObj S hsp
   simpa using this
theorem min_cl {l:List Nd}(w:Wf l)(hl:l.length≤16384)(i:Int):foldV min2V (.int .i64 i) [.int .i64 ((l.length:Int)-1)]=some (.int .i64 (min i ((l.length:Int)-1)))∧foldV max2V (.int .i64 0) [.int .i64 (min i ((l.length:Int)-1))]=some (.int .i64 (clI l i:Nat))∧IntKind.i64.wrap ((l.length:Int)-1)=(l.length:Int)-1:=by
 have hp:=w.ne
 refine⟨?_,?_,wrap64 (by omega) (by omega)⟩
 ·simp only[foldV,min2V,if_true,Option.bind_some]
  congr 2
  split<;>omega
 ·simp only[foldV,max2V,if_true,Option.bind_some]
  unfold clI
  congr 2
  split<;>omega
end
theorem osegPar (x:Nd):segOf (eNd x) 100 1=some [.int .i64 x.parent]:=seg_of_take (nsegPar x) (by rw[eNd_len];omega)
theorem inI_of {l:List Nd}{i:Nat}(h:i<l.length):inI l i=i:=by unfold inI;rw[if_neg (by omega)];omega
theorem par_int {l:List Nd}(w:Wf l){i:Nat}(h0:0<i)(hi:i<l.length):(nd l i).parent=(par l i:Nat):=by
 have:=w.succ i _ h0 (List.getElem?_eq_getElem hi)
 rw[par_at hi,nd_at hi]
 omega
theorem nd_hgt_eq {l:List Nd}{i:Nat}(hi:i<l.length):(nd l i).height=hgt l i:=by rw[nd_at hi,hgt_at hi]
section
variable {P:Program} {F:Fn}
set_option maxHeartbeats 1000000 in
theorem spec229 (ok:OkLocate P F){st:St}{tid:Nat}{r:Rl}{l:List Nd}(h:TreeR tid r l st)(w:Wf l)(hl:l.length≤16384)(a b:Int):
  ACalls P (F 229) [.ptr (some (tid,0)),.int .i64 a,.int .i64 b] st fun v st'=>Sep [Sl 1 e1 v (wayI l a b),Was st] st':=by
 have okz:=ok.toOkIndexZ
 have oki:=okz.toOkIndex
 refine shows_call ok.mixed ok.h229 (by simp[k229]) ?_
 simp only[k229]
 have fin:onB l a b=false→∃s,St.sub s st∧Sep [Sl 1 e1 (.sl .nil [] 0) (wayI l a b),Was st] s:=fun hb=>by
  rw[wayI,hb]
  exact⟨st,sub_self _,(Sep.start st).slNil⟩
 by_cases hb0:b<0
 ·have hb:onB l a b=false:=by
    cases e:onB l a b with
    | false=>rfl
    | true=>obtain⟨x,y,_,rfl,_,_⟩:=onB_range e;omega
  simp[hb0]
  exact fin hb
 ·simp[hb0]
  refine(spec159 oki h).mono ?_
  rintro v st ⟨rfl,rfl⟩
  by_cases hbl:(l.length:Int)≤b
  ·have hb:onB l a b=false:=by
     cases e:onB l a b with
     | false=>rfl
     | true=>obtain⟨x,y,_,rfl,_,_⟩:=onB_range e;omega
   simp[hbl]
   exact fin hb
  ·simp[hbl]
   refine(spec163 oki h w a b).mono ?_
   rintro v st ⟨rfl,rfl⟩
   cases hb:onB l a b with
   | false=>
     simp
     exact fin hb
   | true=>
     clear fin
     obtain⟨A,B,rfl,rfl,hA,hB⟩:=onB_range hb
     have on:=(onB_on hA hB).1 hb
     have hway:wayI l A B=wayM l A B:=by rw[wayI,if_pos hb,Int.toNat_natCast,Int.toNat_natCast]
     rw[hway]
     have hgl:=w.hgt_le hB
     obtain⟨D,hD⟩: ∃D,D=hgt l B-hgt l A:=⟨_,rfl⟩
     simp
     refine vc_loopJ (fun c env' st'=>∃(k:Nat) (s:V),k≤D∧c=D-k∧env' 8=.int .i64 (anc l B (hgt l B-k):Nat)∧env' 7=s∧Sep [Sl 1 e1 s ((List.range k).map fun k=>((anc l B (hgt l B-k):Nat):Int)),Was st] st') D
      ⟨0,.sl .nil [] 0,by omega,by omega,by simp[anc_self],by simp,(Sep.start st).slNil⟩ ?_
     rintro J hJ c env' st1 hsame ⟨k,s,hk,rfl,h8,h7,S⟩
     have g0:=(hsame.get 0 rfl).trans (by simp:_=V.ptr (some (tid,0)))
     have g1:=(hsame.get 1 rfl).trans (by simp:_=V.int .i64 (A:Int))
     clear hsame
     have hhk:=w.anc_hgt hB (h:=hgt l B-k) (by omega)
     have hlk:=w.anc_lt (h:=hgt l B-k) hB
     by_cases hlt:k<D
     ·have hne:anc l B (hgt l B-k)≠A:=fun e=>by
        rw[e]at hhk;omega
      have hpos:=w.pos_of_hgt (i:=anc l B (hgt l B-k)) (by omega)
      have hpar:par l (anc l B (hgt l B-k))=anc l B (hgt l B-(k+1)):=by
       have h1:=w.anc_par hlk (h:=hgt l B-(k+1)) (by omega)
       have h2:=w.anc_anc hB (h:=hgt l B-(k+1)) (h':=hgt l B-k) (by omega) (by omega)
       have h3:=w.hgt_par hpos hlk
       rw[h2]at h1
       rw[h1,show hgt l B-(k+1)=hgt l (par l (anc l B (hgt l B-k))) by omega,anc_self]
      have hpi:=par_int w hpos hlk
      rw[hpar]at hpi
      obtain⟨X,hX⟩: ∃X,X=anc l B (hgt l B-k):=⟨_,rfl⟩
      rw[←hX]at h8 hlk hne hpi
      have hXb:((X:Int) != (A:Int))=true:=by simp;omega
      simp[g1,h8,h7,hXb,fill1,el1]
      refine Sep.app1 e1_len (by omega) S (a:=(X:Int)) rfl (by simp;omega) ?_
      intro s' st2 S
      have TR:=h.sub (S.was' (st0:=st) (by simp))
      simp[g0,h8]
      refine(spec161 oki TR w X).mono ?_
      rintro v st2 ⟨rfl,rfl⟩
      have oP:=osegPar (nd l X)
      rw[inI_of hlk]
      rw[hpi]at oP
      simp[fldV_agg,oP]
      refine Round.mk (D-(k+1)) _ (by omega) (sub_self _) (hJ _ _ _ ⟨k+1,s',by omega,rfl,by simp,by simp,?_⟩)
      rw[List.range_succ,List.map_append]
      have:[((X:Nat):Int)]=List.map (fun k=>((anc l B (hgt l B-k):Nat):Int)) [k]:=by simp[hX]
      rw[←this]
      exact S
     ·have hkD:k=D:=by omega
      have e:anc l B (hgt l B-k)=A:=by
       rw[hkD,hD,show hgt l B-(hgt l B-hgt l A)=hgt l A by have:=on.1;omega]
       exact on.2
      rw[e]at h8
      simp[g1,h8,h7]
      refine(spec230 ok S (by simp;omega)).mono ?_
      intro v st2 S
      rw[hkD,hD,wayM_rev]at S
      simp[h7]
      exact⟨st2,sub_self _,S⟩
set_option maxHeartbeats 1000000 in
theorem spec228 (ok:OkLocate P F){st:St}{tid:Nat}{r:Rl}{l:List Nd}(h:TreeR tid r l st)(w:Wf l)(hl:l.length≤16384)(a b:Int):
  ACalls P (F 228) [.ptr (some (tid,0)),.int .i64 a,.int .i64 b] st fun v st'=>v=.int .i64 (meetM l (clI l a) (clI l b):Nat)∧st'=st:=by
 have okz:=ok.toOkIndexZ
 have oki:=okz.toOkIndex
 refine shows_call ok.mixed ok.h228 (by simp[k228]) ?_
 simp only[k228]
 obtain⟨a1,a2,a3⟩:=min_cl w hl a
 obtain⟨b1,b2,_⟩:=min_cl w hl b
 obtain⟨A,hA⟩: ∃A,A=clI l a:=⟨_,rfl⟩
 obtain⟨B,hB⟩: ∃B,B=clI l b:=⟨_,rfl⟩
 have hAl:A<l.length:=hA ▸clI_lt w a
 have hBl:B<l.length:=hB ▸clI_lt w b
 rw[←hA]at a2⊢
 rw[←hB]at b2⊢
 simp
 refine(spec159 oki h).mono ?_
 rintro v st ⟨rfl,rfl⟩
 simp[a1,a2,a3]
 refine(spec159 oki h).mono ?_
 rintro v st ⟨rfl,rfl⟩
 simp[b1,b2,a3]
 refine(spec161 oki h w A).mono ?_
 rintro v st ⟨rfl,rfl⟩
 have oA:=osegHgt (nd l A)
 rw[nd_hgt_eq hAl]at oA
 rw[inI_of hAl]
 simp[fldV_agg,oA]
 refine(spec161 oki h w B).mono ?_
 rintro v st ⟨rfl,rfl⟩
 have oB:=osegHgt (nd l B)
 rw[nd_hgt_eq hBl]at oB
 rw[inI_of hBl]
 obtain⟨M,hM⟩: ∃M,M=min (hgt l A) (hgt l B):=⟨_,rfl⟩
 have hmin:foldV min2V (.int .i64 (hgt l A:Nat)) [.int .i64 (hgt l B:Nat)]=some (.int .i64 (M:Nat)):=by
  simp only[foldV,min2V,if_true,Option.bind_some]
  congr 2
  split<;>omega
 simp[fldV_agg,oB,hmin]
 refine(spec158 oki h w A M).mono ?_
 rintro v st ⟨rfl,rfl⟩
 rw[ancI_nat hAl (by omega)]
 simp
 refine(spec158 oki h w B M).mono ?_
 rintro v st ⟨rfl,rfl⟩
 rw[ancI_nat hBl (by omega)]
 have e:meetM l A B=meetGo l M (anc l A M) (anc l B M):=by rw[meetM,←hM]
 have g1:=w.anc_hgt hAl (h:=M) (by omega)
 have g2:=w.anc_hgt hBl (h:=M) (by omega)
 have i1:=w.anc_lt (h:=M) hAl
 have i2:=w.anc_lt (h:=M) hBl
 rw[e]
 obtain⟨X,hX⟩: ∃X,X=anc l A M:=⟨_,rfl⟩
 obtain⟨Y,hY⟩: ∃Y,Y=anc l B M:=⟨_,rfl⟩
 rw[←hX]at g1 i1⊢
 rw[←hY]at g2 i2⊢
 simp
 refine vc_loopJ (fun c env' st'=>∃(x y:Nat),x<l.length∧y<l.length∧hgt l x=c∧hgt l y=c∧meetGo l c x y=meetGo l M X Y∧env' 1=.int .i64 (x:Nat)∧env' 2=.int .i64 (y:Nat)∧st'=st) M
  ⟨X,Y,i1,i2,g1,g2,rfl,by simp,by simp,rfl⟩ ?_
 rintro J hJ c env' st1 hsame ⟨x,y,hx,hy,ex,ey,hm,h1,h2,rfl⟩
 have g0:=(hsame.get 0 rfl).trans (by simp:_=V.ptr (some (tid,0)))
 clear hsame
 by_cases hxy:x=y
 ·have:meetGo l c x y=x:=by
    cases c with
    | zero=>rfl
    | succ c=>rw[meetGo,if_pos hxy]
  rw[this]at hm
  simp[h1,h2,hxy,←hm]
 ·have hb:((x:Int) != (y:Int))=true:=by simp;omega
  cases c with
  | zero=>
    exact absurd ((hgt_zero_iff w hx ex).trans (hgt_zero_iff w hy ey).symm) hxy
  | succ c=>
    rw[meetGo,if_neg hxy]at hm
    have px:=w.pos_of_hgt (i:=x) (by omega)
    have py:=w.pos_of_hgt (i:=y) (by omega)
    have hpx:=par_int w px hx
    have hpy:=par_int w py hy
    have lx:=w.par_lt px hx
    have ly:=w.par_lt py hy
    have hhx:=w.hgt_par px hx
    have hhy:=w.hgt_par py hy
    have ox:=osegPar (nd l x)
    have oy:=osegPar (nd l y)
    rw[hpx]at ox
    rw[hpy]at oy
    simp[g0,h1,h2,hb]
    refine(spec161 oki h w x).mono ?_
    rintro v st1 ⟨rfl,rfl⟩
    rw[inI_of hx]
    simp[fldV_agg,ox,g0,h2]
    refine(spec161 oki h w y).mono ?_
    rintro v st1 ⟨rfl,rfl⟩
    rw[inI_of hy]
    simp[fldV_agg,oy]
    exact Round.mk c _ (by omega) (sub_self _) (hJ _ _ _ ⟨par l x,par l y,by omega,by omega,by omega,by omega,hm,by simp,by simp,rfl⟩)
end
section
variable {α:Type}
theorem fst_set {l:List (α×Bool)}{i:Nat}(hi:i<l.length):(l.set i (l[i].1,true)).map (·.1)=l.map (·.1):=by
 apply List.ext_getElem
 ·simp
 ·intro j q1 q2
  simp only[List.getElem_map,List.getElem_set]
  split
  ·rename_i e;subst e;rfl
  ·rfl
end
section
variable {K A:Type} (ek:K→V) (ev:A→V)
def encG (fl:List ((K×A)×Bool)):List ((V×V)×Bool):=fl.map fun p=>((ek p.1.1,ev p.1.2),p.2)
theorem encG_len (fl:List ((K×A)×Bool)):(encG ek ev fl).length=fl.length:=by simp[encG]
theorem encG_start (es:List (K×A)):(encM ek ev es).map (fun e=>(e,false))=encG ek ev (es.map fun x=>(x,false)):=by simp[encG,encM,Function.comp_def]
theorem encG_set (fl:List ((K×A)×Bool)){i:Nat}(hi:i<fl.length)(h:i< (encG ek ev fl).length):(encG ek ev fl).set i ((encG ek ev fl)[i].1,true)=encG ek ev (fl.set i (fl[i].1,true)):=by
 simp[encG,List.map_set]
end
def ChA (cid:Nat)(c:Ch):Asn:=fun h=>ChS cid c [] h
theorem ChS.asn {cid:Nat}{c:Ch}{L:List Asn}{st:St}(h:ChS cid c L st):Sep (ChA cid c::L) st:=by
 obtain⟨tid,bid,uid,mo,h0,S⟩:=h
 cases mo with
 | none=>exact(Sep.all (L1:=SetL cid (chF tid bid uid c.tip) c.cm none++ChL c tid bid uid) S).head fun h hh=>⟨tid,bid,uid,none,h0,by rw[List.append_nil];exact hh⟩
 | some m=>exact(Sep.all (L1:=SetL cid (chF tid bid uid c.tip) c.cm (some m)++ChL c tid bid uid) S).head fun h hh=>⟨tid,bid,uid,some m,h0,by rw[List.append_nil];exact hh⟩
theorem chRead {cid:Nat}{c:Ch}{L:List Asn}{st:St}(h:Sep (ChA cid c::L) st): ∃mo tid bid uid,ChR cid c st mo tid bid uid:=by
 obtain⟨h',hs,hc⟩:=h.part
 obtain⟨mo,tid,bid,uid,hr⟩:=ChS.read hc
 exact⟨mo,tid,bid,uid,hr.sub hs⟩
theorem chOpen {cid:Nat}{c:Ch}{L:List Asn}{st:St}(S:Sep (ChA cid c::L) st): ∃tid bid uid,SetS cid (chF tid bid uid c.tip) c.cm (ChL c tid bid uid++L) st:=by
 obtain⟨a0,r,h1,h2,⟨tid,bid,uid,mo,hmo,h3⟩,h4⟩:=S
 refine⟨tid,bid,uid,mo,hmo,?_⟩
 rw[List.append_nil]at h3
 have S:Sep (All (SetL cid (chF tid bid uid c.tip) c.cm mo++ChL c tid bid uid)::L) st:=⟨a0,r,h1,h2,h3,h4⟩
 have:=S.app
 rwa [List.append_assoc]at this
theorem chClose {cid:Nat}{c:Ch}{tid bid uid:Nat}{L:List Asn}{st:St}(h:SetS cid (chF tid bid uid c.tip) c.cm (ChL c tid bid uid++L) st):Sep (ChA cid c::L) st:=ChS.asn ⟨tid,bid,uid,h⟩
theorem ChR.at {cid:Nat}{c:Ch}{tid bid uid:Nat}{L:List Asn}{st:St}(h:SetS cid (chF tid bid uid c.tip) c.cm (ChL c tid bid uid++L) st): ∃mo,ChR cid c st mo tid bid uid:=by
 obtain⟨mo,h0,S⟩:=h
 refine⟨mo,?_⟩
 cases mo with
 | none=>exact⟨S.get,fun hl=>S.drop.treeR hl,S.drop.drop.get,S.drop.drop.drop.get⟩
 | some m=>exact⟨S.get,fun hl=>S.drop.drop.treeR hl,S.drop.drop.drop.get,S.drop.drop.drop.drop.get⟩
theorem SetS.reset {o:Nat}{f f':V→List V}{cm:CM}{L:List Asn}{st:St}(h:SetS o f cm L st): ∃mo:Option Nat,st o=some (.cells (f (.map mo)))∧SetS o f' cm L (st.upd o (.cells (f' (.map mo)))):=by
 obtain⟨mo,h0,S⟩:=h
 cases mo with
 | none=>exact⟨none,S.get,none,h0,S.set _⟩
 | some m=>exact⟨some m,S.get,some m,h0,S.set _⟩
theorem findIdx_at {bs:List Nat}(h:bs.Pairwise (· < ·)){j:Nat}(hj:j<bs.length){n:Int}(hn:n=(bs[j]:Nat)):(bs.findIdx? fun b:Nat=>(b:Int)==n)=some j:=by
 rw[List.findIdx?_eq_some_iff_getElem]
 refine⟨hj,by simp[hn],fun i hi=>?_⟩
 have:=List.pairwise_iff_getElem.1 h i j (by omega) hj hi
 simp[hn]
 omega
theorem mfindI_enc {K A:Type}[DecidableEq K]{ek:K→V}{ev:A→V}{kk:KK}(hk:Keyed ek kk)(k:K): ∀(l:List (K×A)) (n:Nat),
  (mfindI kk (ek k) (encM ek ev l) n=some none∧∀v,aSet k v l=l++[(k,v)])∨∃j,j<l.length∧mfindI kk (ek k) (encM ek ev l) n=some (some (n+j))∧∀v,aSet k v l=l.set j (k,v)
 | [],n=>.inl ⟨by simp[mfindI,encM],fun v=>rfl⟩
 | p::l,n=>by
   by_cases h:k=p.1
   ·refine .inr ⟨0,by simp,?_,fun v=>?_⟩
    ·subst h
     simp[mfindI,encM,hk.eq]
    ·rw[aSet,if_pos h];rfl
   ·have ih:=mfindI_enc hk (ev:=ev) k l (n+1)
    have e:mfindI kk (ek k) (encM ek ev (p::l)) n=mfindI kk (ek k) (encM ek ev l) (n+1):=by
     simp[encM,mfindI,hk.eq,h]
    rcases ih with⟨h1,h2⟩ | ⟨j,hj,h1,h2⟩
    ·exact .inl ⟨by rw[e,h1],fun v=>by rw[aSet,if_neg h,h2];rfl⟩
    ·exact .inr ⟨j+1,by simp;omega,by rw[e,h1];congr 2;omega,fun v=>by rw[aSet,if_neg h,h2];rfl⟩
theorem ment_enc {A:Type}{ev:A→V}{st:St}{id:Nat}{l:List (Int×A)}(h:st id=some (.mp (encM kInt ev l)))(i:Int)(zero:V){K:V→St→Prop}
  (hK: ∀(x:V) (n:Int) (es:List (V×V)) (bs:List Nat) (clk:Nat),(∀(s:St) (v:A),s id=some (.mpi es bs clk)→entS s (.map (some id)) (.int .i64 n) (ev v)=some (s.upd id (.mpi (encM kInt ev (aSet i v l)) bs clk)))→
    K (.tup [x,.int .i64 n]) (st.upd id (.mpi es bs clk))):mentS .int zero (.map (some id)) (.int .i64 i) st K:=by
 simp only[mentS,h]
 refine⟨rfl,fun bs clk hl hp hb=>?_⟩
 have hlen:(encM kInt ev l).length=l.length:=by simp[encM]
 rcases mfindI_enc keyed_int (ev:=ev) i l 0 with⟨h1,h2⟩ | ⟨j,hj,h1,h2⟩
 ·have h1:mfindI .int (.int .i64 i) (encM kInt ev l) 0=some none:=h1
  rw[h1]
  refine hK _ _ _ _ _ fun s v hs=>?_
  have hfi:((bs++[clk]).findIdx? fun b:Nat=>(b:Int)==(clk:Int))=some l.length:=by
   refine findIdx_at ?_ (j:=l.length) (by simp;omega) ?_
   ·rw[List.pairwise_append]
    exact⟨hp,by simp,fun a ha b hb'=>by rw[List.mem_singleton.1 hb'];exact hb a ha⟩
   ·rw[List.getElem_append_right (by omega)]
    simp
  simp only[entS,hs,hfi,Option.bind_some]
  rw[List.getElem?_append_right (by omega),h2]
  simp[hlen,encM,List.set_append]
  rfl
 ·rw[Nat.zero_add]at h1
  have h1:mfindI .int (.int .i64 i) (encM kInt ev l) 0=some (some j):=h1
  rw[h1]
  refine hK _ _ _ _ _ fun s v hs=>?_
  have hjb:j<bs.length:=by omega
  have hfi:(bs.findIdx? fun b:Nat=>(b:Int)==(((bs.getD j 0:Nat)):Int))=some j:=findIdx_at hp hjb (by rw[List.getD_eq_getElem?_getD,List.getElem?_eq_getElem hjb];rfl)
  simp only[entS,hs,hfi,Option.bind_some]
  rw[List.getElem?_set_self (by omega),h2]
  simp[encM,List.map_set,kInt]
def u00:Undo1:=⟨.nil,[],.nil,[]⟩
def readyGo (c:Ch):Nat→Int→Bool
 | 0,_=>true
 | n+1,i=>if onB c.l i c.tip=true then true else if hasM c i=true then readyGo c n (nd c.l (inI c.l i)).parent else false
def readyM (c:Ch)(i:Nat):Bool:=readyGo c (i+1) i
theorem hgtZ {l:List Nd}(w:Wf l):hgt l 0=0:=by
 have h:=w.zero (l[0]'w.ne) (List.getElem?_eq_getElem w.ne)
 rw[hgt_at w.ne]
 exact h.2
theorem zeroOfHgt {l:List Nd}(w:Wf l){i:Nat}(hi:i<l.length)(h:hgt l i=0):i=0:=by
 cases i with
 | zero=>rfl
 | succ i=>
   have:=w.hgt_par (i:=i+1) (by omega) hi
   omega
def Blk1.fits (b:Blk1):Prop:=b.txs.length≤900∧∀t∈b.txs,t.ok 100
def blk0:Blk1:=⟨hdr0,.nil,[]⟩
theorem blk0_fits:blk0.fits:=⟨by simp[blk0],by simp[blk0]⟩
def bOf (c:Ch)(i:Int):Blk1:=(lk i c.bs).getD blk0
def uAt (c:Ch)(i:Int):Undo1:=(lk i c.us).getD u00
def dn (c:Ch):Ch:={c with cm:=(disM (bOf c c.tip) (uAt c c.tip) c.cm).2,us:=aDel c.tip c.us,tip:=(nd c.l (inI c.l c.tip)).parent}
def upR (c:Ch)(i:Int):Cn:=connM (bOf c i) ((nd c.l (inI c.l i)).height:Int) c.r.subsidy c.cm
def fits1 (c:Ch)(i:Int):Bool:=decide ((upR c i).e=0)
def ups (c:Ch)(i:Int):Ch:=if(upR c i).e=0 then{c with cm:=(upR c i).cm,us:=aSet i (uOf (upR c i)) c.us,tip:=i}else c
theorem chsegPar (x:Nd):segOf (eNd x) 100 1=some [.int .i64 x.parent]:=seg_of_take (nsegPar x) (by rw[eNd_len];omega)
section
variable {P:Program} {F:Fn}
set_option maxHeartbeats 4000000 in
theorem spec275 (ok:OkChain P F){st:St}{cid:Nat}{c:Ch}{mo:Option Nat}{tid bid uid:Nat}(R:ChR cid c st mo tid bid uid)(w:Wf c.l){tp:Nat}(htip:c.tip=tp)(htl:tp<c.l.length)(i:Nat)(hi:i<c.l.length):
  ACalls P (F 275) [.ptr (some (cid,0)),.int .i64 (i:Int)] st fun v st'=>v=.bool (readyM c i)∧st'=st:=by
 have oki:=ok.toOkLocate.toOkIndexZ.toOkIndex
 refine shows_call ok.mixed ok.h275 (by simp[k275]) ?_
 simp only[k275]
 have T:=R.tree w.neNil
 have o1:=R.top
 have hfP: ∀x,fldV false 100 1 (V.agg (eNd x))=some (.int .i64 x.parent):=fun x=>by
  show(segOf _ 100 1).bind (packV false)=_
  rw[chsegPar];rfl
 have z0:onB c.l ((0:Nat):Int) c.tip=true:=by
  rw[htip,onB_nat w.ne htl,decide_eq_true_eq,hgtZ w]
  exact⟨Nat.zero_le _,zeroOfHgt w (w.anc_lt htl) (w.anc_hgt htl (Nat.zero_le _))⟩
 simp
 refine vc_joinB (M:=fun env' st'=>readyM c i=true∧st'=st) ?_ ?_
 ·refine vc_loopJ (fun n env' st'=>∃j f:Nat,j<c.l.length∧j≤f∧n=j+1∧env' 1=.int .i64 (j:Int)∧readyGo c (f+1) j=readyM c i∧st'=st) (i+1)
    ⟨i,i,hi,Nat.le_refl _,rfl,by simp,rfl,rfl⟩ ?_
  rintro J hJ n env1 st1 hsame ⟨j,f,hj,hjf,rfl,h1,hgo,rfl⟩
  have g0:=(hsame.get 0 rfl).trans (by simp:_=V.ptr (some (cid,0)))
  clear hsame
  simp[g0,h1,St.seg,o1,cseg0,cseg4]
  refine(spec163 oki T w j c.tip).mono ?_
  rintro v st2 ⟨rfl,rfl⟩
  rw[readyGo]at hgo
  cases ho:onB c.l (j:Int) c.tip with
  | true=>
    rw[ho,if_pos rfl]at hgo
    simp
    exact hgo.symm
  | false=>
    rw[ho,if_neg (by decide)]at hgo
    simp[g0,h1]
    refine(spec268 ok R j).mono ?_
    rintro v st3 ⟨rfl,rfl⟩
    cases hh:hasM c (j:Int)with
    | false=>
      rw[hh,if_neg (by decide)]at hgo
      simp
      exact hgo.symm
    | true=>
      rw[hh,if_pos rfl]at hgo
      simp[g0,h1,St.seg,o1,cseg0]
      refine(spec161 oki T w j).mono ?_
      rintro v st4 ⟨rfl,rfl⟩
      have hj0:0<j:=by
       cases j with
       | zero=>rw[z0]at ho;cases ho
       | succ j=>omega
      have hnd:=w.succ j c.l[j] hj0 (List.getElem?_eq_getElem hj)
      rw[inI_nat hj,nd_at hj]at hgo⊢
      obtain⟨p,hp⟩: ∃p:Nat,c.l[j].parent=p:=⟨c.l[j].parent.toNat,by omega⟩
      rw[hp]at hgo hnd
      simp[hfP,hp]
      obtain⟨f',rfl⟩: ∃f',f=f'+1:=⟨f-1,by omega⟩
      exact Round.mk (p+1) _ (by omega) (sub_self _) (hJ _ _ _ ⟨p,f',by omega,by omega,rfl,by simp,hgo,rfl⟩)
 ·rintro env1 st1 hsame ⟨hr,rfl⟩
  simp[hr]
set_option maxHeartbeats 4000000 in
theorem spec277 (ok:OkChain P F)(hc:CloneC P (F 256)){st:St}{cid:Nat}{c:Ch}{L:List Asn}(S:Sep (ChA cid c::L) st)(w:Wf c.l)(hb:(bOf c c.tip).fits):
  ACalls P (F 277) [.ptr (some (cid,0))] st fun v st'=>Sep (ChA cid (dn c)::L) st':=by
 have oki:=ok.toOkLocate.toOkIndexZ.toOkIndex
 refine shows_call ok.mixed ok.h277 (by simp[k277]) ?_
 simp only[k277]
 have hfP: ∀x,fldV false 100 1 (V.agg (eNd x))=some (.int .i64 x.parent):=fun x=>by
  show(segOf _ 100 1).bind (packV false)=_
  rw[chsegPar];rfl
 obtain⟨tid,bid,uid,W⟩:=chOpen S
 clear S
 obtain⟨mo,R⟩:=ChR.at W
 have o1:=R.top
 have h1:=lookup_lk0 keyed_int (ev:=vBlk) R.bod (V.agg z69_adc1) c.tip
 have h1':((lk c.tip c.bs).map vBlk).getD (V.agg z69_adc1)=.agg (eBlk (bOf c c.tip)):=by
  unfold bOf
  cases h:lk c.tip c.bs<;>rfl
 rw[h1']at h1
 have h2:=lookup_lk0 keyed_int (ev:=vUndo) R.und (V.agg [.sl .nil [] 0,.sl .nil [] 0]) c.tip
 have h2':((lk c.tip c.us).map vUndo).getD (V.agg [.sl .nil [] 0,.sl .nil [] 0])=vUndo (uAt c c.tip):=by
  unfold uAt
  cases h:lk c.tip c.us<;>rfl
 rw[h2']at h2
 simp only[kInt]at h1 h2
 obtain⟨cm2,hcm2⟩: ∃cm2,cm2=(disM (bOf c c.tip) (uAt c c.tip) c.cm).2:=⟨_,rfl⟩
 simp[St.seg,o1,cseg2,cseg3,cseg4,h1,h2]
 refine(spec262 ok.toOkCoins hc (ch_hole tid bid uid c.tip) W (bOf c c.tip) hb.1 hb.2 (uAt c c.tip)).mono ?_
 rw[←hcm2]
 clear W R o1 h1 h2 h1' h2' mo
 rintro v st1 ⟨-,W⟩
 have W':SetS cid (chF tid bid uid ({c with cm:=cm2}:Ch).tip) ({c with cm:=cm2}:Ch).cm (ChL {c with cm:=cm2} tid bid uid++L) st1:=W
 obtain⟨mo,R⟩:=ChR.at W'
 have o1:=R.top
 have hd:=mdel_enc keyed_int (ev:=vUndo) R.und c.tip
 simp only[kInt]at hd
 have W:=SetS.setL (i:=uid) (x:=.mp (encM kInt vUndo c.us)) (W.tail (L':=pt uid (.mp (encM kInt vUndo c.us))::TreeS tid c.r c.l::pt bid (.mp (encM kInt vBlk c.bs))::L) fun r h=>h.pull 2) (.mp (encM kInt vUndo (aDel c.tip c.us)))
 obtain⟨st2,hst2⟩: ∃s,s=st1.upd uid (.mp (encM kInt vUndo (aDel c.tip c.us))):=⟨_,rfl⟩
 rw[←hst2]at hd W
 simp[St.seg,o1,cseg3,cseg4,hd]
 clear R o1 hd W' hst2 mo
 have W:SetS cid (chF tid bid uid c.tip) cm2 (ChL {c with us:=aDel c.tip c.us} tid bid uid++L) st2:=W.tail fun r h=>(h.pull 1).tail fun r h=>h.swap
 have W':SetS cid (chF tid bid uid ({c with cm:=cm2,us:=aDel c.tip c.us}:Ch).tip) ({c with cm:=cm2,us:=aDel c.tip c.us}:Ch).cm (ChL {c with cm:=cm2,us:=aDel c.tip c.us} tid bid uid++L) st2:=W
 obtain⟨mo,R⟩:=ChR.at W'
 have o1:=R.top
 have T:=R.tree w.neNil
 simp[St.seg,o1,cseg0,cseg4]
 refine(spec161 oki T w c.tip).mono ?_
 rintro v st3 ⟨rfl,rfl⟩
 clear R T o1 W'
 obtain⟨mo,o1,W⟩:=SetS.reset (f':=chF tid bid uid (nd c.l (inI c.l c.tip)).parent) W
 have hst:=store_pt (sz:=1) (o:=4) o1 (v:=.int .i64 (nd c.l (inI c.l c.tip)).parent) (vs:=[.int .i64 (nd c.l (inI c.l c.tip)).parent]) rfl rfl (by simp[chF])
 rw[show spliceV (chF tid bid uid c.tip (.map mo)) 4 [V.int .i64 (nd c.l (inI c.l c.tip)).parent]=chF tid bid uid (nd c.l (inI c.l c.tip)).parent (.map mo)from rfl]at hst
 simp[hfP,hst]
 have hdn:dn c={c with cm:=cm2,us:=aDel c.tip c.us,tip:=(nd c.l (inI c.l c.tip)).parent}:=by rw[hcm2];rfl
 rw[hdn]
 exact⟨_,sub_self _,chClose (c:={c with cm:=cm2,us:=aDel c.tip c.us,tip:=(nd c.l (inI c.l c.tip)).parent}) W⟩
set_option maxHeartbeats 4000000 in
theorem spec278 (ok:OkChain P F)(hc:CloneC P (F 256)){st:St}{cid:Nat}{c:Ch}{L:List Asn}(S:Sep (ChA cid c::L) st)(w:Wf c.l)(i:Int)(hb:(bOf c i).fits):
  ACalls P (F 278) [.ptr (some (cid,0)),.int .i64 i] st fun v st'=>v=.bool (fits1 c i)∧Sep (ChA cid (ups c i)::L) st':=by
 have okz:=ok.toOkLocate.toOkIndexZ
 have oki:=okz.toOkIndex
 refine shows_call ok.mixed ok.h278 (by simp[k278]) ?_
 simp only[k278]
 have hfH: ∀x,fldV false 102 1 (V.agg (eNd x))=some (.int .i64 x.height):=fun x=>by
  show(segOf _ 102 1).bind (packV false)=_
  rw[osegHgt];rfl
 have hfS: ∀r:Rl,fldV false 3 1 (V.agg (eRl r))=some (.int .i64 r.subsidy):=fun _=>rfl
 obtain⟨tid,bid,uid,W⟩:=chOpen S
 clear S
 obtain⟨mo,R⟩:=ChR.at W
 have o1:=R.top
 have T:=R.tree w.neNil
 have h1:=lookup_lk0 keyed_int (ev:=vBlk) R.bod (V.agg z69_adc1) i
 have h1':((lk i c.bs).map vBlk).getD (V.agg z69_adc1)=.agg (eBlk (bOf c i)):=by
  unfold bOf
  cases h:lk i c.bs<;>rfl
 rw[h1']at h1
 simp only[kInt]at h1
 simp[St.seg,o1,cseg0,cseg2,h1]
 refine still_call _ _ _ _ (by simpa using spec161 oki T w i) ?_
 simp[hfH,St.seg,o1,cseg0]
 refine still_call _ _ _ _ (by simpa using spec160 okz T) ?_
 simp[hfS]
 refine(spec260 ok.toOkCoins hc (ch_hole tid bid uid c.tip) W (bOf c i) hb.1 hb.2 ((nd c.l (inI c.l i)).height:Int) c.r.subsidy).mono ?_
 clear W R o1 T h1 h1' mo
 obtain⟨C,hC⟩: ∃C,C=upR c i:=⟨_,rfl⟩
 have hC':connM (bOf c i) ((nd c.l (inI c.l i)).height:Int) c.r.subsidy c.cm=C:=by rw[hC];rfl
 rw[hC',fits1,ups,←hC]
 have hu: ∀a b:V,segOf [a,b] 0 2=some [a,b]:=fun _ _=>rfl
 rintro v st1 ⟨rfl,W⟩
 obtain⟨xa,xb,hx⟩: ∃a b,(if C.e=0 then vUndo (uOf C)else undo0)=.agg [a,b]:=by
  split
  ·exact⟨_,_,rfl⟩
  ·exact⟨_,_,rfl⟩
 rw[hx]
 simp
 intro i5 hi5
 have W:=W.new hi5 (.cells [.sl .nil [] 0,.sl .nil [] 0])
 have o5:=W.ext (i:=i5) (x:=.cells [.sl .nil [] 0,.sl .nil [] 0]) (by simp)
 have hst:=store_pt (sz:=2) (o:=0) o5 (v:=.agg [xa,xb]) (vs:=[xa,xb]) rfl rfl (by simp)
 rw[show spliceV [V.sl .nil [] 0,V.sl .nil [] 0] 0 [xa,xb]=[xa,xb]from rfl]at hst
 have W:=W.setL (.cells [xa,xb])
 simp[hst]at W⊢
 generalize st1.upd i5 _=st2 at W⊢
 have o5:=W.ext (i:=i5) (x:=.cells [xa,xb]) (by simp)
 by_cases he:C.e=0
 ·rw[if_pos he]at W hx
  have W':SetS cid (chF tid bid uid ({c with cm:=C.cm}:Ch).tip) ({c with cm:=C.cm}:Ch).cm (ChL {c with cm:=C.cm} tid bid uid++(pt i5 (.cells [xa,xb])::L)) st2:=W.tail fun r h=>h.pull 3 |>.pull 3 |>.pull 3
  obtain⟨mo,R⟩:=ChR.at W'
  have o1:=R.top
  have hfin: ∀(s:St) (n:Int) (es:List (V×V)) (bs:List Nat) (clk:Nat),s=st2.upd uid (.mpi es bs clk)→(∀(s:St) (v:Undo1),s uid=some (.mpi es bs clk)→entS s (.map (some uid)) (.int .i64 n) (vUndo v)=some (s.upd uid (.mpi (encM kInt vUndo (aSet i v c.us)) bs clk)))→
    s i5=some (.cells [xa,xb])∧∃s1 s2,entS s (.map (some uid)) (.int .i64 n) (.agg [xa,xb])=some s1∧storeS s1 1 (.ptr (some (cid,4))) (.int .i64 i)=some s2∧frzV s2 (.map (some uid))=some (.map (some uid),s2.upd uid (.mp (encM kInt vUndo (aSet i (uOf C) c.us))))∧
      Sep (ChA cid {c with cm:=C.cm,us:=aSet i (uOf C) c.us,tip:=i}::L) (s2.upd uid (.mp (encM kInt vUndo (aSet i (uOf C) c.us)))):=by
   rintro s n es bs clk rfl hent
   have W3:=W.tail (L':=pt uid (.mp (encM kInt vUndo c.us))::pt i5 (.cells [xa,xb])::TreeS tid c.r c.l::pt bid (.mp (encM kInt vBlk c.bs))::L) fun r h=>h.pull 3
   have W4:=(W3.setL (.mpi (encM kInt vUndo (aSet i (uOf C) c.us)) bs clk))
   obtain⟨mo2,q1,W5⟩:=SetS.reset (f':=chF tid bid uid i) W4
   have hst:=store_pt (sz:=1) (o:=4) q1 (v:=.int .i64 i) (vs:=[.int .i64 i]) rfl rfl (by simp[chF])
   rw[show spliceV (chF tid bid uid c.tip (.map mo2)) 4 [V.int .i64 i]=chF tid bid uid i (.map mo2)from rfl]at hst
   have hent1:=hent (st2.upd uid (.mpi es bs clk)) (uOf C) (St.upd_same _ _ _)
   rw[hx,show(st2.upd uid (.mpi es bs clk)).upd uid (.mpi (encM kInt vUndo (aSet i (uOf C) c.us)) bs clk)=st2.upd uid (.mpi (encM kInt vUndo (aSet i (uOf C) c.us)) bs clk) by simp]at hent1
   obtain⟨s2,hs2⟩: ∃s2,s2=(st2.upd uid (.mpi (encM kInt vUndo (aSet i (uOf C) c.us)) bs clk)).upd cid (.cells (chF tid bid uid i (.map mo2))):=⟨_,rfl⟩
   rw[←hs2]at hst W5
   have q2:=W5.ext (i:=uid) (x:=.mpi (encM kInt vUndo (aSet i (uOf C) c.us)) bs clk) (by simp)
   have q5:=(W3.setL (.mpi es bs clk)).ext (i:=i5) (x:=.cells [xa,xb]) (by simp)
   refine⟨q5,_,s2,hent1,hst,by simp[frzV,q2],?_⟩
   have W6:=W5.setL (.mp (encM kInt vUndo (aSet i (uOf C) c.us)))
   exact chClose (c:={c with cm:=C.cm,us:=aSet i (uOf C) c.us,tip:=i}) (W6.tail fun r h=>((h.tail fun r h=>h.drop).pull 2).pull 2 |>.tail fun r h=>h)
  simp[he,St.seg,o1,o5,cseg3,hu]
  refine⟨?_,?_⟩
  ·refine ment_enc R.und i _ ?_
   intro x n es bs clk hent
   obtain⟨s,hs⟩: ∃s,s=st2.upd uid (.mpi es bs clk):=⟨_,rfl⟩
   obtain⟨a0,s1,s2,a1,a2,a3,a4⟩:=hfin s n es bs clk hs hent
   rw[←hs]
   simp[a1,a2,frzP,a3]
   exact⟨_,sub_self _,a4⟩
  ·refine ment_enc R.und i _ ?_
   intro x n es bs clk hent
   obtain⟨s,hs⟩: ∃s,s=st2.upd uid (.mpi es bs clk):=⟨_,rfl⟩
   obtain⟨a0,s1,s2,a1,a2,a3,a4⟩:=hfin s n es bs clk hs hent
   rw[←hs]
   simp[St.seg,a0,hu,a1,a2,frzP,a3]
   exact⟨_,sub_self _,a4⟩
 ·rw[if_neg he]at W
  have heb:(C.e != 0)=true:=by simpa using he
  simp[heb,he]
  exact⟨st2,sub_self _,chClose (W.tail fun r h=>h.drop)⟩
end
theorem chGrow {P:Program}{cid:Nat}{c:Ch}{L:List Asn}{st:St}(S:Sep (ChA cid c::L) st): ∃mo tid bid uid,ChR cid c st mo tid bid uid∧
  ∀(f:FuncId) (args:List V) (R:V→Prop) (l':List Nd),(∀h,TreeS tid c.r c.l h→ACalls P f args h fun v h'=>R v∧TreeS tid c.r l' h')→
   ACalls P f args st fun v st'=>R v∧Sep (ChA cid {c with l:=l'}::L) st':=by
 obtain⟨a,r,hd,hs,⟨tid,bid,uid,mo,h0,Si⟩,hL⟩:=S
 have hch:ChS cid c [] a:=⟨tid,bid,uid,mo,h0,Si⟩
 have hsub:St.sub a st:=fun i o e=>hs i o (add_some e)
 have R0:ChR cid c a mo tid bid uid:=by
  cases mo with
  | none=>exact⟨Si.get,fun hl=>Si.drop.treeR hl,Si.drop.drop.get,Si.drop.drop.drop.get⟩
  | some m=>exact⟨Si.get,fun hl=>Si.drop.drop.treeR hl,Si.drop.drop.drop.get,Si.drop.drop.drop.drop.get⟩
 refine⟨mo,tid,bid,uid,R0.sub hsub,fun f args R l' hf=>?_⟩
 have S':Sep ((fun h=>Sep (SetL cid (chF tid bid uid c.tip) c.cm mo++(ChL c tid bid uid++[])) h)::L) st:=⟨a,r,hd,hs,Si,hL⟩
 refine(Sep.call S' (R:=fun v h'=>R v∧ChA cid {c with l:=l'} h') fun h hh=>?_).mono ?_
 ·cases mo with
  | none=>
    have hh:Sep (TreeS tid c.r c.l::pt cid (.cells (chF tid bid uid c.tip (.map none)))::[pt bid (.mp (encM kInt vBlk c.bs)),pt uid (.mp (encM kInt vUndo c.us))]) h:=Sep.swap hh
    refine(Sep.call hh hf).mono ?_
    intro v h' S
    have hv:R v:=by
     obtain⟨x,-,h2⟩:=S.part
     exact h2.1
    exact⟨hv,tid,bid,uid,none,h0,(S.head fun x hx=>hx.2).swap⟩
  | some m=>
    have hh:Sep (TreeS tid c.r c.l::pt cid (.cells (chF tid bid uid c.tip (.map (some m))))::pt m (.mp (encM kPt vCoin c.cm))::[pt bid (.mp (encM kInt vBlk c.bs)),pt uid (.mp (encM kInt vUndo c.us))]) h:=Sep.pull 2 _ hh
    refine(Sep.call hh hf).mono ?_
    intro v h' S
    have hv:R v:=by
     obtain⟨x,-,h2⟩:=S.part
     exact h2.1
    exact⟨hv,tid,bid,uid,some m,h0,Sep.pull 2 _ (Sep.pull 2 _ (S.head fun x hx=>hx.2))⟩
 ·intro v st' S
  have hv:R v:=by
   obtain⟨x,-,h2⟩:=S.part
   exact h2.1
  exact⟨hv,S.head fun x hx=>hx.2⟩
def growU (l:List Nd)(i:Nat)(q:Nat):Hdr:={hdr0 with ver:=BitVec.ofInt 32 (i:Int),prev:=(nd l q).id,time:=(nd l q).hdr.time+1#32,bits:=easyB}
def growH1 (l:List Nd)(i:Nat)(p:Int):Hdr:=(mineN (growU l i (clI l p)) easyB 1000).getD hdr0
def growL (ps:List Int):Nat→List Nd
 | 0=>newM easyR
 | n+1=>(addM easyR (growL ps n) (growH1 (growL ps n) n (ps.getD n 0)) 100000).1
def growM (ps:List Int):List Nd:=growL ps ps.length
theorem middle_mem {l:List W32}(h:l≠[]):middle32 l∈l:=by
 unfold middle32
 have hpos:=List.length_pos_iff.2 h
 have hl:l.length / 2< (sorted32 l).length:=by rw[sorted32_length];omega
 have:(sorted32 l).getD (l.length / 2) 0=(sorted32 l)[l.length / 2]:=by simp[hl]
 rw[this]
 exact(List.mergeSort_perm l _).mem_iff.1 (List.getElem_mem hl)
theorem fits_ok {r:Rl}{l:List Nd}{h:Hdr}{p:Nat}{now:Int}(hp:p<l.length)(h1:provedN h r.limit=0)(h2:(nd l p).failed=false)(h3:h.bits=nextM r l p)(h4:medianM l p<h.time)(h5:(h.time.toNat:Int)-7200≤now):fitsM r l h p now=0:=by
 have e1:¬((p:Int)<0∨(l.length:Int)≤p):=by omega
 have e2:¬h.time≤medianM l p:=BitVec.not_le.2 h4
 have e3:¬now< (h.time.toNat:Int)-7200:=by omega
 simp only[fitsM,e1,if_false,h1,ne_eq,not_true_eq_false,Int.toNat_natCast,h2,h3,e2,e3,Bool.false_eq_true]
def Uniq (l:List Nd):Prop:=∀(k:Nat) (h:k<l.length),findM l l[k].id=some k
theorem uniq_push {l:List Nd}(u:Uniq l){x:Nd}(h:findM l x.id=none):Uniq (l++[x]):=by
 intro k hk
 rw[findM_append]
 by_cases hkl:k<l.length
 ·rw[List.getElem_append_left hkl,if_neg (fun e=>findM_none h _ (List.getElem_mem hkl) e.symm),u k hkl]
 ·have:k=l.length:=by simp at hk;omega
  subst this
  rw[List.getElem_append_right (Nat.le_refl _)]
  simp
structure Fresh (l:List Nd):Prop where
 wf:Wf l
 ok: ∀(k:Nat) (h:k<l.length),l[k].failed=false
 uniq:Uniq l
theorem fresh_gen:Fresh [gen0]:=⟨newM_wf easyR,fun k h=>by
 have:k=0:=by simp at h;exact h
 subst this;rfl,fun k h=>by
 have:k=0:=by simp at h;exact h
 subst this
 simp[findM]⟩
theorem addM_uniq {r:Rl}{l:List Nd}(u:Uniq l)(h:Hdr)(now:Int):Uniq (addM r l h now).1:=by
 rcases addM_cases r l h now with⟨e,_⟩ | ⟨p,_,h1,_,_,e⟩
 ·rw[e];exact u
 ·rw[e];exact uniq_push u h1
theorem fresh_add {r:Rl}{l:List Nd}(hF:Fresh l)(hl:l.length≤16384)(h:Hdr)(now:Int):Fresh (addM r l h now).1∧(addM r l h now).1.length≤l.length+1∧l.length≤(addM r l h now).1.length:=by
 refine⟨⟨(addM_wf hF.wf hl h now).1,?_,addM_uniq hF.uniq h now⟩,?_⟩
 ·rcases addM_cases r l h now with⟨e,_⟩ | ⟨p,_,h1,_,_,e⟩
  ·rw[e];exact hF.ok
  ·rw[e]
   intro k hk
   by_cases hkl:k<l.length
   ·rw[List.getElem_append_left hkl];exact hF.ok k hkl
   ·have:k=l.length:=by simp at hk;omega
    subst this
    rw[List.getElem_append_right (Nat.le_refl _)]
    have e: ∀x:Nd,[x][l.length-l.length]'(by simp)=x:=fun x=>by simp
    rw[e];rfl
 ·rcases addM_cases r l h now with⟨e,_⟩ | ⟨p,_,h1,_,_,e⟩
  ·rw[e];omega
  ·rw[e];simp
theorem add_zero {l:List Nd}(now:Int): ∃i e,addM easyR l hdr0 now=(l,i,e)∧e≠0:=by
 cases h1:findM l (hId hdr0)with
 | some i=>exact⟨_,_,addM_twice h1,by simp⟩
 | none=>
   rcases addM_cases easyR l hdr0 now with⟨e,h⟩ | ⟨p,h2,_,h3,_,_⟩
   ·exact⟨_,_,Prod.ext e rfl,h⟩
   ·exfalso
    have hp:=findM_lt h2
    have hpr:provedN hdr0 easyR.limit=30:=by
     have:tgt hdr0.bits=none:=by decide+kernel
     simp[provedN,this]
    have e1:¬((p:Int)<0∨(l.length:Int)≤p):=by omega
    simp only[fitsM,e1,if_false,hpr]at h3
    simp at h3
def idG:Id:=⟨⟨[21,69,166,194,34,142,174,254,51,143,16,178,185,178,204,107,138,25,0,80,180,91,164,132,47,186,142,94,126,96,52,167]⟩,rfl⟩
def idA:Id:=⟨⟨[249,182,181,195,143,2,170,189,230,242,107,83,189,148,246,187,181,62,161,144,91,11,14,69,23,213,175,253,125,206,235,106]⟩,rfl⟩
def idB:Id:=⟨⟨[17,201,86,10,97,254,97,209,23,135,65,78,190,187,183,154,85,228,203,214,148,79,229,233,49,73,244,124,97,50,187,119]⟩,rfl⟩
def idC:Id:=⟨⟨[43,62,228,172,249,202,246,235,73,97,160,103,90,236,253,101,73,20,60,34,66,93,50,158,178,100,152,79,22,70,41,16]⟩,rfl⟩
def hdU (v:W32)(p:Id)(t:W32):Hdr:={hdr0 with ver:=v,prev:=p,time:=t,bits:=easyB}
def hdA:Hdr:={hdU 0#32 idG 1#32 with nonce:=2#32}
def hdB:Hdr:={hdU 1#32 idA 2#32 with nonce:=1#32}
def hdC:Hdr:={hdU 2#32 idA 2#32 with nonce:=0#32}
theorem gen_id:hId easyR.gen=idG:=by decide+kernel
theorem mineA:mineN (hdU 0#32 idG 1#32) easyB 1000=some hdA:=by decide+kernel
theorem hdA_id:hId hdA=idA:=by decide+kernel
theorem mineB:mineN (hdU 1#32 idA 2#32) easyB 1000=some hdB:=by decide+kernel
theorem hdB_id:hId hdB=idB:=by decide+kernel
theorem mineC:mineN (hdU 2#32 idA 2#32) easyB 1000=some hdC:=by decide+kernel
theorem hdC_id:hId hdC=idC:=by decide+kernel
theorem ids_apart:idA≠idG∧idB≠idG∧idB≠idA∧idC≠idG∧idC≠idA∧idC≠idB∧idA≠id0∧idB≠id0:=by decide+kernel
theorem ndOf_idn (l:List Nd)(h:Hdr)(p:Nat):(ndOf l h p).id=hId h:=by
 unfold ndOf
 generalize hId h=I
 rfl
theorem add_behind {l:List Nd}(hF:Fresh l)(hl:l.length≤1000){p:Nat}(hp:p<l.length){h:Hdr}(hprev:h.prev=(nd l p).id)(hnew:findM l (hId h)=none)(hpr:provedN h easyB=0)(hb:h.bits=(nd l p).hdr.bits)(ht:medianM l p<h.time)(ht2:(h.time.toNat:Int)-7200≤100000):
  addM easyR l h 100000=(l++[ndOf l h p],(l.length:Int),0):=by
 have h2:findM l h.prev=some p:=by rw[hprev,nd_at hp];exact hF.uniq p hp
 have hfail:(nd l p).failed=false:=by rw[nd_at hp];exact hF.ok p hp
 exact addM_ok hnew h2 (fits_ok hp hpr hfail (by rw[easy_next];exact hb) ht ht2) (by omega)
theorem growH1_eq {l:List Nd}{i:Nat}{p:Int}{q:Nat}(hq:clI l p=q){x:Nd}(hx:nd l q=x){v:W32}{I:Id}{T:W32}(hv:BitVec.ofInt 32 (i:Int)=v)(hid:x.id=I)(ht:x.hdr.time+1#32=T){h:Hdr}(hm:mineN (hdU v I T) easyB 1000=some h):growH1 l i p=h:=by
 have e:growU l i q=hdU v I T:=by
  unfold growU hdU
  rw[hx,hv,hid,ht]
 rw[growH1,hq,e,hm];rfl
structure Three (x1 x2 x3:Nd):Prop where
 grown:growM [0,1,1]=[gen0,x1,x2,x3]
 p1:x1.parent=0
 p2:x2.parent=1
 p3:x3.parent=1
 h1:x1.height=1
 h2:x2.height=2
 h3:x3.height=2
 i1:x1.id=idA
 i2:x2.id=idB
 i3:x3.id=idC
theorem three: ∃x1 x2 x3,Three x1 x2 x3:=by
 obtain⟨a1,a2,a3,a4,a5,a6,-,-⟩:=ids_apart
 have gid:gen0.id=idG:=gen_id
 have gp:gen0.parent=-1:=rfl
 have gt:gen0.hdr.time=0#32:=rfl
 have gb:gen0.hdr.bits=easyB:=rfl
 have F0:Fresh [gen0]:=fresh_gen
 have n0:nd [gen0] 0=gen0:=nd_at (by simp)
 have g1:growH1 [gen0] 0 0=hdA:=growH1_eq (q:=0) rfl n0 rfl gid (by rw[gt];rfl) mineA
 have t0:medianM [gen0] 0=0#32:=by rw[median_one rfl,n0,gt]
 obtain⟨-,m2,-,m4,m5,m6⟩:=mineN_some mineA
 have e1:=add_behind F0 (by simp) (p:=0) (h:=hdA) (by simp) (by rw[n0,gid];exact m2) (by rw[hdA_id];simp[findM,gid,a1.symm]) m6 (by rw[n0,gb];exact m5) (by rw[t0];decide) (by decide)
 obtain⟨x1,hx1⟩: ∃x1,x1=ndOf [gen0] hdA 0:=⟨_,rfl⟩
 rw[←hx1]at e1
 have f1h:x1.hdr=hdA:=by rw[hx1];rfl
 have f1p:x1.parent=0:=by rw[hx1];rfl
 have f1g:x1.height=1:=by
  have:x1.height=hgt [gen0] 0+1:=by rw[hx1];rfl
  rw[this,hgt_at (by simp)];rfl
 have f1i:x1.id=idA:=by rw[hx1,ndOf_idn,hdA_id]
 have F1:Fresh [gen0,x1]:=by
  have:=(fresh_add (r:=easyR) F0 (by simp) hdA 100000).1
  rw[e1]at this
  exact this
 have n1:nd [gen0,x1] 1=x1:=nd_at (by simp)
 have g2:growH1 [gen0,x1] 1 1=hdB:=growH1_eq (q:=1) rfl n1 rfl f1i (by rw[f1h];rfl) mineB
 have hmed: ∀l:List Nd,timesM l 11 1=[1#32,0#32]→medianM l 1<2#32:=fun l h=>by
  have hm:medianM l 1∈[1#32,0#32]:=by
   have:=middle_mem (l:=timesM l 11 1) (by rw[h];simp)
   rw[h]at this
   unfold medianM
   rw[h]
   exact this
  simp at hm
  rcases hm with hm | hm<;>rw[hm]<;>decide
 have t1:timesM [gen0,x1] 11 1=[1#32,0#32]:=by
  simp[timesM,f1p,f1h,gp,gt,hdA,hdU]
 obtain⟨-,m2,-,m4,m5,m6⟩:=mineN_some mineB
 have e2:=add_behind F1 (by simp) (p:=1) (h:=hdB) (by simp) (by rw[n1,f1i];exact m2) (by rw[hdB_id];simp[findM,gid,f1i,a2.symm,a3.symm]) m6 (by rw[n1,f1h];exact m5) (hmed _ t1) (by decide)
 obtain⟨x2,hx2⟩: ∃x2,x2=ndOf [gen0,x1] hdB 1:=⟨_,rfl⟩
 rw[←hx2]at e2
 have f2p:x2.parent=1:=by rw[hx2];rfl
 have f2g:x2.height=2:=by
  have:x2.height=hgt [gen0,x1] 1+1:=by rw[hx2];rfl
  rw[this,hgt_at (by simp)];simp[f1g]
 have f2i:x2.id=idB:=by rw[hx2,ndOf_idn,hdB_id]
 have F2:Fresh [gen0,x1,x2]:=by
  have:=(fresh_add (r:=easyR) F1 (by simp) hdB 100000).1
  rw[e2]at this
  exact this
 have n2:nd [gen0,x1,x2] 1=x1:=nd_at (by simp)
 have g3:growH1 [gen0,x1,x2] 2 1=hdC:=growH1_eq (q:=1) rfl n2 rfl f1i (by rw[f1h];rfl) mineC
 have t2:timesM [gen0,x1,x2] 11 1=[1#32,0#32]:=by
  simp[timesM,f1p,f1h,gp,gt,hdA,hdU]
 obtain⟨-,m2,-,m4,m5,m6⟩:=mineN_some mineC
 have e3:=add_behind F2 (by simp) (p:=1) (h:=hdC) (by simp) (by rw[n2,f1i];exact m2) (by rw[hdC_id];simp[findM,gid,f1i,f2i,a4.symm,a5.symm,a6.symm]) m6 (by rw[n2,f1h];exact m5) (hmed _ t2) (by decide)
 obtain⟨x3,hx3⟩: ∃x3,x3=ndOf [gen0,x1,x2] hdC 1:=⟨_,rfl⟩
 rw[←hx3]at e3
 have f3p:x3.parent=1:=by rw[hx3];rfl
 have f3g:x3.height=2:=by
  have:x3.height=hgt [gen0,x1,x2] 1+1:=by rw[hx3];rfl
  rw[this,hgt_at (by simp)];simp[f1g]
 have f3i:x3.id=idC:=by rw[hx3,ndOf_idn,hdC_id]
 refine⟨x1,x2,x3,⟨?_,f1p,f2p,f3p,f1g,f2g,f3g,f1i,f2i,f3i⟩⟩
 have l0:growL [0,1,1] 0=[gen0]:=rfl
 have l1:growL [0,1,1] 1=[gen0,x1]:=by
  rw[growL,l0,show([0,1,1]:List Int).getD 0 0=0 from rfl,g1,e1];rfl
 have l2:growL [0,1,1] 2=[gen0,x1,x2]:=by
  rw[growL,l1,show([0,1,1]:List Int).getD 1 0=1 from rfl,g2,e2];rfl
 have l3:growL [0,1,1] 3=[gen0,x1,x2,x3]:=by
  rw[growL,l2,show([0,1,1]:List Int).getD 2 0=1 from rfl,g3,e3];rfl
 exact l3
theorem wayM_get (l:List Nd)(a b:Nat){k:Nat}(h:k< (wayM l a b).length):(wayM l a b)[k]=((anc l b (hgt l a+1+k):Nat):Int):=by simp[wayM]
theorem anc_step_par {l:List Nd}(w:Wf l){b k:Nat}(hb:b<l.length)(hk:k+1≤hgt l b):par l (anc l b (k+1))=anc l b k∧0<anc l b (k+1):=by
 have hl:=w.anc_lt (h:=k+1) hb
 have hg:=w.anc_hgt hb hk
 have hp:=w.pos_of_hgt (i:=anc l b (k+1)) (by omega)
 have h1:=w.anc_par hl (h:=k) (by omega)
 have h2:=w.anc_anc hb (h:=k) (h':=k+1) (by omega) hk
 have h3:=w.hgt_par hp hl
 rw[h2]at h1
 refine⟨?_,hp⟩
 have e:hgt l (par l (anc l b (k+1)))=k:=by omega
 have h4:=anc_self (l:=l) (par l (anc l b (k+1)))
 rw[e]at h4
 rw[h1]
 exact h4.symm
structure ChW (c:Ch):Prop where
 wf:Wf c.l
 len:c.l.length≤16384
 fits: ∀i b,lk i c.bs=some b→b.fits
structure ChOk (c:Ch) (tp:Nat):Prop extends ChW c where
 tip:c.tip=tp
 lt:tp<c.l.length
 way: ∀k,On c.l k tp→hasM c k=true
theorem ChW.bOf {c:Ch}(h:ChW c)(i:Int):(bOf c i).fits:=by
 unfold Ab.bOf
 cases hb:lk i c.bs with
 | none=>exact blk0_fits
 | some b=>exact h.fits i b hb
def downN:Nat→Ch→Ch
 | 0,c=>c
 | n+1,c=>dn (downN n c)
def upWay:Ch→List Int→Ch×Option Int
 | c,[]=>(c,none)
 | c,i::r=>if fits1 c i=true then upWay (ups c i) r else(c,some i)
def upAll:Ch→List Int→Ch
 | c,[]=>c
 | c,i::r=>upAll (ups c i) r
theorem ups_r (c:Ch)(i:Int):(ups c i).r=c.r∧(ups c i).l=c.l∧(ups c i).bs=c.bs:=by
 unfold ups
 split<;>exact⟨rfl,rfl,rfl⟩
theorem ups_tip {c:Ch}{i:Int}(h:fits1 c i=true):(ups c i).tip=i:=by
 unfold fits1 at h
 rw[decide_eq_true_eq]at h
 unfold ups
 rw[if_pos h]
theorem ups_not {c:Ch}{i:Int}(h:fits1 c i=false):ups c i=c:=by
 unfold fits1 at h
 rw[decide_eq_false_iff_not]at h
 unfold ups
 rw[if_neg h]
theorem lk_in {A:Type}{i:Int}{v:A}{l:List (Int×A)}(h:lk i l=some v):(i,v)∈l:=by
 unfold lk at h
 obtain⟨l1,l2,e,-⟩:=List.lookup_eq_some_iff.1 h
 rw[e]
 simp
theorem ChW.ups {c:Ch}(h:ChW c)(i:Int):ChW (ups c i):=by
 unfold Ab.ups
 split
 ·exact⟨h.wf,h.len,h.fits⟩
 ·exact h
theorem ChW.dn {c:Ch}(h:ChW c):ChW (dn c):=⟨h.wf,h.len,h.fits⟩
theorem downN_W {c:Ch}(h:ChW c): ∀n,ChW (downN n c)
 | 0=>h
 | n+1=>(downN_W h n).dn
theorem downN_keep (c:Ch): ∀n,(downN n c).r=c.r∧(downN n c).l=c.l∧(downN n c).bs=c.bs
 | 0=>⟨rfl,rfl,rfl⟩
 | n+1=>downN_keep c n
theorem downN_tip {c:Ch}{tp:Nat}(w:Wf c.l)(ht:c.tip=tp)(hl:tp<c.l.length): ∀n,n≤hgt c.l tp→(downN n c).tip=(anc c.l tp (hgt c.l tp-n):Nat)
 | 0,_=>by rw[Nat.sub_zero,anc_self];exact ht
 | n+1,hn=>by
   have ih:=downN_tip w ht hl n (by omega)
   obtain⟨-,hkl,-⟩:=downN_keep c n
   show(nd (downN n c).l (inI (downN n c).l (downN n c).tip)).parent=_
   rw[hkl,ih]
   have hlt:=w.anc_lt (h:=hgt c.l tp-n) hl
   rw[inI_nat hlt]
   obtain⟨k,hk⟩: ∃k,hgt c.l tp-n=k+1:=⟨hgt c.l tp-n-1,by omega⟩
   obtain⟨h1,h2⟩:=anc_step_par w hl (k:=k) (by omega)
   rw[hk]at hlt⊢
   have hs:=w.succ _ _ h2 (List.getElem?_eq_getElem hlt)
   have hp:par c.l (anc c.l tp (k+1))=(nd c.l (anc c.l tp (k+1))).parent.toNat:=by
    simp only[par,List.getElem?_eq_getElem hlt,Option.map_some,Option.getD_some,nd_at hlt]
   rw[nd_at hlt]at hp⊢
   rw[show hgt c.l tp-(n+1)=k by omega,←h1,hp]
   omega
end Go.Ab

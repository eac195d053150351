import Derived.Test.YtjcpdljfkhbbkaaGreatZ4
import Derived.Test.YtjcpdljfkhbbkaaGreatZ7
import Derived.Test.YtjcpdljfkhbbkaaGreatZ5
set_option linter.unusedVariables false
set_option linter.unusedSimpArgs false
set_option linter.unusedSectionVars false
namespace Go.Ab
open Go Go.RowKit
set_option maxRecDepth 10000
def sumGo:Int→List Out1→Int×Bool
 | n,[]=>(n,true)
 | n,o::l=>if o.amt<0∨1125899906842624<o.amt then(0,false)else if 1125899906842624<n+o.amt then(0,false)else sumGo (n+o.amt) l
def sumM (l:List Out1):Int×Bool:=sumGo 0 l
theorem sumGo_range: ∀(l:List Out1) (n:Int),0≤n→n≤1125899906842624→0≤(sumGo n l).1∧(sumGo n l).1≤1125899906842624
 | [],n,h1,h2=>⟨h1,h2⟩
 | o::l,n,h1,h2=>by
   rw[sumGo]
   split
   ·exact⟨Int.le_refl _,by decide⟩
   ·split
    ·exact⟨Int.le_refl _,by decide⟩
    ·exact sumGo_range l _ (by omega) (by omega)
theorem sumM_range (l:List Out1):0≤(sumM l).1∧(sumM l).1≤1125899906842624:=sumGo_range l 0 (by decide) (by decide)
abbrev Pt:=Id×W32
def ePt (p:Pt):List V:=eId p.1++[w32 p.2]
theorem ePt_len (p:Pt):(ePt p).length=33:=by simp[ePt,eId_len]
def kPt (p:Pt):V:=.agg (ePt p)
theorem eqL_app: ∀(a b c d:List V) (r s:Bool),eqL a b=some r→eqL c d=some s→eqL (a++c) (b++d)=some (r&&s)
 | [],[],c,d,r,s,h1,h2=>by
   cases h1
   simpa using h2
 | [],b::bs,c,d,r,s,h1,h2=>by cases h1
 | a::as,[],c,d,r,s,h1,h2=>by cases a<;>cases h1
 | .int k a::as,.int k' b::bs,c,d,r,s,h1,h2=>by
   simp only[eqL,List.cons_append]at h1⊢
   split at h1
   ·rename_i hk
    rw[if_pos hk]
    obtain⟨t,h3,h4⟩:=Option.map_eq_some_iff.1 h1
    rw[eqL_app as bs c d t s h3 h2]
    subst h4
    simp[Bool.and_assoc]
   ·cases h1
 | .bool _::_,_::_,_,_,_,_,h1,_=>by simp[eqL]at h1
 | .str _::_,_::_,_,_,_,_,h1,_=>by simp[eqL]at h1
 | .ptr _::_,_::_,_,_,_,_,h1,_=>by simp[eqL]at h1
 | .eptr _::_,_::_,_,_,_,_,h1,_=>by simp[eqL]at h1
 | .sl _ _ _::_,_::_,_,_,_,_,h1,_=>by simp[eqL]at h1
 | .hsl _ _ _ _::_,_::_,_,_,_,_,h1,_=>by simp[eqL]at h1
 | .map _::_,_::_,_,_,_,_,h1,_=>by simp[eqL]at h1
 | .func _ _::_,_::_,_,_,_,_,h1,_=>by simp[eqL]at h1
 | .nilf::_,_::_,_,_,_,_,h1,_=>by simp[eqL]at h1
 | .agg _::_,_::_,_,_,_,_,h1,_=>by simp[eqL]at h1
 | .tup _::_,_::_,_,_,_,_,h1,_=>by simp[eqL]at h1
 | .junk::_,_::_,_,_,_,_,h1,_=>by simp[eqL]at h1
 | .int _ _::_,.bool _::_,_,_,_,_,h1,_=>by simp[eqL]at h1
 | .int _ _::_,.str _::_,_,_,_,_,h1,_=>by simp[eqL]at h1
 | .int _ _::_,.ptr _::_,_,_,_,_,h1,_=>by simp[eqL]at h1
 | .int _ _::_,.eptr _::_,_,_,_,_,h1,_=>by simp[eqL]at h1
 | .int _ _::_,.sl _ _ _::_,_,_,_,_,h1,_=>by simp[eqL]at h1
 | .int _ _::_,.hsl _ _ _ _::_,_,_,_,_,h1,_=>by simp[eqL]at h1
 | .int _ _::_,.map _::_,_,_,_,_,h1,_=>by simp[eqL]at h1
 | .int _ _::_,.func _ _::_,_,_,_,_,h1,_=>by simp[eqL]at h1
 | .int _ _::_,.nilf::_,_,_,_,_,h1,_=>by simp[eqL]at h1
 | .int _ _::_,.agg _::_,_,_,_,_,h1,_=>by simp[eqL]at h1
 | .int _ _::_,.tup _::_,_,_,_,_,h1,_=>by simp[eqL]at h1
 | .int _ _::_,.junk::_,_,_,_,_,h1,_=>by simp[eqL]at h1
theorem eqL_w32 (x y:W32):eqL [w32 x] [w32 y]=some (decide (x=y)):=by
 show eqL [.int .u32 (x.toNat:Int)] [.int .u32 (y.toNat:Int)]=_
 simp only[eqL,if_true,Option.map_some,Bool.and_true,Option.some.injEq]
 rw[Bool.eq_iff_iff]
 simp only[beq_iff_eq,decide_eq_true_eq]
 constructor
 ·intro h
  exact BitVec.eq_of_toNat_eq (by omega)
 ·intro h
  rw[h]
theorem eqL_pt (a b:Pt):eqL (ePt a) (ePt b)=some (decide (a=b)):=by
 rw[ePt,ePt,eqL_app _ _ _ _ _ _ (eqL_id a.1 b.1) (eqL_w32 a.2 b.2)]
 congr 1
 rw[Bool.eq_iff_iff]
 simp only[Bool.and_eq_true,decide_eq_true_eq,Prod.ext_iff]
theorem keyed_pt:Keyed kPt (.agg 33):=⟨fun k=>by simp[isKey,kPt,ePt_len],fun a b=>by
 simp only[keyEq,kPt]
 rw[if_pos (ePt_len a),eqL_pt]⟩
theorem lookup_lk0 {K A:Type}[DecidableEq K]{ek:K→V}{ev:A→V}{kk:KK}(hk:Keyed ek kk){st:St}{id:Nat}{l:List (K×A)}(h:st id=some (.mp (encM ek ev l)))(z:V)(k:K):
  lookupV st kk z false (.map (some id)) (ek k)=some (((lk k l).map ev).getD z):=by
 rw[lookup_enc hk h,if_neg (by simp)];rfl
def In1.pt (x:In1):Pt:=(x.tx,x.ix)
def makerP:Pt:=(id0,4294967295#32)
theorem insegPt (x:In1):segOf (eIn x) 0 33=some (ePt x.pt):=seg_of_drop (zs:=[keyV x.kk x.key]) (by rw[List.drop_zero];simp[eIn,ePt,In1.pt]) (ePt_len _) (by omega)
def insGo (first:Bool):List Pt→List In1→Option Int
 | _,[]=>none
 | seen,x::l=>if 100<x.key.length then some 2 else if decide (x.pt=makerP)≠first then some 120 else if x.pt∈seen then some 5 else insGo first (x.pt::seen) l
def txM (t:Tx1)(first:Bool):Int:=
 if t.ins.length=0∨t.outs.length=0∨32<t.ins.length∨32<t.outs.length then 120 else
 match insGo first [] t.ins with
 | some e=>e
 | none=>if(sumM t.outs).2=true then 0 else 121
theorem insV_len (t:Tx1):lenSlV (insV t)=some (.int .i64 t.ins.length):=rfl
theorem outsV_len (t:Tx1):lenSlV (outsV t)=some (.int .i64 t.outs.length):=rfl
theorem tsegIns (t:Tx1):segOf (eTx t) 0 1=some [insV t]:=rfl
theorem tsegOuts (t:Tx1):segOf (eTx t) 1 1=some [outsV t]:=rfl
theorem tsegAll (t:Tx1):segOf (eTx t) 0 2=some (eTx t):=rfl
section
variable {P:Program} {F:Fn}
set_option maxHeartbeats 2000000 in
theorem spec250 (ok:OkCheck P F)(st:St){s:V}{l:List Out1}(hr:Rd 33 eOut s l st)(hl:l.length≤100000):ACalls P (F 250) [s] st fun v st'=>v=.tup [.int .i64 (sumM l).1,.bool (sumM l).2]∧st'=st:=by
 refine shows_call ok.mixed ok.h250 (by simp[k250]) ?_
 simp only[k250]
 have hlen:=hr.len
 simp[hlen]
 refine vc_loopJ (fun c env' st'=>∃(i:Nat) (n:Int),i≤l.length∧c=l.length-i∧env' 9=.int .i64 (i:Nat)∧env' 4=.int .i64 n∧0≤n∧n≤1125899906842624∧sumGo n (l.drop i)=sumM l∧Sep [Was st] st') l.length
  ⟨0,0,by omega,by omega,by simp,by simp,by omega,by omega,by simp[sumM],Sep.start st⟩ ?_
 rintro J hJ c env' st2 hsame ⟨i,n,hi,rfl,h9,h4,hn0,hn1,hgo,S⟩
 have g7:=(hsame.get 7 rfl).trans (by simp:_=s)
 have g8:=(hsame.get 8 rfl).trans (by simp:_=V.int .i64 (l.length:Int))
 clear hsame
 have hsub:St.sub st st2:=S.was' (st0:=st) (by simp)
 by_cases hlt:i<l.length
 ·obtain⟨r1,r2,r3,r4⟩:=(hr.sub hsub).row eOut_len hlt
  rw[List.drop_eq_getElem_cons hlt,sumGo]at hgo
  obtain⟨o,ho⟩: ∃o,o=l[i]:=⟨_,rfl⟩
  rw[←ho]at r3 hgo
  have w1:IntKind.i64.wrap ((i:Int)+1)=(i:Int)+1:=wrap64 (by omega) (by omega)
  simp[g7,g8,h9,hlt,r1,r3]
  intro i6 h6
  have S:=S.new h6 (.cells z33_0be4)
  have hst:=store_pt (sz:=33) (o:=0) S.get (v:=.agg (eOut o)) (vs:=eOut o) rfl (eOut_len _) (by simp)
  rw[show spliceV z33_0be4 0 (eOut o)=eOut o by simp[spliceV,eOut_len]]at hst
  have S:=S.set (.cells (eOut o))
  simp[hst]at S⊢
  generalize st2.upd i6 (.cells (eOut o))=st3 at S⊢
  have o6:=S.get
  have hsa:=ousegAmt o
  by_cases h1:o.amt<0
  ·rw[if_pos (.inl h1)]at hgo
   simp[St.seg,o6,hsa,h1,←hgo]
   exact S.was' (st0:=st) (by simp)
  ·by_cases h2:1125899906842624<o.amt
   ·rw[if_pos (.inr h2)]at hgo
    simp[St.seg,o6,hsa,h1,h2,←hgo]
    exact S.was' (st0:=st) (by simp)
   ·rw[if_neg (by omega)]at hgo
    have w2:IntKind.i64.wrap (n+o.amt)=n+o.amt:=wrap64 (by omega) (by omega)
    by_cases h3:1125899906842624<n+o.amt
    ·rw[if_pos h3]at hgo
     simp[St.seg,o6,hsa,h1,h2,h3,h4,w2,←hgo]
     exact S.was' (st0:=st) (by simp)
    ·rw[if_neg h3]at hgo
     simp[St.seg,o6,hsa,h1,h2,h3,h4,h9,w1,w2]
     exact Round.mk (l.length-(i+1)) _ (by omega) (sub_self _) (hJ _ _ _ ⟨i+1,n+o.amt,by omega,rfl,by simp,by simp,by omega,by omega,hgo,S.drop⟩)
 ·have:i=l.length:=by omega
  subst this
  rw[List.drop_length,sumGo]at hgo
  simp[g7,g8,h9,h4,←hgo]
  exact hsub
set_option maxHeartbeats 4000000 in
theorem spec249 (ok:OkCheck P F)(st:St)(t:Tx1)(first:Bool)(h1:t.ins.length≤100000)(h2:t.outs.length≤100000)(h3: ∀x∈t.ins,x.key.length≤1000000):
  ACalls P (F 249) [.agg (eTx t),.bool first] st fun v st'=>v=.int .i64 (txM t first)∧st'=st:=by
 have okt:=ok.toOkTx
 refine shows_call ok.mixed ok.h249 (by simp[k249]) ?_
 simp only[k249]
 simp
 intro i2 hi2
 have S:=(Sep.start st).new hi2 (.cells (eTx t))
 generalize st.upd i2 _=st1 at S⊢
 have o2:=S.get
 have li:=insV_len t
 have lo:=outsV_len t
 have si:=tsegIns t
 have so:=tsegOuts t
 by_cases c1:t.ins.length=0
 ·have e:txM t first=120:=by rw[txM,if_pos (.inl c1)]
  simp[St.seg,o2,si,so,li,lo,c1,e]
  exact S.was' (st0:=st) (by simp)
 have b1:((t.ins.length:Int)==0)=false:=by simpa using c1
 by_cases c2:t.outs.length=0
 ·have e:txM t first=120:=by rw[txM,if_pos (.inr (.inl c2))]
  simp[St.seg,o2,si,so,li,lo,b1,c2,e]
  exact S.was' (st0:=st) (by simp)
 have b2:((t.outs.length:Int)==0)=false:=by simpa using c2
 by_cases c3:32<t.ins.length
 ·have e:txM t first=120:=by rw[txM,if_pos (.inr (.inr (.inl c3)))]
  have c3':32< (t.ins.length:Int):=by omega
  simp[St.seg,o2,si,so,li,lo,b1,b2,c3',e]
  exact S.was' (st0:=st) (by simp)
 by_cases c4:32<t.outs.length
 ·have e:txM t first=120:=by rw[txM,if_pos (.inr (.inr (.inr c4)))]
  have c3':¬32< (t.ins.length:Int):=by omega
  have c4':32< (t.outs.length:Int):=by omega
  simp[St.seg,o2,si,so,li,lo,b1,b2,c3',c4',e]
  exact S.was' (st0:=st) (by simp)
 have e0:txM t first=match insGo first [] t.ins with | some e=>e | none=>if(sumM t.outs).2=true then 0 else 121:=by rw[txM,if_neg (by omega)]
 have c3':¬32< (t.ins.length:Int):=by omega
 have c4':¬32< (t.outs.length:Int):=by omega
 simp[St.seg,o2,si,so,li,lo,b1,b2,c3',c4']
 intro i5 hi5
 have S:=S.new hi5 (.mp [])
 generalize st1.upd i5 _=st2 at S⊢
 have o2:=S.mem (i:=i2) (o:=.cells (eTx t)) (by simp)
 simp[St.seg,o2,si,so,li,lo]
 refine vc_joinB (M:=fun env' st'=>insGo first [] t.ins=none∧Sep [pt i2 (.cells (eTx t)),Was st] st') ?_ ?_
 ·refine vc_loopJ (fun c env' st'=>∃(i:Nat) (seen:List Pt) (es:List (Pt×Bool)),i≤t.ins.length∧c=t.ins.length-i∧env' 36=.int .i64 (i:Nat)∧insGo first seen (t.ins.drop i)=insGo first [] t.ins∧(∀p,(lk p es).getD false=decide (p∈seen))∧
     Sep [pt i5 (.mp (encM kPt V.bool es)),pt i2 (.cells (eTx t)),Was st] st') t.ins.length
    ⟨0,[],[],by omega,by omega,by simp,by simp,by simp[lk],S⟩ ?_
  rintro J hJ c env' st3 hsame ⟨i,seen,es,hi,rfl,h36,hgo,hes,S⟩
  have g1:=(hsame.get 1 rfl).trans (by simp:_=V.bool first)
  have g5:=(hsame.get 5 rfl).trans (by simp:_=V.map (some i5))
  have g34:=(hsame.get 34 rfl).trans (by simp:_=insV t)
  have g35:=(hsame.get 35 rfl).trans (by simp:_=V.int .i64 (t.ins.length:Int))
  clear hsame
  by_cases hlt:i<t.ins.length
  ·obtain⟨r1,r2,r3,r4⟩:=(rd_ins t st3).row eIn_len hlt
   rw[List.drop_eq_getElem_cons hlt,insGo]at hgo
   have hkl:=h3 t.ins[i] (List.getElem_mem hlt)
   obtain⟨x,hx⟩: ∃x,x=t.ins[i]:=⟨_,rfl⟩
   rw[←hx]at r3 hgo hkl
   have w1:IntKind.i64.wrap ((i:Int)+1)=(i:Int)+1:=wrap64 (by omega) (by omega)
   simp[g34,g35,h36,hlt,r1,r3]
   intro i7 hi7
   have S:=S.new hi7 (.cells z34_1838)
   have hst:=store_pt (sz:=34) (o:=0) S.get (v:=.agg (eIn x)) (vs:=eIn x) rfl (eIn_len _) (by simp)
   rw[show spliceV z34_1838 0 (eIn x)=eIn x by simp[spliceV,eIn_len]]at hst
   have S:=S.set (.cells (eIn x))
   simp[hst]at S⊢
   generalize st3.upd i7 (.cells (eIn x))=st4 at S⊢
   have o7:=S.get
   have o5:=S.mem (i:=i5) (o:=.mp (encM kPt V.bool es)) (by simp)
   have hsk:=insegKey x
   have hsp:=insegPt x
   have hlk:lenSlV (keyV x.kk x.key)=some (.int .i64 x.key.length):=rfl
   by_cases k1:100<x.key.length
   ·have k1':100< (x.key.length:Int):=by omega
    rw[if_pos k1]at hgo
    rw[←hgo]at e0
    simp[St.seg,o7,hsk,hlk,k1',e0]
    exact S.was' (st0:=st) (by simp)
   ·have k1':¬100< (x.key.length:Int):=by omega
    rw[if_neg k1]at hgo
    have hm:eqK (.agg 33) (.agg (ePt x.pt)) (.agg (eId id0++[w32 4294967295#32]))=some (decide (x.pt=makerP)):=by
     show eqK (.agg 33) (.agg (ePt x.pt)) (.agg (ePt makerP))=_
     rw[eqK,if_pos (ePt_len _),eqL_pt]
    simp[St.seg,o7,hsk,hlk,k1',hsp,g1]
    refine⟨_,spec197 okt st4,?_⟩
    by_cases k2:decide (x.pt=makerP)=first
    ·rw[if_neg (by simpa using k2)]at hgo
     have hlu:=lookup_lk0 keyed_pt (ev:=V.bool) o5 (.bool false) x.pt
     have hge:((lk x.pt es).map V.bool).getD (.bool false)=.bool (decide (x.pt∈seen)):=by
      rw[←hes x.pt]
      cases lk x.pt es<;>rfl
     simp only[hge,kPt]at hlu
     rw[k2]at hm
     have hb:eqK .bool (.bool first) (.bool first)=some true:=by simp[eqK]
     simp[St.seg,o7,hsp,hm,hb,g1,g5,hlu]
     by_cases k3:x.pt∈seen
     ·rw[if_pos k3]at hgo
      rw[←hgo]at e0
      simp[k3,e0]
      exact S.was' (st0:=st) (by simp)
     ·rw[if_neg k3]at hgo
      have hms:=mset_enc keyed_pt (ev:=V.bool) o5 x.pt true
      simp only[kPt]at hms
      simp[k3,St.seg,o7,hsp,g5,hms]
      have S:=S.setAt (.mp (encM kPt V.bool (aSet x.pt true es))) 1 rfl
      simp at S
      simp[h36,w1]
      refine Round.mk (t.ins.length-(i+1)) _ (by omega) (sub_self _) (hJ _ _ _ ⟨i+1,x.pt::seen,_,by omega,rfl,by simp,hgo,?_,S.drop⟩)
      intro p
      rw[lk_aSet]
      by_cases hp:p=x.pt
      ·simp[hp]
      ·rw[if_neg hp,hes p]
       simp[hp]
    ·rw[if_pos k2]at hgo
     rw[←hgo]at e0
     have hb:eqK .bool (.bool (decide (x.pt=makerP))) (.bool first)=some false:=by
      show some (decide (x.pt=makerP)==first)=some false
      rw[beq_eq_false_iff_ne.2 k2]
     simp[St.seg,o7,hsp,hm,g1,hb,e0]
     exact S.was' (st0:=st) (by simp)
  ·have:i=t.ins.length:=by omega
   subst this
   rw[List.drop_length,insGo]at hgo
   simp[g35,h36]
   exact⟨hgo.symm,S.drop⟩
 ·rintro env' st3 hsame ⟨hno,S⟩
  have g2:=(hsame.get 2 rfl).trans (by simp:_=V.ptr (some (i2,0)))
  clear hsame
  rw[hno]at e0
  have o2:=S.get
  simp[g2,St.seg,o2,so]
  refine(spec250 ok st3 (rd_outs t st3) h2).mono ?_
  rintro v st3 ⟨rfl,rfl⟩
  cases hs:(sumM t.outs).2 with
  | true=>
    rw[hs]at e0
    simp[hs,e0]
    exact S.was' (st0:=st) (by simp)
  | false=>
    rw[hs]at e0
    simp[hs,e0]
    exact S.was' (st0:=st) (by simp)
end
def Tx1.fine (t:Tx1):Prop:=t.ins.length≤32∧t.outs.length≤32∧∀x∈t.ins,x.key.length≤100
theorem Tx1.fine.ok {t:Tx1}(h:t.fine):t.ok 100:=⟨by have:=h.1;omega,by have:=h.2.1;omega,fun x hx=>by have:=h.2.2 x hx;omega⟩
theorem txB_fine (t:Tx1)(h:t.fine):(txB t).length≤10000:=by
 have hc1:=countB_len (BitVec.ofNat 64 t.ins.length)
 have hc2:=countB_len (BitVec.ofNat 64 t.outs.length)
 have h1:=fm_len inB 145 t.ins fun x hx=>by
  have:=textB_len x.key
  have:=h.2.2 x hx
  simp[inB,putB_len]
  omega
 have h2:=fm_len outB 40 t.outs fun x hx=>by rw[outB_len];omega
 have h3:=h.1
 have h4:=h.2.1
 rw[txB,List.length_append,List.length_append,List.length_append]
 omega
theorem insGo_keys: ∀(l:List In1) (first:Bool) (seen:List Pt),insGo first seen l=none→∀x∈l,x.key.length≤100
 | [],_,_,_,x,hx=>by cases hx
 | a::l,first,seen,h,x,hx=>by
   rw[insGo]at h
   split at h
   ·cases h
   ·rename_i hk
    split at h
    ·cases h
    ·split at h
     ·cases h
     ·rcases List.mem_cons.1 hx with rfl | hx
      ·omega
      ·exact insGo_keys l first _ h x hx
theorem txM_fine {t:Tx1}{first:Bool}(h:txM t first=0):t.fine:=by
 unfold txM at h
 split at h
 ·cases h
 ·rename_i hc
  split at h
  ·rename_i e he
   subst h
   exfalso
   have: ∀(l:List In1) (seen:List Pt),insGo first seen l≠some 0:=by
    intro l
    induction l with
    | nil=>intro seen h;cases h
    | cons a l ih=>
      intro seen
      rw[insGo]
      split
      ·simp
      ·split
       ·simp
       ·split
        ·simp
        ·exact ih _
   exact this _ _ he
  ·rename_i he
   exact⟨by omega,by omega,insGo_keys _ _ _ he⟩
def blkB (b:Blk1):List UInt8:=hBytes b.hdr++(countB (BitVec.ofNat 64 b.txs.length)++b.txs.flatMap txB)
theorem bsegAll0 (b:Blk1):segOf (eBlk b) 0 69=some (eBlk b):=bsegAll b
theorem rd_txs (b:Blk1)(st:St):Rd 2 eTx (txsV b.tk b.txs) b.txs st:=.inl ⟨b.tk,rfl⟩
section
variable {P:Program} {F:Fn}
set_option maxHeartbeats 1000000 in
theorem spec204r (ok:OkTx P F){st:St}{wid:Nat}{l:List UInt8}{L:List Asn}(S:WrR wid l L st){x:V}{m:List UInt8}(hx:Rd 1 e8 x m st)(hl:l.length+m.length≤900000):
  ACalls P (F 204) [.ptr (some (wid,0)),.sl .full [x] 1] st fun v st'=>v=.tup []∧WrR wid (l++m) L st':=by
 refine shows_call ok.mixed ok.h204 (by simp[k204]) ?_
 simp only[k204]
 simp
 obtain⟨s,S⟩:=S
 have o:=S.get
 have hsg:segOf [x] 0 1=some [x]:=rfl
 have hsg0:segOf [s] 0 1=some [s]:=rfl
 have hel:=hx.elems e8_len
 refine vc_unroll 2 ?_
 simp[unr_succ,hsg,St.seg,o,hsg0,hel]
 refine Wr.app S m rfl rfl (by omega) ?_
 intro s' st2 st3 hc' hst S'
 simp[hst,unr_succ]
 exact⟨st3,sub_self _,S'⟩
set_option maxHeartbeats 4000000 in
theorem spec251 (ok:OkCheck2 P F)(st:St)(b:Blk1)(hl:b.txs.length≤32)(hb: ∀t∈b.txs,t.fine):ACalls P (F 251) [.agg (eBlk b)] st fun v st'=>Sep [Slx 1 e8 v (blkB b),Was st] st':=by
 have okt:=ok.toOkCheck.toOkTx
 refine shows_call ok.mixed ok.h251 (by simp[k251]) ?_
 simp only[k251]
 simp
 intro i1 h1
 have S:=(Sep.start st).new h1 (.cells (eBlk b))
 generalize st.upd i1 _=st1 at S⊢
 simp
 intro wid hw
 have S:=S.slxNil (sz:=1) (f:=e8)
 have S:=S.new hw (.cells [.sl .nil [] 0])
 generalize st1.upd wid _=st2 at S⊢
 have o1:=S.mem (i:=i1) (o:=.cells (eBlk b)) (by simp)
 have hsH:=bsegH b
 have hsT:=bsegT b
 have hln:lenSlV (txsV b.tk b.txs)=some (.int .i64 b.txs.length):=rfl
 simp[St.seg,o1,hsH]
 refine(spec140 okt.toOkHead st2 b.hdr).mono ?_
 intro v st3 S1
 have S:=S1.ov S
 have hf:=partFill S.cells
 have rdv:Rd 1 e8 v (hBytes b.hdr) st3:=Sep.rd e8_len (S.head fun h hh=>hh.sl)
 have S:WrR wid [] (Slx 1 e8 v (hBytes b.hdr)::pt i1 (.cells (eBlk b))::[Was st]) st3:=⟨_,S.swap.tail fun r h=>h.swap⟩
 simp[hf]
 refine(spec204r okt S rdv (by rw[hBytes_len];simp)).mono ?_
 rintro u st4 ⟨rfl,S⟩
 rw[List.nil_append]at S
 have S:=S.tail fun r h=>h.drop
 have o1:st4 i1=some (.cells (eBlk b)):=by
  obtain⟨s,S⟩:=S
  exact S.mem (by simp)
 simp[St.seg,o1,hsT,hln]
 refine(spec203 okt S (by rw[hBytes_len];omega) _).mono ?_
 rintro u st5 ⟨rfl,S⟩
 have o1:st5 i1=some (.cells (eBlk b)):=by
  obtain⟨s,S⟩:=S
  exact S.mem (by simp)
 simp[St.seg,o1,hsT,hln]
 have hc0:=countB_len (BitVec.ofNat 64 b.txs.length)
 refine vc_loopJ (fun c env' st'=>∃i:Nat,i≤b.txs.length∧c=b.txs.length-i∧env' 19=.int .i64 (i:Nat)∧WrR wid (hBytes b.hdr++countB (BitVec.ofNat 64 b.txs.length)++(b.txs.take i).flatMap txB) (pt i1 (.cells (eBlk b))::[Was st]) st') b.txs.length
  ⟨0,by omega,by omega,by simp,by simpa using S⟩ ?_
 rintro J hJ c env' st6 hsame ⟨i,hi,rfl,h19,S⟩
 have g3:=(hsame.get 3 rfl).trans (by simp:_=V.ptr (some (wid,0)))
 have g17:=(hsame.get 17 rfl).trans (by simp:_=txsV b.tk b.txs)
 have g18:=(hsame.get 18 rfl).trans (by simp:_=V.int .i64 (b.txs.length:Int))
 clear hsame
 have hlen: ∀k,((b.txs.take k).flatMap txB).length≤320000:=fun k=>by
  have:=fm_len txB 10000 (b.txs.take k) fun t ht=>txB_fine t (hb t (List.mem_of_mem_take ht))
  rw[List.length_take]at this
  have h2:min k b.txs.length*10000≤32*10000:=Nat.mul_le_mul_right _ (by omega)
  omega
 have hw:(hBytes b.hdr++countB (BitVec.ofNat 64 b.txs.length)++(b.txs.take i).flatMap txB).length≤330000:=by
  have:=hlen i
  rw[List.length_append,List.length_append,hBytes_len]
  omega
 by_cases hlt:i<b.txs.length
 ·obtain⟨r1,r2,r3,r4⟩:=(rd_txs b st6).row eTx_len hlt
  have htf:=hb b.txs[i] (List.getElem_mem hlt)
  obtain⟨t,ht⟩: ∃t,t=b.txs[i]:=⟨_,rfl⟩
  rw[←ht]at r3 htf
  have w1:IntKind.i64.wrap ((i:Int)+1)=(i:Int)+1:=wrap64 (by omega) (by omega)
  simp[g17,g18,h19,hlt,r1,r3]
  intro i5 h5
  have S:=S.new h5 (.cells [.sl .nil [] 0,.sl .nil [] 0])
  have o5:(st6.upd i5 (.cells [.sl .nil [] 0,.sl .nil [] 0])) i5=some (.cells [.sl .nil [] 0,.sl .nil [] 0]):=by simp
  have hst:=store_pt (sz:=2) (o:=0) o5 (v:=.agg (eTx t)) (vs:=eTx t) rfl rfl (by simp)
  rw[show spliceV [V.sl .nil [] 0,V.sl .nil [] 0] 0 (eTx t)=eTx t from rfl]at hst
  have S:WrR wid (hBytes b.hdr++countB (BitVec.ofNat 64 b.txs.length)++(b.txs.take i).flatMap txB) (pt i5 (.cells (eTx t))::pt i1 (.cells (eBlk b))::[Was st]) ((st6.upd i5 (.cells [.sl .nil [] 0,.sl .nil [] 0])).upd i5 (.cells (eTx t))):=by
   obtain⟨s,S⟩:=S
   exact⟨s,((S.pull 2).set (.cells (eTx t))).swap.tail fun r h=>h.swap⟩
  simp[hst]at S⊢
  generalize(st6.upd i5 (.cells (eTx t)))=st7 at S⊢
  have o5:st7 i5=some (.cells (eTx t)):=by
   obtain⟨s,S⟩:=S
   exact S.mem (by simp)
  simp[g3,St.seg,o5,tsegAll]
  refine(spec201 okt S t htf.ok (by rw[←List.append_assoc];omega)).mono ?_
  rintro u st8 ⟨rfl,S⟩
  simp[h19,w1]
  refine Round.mk (b.txs.length-(i+1)) _ (by omega) (sub_self _) (hJ _ _ _ ⟨i+1,by omega,rfl,by simp,?_⟩)
  rw[List.take_succ_eq_append_getElem hlt,←ht,List.flatMap_append]
  have S:=S.tail fun r h=>h.drop
  refine S.imp ?_
  simp
 ·have:i=b.txs.length:=by omega
  subst this
  rw[List.take_length]at S hw
  simp[g3,g18,h19]
  refine(spec202 okt S (by omega)).mono ?_
  rintro u st7 ⟨s,S⟩
  simp
  refine⟨st7,sub_self _,?_⟩
  rw[List.append_assoc]at S
  exact S.tail fun r h=>h.drop.drop.drop
def rootE (b:Blk1):Int:=if(∃t∈b.txs,(txB t).length=64)∨(rootM (rowsIds b.txs)).2=true∨(rootM (rowsIds b.txs)).1≠b.hdr.root then 40 else 0
set_option maxHeartbeats 4000000 in
theorem spec252 (ok:OkCheck2 P F)(st:St)(b:Blk1)(hl:b.txs.length≤1000)(hb: ∀t∈b.txs,t.ok 100):ACalls P (F 252) [.agg (eBlk b)] st fun v st'=>v=.int .i64 (rootE b)∧St.sub st st':=by
 have okt:=ok.toOkCheck.toOkTx
 refine shows_call ok.mixed ok.h252 (by simp[k252]) ?_
 simp only[k252]
 simp
 intro i1 h1
 have S:=(Sep.start st).new h1 (.cells (eBlk b))
 generalize st.upd i1 _=st1 at S⊢
 have o1:=S.get
 have hsT:=bsegT b
 have hln:lenSlV (txsV b.tk b.txs)=some (.int .i64 b.txs.length):=rfl
 simp[St.seg,o1,hsT,hln]
 refine vc_joinB (M:=fun env' st'=>(∀t∈b.txs,(txB t).length≠64)∧Sep [pt i1 (.cells (eBlk b)),Was st] st') ?_ ?_
 ·refine vc_loopJ (fun c env' st'=>∃i:Nat,i≤b.txs.length∧c=b.txs.length-i∧env' 10=.int .i64 (i:Nat)∧(∀t∈b.txs.take i,(txB t).length≠64)∧Sep [pt i1 (.cells (eBlk b)),Was st] st') b.txs.length
    ⟨0,by omega,by omega,by simp,by simp,S⟩ ?_
  rintro J hJ c env' st6 hsame ⟨i,hi,rfl,h10,hno,S⟩
  have g8:=(hsame.get 8 rfl).trans (by simp:_=txsV b.tk b.txs)
  have g9:=(hsame.get 9 rfl).trans (by simp:_=V.int .i64 (b.txs.length:Int))
  clear hsame
  by_cases hlt:i<b.txs.length
  ·obtain⟨r1,r2,r3,r4⟩:=(rd_txs b st6).row eTx_len hlt
   have htf:=hb b.txs[i] (List.getElem_mem hlt)
   have hmem:=List.getElem_mem hlt
   obtain⟨t,ht⟩: ∃t,t=b.txs[i]:=⟨_,rfl⟩
   rw[←ht]at r3 htf hmem
   have w1:IntKind.i64.wrap ((i:Int)+1)=(i:Int)+1:=wrap64 (by omega) (by omega)
   simp[g8,g9,h10,hlt,r1,r3]
   intro i4 h4
   have S:=S.new h4 (.cells [.sl .nil [] 0,.sl .nil [] 0])
   have hst:=store_pt (sz:=2) (o:=0) S.get (v:=.agg (eTx t)) (vs:=eTx t) rfl rfl (by simp)
   rw[show spliceV [V.sl .nil [] 0,V.sl .nil [] 0] 0 (eTx t)=eTx t from rfl]at hst
   have S:=S.set (.cells (eTx t))
   simp[hst]at S⊢
   generalize(st6.upd i4 (.cells (eTx t)))=st7 at S⊢
   have o4:=S.get
   simp[St.seg,o4,tsegAll]
   refine(spec200 okt st7 t htf).mono ?_
   intro u st8 S1
   have S:=S1.ov S
   have hlu:=(Sep.rd e8_len (S.head fun h hh=>hh.sl)).len
   by_cases h64:(txB t).length=64
   ·have e:rootE b=40:=by rw[rootE,if_pos (.inl ⟨t,hmem,h64⟩)]
    simp[hlu,h64,e]
    exact⟨st8,sub_self _,S.was' (st0:=st) (by simp)⟩
   ·have h64':(((txB t).length:Int)==64)=false:=by
      rw[beq_eq_false_iff_ne];omega
    simp[hlu,h64',h10,w1]
    refine Round.mk (b.txs.length-(i+1)) _ (by omega) (sub_self _) (hJ _ _ _ ⟨i+1,by omega,rfl,by simp,?_,S.drop.drop⟩)
    intro y hy
    rw[List.take_succ_eq_append_getElem hlt,←ht]at hy
    rcases List.mem_append.1 hy with hy | hy
    ·exact hno y hy
    ·rw[List.mem_singleton.1 hy];exact h64
  ·have:i=b.txs.length:=by omega
   subst this
   rw[List.take_length]at hno
   simp[g9,h10]
   exact⟨hno,S⟩
 ·rintro env' st3 hsame ⟨hno,S⟩
  have g1:=(hsame.get 1 rfl).trans (by simp:_=V.ptr (some (i1,0)))
  clear hsame
  have o1:=S.get
  simp[g1,St.seg,o1,hsT]
  refine(spec192 okt st3 (rd_txs b st3) hl hb).mono ?_
  rintro v st3 ⟨rfl,rfl⟩
  obtain⟨rt,hrt⟩: ∃rt,rt=(rootM (rowsIds b.txs)).1:=⟨_,rfl⟩
  rw[←hrt]
  simp
  intro i5 h5
  have S:=S.new h5 (.cells zR32_w80)
  have hst:=store_z32 S.get rt
  have S:=S.set (.cells (eId rt))
  simp[hst]at S⊢
  generalize st3.upd i5 (.cells (eId rt))=st4 at S⊢
  have o5:=S.get
  have o1:=S.mem (i:=i1) (o:=.cells (eBlk b)) (by simp)
  have hsr:segOf (eBlk b) 33 32=some (eId b.hdr.root):=by
   have:=hsegRoot b.hdr
   unfold segOf at this⊢
   rw[eHdr_len,if_pos (by omega)]at this
   rw[eBlk_len,if_pos (by omega),←Option.some.inj this,eBlk,List.drop_append_of_le_length (by rw[eHdr_len];omega),List.take_append_of_le_length (by rw[List.length_drop,eHdr_len];omega)]
  have hq:eqK (.agg 32) (.agg (eId rt)) (.agg (eId b.hdr.root))=some (decide (rt=b.hdr.root)):=by simp[eqK,eId_len,eqL_id]
  have hs0:=segId0 rt
  have hs1:=segId0 b.hdr.root
  have hq1:eqK (.agg 32) (.agg (eId b.hdr.root)) (.agg (eId b.hdr.root))=some true:=by simp[eqK,eId_len,eqL_id]
  have hw:=S.was' (st0:=st) (by simp)
  cases htw:(rootM (rowsIds b.txs)).2 with
  | true=>
    have e:rootE b=40:=by rw[rootE,if_pos (.inr (.inl htw))]
    simp[e]
    exact⟨st4,sub_self _,hw⟩
  | false=>
    by_cases hr:rt=b.hdr.root
    ·have e:rootE b=0:=by
       rw[rootE,if_neg]
       rintro(⟨t,h1,h2⟩ | h | h)
       ·exact hno t h1 h2
       ·rw[htw]at h;cases h
       ·exact h (by rw[←hrt];exact hr)
     simp[St.seg,o5,o1,hs0,hs1,hsr,hq,hq1,hr,g1,e]
     exact⟨st4,sub_self _,hw⟩
    ·have e:rootE b=40:=by rw[rootE,if_pos (.inr (.inr (by rw[←hrt];exact hr)))]
     simp[St.seg,o5,o1,hs0,hs1,hsr,hq,hq1,hr,g1,e]
     exact⟨st4,sub_self _,hw⟩
def txsE:Nat→List Tx1→Int
 | _,[]=>0
 | i,t::l=>if txM t (i==0)≠0 then txM t (i==0)else txsE (i+1) l
def blkE (b:Blk1):Int:=
 if b.txs.length=0∨32<b.txs.length then 120 else if txsE 0 b.txs≠0 then txsE 0 b.txs else if 8192< (blkB b).length then 2 else rootE b
set_option maxHeartbeats 4000000 in
theorem spec253 (ok:OkCheck2 P F)(st:St)(b:Blk1)(hl:b.txs.length≤100000)(hb: ∀t∈b.txs,t.ins.length≤100000∧t.outs.length≤100000∧∀x∈t.ins,x.key.length≤1000000):ACalls P (F 253) [.agg (eBlk b)] st fun v st'=>v=.int .i64 (blkE b)∧St.sub st st':=by
 have okt:=ok.toOkCheck.toOkTx
 refine shows_call ok.mixed ok.h253 (by simp[k253]) ?_
 simp only[k253]
 simp
 intro i1 h1
 have S:=(Sep.start st).new h1 (.cells (eBlk b))
 generalize st.upd i1 _=st1 at S⊢
 have o1:=S.get
 have hsT:=bsegT b
 have hln:lenSlV (txsV b.tk b.txs)=some (.int .i64 b.txs.length):=rfl
 have hw:=S.was' (st0:=st) (by simp)
 by_cases c1:b.txs.length=0
 ·have e:blkE b=120:=by rw[blkE,if_pos (.inl c1)]
  have c1':((b.txs.length:Int)==0)=true:=by simp;exact List.length_eq_zero_iff.1 c1
  simp[St.seg,o1,hsT,hln,c1',e]
  exact⟨st1,sub_self _,hw⟩
 have b1:((b.txs.length:Int)==0)=false:=by simpa using c1
 by_cases c2:32<b.txs.length
 ·have e:blkE b=120:=by rw[blkE,if_pos (.inr c2)]
  have c2':32< (b.txs.length:Int):=by omega
  simp[St.seg,o1,hsT,hln,b1,c2',c2,e]
  exact⟨st1,sub_self _,hw⟩
 have c2':¬32< (b.txs.length:Int):=by omega
 have e0:blkE b=if txsE 0 b.txs≠0 then txsE 0 b.txs else if 8192< (blkB b).length then 2 else rootE b:=by rw[blkE,if_neg (by omega)]
 simp[St.seg,o1,hsT,hln,b1,c2',c2]
 refine vc_joinB (M:=fun env' st'=>txsE 0 b.txs=0∧(∀t∈b.txs,t.fine)∧Sep [pt i1 (.cells (eBlk b)),Was st] st') ?_ ?_
 ·refine vc_loopJ (fun c env' st'=>∃i:Nat,i≤b.txs.length∧c=b.txs.length-i∧env' 19=.int .i64 (i:Nat)∧txsE i (b.txs.drop i)=txsE 0 b.txs∧(∀t∈b.txs.take i,t.fine)∧Sep [pt i1 (.cells (eBlk b)),Was st] st') b.txs.length
    ⟨0,by omega,by omega,by simp,by simp,by simp,S⟩ ?_
  rintro J hJ c env' st6 hsame ⟨i,hi,rfl,h19,hgo,hfi,S⟩
  have g17:=(hsame.get 17 rfl).trans (by simp:_=txsV b.tk b.txs)
  have g18:=(hsame.get 18 rfl).trans (by simp:_=V.int .i64 (b.txs.length:Int))
  clear hsame
  by_cases hlt:i<b.txs.length
  ·obtain⟨r1,r2,r3,r4⟩:=(rd_txs b st6).row eTx_len hlt
   have htf:=hb b.txs[i] (List.getElem_mem hlt)
   rw[List.drop_eq_getElem_cons hlt,txsE]at hgo
   obtain⟨t,ht⟩: ∃t,t=b.txs[i]:=⟨_,rfl⟩
   rw[←ht]at r3 htf hgo
   have w1:IntKind.i64.wrap ((i:Int)+1)=(i:Int)+1:=wrap64 (by omega) (by omega)
   simp[g17,g18,h19,hlt,r1,r3]
   intro i4 h4
   have S:=S.new h4 (.cells [.sl .nil [] 0,.sl .nil [] 0])
   have hst:=store_pt (sz:=2) (o:=0) S.get (v:=.agg (eTx t)) (vs:=eTx t) rfl rfl (by simp)
   rw[show spliceV [V.sl .nil [] 0,V.sl .nil [] 0] 0 (eTx t)=eTx t from rfl]at hst
   have S:=S.set (.cells (eTx t))
   simp[hst]at S⊢
   generalize(st6.upd i4 (.cells (eTx t)))=st7 at S⊢
   have o4:=S.get
   have hi0:((i:Int)==0)=(i==0):=by
    rw[Bool.eq_iff_iff];simp
   simp[St.seg,o4,tsegAll,hi0]
   refine(spec249 ok.toOkCheck st7 t (i==0) htf.1 htf.2.1 htf.2.2).mono ?_
   rintro u st7 ⟨rfl,rfl⟩
   by_cases hz:txM t (i==0)=0
   ·rw[if_neg (by simpa using hz)]at hgo
    simp[hz,h19,w1]
    refine Round.mk (b.txs.length-(i+1)) _ (by omega) (sub_self _) (hJ _ _ _ ⟨i+1,by omega,rfl,by simp,hgo,?_,S.drop⟩)
    intro y hy
    rw[List.take_succ_eq_append_getElem hlt,←ht]at hy
    rcases List.mem_append.1 hy with hy | hy
    ·exact hfi y hy
    ·rw[List.mem_singleton.1 hy];exact txM_fine hz
   ·rw[if_pos hz]at hgo
    rw[←hgo,if_pos hz]at e0
    have hz':(txM t (i==0) != 0)=true:=by simpa using hz
    simp only[e0]
    simp[hz']
    exact⟨_,sub_self _,S.was' (st0:=st) (by simp)⟩
  ·have:i=b.txs.length:=by omega
   subst this
   rw[List.drop_length,txsE]at hgo
   rw[List.take_length]at hfi
   simp[g18,h19]
   exact⟨hgo.symm,hfi,S⟩
 ·rintro env' st3 hsame ⟨hno,hfi,S⟩
  have g1:=(hsame.get 1 rfl).trans (by simp:_=V.ptr (some (i1,0)))
  clear hsame
  rw[hno,if_neg (by simp)]at e0
  have o1:=S.get
  simp[g1,St.seg,o1,bsegAll0]
  refine(spec251 ok st3 b (by omega) hfi).mono ?_
  intro v st4 S1
  have S:=S1.ov S
  have hlv:=(Sep.rd e8_len (S.head fun h hh=>hh.sl)).len
  by_cases c3:8192< (blkB b).length
  ·have c3':8192< ((blkB b).length:Int):=by omega
   rw[if_pos c3]at e0
   simp[hlv,c3',c3,e0]
   exact⟨st4,sub_self _,S.was' (st0:=st) (by simp)⟩
  ·have c3':¬8192< ((blkB b).length:Int):=by omega
   rw[if_neg c3]at e0
   have o1:=S.mem (i:=i1) (o:=.cells (eBlk b)) (by simp)
   simp[hlv,c3',c3,g1,St.seg,o1,bsegAll0]
   refine(spec252 ok st4 b (by omega) fun t ht=>(hfi t ht).ok).mono ?_
   rintro u st5 ⟨rfl,hs5⟩
   simp[e0]
   exact⟨st5,sub_self _,sub_trans (S.was' (st0:=st) (by simp)) hs5⟩
end
abbrev Coin1:=Out1×Int
def eCoin (c:Coin1):List V:=eOut c.1++[.int .i64 c.2]
def vCoin (c:Coin1):V:=.agg (eCoin c)
theorem eCoin_len (c:Coin1):(eCoin c).length=34:=by simp[eCoin,eOut_len]
abbrev CM:=List (Pt×Coin1)
structure Hole (f:V→List V) (off:Nat):Prop where
 seg: ∀v,segOf (f v) off 1=some [v]
 spl: ∀v w,spliceV (f v) off [w]=f w
def SetL (o:Nat)(f:V→List V)(cm:CM):Option Nat→List Asn
 | none=>[pt o (.cells (f (.map none)))]
 | some m=>[pt o (.cells (f (.map (some m)))),pt m (.mp (encM kPt vCoin cm))]
def SetS (o:Nat)(f:V→List V)(cm:CM)(L:List Asn)(st:St):Prop:=∃mo,(mo=none→cm=[])∧Sep (SetL o f cm mo++L) st
theorem SetS.tail {o:Nat}{f:V→List V}{cm:CM}{L L':List Asn}{st:St}(h:SetS o f cm L st)(hL: ∀r,Sep L r→Sep L' r):SetS o f cm L' st:=by
 obtain⟨mo,h0,S⟩:=h
 refine⟨mo,h0,?_⟩
 cases mo with
 | none=>exact S.tail hL
 | some m=>exact S.tail fun r h=>h.tail hL
theorem SetS.new {o:Nat}{f:V→List V}{cm:CM}{L:List Asn}{st:St}(h:SetS o f cm L st){i:Nat}(hi:st i=none)(x:AObj):SetS o f cm (pt i x::L) (st.upd i x):=by
 obtain⟨mo,h0,S⟩:=h
 refine⟨mo,h0,?_⟩
 have S:=S.new hi x
 cases mo with
 | none=>exact S.swap
 | some m=>exact(S.pull 2).pull 2
def layHit (id:Id)(cm:CM):Nat→List Out1→Bool
 | _,[]=>false
 | j,_::l=>(lk (id,BitVec.ofNat 32 j) cm).isSome||layHit id cm (j+1) l
def layL (id:Id)(h:Int):Nat→List Out1→CM→CM
 | _,[],cm=>cm
 | j,o::l,cm=>layL id h (j+1) l (aSet (id,BitVec.ofNat 32 j) (o,h) cm)
def layM (t:Tx1)(h:Int)(cm:CM):Int×CM:=if layHit (txIdM t) cm 0 t.outs=true then(5,cm)else(0,layL (txIdM t) h 0 t.outs cm)
theorem wrap32 (i:Nat):V.int .u32 (IntKind.u32.wrap (i:Int))=w32 (BitVec.ofNat 32 i):=by
 rw[wrap_u32,BitVec.ofInt_natCast];rfl
theorem zPt:z33_1371=eId id0++[w32 0#32]:=rfl
theorem ptFill (id:Id)(x:W32):fillV z33_1371 [(0,32,.agg (eId id)),(32,1,w32 x)]=some (ePt (id,x)):=by
 simp[fillV,zPt,spliceV,eId_len,ePt,w32]
theorem coinFill (c:Coin1):fillV z34_7943 [(0,33,.agg (eOut c.1)),(33,1,.int .i64 c.2)]=some (eCoin c):=by
 have z:z34_7943=eOut ⟨0,id0⟩++[.int .i64 0]:=rfl
 simp[fillV,z,spliceV,eOut_len,eCoin]
def coin0:Coin1:=(⟨0,id0⟩,0)
theorem coin0_cells:z34_7943=eCoin coin0:=rfl
section
variable {P:Program} {F:Fn}
set_option maxHeartbeats 4000000 in
theorem spec258 (ok:OkCoins P F){st:St}{o off:Nat}{f:V→List V}(hf:Hole f off){cm:CM}{L:List Asn}(h0:SetS o f cm L st)(t:Tx1)(ht:t.ok 100)(h:Int):
  ACalls P (F 258) [.ptr (some (o,off)),.agg (eTx t),.int .i64 h] st fun v st'=>v=.int .i64 (layM t h cm).1∧SetS o f (layM t h cm).2 L st':=by
 have okt:=ok.toOkCheck2.toOkCheck.toOkTx
 refine shows_call ok.mixed ok.h258 (by simp[k258]) ?_
 simp only[k258]
 refine vc_cut (M:=fun env' st'=>env' 0=.ptr (some (o,off))∧env' 2=.int .i64 h∧∃i4,env' 4=.ptr (some (i4,0))∧SetS o f cm (pt i4 (.cells (eTx t))::L) st') ?_ ?_
 ·simp
  intro i4 h4
  simp
  exact h0.new h4 _
 rintro env1 st1 ⟨g0,g2,i4,g4,W⟩
 refine vc_cut (M:=fun env' st'=>env' 0=.ptr (some (o,off))∧env' 2=.int .i64 h∧env' 4=.ptr (some (i4,0))∧∃m,Sep (pt o (.cells (f (.map (some m))))::pt m (.mp (encM kPt vCoin cm))::pt i4 (.cells (eTx t))::L) st') ?_ ?_
 ·obtain⟨mo,hc,S⟩:=W
  have hsg:=hf.seg
  cases mo with
  | none=>
    have he:cm=[]:=hc rfl
    subst he
    have oo:=S.get
    simp[St.seg,oo,hsg,g0,eqK]
    intro m hm
    have S:=S.new hm (.mp [])
    have o2:=S.drop.get
    have hst:=store_pt (sz:=1) (o:=off) o2 (v:=.map (some m)) (vs:=[.map (some m)]) rfl rfl (by have:=hf.seg (.map none);simp[segOf]at this;omega)
    rw[hf.spl]at hst
    have S:=S.setAt (.cells (f (.map (some m)))) 1 rfl
    simp only[List.set_cons_succ,List.set_cons_zero]at S
    simp[hst,g0,g2,g4]
    exact⟨m,S.swap⟩
  | some m=>
    have oo:=S.get
    simp[St.seg,oo,hsg,g0,g2,g4,eqK]
    exact⟨m,S⟩
 rintro env2 st2 ⟨g0,g2,g4,m,S⟩
 have o4:=S.drop.drop.get
 simp[g4,St.seg,o4,tsegAll]
 refine(spec198 okt st2 t ht).mono ?_
 rintro v st3 ⟨rfl,rfl⟩
 simp
 intro i7 h7
 have S:=S.new h7 (.cells zR32_w80)
 have hst:=store_z32 S.get (txIdM t)
 have S:=S.set (.cells (eId (txIdM t)))
 simp[hst]at S⊢
 generalize st3.upd i7 (.cells (eId (txIdM t)))=st5 at S⊢
 have S:Sep (pt o (.cells (f (.map (some m))))::pt m (.mp (encM kPt vCoin cm))::pt i7 (.cells (eId (txIdM t)))::pt i4 (.cells (eTx t))::L) st5:=(S.pull 1).tail fun r h=>h.swap
 have o4:=S.drop.drop.drop.get
 have so:=tsegOuts t
 have lo:=outsV_len t
 have hsg:=hf.seg
 simp[g4,St.seg,o4,so,lo]
 refine vc_joinB (M:=fun env' st'=>layHit (txIdM t) cm 0 t.outs=false∧Sep (pt o (.cells (f (.map (some m))))::pt m (.mp (encM kPt vCoin cm))::pt i7 (.cells (eId (txIdM t)))::pt i4 (.cells (eTx t))::L) st') ?_ ?_
 ·refine vc_loopJ (fun c env' st'=>∃i:Nat,i≤t.outs.length∧c=t.outs.length-i∧env' 27=.int .i64 (i:Nat)∧layHit (txIdM t) cm i (t.outs.drop i)=layHit (txIdM t) cm 0 t.outs∧Sep (pt o (.cells (f (.map (some m))))::pt m (.mp (encM kPt vCoin cm))::pt i7 (.cells (eId (txIdM t)))::pt i4 (.cells (eTx t))::L) st') t.outs.length
    ⟨0,by omega,by omega,by simp,by simp,S⟩ ?_
  rintro J hJ c env' st4 hsame ⟨i,hi,rfl,h27,hgo,S⟩
  have g0:=(hsame.get 0 rfl).trans (by simp[g0]:_=V.ptr (some (o,off)))
  have g7:=(hsame.get 7 rfl).trans (by simp:_=V.ptr (some (i7,0)))
  have g26:=(hsame.get 26 rfl).trans (by simp:_=V.int .i64 (t.outs.length:Int))
  clear hsame
  have oo:=S.get
  have om:=S.drop.get
  have o7:=S.drop.drop.get
  by_cases hlt:i<t.outs.length
  ·rw[List.drop_eq_getElem_cons hlt,layHit]at hgo
   have w1:IntKind.i64.wrap ((i:Int)+1)=(i:Int)+1:=wrap64 (by omega) (by have:=ht.2.1;omega)
   have w2:=wrap32 i
   have hfl:=ptFill (txIdM t) (BitVec.ofNat 32 i)
   have hlk:=lookup_lk keyed_pt (ev:=vCoin) om (V.agg z34_7943) (txIdM t,BitVec.ofNat 32 i)
   have hz:(V.agg z34_7943)=vCoin coin0:=by rw[coin0_cells];rfl
   have hx:((lk (txIdM t,BitVec.ofNat 32 i) cm).map vCoin).getD (V.agg z34_7943)=vCoin ((lk (txIdM t,BitVec.ofNat 32 i) cm).getD coin0):=by
    rw[hz];cases lk (txIdM t,BitVec.ofNat 32 i) cm<;>rfl
   rw[hx]at hlk
   have s7:segOf (eId (txIdM t)) 0 32=some (eId (txIdM t)):=seg_of_drop (zs:=[]) (by simp) (eId_len _) (by omega)
   simp[g0,g7,g26,h27,hlt,St.seg,oo,hsg,o7,s7,w2,hfl]
   rw[show V.agg (ePt (txIdM t,BitVec.ofNat 32 i))=kPt (txIdM t,BitVec.ofNat 32 i)from rfl,hlk]
   simp
   intro i9 h9
   have S:=S.new h9 (.cells z34_7943)
   obtain⟨c9,hc9⟩: ∃c9,c9=(lk (txIdM t,BitVec.ofNat 32 i) cm).getD coin0:=⟨_,rfl⟩
   rw[←hc9]
   have hst:=store_pt (sz:=34) (o:=0) S.get (v:=vCoin c9) (vs:=eCoin c9) rfl (eCoin_len _) (by simp)
   rw[show spliceV z34_7943 0 (eCoin c9)=eCoin c9 by simp[spliceV,eCoin_len]]at hst
   have S:=S.set (.cells (eCoin c9))
   simp[hst]at S⊢
   generalize st4.upd i9 (.cells (eCoin c9))=st6 at S⊢
   have S:=S.drop
   cases hs:(lk (txIdM t,BitVec.ofNat 32 i) cm).isSome with
   | true=>
     rw[hs,Bool.true_or]at hgo
     have e:layM t h cm=(5,cm):=by rw[layM,if_pos hgo.symm]
     simp[e]
     exact⟨st6,sub_self _,some m,(fun e=>by cases e),S.tail fun r h=>h.tail fun r h=>h.drop.drop⟩
   | false=>
     rw[hs,Bool.false_or]at hgo
     simp[h27,w1]
     exact Round.mk (t.outs.length-(i+1)) _ (by omega) (sub_self _) (hJ _ _ _ ⟨i+1,by omega,rfl,by simp,hgo,S⟩)
  ·have:i=t.outs.length:=by omega
   subst this
   rw[List.drop_length,layHit]at hgo
   simp[g26,h27]
   exact⟨hgo.symm,S⟩
 rintro env3 st4 hsame ⟨hno,S⟩
 have e:layM t h cm=(0,layL (txIdM t) h 0 t.outs cm):=by rw[layM,if_neg (by rw[hno];decide)]
 have g0:=(hsame.get 0 rfl).trans (by simp[g0]:_=V.ptr (some (o,off)))
 have g2:=(hsame.get 2 rfl).trans (by simp[g2]:_=V.int .i64 h)
 have g4:=(hsame.get 4 rfl).trans (by simp[g4]:_=V.ptr (some (i4,0)))
 have g7:=(hsame.get 7 rfl).trans (by simp:_=V.ptr (some (i7,0)))
 clear hsame
 have o4:=S.drop.drop.drop.get
 simp[g4,St.seg,o4,so,lo]
 refine vc_joinB (M:=fun env' st'=>Sep (pt o (.cells (f (.map (some m))))::pt m (.mp (encM kPt vCoin (layL (txIdM t) h 0 t.outs cm)))::pt i7 (.cells (eId (txIdM t)))::pt i4 (.cells (eTx t))::L) st') ?_ ?_
 ·refine vc_loopJ (fun c env' st'=>∃(i:Nat) (cm':CM),i≤t.outs.length∧c=t.outs.length-i∧env' 47=.int .i64 (i:Nat)∧layL (txIdM t) h i (t.outs.drop i) cm'=layL (txIdM t) h 0 t.outs cm∧Sep (pt o (.cells (f (.map (some m))))::pt m (.mp (encM kPt vCoin cm'))::pt i7 (.cells (eId (txIdM t)))::pt i4 (.cells (eTx t))::L) st') t.outs.length
    ⟨0,cm,by omega,by omega,by simp,by simp,S⟩ ?_
  rintro J hJ c env' st5 hsame ⟨i,cm',hi,rfl,h47,hgo,S⟩
  have g0:=(hsame.get 0 rfl).trans (by simp[g0]:_=V.ptr (some (o,off)))
  have g2:=(hsame.get 2 rfl).trans (by simp[g2]:_=V.int .i64 h)
  have g7:=(hsame.get 7 rfl).trans (by simp[g7]:_=V.ptr (some (i7,0)))
  have g45:=(hsame.get 45 rfl).trans (by simp:_=outsV t)
  have g46:=(hsame.get 46 rfl).trans (by simp:_=V.int .i64 (t.outs.length:Int))
  clear hsame
  by_cases hlt:i<t.outs.length
  ·obtain⟨r1,r2,r3,r4⟩:=(rd_outs t st5).row eOut_len hlt
   rw[List.drop_eq_getElem_cons hlt,layL]at hgo
   obtain⟨x,hx⟩: ∃x,x=t.outs[i]:=⟨_,rfl⟩
   rw[←hx]at r3 hgo
   have w1:IntKind.i64.wrap ((i:Int)+1)=(i:Int)+1:=wrap64 (by omega) (by have:=ht.2.1;omega)
   have w2:=wrap32 i
   have hfl:=ptFill (txIdM t) (BitVec.ofNat 32 i)
   have hfc:=coinFill (x,h)
   have s7:segOf (eId (txIdM t)) 0 32=some (eId (txIdM t)):=seg_of_drop (zs:=[]) (by simp) (eId_len _) (by omega)
   simp[g45,g46,h47,hlt,r1,r3]
   intro i12 h12
   have S:=S.new h12 (.cells z33_0be4)
   have hst:=store_pt (sz:=33) (o:=0) S.get (v:=.agg (eOut x)) (vs:=eOut x) rfl (eOut_len _) (by simp)
   rw[show spliceV z33_0be4 0 (eOut x)=eOut x by simp[spliceV,eOut_len]]at hst
   have S:=S.set (.cells (eOut x))
   simp[hst]at S⊢
   generalize st5.upd i12 (.cells (eOut x))=st6 at S⊢
   have o12:=S.get
   have S:=S.drop
   have oo:=S.get
   have om:=S.drop.get
   have o7:=S.drop.drop.get
   have sx:segOf (eOut x) 0 33=some (eOut x):=seg_of_drop (zs:=[]) (by simp) (eOut_len _) (by omega)
   simp[g0,g2,g7,St.seg,oo,hsg,o7,s7,w2,hfl,o12,sx,hfc]
   have hms:=mset_enc keyed_pt (ev:=vCoin) om (txIdM t,BitVec.ofNat 32 i) (x,h)
   rw[show V.agg (ePt (txIdM t,BitVec.ofNat 32 i))=kPt (txIdM t,BitVec.ofNat 32 i)from rfl,show V.agg (eCoin (x,h))=vCoin (x,h)from rfl,hms]
   have S:=S.setAt (.mp (encM kPt vCoin (aSet (txIdM t,BitVec.ofNat 32 i) (x,h) cm'))) 1 rfl
   simp only[List.set_cons_succ,List.set_cons_zero]at S
   simp[h47,w1]
   exact Round.mk (t.outs.length-(i+1)) _ (by omega) (sub_self _) (hJ _ _ _ ⟨i+1,_,by omega,rfl,by simp,hgo,S⟩)
  ·have:i=t.outs.length:=by omega
   subst this
   rw[List.drop_length,layL]at hgo
   rw[hgo]at S
   simp[g46,h47]
   exact S
 rintro env4 st5 hsame S
 simp[e]
 exact⟨st5,sub_self _,some m,(fun e=>by cases e),S.tail fun r h=>h.tail fun r h=>h.drop.drop⟩
end
def lone (v:V):List V:=[v]
theorem lone_hole:Hole lone 0:=⟨fun _=>rfl,fun _ _=>rfl⟩
def undo0:V:=.agg [.sl .nil [] 0,.sl .nil [] 0]
def conn1 (t:Tx1)(h sub:Int)(cm:CM):Int×CM:=if(sumM t.outs).2=false∨0< (sumM t.outs).1-sub then(121,cm)else layM t h cm
theorem layM_err {t:Tx1}{h:Int}{cm:CM}:(layM t h cm).1=0∨(layM t h cm).1=5∧(layM t h cm).2=cm:=by
 unfold layM
 split
 ·exact .inr ⟨rfl,rfl⟩
 ·exact .inl rfl
theorem conn1_err {t:Tx1}{h sub:Int}{cm:CM}(hne:(conn1 t h sub cm).1≠0):(conn1 t h sub cm).2=cm:=by
 unfold conn1 at hne⊢
 split
 ·rfl
 ·rename_i hc
  rw[if_neg hc]at hne
  rcases layM_err (t:=t) (h:=h) (cm:=cm)with h1 | h1
  ·exact absurd h1 hne
  ·exact h1.2
theorem SetS.ext {o:Nat}{f:V→List V}{cm:CM}{L:List Asn}{st:St}(h:SetS o f cm L st){i:Nat}{x:AObj}(hm:pt i x∈L):st i=some x:=by
 obtain⟨mo,h0,S⟩:=h
 cases mo with
 | none=>exact S.mem (List.mem_append.2 (.inr hm))
 | some m=>exact S.mem (List.mem_append.2 (.inr hm))
theorem SetS.setL {o:Nat}{f:V→List V}{cm:CM}{L:List Asn}{st:St}{i:Nat}{x:AObj}(h:SetS o f cm (pt i x::L) st)(y:AObj):SetS o f cm (pt i y::L) (st.upd i y):=by
 obtain⟨mo,h0,S⟩:=h
 refine⟨mo,h0,?_⟩
 cases mo with
 | none=>exact S.setAt y 1 rfl
 | some m=>exact S.setAt y 2 rfl
theorem bury {o:Nat}{f:V→List V}{cm:CM}{mo:Option Nat}{A:Asn}{L:List Asn}{st:St}(S:Sep (A::(SetL o f cm mo++L)) st):Sep (SetL o f cm mo++A::L) st:=by
 cases mo with
 | none=>exact S.swap
 | some m=>exact(S.pull 2).pull 2
theorem bury2 {ic o:Nat}{g f:V→List V}{cm cm':CM}{mo mo2:Option Nat}{A:Asn}{L:List Asn}{st:St}(S:Sep (A::(SetL ic g cm' mo2++(SetL o f cm mo++L))) st):Sep (SetL ic g cm' mo2++(SetL o f cm mo++A::L)) st:=by
 have S:=bury S
 cases mo2 with
 | none=>exact S.tail fun r h=>bury h
 | some m=>exact S.tail fun r h=>h.tail fun r h=>bury h
theorem takeOver {ic o:Nat}{f:V→List V}{cm cm':CM}{mo mo2:Option Nat}{L:List Asn}{st:St}(S:Sep (SetL ic lone cm' mo2++(SetL o f cm mo++L)) st):
  st ic=some (.cells [.map mo2])∧st o=some (.cells (f (.map mo)))∧Sep (SetL o f cm' mo2++L) (st.upd o (.cells (f (.map mo2)))):=by
 cases mo2 with
 | none=>
   cases mo with
   | none=>exact⟨S.get,S.drop.get,S.drop.set _⟩
   | some m=>exact⟨S.get,S.drop.get,(S.drop.set _).tail fun r h=>h.drop⟩
 | some m2=>
   cases mo with
   | none=>exact⟨S.get,S.drop.drop.get,(S.drop.swap.set _).tail fun r h=>h⟩
   | some m=>exact⟨S.get,S.drop.drop.get,(S.drop.swap.set _).tail fun r h=>h.tail fun r h=>h.drop⟩
section
variable {P:Program} {F:Fn}
set_option maxHeartbeats 2000000 in
theorem spec255 (ok:OkCoins P F)(hc:CloneC P (F 256)){st:St}{o off:Nat}{f:V→List V}(hf:Hole f off){cm:CM}{mo:Option Nat}(h0:mo=none→cm=[]){L:List Asn}(S:Sep (SetL o f cm mo++L) st):
  ACalls P (F 255) [.ptr (some (o,off))] st fun v st'=>∃i,v=.ptr (some (i,0))∧SetS i lone cm (SetL o f cm mo++L) st':=by
 refine shows_call ok.mixed ok.h255 (by simp[k255]) ?_
 simp only[k255]
 have hsg:=hf.seg
 cases mo with
 | none=>
   have oo:=S.get
   simp[St.seg,oo,hsg]
   refine(hc.nil st).mono ?_
   rintro v st' ⟨rfl,rfl⟩
   simp[fillV,spliceV]
   intro i hi
   have S:=S.new hi (.cells [.map none])
   simp
   exact⟨_,sub_self _,none,fun _=>h0 rfl,S⟩
 | some m=>
   have oo:=S.get
   have om:=S.drop.get
   simp[St.seg,oo,hsg]
   refine(hc.some st m _ om).mono ?_
   rintro v st' ⟨n,rfl,hn,rfl⟩
   have S:=S.new hn (.mp (encM kPt vCoin cm))
   generalize st.upd n _=st2 at S⊢
   simp[fillV,spliceV]
   intro i hi
   have S:=S.new hi (.cells [.map (some n)])
   simp
   exact⟨_,sub_self _,some n,(fun e=>by cases e),S⟩
set_option maxHeartbeats 4000000 in
theorem spec259a (ok:OkCoins P F){st:St}{o off:Nat}{f:V→List V}(hf:Hole f off){cm:CM}{L:List Asn}(h0:SetS o f cm L st)(b:Blk1)(t:Tx1)(hb:b.txs=[t])(ht:t.ok 100)(h sub:Int)(hs1:-4611686018427387904≤sub)(hs2:sub≤4611686018427387904):
  ACalls P (F 259) [.ptr (some (o,off)),.agg (eBlk b),.int .i64 h,.int .i64 sub] st fun v st'=>v=.tup [undo0,.int .i64 (conn1 t h sub cm).1]∧SetS o f (conn1 t h sub cm).2 L st':=by
 have okc:=ok.toOkCheck2.toOkCheck
 refine shows_call ok.mixed ok.h259 (by simp[k259]) ?_
 simp only[k259]
 have hln:lenSlV (txsV b.tk b.txs)=some (.int .i64 1):=by rw[hb];rfl
 have hsT:=bsegT b
 simp
 intro i5 h5
 have W:=h0.new h5 (.cells (eBlk b))
 generalize st.upd i5 _=st1 at W⊢
 simp
 intro i8 h8
 have W:=W.new h8 (.cells [.sl .nil [] 0,.sl .nil [] 0])
 generalize st1.upd i8 _=st2 at W⊢
 simp
 intro i10 h10
 have W:=W.new h10 (.cells [.sl .nil [] 0,.sl .nil [] 0])
 generalize st2.upd i10 _=st3 at W⊢
 have o5:=W.ext (i:=i5) (x:=.cells (eBlk b)) (by simp)
 have ht0: ∀hx,b.txs[0]'hx=t:=fun hx=>by simp[hb]
 have hx0:0<b.txs.length:=by rw[hb];simp
 simp[St.seg,o5,hsT,hln]
 refine vc_joinB (M:=fun env' st'=>env' 11=.int .i64 0∧SetS o f cm (pt i10 (.cells [.sl .nil [] 0,.sl .nil [] 0])::pt i8 (.cells [.sl .nil [] 0,.sl .nil [] 0])::pt i5 (.cells (eBlk b))::L) st') ?_ ?_
 ·refine vc_loopJ (fun c env' st'=>∃i:Nat,i≤1∧c=1-i∧env' 24=.int .i64 (i:Nat)∧env' 11=.int .i64 0∧SetS o f cm (pt i10 (.cells [.sl .nil [] 0,.sl .nil [] 0])::pt i8 (.cells [.sl .nil [] 0,.sl .nil [] 0])::pt i5 (.cells (eBlk b))::L) st') 1
    ⟨0,by omega,by omega,by simp,by simp,W⟩ ?_
  rintro J hJ c env' st4 hsame ⟨i,hi,rfl,h24,h11,W⟩
  have g22:=(hsame.get 22 rfl).trans (by simp:_=txsV b.tk b.txs)
  have g23:=(hsame.get 23 rfl).trans (by simp:_=V.int .i64 1)
  clear hsame
  by_cases hlt:i<1
  ·have:i=0:=by omega
   subst this
   obtain⟨r1,r2,r3,r4⟩:=(rd_txs b st4).row eTx_len hx0
   rw[ht0]at r3
   simp at r1
   simp[g22,g23,h24,r1,r3]
   intro i13 h13
   have W:=W.new h13 (.cells [.sl .nil [] 0,.sl .nil [] 0])
   have o13:=W.ext (i:=i13) (x:=.cells [.sl .nil [] 0,.sl .nil [] 0]) (by simp)
   have hst:=store_pt (sz:=2) (o:=0) o13 (v:=.agg (eTx t)) (vs:=eTx t) rfl rfl (by simp)
   rw[show spliceV [V.sl .nil [] 0,V.sl .nil [] 0] 0 (eTx t)=eTx t from rfl]at hst
   have W:=W.setL (i:=i13) (.cells (eTx t))
   simp[hst,h24]at W⊢
   exact Round.mk 0 _ (by omega) (sub_self _) (hJ _ _ _ ⟨1,by omega,rfl,by simp,by simp[h11],W.tail fun r h=>h.drop⟩)
  ·have:i=1:=by omega
   subst this
   simp[g23,h24]
   exact⟨h11,W⟩
 rintro env1 st4 hsame ⟨g11,W⟩
 have g0:=(hsame.get 0 rfl).trans (by simp:_=V.ptr (some (o,off)))
 have g2:=(hsame.get 2 rfl).trans (by simp:_=V.int .i64 h)
 have g3:=(hsame.get 3 rfl).trans (by simp:_=V.int .i64 sub)
 have g5:=(hsame.get 5 rfl).trans (by simp:_=V.ptr (some (i5,0)))
 have g8:=(hsame.get 8 rfl).trans (by simp:_=V.ptr (some (i8,0)))
 have g10:=(hsame.get 10 rfl).trans (by simp:_=V.ptr (some (i10,0)))
 clear hsame
 have o5:=W.ext (i:=i5) (x:=.cells (eBlk b)) (by simp)
 have o8:=W.ext (i:=i8) (x:=.cells [.sl .nil [] 0,.sl .nil [] 0]) (by simp)
 have o10:=W.ext (i:=i10) (x:=.cells [.sl .nil [] 0,.sl .nil [] 0]) (by simp)
 obtain⟨r1,r2,r3,r4⟩:=(rd_txs b st4).row eTx_len hx0
 obtain⟨q1,q2⟩:=r4 1 1 (by omega)
 rw[ht0]at r3 q2
 simp at r1
 have q2':ldCells st4 1 (fldP 1 (rowP 2 (txsV b.tk b.txs) 0))=some [outsV t]:=q2
 have hu:segOf [V.sl .nil [] 0,V.sl .nil [] 0] 0 2=some [V.sl .nil [] 0,V.sl .nil [] 0]:=rfl
 simp[g5,g11,St.seg,o5,hsT,hln,r1,q1,q2']
 refine(spec250 okc st4 (rd_outs t st4) (by have:=ht.2.1;omega)).mono ?_
 rintro v st5 ⟨rfl,rfl⟩
 have hsr:=sumM_range t.outs
 have w1:IntKind.i64.wrap ((sumM t.outs).1-sub)=(sumM t.outs).1-sub:=wrap64 (by omega) (by omega)
 have hst8:=store_pt (sz:=2) (o:=0) o8 (v:=undo0) (vs:=[V.sl .nil [] 0,V.sl .nil [] 0]) rfl rfl (by simp)
 rw[show spliceV [V.sl .nil [] 0,V.sl .nil [] 0] 0 [V.sl .nil [] 0,V.sl .nil [] 0]=[V.sl .nil [] 0,V.sl .nil [] 0]from rfl]at hst8
 have hst8':st5.upd i8 (.cells [V.sl .nil [] 0,V.sl .nil [] 0])=st5:=funext fun j=>by
  by_cases ej:j=i8
  ·rw[ej,St.upd_same,o8]
  ·rw[St.upd_other _ _ ej]
 rw[hst8',undo0]at hst8
 simp
 cases hok:(sumM t.outs).2 with
 | false=>
   have e:conn1 t h sub cm=(121,cm):=by rw[conn1,if_pos (.inl hok)]
   simp[hok,g10,g8,St.seg,o10,o8,hu,hst8,e,undo0]
   exact⟨st5,sub_self _,W.tail fun r h=>h.drop.drop.drop⟩
 | true=>
   by_cases c1:0< (sumM t.outs).1-sub
   ·have e:conn1 t h sub cm=(121,cm):=by rw[conn1,if_pos (.inr c1)]
    have c2:sub< (sumM t.outs).1:=by omega
    simp[hok,g3,g11,w1,c2,g10,g8,St.seg,o10,o8,hu,hst8,e,undo0]
    exact⟨st5,sub_self _,W.tail fun r h=>h.drop.drop.drop⟩
   ·have e:conn1 t h sub cm=layM t h cm:=by rw[conn1,if_neg (by rw[hok];rintro(h | h);cases h;exact c1 h)]
    have c2:¬sub< (sumM t.outs).1:=by omega
    simp[hok,g3,g11,w1,c2]
    have W:=W.setL (.ro [V.sl .nil [] 0,V.sl .nil [] 0])
    simp[frzP,frzV,frzOb,frzL,frzH,g10,o10]
    generalize st5.upd i10 _=st6 at W⊢
    have o5:=W.ext (i:=i5) (x:=.cells (eBlk b)) (by simp)
    have o8:=W.ext (i:=i8) (x:=.cells [.sl .nil [] 0,.sl .nil [] 0]) (by simp)
    obtain⟨r1,r2,r3,r4⟩:=(rd_txs b st6).row eTx_len hx0
    rw[ht0]at r3
    simp at r1
    simp[hu,g0,g2,g5,St.seg,o5,hsT,r1,r3]
    refine(spec258 ok hf W t ht h).mono ?_
    rintro v st7 ⟨rfl,W⟩
    have o8:=W.ext (i:=i8) (x:=.cells [.sl .nil [] 0,.sl .nil [] 0]) (by simp)
    have hst8:=store_pt (sz:=2) (o:=0) o8 (v:=undo0) (vs:=[V.sl .nil [] 0,V.sl .nil [] 0]) rfl rfl (by simp)
    rw[show spliceV [V.sl .nil [] 0,V.sl .nil [] 0] 0 [V.sl .nil [] 0,V.sl .nil [] 0]=[V.sl .nil [] 0,V.sl .nil [] 0]from rfl]at hst8
    have hst8':st7.upd i8 (.cells [V.sl .nil [] 0,V.sl .nil [] 0])=st7:=funext fun j=>by
     by_cases ej:j=i8
     ·rw[ej,St.upd_same,o8]
     ·rw[St.upd_other _ _ ej]
    rw[hst8',undo0]at hst8
    simp[g8,hst8,St.seg,o8,hu,e,undo0]
    exact⟨st7,sub_self _,W.tail fun r h=>h.drop.drop.drop⟩
set_option maxHeartbeats 4000000 in
theorem spec260a (ok:OkCoins P F)(hc:CloneC P (F 256)){st:St}{o off:Nat}{f:V→List V}(hf:Hole f off){cm:CM}{L:List Asn}(h0:SetS o f cm L st)(b:Blk1)(t:Tx1)(hb:b.txs=[t])(ht:t.ok 100)(h sub:Int)(hs1:-4611686018427387904≤sub)(hs2:sub≤4611686018427387904):
  ACalls P (F 260) [.ptr (some (o,off)),.agg (eBlk b),.int .i64 h,.int .i64 sub] st fun v st'=>v=.tup [undo0,.int .i64 (conn1 t h sub cm).1]∧SetS o f (conn1 t h sub cm).2 L st':=by
 refine shows_call ok.mixed ok.h260 (by simp[k260]) ?_
 simp only[k260]
 simp
 intro i5 h5
 have W:=h0.new h5 (.cells (eBlk b))
 generalize st.upd i5 _=st1 at W⊢
 simp
 intro i8 h8
 have W:=W.new h8 (.cells [.sl .nil [] 0,.sl .nil [] 0])
 generalize st1.upd i8 _=st2 at W⊢
 obtain⟨mo,hmo,S⟩:=W
 simp
 refine(spec255 ok hc hf hmo S).mono ?_
 rintro v st3 ⟨ic,rfl,W⟩
 have o5:=W.ext (i:=i5) (x:=.cells (eBlk b)) (by cases mo<;>simp[SetL])
 have sb:=bsegAll b
 simp[St.seg,o5,sb]
 refine(spec259a ok lone_hole W b t hb ht h sub hs1 hs2).mono ?_
 rintro v st4 ⟨rfl,W⟩
 obtain⟨mo2,hmo2,S⟩:=W
 simp
 intro i11 h11
 have S:=S.new h11 (.cells [.sl .nil [] 0,.sl .nil [] 0])
 have hst:=store_pt (sz:=2) (o:=0) S.get (v:=undo0) (vs:=[V.sl .nil [] 0,V.sl .nil [] 0]) rfl rfl (by simp)
 rw[show spliceV [V.sl .nil [] 0,V.sl .nil [] 0] 0 [V.sl .nil [] 0,V.sl .nil [] 0]=[V.sl .nil [] 0,V.sl .nil [] 0]from rfl]at hst
 have hst8': ∀(s:St) (j:Nat),s j=some (.cells [V.sl .nil [] 0,V.sl .nil [] 0])→s.upd j (.cells [V.sl .nil [] 0,V.sl .nil [] 0])=s:=fun s j hj=>funext fun k=>by
  by_cases ej:k=j
  ·rw[ej,St.upd_same,hj]
  ·rw[St.upd_other _ _ ej]
 have o11:=S.get
 rw[hst8' _ _ o11]at hst
 simp[hst]
 generalize st4.upd i11 _=st5 at S o11⊢
 have hu:segOf [V.sl .nil [] 0,V.sl .nil [] 0] 0 2=some [V.sl .nil [] 0,V.sl .nil [] 0]:=rfl
 have hfl:fillV [V.sl .nil [] 0,V.sl .nil [] 0] []=some [V.sl .nil [] 0,V.sl .nil [] 0]:=rfl
 have S:=bury2 S
 have o8:st5 i8=some (.cells [V.sl .nil [] 0,V.sl .nil [] 0]):=S.mem (by cases mo<;>cases mo2<;>simp[SetL])
 have hst8:=store_pt (sz:=2) (o:=0) o8 (v:=undo0) (vs:=[V.sl .nil [] 0,V.sl .nil [] 0]) rfl rfl (by simp)
 rw[show spliceV [V.sl .nil [] 0,V.sl .nil [] 0] 0 [V.sl .nil [] 0,V.sl .nil [] 0]=[V.sl .nil [] 0,V.sl .nil [] 0]from rfl,hst8' _ _ o8,undo0]at hst8
 by_cases he:(conn1 t h sub cm).1=0
 ·have hb':((conn1 t h sub cm).1 != 0)=false:=by rw[he];rfl
  obtain⟨t1,t2,t3⟩:=takeOver (L:=pt i11 (.cells [V.sl .nil [] 0,V.sl .nil [] 0])::pt i8 (.cells [V.sl .nil [] 0,V.sl .nil [] 0])::pt i5 (.cells (eBlk b))::L) S
  have hsg:segOf [V.map mo2] 0 1=some [.map mo2]:=rfl
  have hsto:=store_pt (sz:=1) (o:=off) t2 (v:=.map mo2) (vs:=[.map mo2]) rfl rfl (by have:=hf.seg (.map mo);simp[segOf]at this;omega)
  rw[hf.spl]at hsto
  have W:SetS o f (conn1 t h sub cm).2 (pt i11 (.cells [V.sl .nil [] 0,V.sl .nil [] 0])::pt i8 (.cells [V.sl .nil [] 0,V.sl .nil [] 0])::pt i5 (.cells (eBlk b))::L) (st5.upd o (.cells (f (.map mo2)))):=⟨mo2,hmo2,t3⟩
  obtain⟨st6,hst6⟩: ∃s,s=st5.upd o (.cells (f (.map mo2))):=⟨_,rfl⟩
  rw[←hst6]at hsto W
  simp[hb',St.seg,t1,lone,hsg,hsto]
  have o11:=W.ext (i:=i11) (x:=.cells [.sl .nil [] 0,.sl .nil [] 0]) (by simp)
  have o8:=W.ext (i:=i8) (x:=.cells [.sl .nil [] 0,.sl .nil [] 0]) (by simp)
  have hst8:=store_pt (sz:=2) (o:=0) o8 (v:=undo0) (vs:=[V.sl .nil [] 0,V.sl .nil [] 0]) rfl rfl (by simp)
  rw[show spliceV [V.sl .nil [] 0,V.sl .nil [] 0] 0 [V.sl .nil [] 0,V.sl .nil [] 0]=[V.sl .nil [] 0,V.sl .nil [] 0]from rfl,hst8' _ _ o8,undo0]at hst8
  simp[o11,hu,hst8,St.seg,o8,undo0,he]
  exact⟨st6,sub_self _,W.tail fun r h=>h.drop.drop.drop⟩
 ·have hb':((conn1 t h sub cm).1 != 0)=true:=by simpa using he
  rw[conn1_err he]at S⊢
  simp[hb',he,hfl,hst8,St.seg,o8,hu,undo0]
  exact⟨st5,sub_self _,mo,hmo,by
   have S2:Sep (SetL o f cm mo++L) st5:=by
    cases mo2 with
    | none=>
      cases mo with
      | none=>exact S.drop.tail fun r h=>h.drop.drop.drop
      | some m=>exact S.drop.tail fun r h=>h.tail fun r h=>h.drop.drop.drop
    | some m2=>
      cases mo with
      | none=>exact S.drop.drop.tail fun r h=>h.drop.drop.drop
      | some m=>exact S.drop.drop.tail fun r h=>h.tail fun r h=>h.drop.drop.drop
   exact S2⟩
end
section
variable {P:Program} {F:Fn}
theorem spec160 (ok:OkIndexZ P F){st:St}{tid:Nat}{r:Rl}{l:List Nd}(h:TreeR tid r l st):ACalls P (F 160) [.ptr (some (tid,0))] st fun v st'=>v=.agg (eRl r)∧st'=st:=by
 obtain⟨sid,mid,spare,es,h⟩:=h
 refine shows_call ok.mixed ok.h160 (by simp[k160]) ?_
 simp only[k160]
 simp
 intro i2 h2
 have hz:z74_2f53.length=74:=rfl
 have hsp:spliceV z74_2f53 0 (eRl r)=eRl r:=by simp[spliceV,eRl_len,hz]
 have h':=h.sub (sub_upd (o:=.cells z74_2f53) h2)
 have o1:=h'.top
 have hall:segOf (eRl r) 0 74=some (eRl r):=by
  unfold segOf
  rw[if_pos (by rw[eRl_len];omega),List.drop_zero,←eRl_len r,List.take_length]
 have hst:storeS (st.upd i2 (.cells z74_2f53)) 74 (.ptr (some (i2,0))) (.agg (eRl r))=some (st.upd i2 (.cells (eRl r))):=by
  simp[storeS,eRl_len,hsp,hz]
 generalize hst1:st.upd i2 (.cells z74_2f53)=st1 at h' hst o1⊢
 have hsub: ∀x,St.sub st (st.upd i2 (.cells x)):=fun x=>sub_upd h2
 simp[St.seg,o1,tree_seg0,hst,hall,hsub]
theorem spec162 (ok:OkIndexZ P F){st:St}{tid:Nat}{r:Rl}{l:List Nd}(h:TreeR tid r l st)(k:Id):ACalls P (F 162) [.ptr (some (tid,0)),.agg (eId k)] st fun v st'=>v=.tup [.int .i64 (((findM l k).getD 0:Nat):Int),.bool (findM l k).isSome]∧st'=st:=by
 obtain⟨sid,mid,spare,es,h⟩:=h
 refine shows_call ok.mixed ok.h162 (by simp[k162]) ?_
 simp only[k162]
 simp
 intro i3 h3
 have S:=(Sep.start st).new h3 (.cells (eId k))
 generalize st.upd i3 _=st1 at S⊢
 have hs:St.sub st st1:=S.was' (by simp)
 have h:=h.sub hs
 have o3:=S.mem (i:=i3) (o:=.cells (eId k)) (by simp)
 have hk:segOf (eId k) 0 32=some (eId k):=by
  unfold segOf
  rw[if_pos (by rw[eId_len];omega),List.drop_zero,←eId_len k,List.take_length]
 have hl:=lookup_lk keyed_id (ev:=kInt) h.by_ (.int .i64 0) k
 rw[h.look]at hl
 simp only[kId]at hl
 simp[St.seg,h.top,tree_seg75,o3,hk,hl]
 cases e:findM l k<;>simp[kInt,hs]
end
structure Undo1 where
 pk:SK
 ps:List Pt
 ck:SK
 cs:List Coin1
def vUndo (u:Undo1):V:=.agg [.sl u.pk (rowsOf ePt u.ps) u.ps.length,.sl u.ck (rowsOf eCoin u.cs) u.cs.length]
def vBlk (b:Blk1):V:=.agg (eBlk b)
def chF (tid bid uid:Nat)(tip:Int)(v:V):List V:=[.ptr (some (tid,0)),v,.map (some bid),.map (some uid),.int .i64 tip]
theorem ch_hole (tid bid uid:Nat)(tip:Int):Hole (chF tid bid uid tip) 1:=⟨fun _=>rfl,fun _ _=>rfl⟩
abbrev Bods:=List (Int×Blk1)
abbrev Unds:=List (Int×Undo1)
structure Ch where
 r:Rl
 l:List Nd
 cm:CM
 bs:Bods
 us:Unds
 tip:Int
def ChL (c:Ch)(tid bid uid:Nat):List Asn:=[TreeS tid c.r c.l,pt bid (.mp (encM kInt vBlk c.bs)),pt uid (.mp (encM kInt vUndo c.us))]
def ChS (cid:Nat)(c:Ch)(L:List Asn)(st:St):Prop:=∃tid bid uid,SetS cid (chF tid bid uid c.tip) c.cm (ChL c tid bid uid++L) st
structure ChR (cid:Nat) (c:Ch) (st:St) (mo:Option Nat) (tid bid uid:Nat):Prop where
 top:st cid=some (.cells (chF tid bid uid c.tip (.map mo)))
 tree:c.l≠[]→TreeR tid c.r c.l st
 bod:st bid=some (.mp (encM kInt vBlk c.bs))
 und:st uid=some (.mp (encM kInt vUndo c.us))
theorem ChS.read {cid:Nat}{c:Ch}{L:List Asn}{st:St}(h:ChS cid c L st): ∃mo tid bid uid,ChR cid c st mo tid bid uid:=by
 obtain⟨tid,bid,uid,mo,h0,S⟩:=h
 refine⟨mo,tid,bid,uid,?_⟩
 cases mo with
 | none=>exact⟨S.get,fun hl=>S.drop.treeR hl,S.drop.drop.get,S.drop.drop.drop.get⟩
 | some m=>exact⟨S.get,fun hl=>S.drop.drop.treeR hl,S.drop.drop.drop.get,S.drop.drop.drop.drop.get⟩
theorem ChR.sub {cid:Nat}{c:Ch}{st st':St}{mo:Option Nat}{tid bid uid:Nat}(h:ChR cid c st mo tid bid uid)(hs:St.sub st st'):ChR cid c st' mo tid bid uid:=
 ⟨hs _ _ h.top,fun hl=>(h.tree hl).sub hs,hs _ _ h.bod,hs _ _ h.und⟩
theorem rsegBlk (r:Rl):segOf (eRl r) 5 69=some (eHdr r.gen++[r.txs]):=by
 refine rseg r ?_ (by omega)
 show(eHdr r.gen++[r.txs]).take 69=_
 rw[List.take_of_length_le]
 simp[eHdr_len]
section
variable {P:Program} {F:Fn}
set_option maxHeartbeats 4000000 in
theorem spec265a (ok:OkChain P F)(hc:CloneC P (F 256))(st:St)(r:Rl)(b:Blk1)(t:Tx1)(hh:b.hdr=r.gen)(hx:r.txs=txsV b.tk b.txs)(hb:b.txs=[t])(ht:t.ok 100)
  (e1:checkM r=0) (e2:blkE b=0) (e3:(conn1 t 0 r.subsidy []).1=0):
  ACalls P (F 265) [.agg (eRl r)] st fun v st'=>∃c,v=.tup [.ptr (some (c,0)),.int .i64 0]∧ChS c ⟨r,newM r,(conn1 t 0 r.subsidy []).2,[(0,b)],[],0⟩ [Was st] st':=by
 have okc2:=ok.toOkCoins.toOkCheck2
 have oki:=ok.toOkLocate.toOkIndexZ.toOkIndex
 have hsub:-4611686018427387904≤r.subsidy∧r.subsidy≤4611686018427387904:=by
  unfold checkM at e1
  split at e1
  ·cases e1
  ·split at e1
   ·cases e1
   ·omega
 have hblk:eHdr r.gen++[r.txs]=eBlk b:=by rw[eBlk,hh,hx]
 refine shows_call ok.mixed ok.h265 (by simp[k265]) ?_
 simp only[k265]
 simp
 intro i1 h1
 have S:=(Sep.start st).new h1 (.cells (eRl r))
 generalize st.upd i1 _=st1 at S⊢
 have o1:=S.get
 simp[St.seg,o1,rsegAll]
 refine(spec155 oki st1 r).mono ?_
 intro v st2 hv
 rw[if_pos e1]at hv
 obtain⟨tid,rfl,S2⟩:=hv
 have S:=S2.ov S
 have o1:=S.drop.get
 have s5:=rsegBlk r
 rw[hblk]at s5
 simp[St.seg,o1,s5]
 refine(spec253 okc2 st2 b (by rw[hb];simp) (by rw[hb];intro u hu;rw[List.mem_singleton.1 hu];exact⟨by have:=ht.1;omega,by have:=ht.2.1;omega,fun x hx=>by have:=ht.2.2 x hx;omega⟩)).mono ?_
 rintro v st3 ⟨rfl,hs⟩
 have S:=S.sub hs
 simp[e2]
 intro bid hbid
 have S:=S.new hbid (.mp [])
 have hms:=mset_enc keyed_int (ev:=vBlk) (l:=[]) S.get 0 b
 have o1:=S.drop.drop.get
 have S:=S.set (.mp (encM kInt vBlk [(0,b)]))
 have hms':msetS (st3.upd bid (.mp [])) .int (.map (some bid)) (.int .i64 0) (.agg (eBlk b))=some (st3.upd bid (.mp (encM kInt vBlk [(0,b)]))):=by
  rw[show st3.upd bid (.mp (encM kInt vBlk [(0,b)]))=(st3.upd bid (.mp [])).upd bid (.mp (encM kInt vBlk [(0,b)])) by simp]
  exact hms
 simp at S o1
 simp[St.seg,o1,s5,hms']
 generalize st3.upd bid (.mp (encM kInt vBlk [(0,b)]))=st4 at S⊢
 intro uid huid
 have S:=S.new huid (.mp [])
 generalize st4.upd uid (.mp [])=st5 at S⊢
 simp[fillV,spliceV]
 intro cid hcid
 have S:=S.new hcid (.cells (chF tid bid uid 0 (.map none)))
 simp[chF]at S⊢
 generalize st5.upd cid _=st6 at S⊢
 have W:SetS cid (chF tid bid uid 0) [] ([pt uid (.mp []),pt bid (.mp (encM kInt vBlk [(0,b)])),TreeS tid r (newM r),pt i1 (.cells (eRl r)),Was st]) st6:=⟨none,fun _=>rfl,S⟩
 have o1:=W.ext (i:=i1) (x:=.cells (eRl r)) (by simp)
 have s3:=rsegSubsidy r
 simp[St.seg,o1,s5,s3]
 refine(spec260a ok.toOkCoins hc (ch_hole tid bid uid 0) W b t hb ht 0 r.subsidy hsub.1 hsub.2).mono ?_
 rintro v st7 ⟨rfl,W⟩
 simp
 intro i8 h8
 have W:=W.new h8 (.cells [.sl .nil [] 0,.sl .nil [] 0])
 have hst:=store_pt (sz:=2) (o:=0) (W.ext (i:=i8) (x:=.cells [.sl .nil [] 0,.sl .nil [] 0]) (by simp)) (v:=undo0) (vs:=[V.sl .nil [] 0,V.sl .nil [] 0]) rfl rfl (by simp)
 rw[show spliceV [V.sl .nil [] 0,V.sl .nil [] 0] 0 [V.sl .nil [] 0,V.sl .nil [] 0]=[V.sl .nil [] 0,V.sl .nil [] 0]from rfl]at hst
 simp at hst
 simp[hst,e3]
 refine⟨_,sub_self _,tid,bid,uid,W.tail fun r' h=>?_⟩
 have h:=h.drop
 have h:Sep ([TreeS tid r (newM r),pt bid (.mp (encM kInt vBlk [(0,b)])),pt uid (.mp []),pt i1 (.cells (eRl r)),Was st]) r':=(h.pull 2).tail fun r h=>h.swap
 exact h.tail fun r h=>h.tail fun r h=>h.tail fun r h=>h.drop
end
section
variable {P:Program} {F:Fn}
variable {cid tid bid uid:Nat} {c:Ch} {mo:Option Nat}
theorem cseg0 (tid bid uid:Nat)(tip:Int)(v:V):segOf (chF tid bid uid tip v) 0 1=some [.ptr (some (tid,0))]:=rfl
theorem cseg2 (tid bid uid:Nat)(tip:Int)(v:V):segOf (chF tid bid uid tip v) 2 1=some [.map (some bid)]:=rfl
theorem cseg3 (tid bid uid:Nat)(tip:Int)(v:V):segOf (chF tid bid uid tip v) 3 1=some [.map (some uid)]:=rfl
theorem cseg4 (tid bid uid:Nat)(tip:Int)(v:V):segOf (chF tid bid uid tip v) 4 1=some [.int .i64 tip]:=rfl
theorem spec266 (ok:OkChain P F){st:St}(h:ChR cid c st mo tid bid uid):ACalls P (F 266) [.ptr (some (cid,0))] st fun v st'=>v=.int .i64 c.tip∧st'=st:=by
 refine shows_call ok.mixed ok.h266 (by simp[k266]) ?_
 simp only[k266]
 simp[St.seg,h.top,cseg4]
theorem nseg107 (x:Nd):segOf (eNd x) 107 1=some [.bool x.failed]:=seg_of_take (nsegFail x) (by rw[eNd_len];omega)
def hasM (c:Ch)(i:Int):Bool:=(lk i c.bs).isSome
theorem spec268 (ok:OkChain P F){st:St}(h:ChR cid c st mo tid bid uid)(i:Int):ACalls P (F 268) [.ptr (some (cid,0)),.int .i64 i] st fun v st'=>v=.bool (hasM c i)∧st'=st:=by
 refine shows_call ok.mixed ok.h268 (by simp[k268]) ?_
 simp only[k268]
 have hl:=lookup_lk keyed_int (ev:=vBlk) h.bod (V.agg z69_adc1) i
 obtain⟨ys,hys,hlen⟩: ∃ys,((lk i c.bs).map vBlk).getD (V.agg z69_adc1)=.agg ys∧ys.length=69:=by
  cases lk i c.bs with
  | none=>exact⟨_,rfl,rfl⟩
  | some b=>exact⟨_,rfl,eBlk_len b⟩
 rw[hys]at hl
 have hl:lookupV st .int (V.agg z69_adc1) true (.map (some bid)) (.int .i64 i)=some (.tup [.agg ys,.bool (hasM c i)]):=hl
 simp[St.seg,h.top,cseg2,hl]
 intro i5 h5
 have hst:=store_pt (sz:=69) (o:=0) (St.upd_same st i5 (.cells z69_adc1)) (v:=.agg ys) (vs:=ys) rfl hlen (by simp)
 simp[hst]
 exact sub_upd h5
def bestGo (l:List Nd):List Nat→Nat→Nat
 | [],b=>b
 | i::r,b=>bestGo l r (if(nd l i).failed=false∧0<cmpU (natU (nd l i).work) (natU (nd l b).work)then i else b)
def bestM (l:List Nd):Nat:=bestGo l (List.range' 0 l.length) 0
theorem inI_nat {l:List Nd}{i:Nat}(h:i<l.length):inI l (i:Int)=i:=by
 unfold inI
 rw[if_neg (by omega)]
 omega
set_option maxHeartbeats 4000000 in
theorem spec272 (ok:OkChain P F){st:St}(h:ChR cid c st mo tid bid uid)(w:Wf c.l)(hl:c.l.length≤16384):ACalls P (F 272) [.ptr (some (cid,0))] st fun v st'=>v=.int .i64 (bestM c.l:Nat)∧st'=st:=by
 have oki:=ok.toOkLocate.toOkIndexZ.toOkIndex
 have okn:=oki.toOkHead.toOkNum
 refine shows_call ok.mixed ok.h272 (by simp[k272]) ?_
 simp only[k272]
 have T:=h.tree w.neNil
 have o1:=h.top
 simp[St.seg,o1,cseg0]
 refine(spec159 oki T).mono ?_
 rintro v st1 ⟨rfl,rfl⟩
 simp
 refine vc_joinB (M:=fun env' st'=>env' 3=.int .i64 (bestM c.l:Nat)∧St.sub st1 st') ?_ ?_
 ·refine vc_loopJ (fun n env' st'=>∃i b:Nat,i≤c.l.length∧b<c.l.length∧n=c.l.length-i∧env' 11=.int .i64 (i:Nat)∧env' 3=.int .i64 (b:Nat)∧bestGo c.l (List.range' i (c.l.length-i)) b=bestM c.l∧St.sub st1 st') c.l.length
    ⟨0,0,by omega,w.ne,by omega,by simp,by simp,rfl,sub_self _⟩ ?_
  rintro J hJ n env' st2 hsame ⟨i,b,hi,hb,rfl,h11,h3,hgo,hs⟩
  have g0:=(hsame.get 0 rfl).trans (by simp:_=V.ptr (some (cid,0)))
  have g10:=(hsame.get 10 rfl).trans (by simp:_=V.int .i64 (c.l.length:Int))
  clear hsame
  by_cases hlt:i<c.l.length
  ·rw[show c.l.length-i=(c.l.length-(i+1))+1 by omega,List.range'_succ,bestGo]at hgo
   have w1:IntKind.i64.wrap ((i:Int)+1)=(i:Int)+1:=wrap64 (by omega) (by omega)
   have o1:=hs _ _ o1
   have T:=T.sub hs
   simp[g0,g10,h11,hlt,St.seg,o1,cseg0]
   refine(spec161 oki T w i).mono ?_
   rintro v st3 ⟨rfl,rfl⟩
   rw[inI_nat hlt]
   simp
   intro i5 h5
   have hz:z108_9b14.length=108:=rfl
   have hst:=store_pt (sz:=108) (o:=0) (St.upd_same st3 i5 (.cells z108_9b14)) (v:=.agg (eNd (nd c.l i))) (vs:=eNd (nd c.l i)) rfl (eNd_len _) (by rw[hz];omega)
   rw[show spliceV z108_9b14 0 (eNd (nd c.l i))=eNd (nd c.l i) by simp[spliceV,eNd_len,hz]]at hst
   simp at hst
   have hs3:=sub_upd (o:=.cells (eNd (nd c.l i))) h5
   have o5:=St.upd_same st3 i5 (.cells (eNd (nd c.l i)))
   obtain⟨st4,hst4⟩: ∃s,s=st3.upd i5 (.cells (eNd (nd c.l i))):=⟨_,rfl⟩
   rw[←hst4]at hst hs3 o5
   have o1:=hs3 _ _ o1
   have T:=T.sub hs3
   have hf:=nseg107 (nd c.l i)
   simp[hst,St.seg,o5,hf]
   cases hfl:(nd c.l i).failed with
   | true=>
     rw[if_neg (by rw[hfl];rintro⟨h,-⟩;cases h)]at hgo
     simp[hfl,h11,w1]
     exact Round.mk (c.l.length-(i+1)) _ (by omega) (sub_self _) (hJ _ _ _ ⟨i+1,b,by omega,hb,rfl,by simp,by simp[h3],hgo,sub_trans hs hs3⟩)
   | false=>
     have hw:=osegWork (nd c.l i)
     have hwb:=osegWork (nd c.l b)
     have ew: ∀x,V.agg (eU x)=nU x:=fun x=>rfl
     simp[hfl,g0,h3,o1,cseg0,St.seg,o5,hw]
     refine still_call _ _ _ _ (by simpa using spec161 oki T w b) ?_
     rw[inI_nat hb]
     have hfw:fldV true 103 4 (V.agg (eNd (nd c.l b)))=some (nU (natU (nd c.l b).work)):=by
      show(segOf _ 103 4).bind (packV true)=_
      rw[hwb];rfl
     simp[hfw,ew]
     refine still_call _ _ _ _ (by simpa[ew]using spec106 okn st4 (natU (nd c.l i).work) (natU (nd c.l b).work)) ?_
     by_cases hc:0<cmpU (natU (nd c.l i).work) (natU (nd c.l b).work)
     ·rw[if_pos ⟨hfl,hc⟩]at hgo
      simp[hc,h11,w1]
      exact Round.mk (c.l.length-(i+1)) _ (by omega) (sub_self _) (hJ _ _ _ ⟨i+1,i,by omega,hlt,rfl,by simp,by simp,hgo,sub_trans hs hs3⟩)
     ·rw[if_neg (fun h=>hc h.2)]at hgo
      simp[hc,h11,w1]
      exact Round.mk (c.l.length-(i+1)) _ (by omega) (sub_self _) (hJ _ _ _ ⟨i+1,b,by omega,hb,rfl,by simp,by simp[h3],hgo,sub_trans hs hs3⟩)
  ·have:i=c.l.length:=by omega
   subst this
   rw[Nat.sub_self]at hgo
   have hgo:b=bestM c.l:=hgo
   simp[g10,h11]
   exact⟨by rw[h3,hgo],hs⟩
 ·rintro env' st2 hsame ⟨h3,hs⟩
  simp[h3]
  exact hs
end
def kindOf {α:Type}(l:List α):SK:=if l=[]then .nil else .some
def cloneI (x:In1):In1:=⟨x.tx,x.ix,if x.key.length=0 then .full else .some,x.key⟩
def cloneT (t:Tx1):Tx1:=⟨kindOf (t.ins.map cloneI),t.ins.map cloneI,kindOf t.outs,t.outs⟩
def cloneB (b:Blk1):Blk1:=⟨b.hdr,kindOf (b.txs.map cloneT),b.txs.map cloneT⟩
theorem frzH_plain {st:St}{v:V}(h: ∀id off sz n,v≠.hsl id off sz n):frzH st v=some (v,st):=by
 cases v<;>first | rfl | exact absurd rfl (h _ _ _ _)
theorem frzL_app {st:St}: ∀(vs ws:List V),(∀v∈vs,∀id off sz n,v≠.hsl id off sz n)→frzL st (vs++ws)=(frzL st ws).map fun q=>(vs++q.1,q.2)
 | [],ws,_=>by cases h:frzL st ws<;>simp[h]
 | v::vs,ws,h=>by
   rw[List.cons_append,frzL,frzH_plain (h v (by simp)),Option.bind_some,frzL_app vs ws fun x hx=>h x (by simp[hx])]
   cases frzL st ws<;>rfl
theorem eHdr_plain (h:Hdr): ∀v∈eHdr h,∀id off sz n,v≠.hsl id off sz n:=by
 intro v hv id off sz n e
 subst e
 simp[eHdr,eId,w32]at hv
theorem Sep.frzHx {α:Type}{f:α→List V}{sz:Nat}(hf: ∀a,(f a).length=sz){s:V}{l:List α}{L:List Asn}{st:St}(h:Sep (Slx sz f s l::L) st)(hnil:l=[]→s=.sl .nil [] 0):
  ∃st',frzH st s=some (.sl (kindOf l) (rowsOf f l) l.length,st')∧Sep L st':=by
 by_cases hl:l=[]
 ·subst hl
  rw[hnil rfl]
  exact⟨st,rfl,h.drop⟩
 ·obtain⟨k,st',h1,h2,h3⟩:=Sep.frzSl hf (h.head fun h hh=>hh.sl)
  have hk:=h3 hl
  subst hk
  obtain⟨a0,r,q1,q2,q3,q4⟩:=h
  rcases q3 with⟨-,q3⟩ | ⟨sid,rfl,-⟩
  ·exact absurd q3 hl
  ·refine⟨st',?_,h2⟩
   rw[kindOf,if_neg hl]
   exact h1
theorem Sep.slxCells {α:Type}{f:α→List V}{sz:Nat}{s:V}{l:List α}{L:List Asn}{st:St}(h:Sep (Slx sz f s l::L) st):s.cells? =some [s]:=by
 obtain⟨a0,r,h1,h2,h3,h4⟩:=h
 rcases h3 with⟨rfl | rfl,-⟩ | ⟨sid,rfl,-⟩<;>rfl
theorem Sep.appx0 {α:Type}{f:α→List V}{sz:Nat}(hf: ∀a,(f a).length=sz)(hsz:0<sz){L:List Asn}{st:St}(h:Sep L st){b:Nat}(m:List α){ys:List V}{n:Nat}(hys:ys=rowsOf f m)(hn:n=m.length)(hb:n*b≤140737488355328){K:V→St→Prop}
  (hK: ∀s' st',(m=[]→s'=.sl .nil [] 0)→Sep (Slx sz f s' m::L) st'→K s' st'):appS sz b (.sl .nil [] 0) (some (ys,n)) st K:=by
 subst hys hn
 by_cases hm:m=[]
 ·subst hm
  exact⟨.inl rfl,by simp,by simp,fun _=>hK _ _ (fun _=>rfl) h.slxNil,fun e=>absurd rfl e⟩
 ·refine Sep.appx hf hsz (l:=[]) h.slxNil (m:=m) (by simpa using hb) fun s' st' S=>hK _ _ (fun e=>absurd e hm) ?_
  simpa using S
theorem appn_full {sz b:Nat}{ys:List V}{m:Nat}{K:V→Prop}(h0:m=0→ys=[])(hb:m*b≤140737488355328)(h:K (.sl (if m=0 then .full else .some) ys m)):appnS sz b (.sl .full [] 0) (some (ys,m)) K:=by
 refine⟨.inr rfl,by simp,by simpa using hb,fun e=>?_,fun e=>?_⟩
 ·rw[if_pos e,h0 e,e]at h
  exact h
 ·rw[if_neg e]at h
  simpa using h
section
variable {P:Program} {F:Fn}
set_option maxHeartbeats 8000000 in
theorem spec271 (ok:OkChain P F)(st:St)(b:Blk1)(hl:b.txs.length≤1000)(hk: ∀t∈b.txs,t.ok 100):
  ACalls P (F 271) [.agg (eBlk b)] st fun v st'=>v=vBlk (cloneB b)∧st'=st:=by
 refine shows_call ok.mixed ok.h271 (by simp[k271]) ?_
 simp only[k271]
 have hsT:=bsegT b
 have hsH:=bsegH b
 have z69:fillV z69_adc1 [(0,68,.agg (eHdr b.hdr))]=some (eHdr b.hdr++[.sl .nil [] 0]):=by
  have z:z69_adc1=eHdr hdr0++[.sl .nil [] 0]:=rfl
  simp[fillV,z,spliceV,eHdr_len]
 simp
 intro i1 h1
 have S:=(Sep.start st).new h1 (.cells (eBlk b))
 generalize st.upd i1 _=st1 at S⊢
 simp
 intro i2 h2
 have S:=S.new h2 (.cells z69_adc1)
 generalize st1.upd i2 _=st2 at S⊢
 have o1:=S.drop.get
 simp[St.seg,o1,hsH,z69]
 intro i3 h3
 have S:=S.new h3 (.cells z69_adc1)
 have hst:=store_pt (sz:=69) (o:=0) S.get (v:=.agg (eHdr b.hdr++[.sl .nil [] 0])) (vs:=eHdr b.hdr++[.sl .nil [] 0]) rfl (by simp[eHdr_len]) (by decide)
 have hsp:spliceV z69_adc1 0 (eHdr b.hdr++[.sl .nil [] 0])=eHdr b.hdr++[.sl .nil [] 0]:=by
  have z:z69_adc1.length=69:=rfl
  simp[spliceV,eHdr_len,z]
 rw[hsp]at hst
 have S:=S.set (.cells (eHdr b.hdr++[.sl .nil [] 0]))
 simp[hst]at S⊢
 generalize st2.upd i3 _=st3 at S⊢
 have o1:=S.drop.drop.get
 have hln:lenSlV (txsV b.tk b.txs)=some (.int .i64 (b.txs.length:Nat)):=rfl
 simp[St.seg,o1,hsT,hln]
 have sT: ∀v:V,segOf (eHdr b.hdr++[v]) 68 1=some [v]:=fun v=>seg_of_drop (zs:=[]) (by rw[List.drop_left' (eHdr_len _)];rfl) rfl (by omega)
 have sAll: ∀v:V,segOf (eHdr b.hdr++[v]) 0 69=some (eHdr b.hdr++[v]):=fun v=>seg_of_take (by rw[List.drop_zero,List.take_of_length_le (by simp[eHdr_len])]) (by simp[eHdr_len])
 have spT: ∀v u:V,spliceV (eHdr b.hdr++[v]) 68 [u]=eHdr b.hdr++[u]:=fun v u=>by
  have:(eHdr b.hdr).take 68=eHdr b.hdr:=List.take_of_length_le (by rw[eHdr_len];exact Nat.le_refl _)
  simp[spliceV,eHdr_len,List.take_append_of_le_length,this]
 have s2a: ∀v u:V,segOf [v,u] 0 1=some [v]:=fun _ _=>rfl
 have s2b: ∀v u:V,segOf [v,u] 1 1=some [u]:=fun _ _=>rfl
 refine vc_joinB (M:=fun env' st'=>∃tv,(b.txs=[]→tv=.sl .nil [] 0)∧Sep [Slx 2 eTx tv (b.txs.map cloneT),pt i3 (.cells (eHdr b.hdr++[tv])),pt i2 (.cells z69_adc1),pt i1 (.cells (eBlk b)),Was st] st') ?_ ?_
 ·refine vc_loopJ (fun n env' st'=>∃(i:Nat) (tv:V),i≤b.txs.length∧n=b.txs.length-i∧env' 15=.int .i64 (i:Nat)∧(i=0→tv=.sl .nil [] 0)∧Sep [Slx 2 eTx tv ((b.txs.map cloneT).take i),pt i3 (.cells (eHdr b.hdr++[tv])),pt i2 (.cells z69_adc1),pt i1 (.cells (eBlk b)),Was st] st') b.txs.length
    ⟨0,.sl .nil [] 0,by omega,by omega,by simp,fun _=>rfl,by
     have S:Sep [Slx 2 eTx (.sl .nil [] 0) [],pt i3 (.cells (eHdr b.hdr++[.sl .nil [] 0])),pt i2 (.cells z69_adc1),pt i1 (.cells (eBlk b)),Was st] st3:=Sep.slxNil S
     simpa using S⟩ ?_
  clear S o1 hst
  rintro J hJ n env1 st4 hsame ⟨i,tv,hi,rfl,h15,htv,S⟩
  have g1:=(hsame.get 1 rfl).trans (by simp:_=V.ptr (some (i1,0)))
  have g3:=(hsame.get 3 rfl).trans (by simp:_=V.ptr (some (i3,0)))
  have g13:=(hsame.get 13 rfl).trans (by simp:_=txsV b.tk b.txs)
  have g14:=(hsame.get 14 rfl).trans (by simp:_=V.int .i64 (b.txs.length:Int))
  clear hsame
  by_cases hlt:i<b.txs.length
  ·have w1:IntKind.i64.wrap ((i:Int)+1)=(i:Int)+1:=wrap64 (by omega) (by omega)
   obtain⟨r1,r2,r3,r4⟩:=(rd_txs b st4).row eTx_len hlt
   obtain⟨t,ht⟩: ∃t,t=b.txs[i]:=⟨_,rfl⟩
   rw[←ht]at r3
   have htk:(b.txs.map cloneT).take (i+1)=(b.txs.map cloneT).take i++[cloneT t]:=by
    rw[List.take_succ_eq_append_getElem (by rw[List.length_map];exact hlt),List.getElem_map,←ht]
   have hto:=hk t (ht ▸List.getElem_mem hlt)
   simp[g13,g14,h15,hlt,r1,r3]
   intro i5 h5
   have S:=S.new h5 (.cells [.sl .nil [] 0,.sl .nil [] 0])
   have hst:=store_pt (sz:=2) (o:=0) S.get (v:=.agg (eTx t)) (vs:=eTx t) rfl rfl (by simp)
   rw[show spliceV [V.sl .nil [] 0,V.sl .nil [] 0] 0 (eTx t)=eTx t from rfl]at hst
   have S:=S.set (.cells (eTx t))
   simp[hst]at S⊢
   generalize st4.upd i5 _=st5 at S⊢
   intro i6 h6
   have S:=S.new h6 (.cells [.sl .nil [] 0,.sl .nil [] 0])
   generalize st5.upd i6 _=st6 at S⊢
   have o5:=S.drop.get
   have hli:lenSlV (insV t)=some (.int .i64 (t.ins.length:Nat)):=rfl
   simp[St.seg,o5,tsegIns,hli]
   refine vc_joinB (M:=fun env' st'=>∃iv,(t.ins=[]→iv=.sl .nil [] 0)∧Sep [Slx 34 eIn iv (t.ins.map cloneI),pt i6 (.cells [iv,.sl .nil [] 0]),pt i5 (.cells (eTx t)),Slx 2 eTx tv ((b.txs.map cloneT).take i),pt i3 (.cells (eHdr b.hdr++[tv])),pt i2 (.cells z69_adc1),pt i1 (.cells (eBlk b)),Was st] st') ?_ ?_
   ·refine vc_loopJ (fun n env' st'=>∃(k:Nat) (iv:V),k≤t.ins.length∧n=t.ins.length-k∧env' 22=.int .i64 (k:Nat)∧(k=0→iv=.sl .nil [] 0)∧Sep [Slx 34 eIn iv ((t.ins.map cloneI).take k),pt i6 (.cells [iv,.sl .nil [] 0]),pt i5 (.cells (eTx t)),Slx 2 eTx tv ((b.txs.map cloneT).take i),pt i3 (.cells (eHdr b.hdr++[tv])),pt i2 (.cells z69_adc1),pt i1 (.cells (eBlk b)),Was st] st') t.ins.length
      ⟨0,.sl .nil [] 0,by omega,by omega,by simp,fun _=>rfl,by
       have S:Sep [Slx 34 eIn (.sl .nil [] 0) [],pt i6 (.cells [.sl .nil [] 0,.sl .nil [] 0]),pt i5 (.cells (eTx t)),Slx 2 eTx tv ((b.txs.map cloneT).take i),pt i3 (.cells (eHdr b.hdr++[tv])),pt i2 (.cells z69_adc1),pt i1 (.cells (eBlk b)),Was st] st6:=Sep.slxNil S
       simpa using S⟩ ?_
    clear S o5 hst
    rintro J2 hJ2 n env2 st7 hsame ⟨k,iv,hkl,rfl,h22,hiv,S⟩
    have g6:=(hsame.get 6 rfl).trans (by simp:_=V.ptr (some (i6,0)))
    have g20:=(hsame.get 20 rfl).trans (by simp:_=insV t)
    have g21:=(hsame.get 21 rfl).trans (by simp:_=V.int .i64 (t.ins.length:Int))
    clear hsame
    by_cases hkt:k<t.ins.length
    ·have w2:IntKind.i64.wrap ((k:Int)+1)=(k:Int)+1:=wrap64 (by omega) (by have:=hto.1;omega)
     obtain⟨q1,q2,q3,q4⟩:=(rd_ins t st7).row eIn_len hkt
     obtain⟨x,hx⟩: ∃x,x=t.ins[k]:=⟨_,rfl⟩
     rw[←hx]at q3
     have hxk:=hto.2.2 x (hx ▸List.getElem_mem hkt)
     have htk2:(t.ins.map cloneI).take (k+1)=(t.ins.map cloneI).take k++[cloneI x]:=by
      rw[List.take_succ_eq_append_getElem (by rw[List.length_map];exact hkt),List.getElem_map,←hx]
     simp[g20,g21,h22,hkt,q1,q3]
     intro i8 h8
     have S:=S.new h8 (.cells z34_1838)
     have hst:=store_pt (sz:=34) (o:=0) S.get (v:=.agg (eIn x)) (vs:=eIn x) rfl (eIn_len _) (by decide)
     rw[show spliceV z34_1838 0 (eIn x)=eIn x by simp[spliceV,eIn_len]]at hst
     have S:=S.set (.cells (eIn x))
     simp[hst]at S⊢
     generalize st7.upd i8 _=st8 at S⊢
     have o8:=S.get
     have o6:=S.drop.drop.get
     have hfe:fillV (repV [w8 0] 0) []=some []:=rfl
     have hke:elems st8 1 (keyV x.kk x.key)=some (rowsOf e8 x.key,x.key.length):=Rd.elems e8_len (.inl ⟨x.kk,rfl⟩)
     have hfI: ∀kd:SK,fillV z34_1838 [(0,33,.agg (ePt x.pt)),(33,1,.sl kd (rowsOf e8 x.key) x.key.length)]=some (eIn ⟨x.tx,x.ix,kd,x.key⟩):=fun kd=>by
      have z:z34_1838=ePt (id0,0#32)++[.sl .nil [] 0]:=rfl
      simp[fillV,z,spliceV,ePt_len,eIn,keyV]
      simp[ePt,In1.pt,eId_len]
     have hfr:fillV (repV z34_1838 1) [(0,34,.agg (eIn (cloneI x)))]=some (eIn (cloneI x)):=by
      rw[show repV z34_1838 1=z34_1838 from rfl]
      have z:z34_1838.length=34:=rfl
      simp[fillV,spliceV,eIn_len,z]
     have hel: ∀s:St,elems s 34 (.sl .full (eIn (cloneI x)) 1)=some (rowsOf eIn [cloneI x],1):=fun s=>by simp[elems,eIn_len,rowsOf]
     simp[g6,hfe,St.seg,o8,o6,insegPt,insegKey,s2a,hke]
     refine appn_full (ys:=rowsOf e8 x.key) (m:=x.key.length) (b:=1) (fun e=>by rw[List.length_eq_zero_iff.1 e];rfl) (by omega) ?_
     rw[show(if x.key.length=0 then SK.full else SK.some)=(cloneI x).kk from rfl]
     simp[hfI]
     rw[show(⟨x.tx,x.ix,(cloneI x).kk,x.key⟩:In1)=cloneI x from rfl]
     simp[hfr,hel]
     refine Sep.appx' (b:=64) eIn_len (by omega) S.drop [cloneI x] (by simp[rowsOf]) rfl (by simp only[List.length_singleton,List.length_map,List.length_take];have:=hto.1;omega) ?_
     intro s' st9 S
     rw[←htk2]at S
     have o6:=S.drop.get
     have hst:=store_pt (sz:=1) (o:=0) o6 (v:=s') (vs:=[s']) S.slxCells rfl (by simp)
     rw[show spliceV [iv,V.sl .nil [] 0] 0 [s']=[s',.sl .nil [] 0]from rfl]at hst
     have S:=S.setAt (.cells [s',.sl .nil [] 0]) 1 rfl
     simp only[List.set_cons_succ,List.set_cons_zero]at S
     simp[g6,hst,h22,w2]
     exact Round.mk (t.ins.length-(k+1)) _ (by omega) (sub_self _) (hJ2 _ _ _ ⟨k+1,s',by omega,rfl,by simp,(fun e=>by omega),S⟩)
    ·have:k=t.ins.length:=by omega
     subst this
     rw[List.take_of_length_le (by rw[List.length_map];exact Nat.le_refl _)]at S
     simp[g21,h22]
     exact⟨iv,(fun e=>hiv (by rw[e];rfl)),S⟩
   clear S o5 hst
   rintro env2 st7 hsame ⟨iv,hiv,S⟩
   have g3:=(hsame.get 3 rfl).trans (by simp[g3]:_=V.ptr (some (i3,0)))
   have g5:=(hsame.get 5 rfl).trans (by simp:_=V.ptr (some (i5,0)))
   have g6:=(hsame.get 6 rfl).trans (by simp:_=V.ptr (some (i6,0)))
   have g15:=(hsame.get 15 rfl).trans (by simp[h15]:_=V.int .i64 (i:Int))
   clear hsame
   have o5:=S.drop.drop.get
   have o6:=S.drop.get
   have heo:elems st7 33 (outsV t)=some (rowsOf eOut t.outs,t.outs.length):=(rd_outs t st7).elems eOut_len
   simp[g5,g6,St.seg,o5,o6,s2b,tsegOuts,heo]
   refine Sep.appx0 (b:=40) eOut_len (by omega) S t.outs rfl rfl (by have:=hto.2.1;omega) ?_
   clear S o5 o6
   intro ov st8 hov S
   have o6:=S.drop.drop.get
   have hst:=store_pt (sz:=1) (o:=1) o6 (v:=ov) (vs:=[ov]) S.slxCells rfl (by simp)
   rw[show spliceV [iv,V.sl .nil [] 0] 1 [ov]=[iv,ov]from rfl]at hst
   have S:=S.setAt (.cells [iv,ov]) 2 rfl
   simp only[List.set_cons_succ,List.set_cons_zero]at S
   simp[g6,hst]
   clear hst o6
   generalize st8.upd i6 _=st9 at S⊢
   have o6:=S.drop.drop.get
   have S:=S.setAt (.ro [iv,ov]) 2 rfl
   simp only[List.set_cons_succ,List.set_cons_zero]at S
   have S:Sep [Slx 34 eIn iv (t.ins.map cloneI),Slx 33 eOut ov t.outs,pt i5 (.cells (eTx t)),Slx 2 eTx tv ((b.txs.map cloneT).take i),pt i3 (.cells (eHdr b.hdr++[tv])),pt i2 (.cells z69_adc1),pt i1 (.cells (eBlk b)),Was st] (st9.upd i6 (.ro [iv,ov])):=S.swap.tail fun r h=>h.tail fun r h=>h.drop
   obtain⟨sa,ha,S⟩:=Sep.frzHx eIn_len S (fun e=>hiv (by simpa using e))
   obtain⟨sb,hb,S⟩:=Sep.frzHx eOut_len S hov
   have hfL:frzL (st9.upd i6 (.ro [iv,ov])) [iv,ov]=some (eTx (cloneT t),sb):=by
    simp only[frzL,ha,hb,Option.bind_some,Option.map_some]
    rfl
   have S:=S.drop
   have o3:=S.drop.get
   have hfr:fillV (repV [V.sl .nil [] 0,V.sl .nil [] 0] 1) [(0,2,.agg (eTx (cloneT t)))]=some (eTx (cloneT t)):=rfl
   have hel: ∀s:St,elems s 2 (.sl .full (eTx (cloneT t)) 1)=some (rowsOf eTx [cloneT t],1):=fun s=>by simp[elems,eTx_len,rowsOf]
   have hle:ldE 2 (.eptr (eTx (cloneT t)))=some (eTx (cloneT t)):=rfl
   simp[frzP,frzV,frzOb,o6,g6,hfL,g3,St.seg,o3,sT,hle,hfr,hel]
   refine Sep.appx' (b:=48) eTx_len (by omega) S [cloneT t] (by simp[rowsOf]) rfl (by simp only[List.length_singleton,List.length_map,List.length_take];omega) ?_
   intro s' st10 S
   rw[←htk]at S
   have o3:=S.drop.get
   have hst:=store_pt (sz:=1) (o:=68) o3 (v:=s') (vs:=[s']) S.slxCells rfl (by simp[eHdr_len])
   rw[spT]at hst
   have S:=S.setAt (.cells (eHdr b.hdr++[s'])) 1 rfl
   simp only[List.set_cons_succ,List.set_cons_zero]at S
   simp[g3,hst,g15,w1]
   exact Round.mk (b.txs.length-(i+1)) _ (by omega) (sub_self _) (hJ _ _ _ ⟨i+1,s',by omega,rfl,by simp,(fun e=>by omega),S⟩)
  ·have:i=b.txs.length:=by omega
   subst this
   rw[List.take_of_length_le (by rw[List.length_map];exact Nat.le_refl _)]at S
   simp[g14,h15]
   exact⟨tv,(fun e=>htv (by rw[e];rfl)),S⟩
 clear S o1 hst
 rintro env1 st4 hsame ⟨tv,htv,S⟩
 have g2:=(hsame.get 2 rfl).trans (by simp:_=V.ptr (some (i2,0)))
 have g3:=(hsame.get 3 rfl).trans (by simp:_=V.ptr (some (i3,0)))
 clear hsame
 have o3:=S.drop.get
 have S:=S.setAt (.ro (eHdr b.hdr++[tv])) 1 rfl
 simp only[List.set_cons_succ,List.set_cons_zero]at S
 have S:Sep [Slx 2 eTx tv (b.txs.map cloneT),pt i2 (.cells z69_adc1),pt i1 (.cells (eBlk b)),Was st] (st4.upd i3 (.ro (eHdr b.hdr++[tv]))):=S.tail fun r h=>h.drop
 obtain⟨sa,ha,S⟩:=Sep.frzHx eTx_len S (fun e=>htv (by simpa using e))
 have hfL:frzL (st4.upd i3 (.ro (eHdr b.hdr++[tv]))) (eHdr b.hdr++[tv])=some (eBlk (cloneB b),sa):=by
  rw[frzL_app _ _ (eHdr_plain b.hdr)]
  simp only[frzL,ha,Option.bind_some,Option.map_some]
  rfl
 have hle:ldE 69 (.eptr (eBlk (cloneB b)))=some (eBlk (cloneB b)):=by simp[ldE,bsegAll]
 have hst:=store_pt (sz:=69) (o:=0) S.get (v:=.agg (eBlk (cloneB b))) (vs:=eBlk (cloneB b)) rfl (eBlk_len _) (by decide)
 have hsp:spliceV z69_adc1 0 (eBlk (cloneB b))=eBlk (cloneB b):=by
  have z:z69_adc1.length=69:=rfl
  simp[spliceV,eBlk_len,z]
 rw[hsp]at hst
 have S:=S.set (.cells (eBlk (cloneB b)))
 simp[frzP,frzV,frzOb,o3,g3,hfL,hle,g2,hst]
 have o2:=S.get
 simp[St.seg,bsegAll,vBlk]
 exact S.was' (st0:=st) (by simp)
end
theorem condB_cut {P:Program}{v:V}{a b rest:PC}{Q:Ex→Env→St→Prop}{env:Env}{st:St}(M:Env→St→Prop)
  (h:condB P v a b (fun e env' st'=>match e with | .normal=>M env' st' | e=>Q e env' st') env st) (k: ∀env' st',M env' st'→vc P rest Q env' st'):condB P v a b (seqK P rest Q) env st:=by
 unfold condB at h⊢
 cases v<;>simp only at h⊢
 case bool t=>
  have key: ∀c,vc P c (fun e env' st'=>match e with | .normal=>M env' st' | e=>Q e env' st') env st→vc P c (seqK P rest Q) env st:=fun c h=>
   vc_frame c _ _ env st (fun e env' st' _ h=>by cases e<;>first | exact k _ _ h | exact h) h
  cases t
  ·simp only[Bool.false_eq_true,if_false]at h⊢
   exact key _ h
  ·simp only[if_true]at h⊢
   exact key _ h
def takeL (id:Id):Nat→List Out1→CM→CM
 | _,[],cm=>cm
 | j,_::l,cm=>takeL id (j+1) l (aDel (id,BitVec.ofNat 32 j) cm)
def takeM (t:Tx1)(cm:CM):CM:=takeL (txIdM t) 0 t.outs cm
section
variable {P:Program} {F:Fn}
set_option maxHeartbeats 4000000 in
theorem spec261m (ok:OkCoins P F){st:St}{o off:Nat}{f:V→List V}(hf:Hole f off){cm:CM}{mo:Option Nat}(hmo:mo=none→cm=[]){L:List Asn}(S:Sep (SetL o f cm mo++L) st)(t:Tx1)(ht:t.ok 100):
  ACalls P (F 261) [.ptr (some (o,off)),.agg (eTx t)] st fun v st'=>(mo=none→takeM t cm=[])∧Sep (SetL o f (takeM t cm) mo++L) st':=by
 have okt:=ok.toOkCheck2.toOkCheck.toOkTx
 refine shows_call ok.mixed ok.h261 (by simp[k261]) ?_
 simp only[k261]
 have hsg:=hf.seg
 simp
 intro i3 h3
 have S:=bury (S.new h3 (.cells (eTx t)))
 generalize st.upd i3 _=st1 at S⊢
 have o3:st1 i3=some (.cells (eTx t)):=S.mem (by simp)
 simp[St.seg,o3,tsegAll]
 refine(spec198 okt st1 t ht).mono ?_
 rintro v st2 ⟨rfl,rfl⟩
 simp
 intro i4 h4
 have S:=S.new h4 (.cells zR32_w80)
 have hst:=store_z32 S.get (txIdM t)
 have S:=bury (S.set (.cells (eId (txIdM t))))
 simp[hst]at S⊢
 generalize st2.upd i4 (.cells (eId (txIdM t)))=st5 at S⊢
 have o3:st5 i3=some (.cells (eTx t)):=S.mem (by simp)
 have so:=tsegOuts t
 have lo:=outsV_len t
 simp[St.seg,o3,so,lo]
 ·refine vc_loopJ (fun c env' st'=>∃(i:Nat) (cm':CM),i≤t.outs.length∧c=t.outs.length-i∧env' 11=.int .i64 (i:Nat)∧takeL (txIdM t) i (t.outs.drop i) cm'=takeM t cm∧(mo=none→cm'=[])∧Sep (SetL o f cm' mo++(pt i4 (.cells (eId (txIdM t)))::pt i3 (.cells (eTx t))::L)) st') t.outs.length
    ⟨0,cm,by omega,by omega,by simp,by simp[takeM],hmo,S⟩ ?_
  clear S o3 hst hmo
  rintro J hJ c env' st4 hsame ⟨i,cm',hi,rfl,h11,hgo,hmo,S⟩
  have g0:=(hsame.get 0 rfl).trans (by simp:_=V.ptr (some (o,off)))
  have g4:=(hsame.get 4 rfl).trans (by simp:_=V.ptr (some (i4,0)))
  have g10:=(hsame.get 10 rfl).trans (by simp:_=V.int .i64 (t.outs.length:Int))
  clear hsame
  by_cases hlt:i<t.outs.length
  ·rw[List.drop_eq_getElem_cons hlt,takeL]at hgo
   have w1:IntKind.i64.wrap ((i:Int)+1)=(i:Int)+1:=wrap64 (by omega) (by have:=ht.2.1;omega)
   have w2:=wrap32 i
   have hfl:=ptFill (txIdM t) (BitVec.ofNat 32 i)
   have s7:segOf (eId (txIdM t)) 0 32=some (eId (txIdM t)):=seg_of_drop (zs:=[]) (by simp) (eId_len _) (by omega)
   have o4:st4 i4=some (.cells (eId (txIdM t))):=S.mem (by simp)
   cases mo with
   | none=>
     have he:cm'=[]:=hmo rfl
     subst he
     have oo:=S.get
     have hd:=mdel_none keyed_pt (st:=st4) (txIdM t,BitVec.ofNat 32 i)
     simp[g0,g4,g10,h11,hlt,St.seg,oo,hsg,o4,s7,w2,hfl]
     rw[show V.agg (ePt (txIdM t,BitVec.ofNat 32 i))=kPt (txIdM t,BitVec.ofNat 32 i)from rfl,hd]
     simp[h11,w1]
     exact Round.mk (t.outs.length-(i+1)) _ (by omega) (sub_self _) (hJ _ _ _ ⟨i+1,[],by omega,rfl,by simp,hgo,fun _=>rfl,S⟩)
   | some m=>
     have oo:=S.get
     have om:=S.drop.get
     have hd:=mdel_enc keyed_pt (ev:=vCoin) om (txIdM t,BitVec.ofNat 32 i)
     simp[g0,g4,g10,h11,hlt,St.seg,oo,hsg,o4,s7,w2,hfl]
     rw[show V.agg (ePt (txIdM t,BitVec.ofNat 32 i))=kPt (txIdM t,BitVec.ofNat 32 i)from rfl,hd]
     simp[h11,w1]
     exact Round.mk (t.outs.length-(i+1)) _ (by omega) (sub_self _) (hJ _ _ _ ⟨i+1,_,by omega,rfl,by simp,hgo,(fun e=>by cases e),(S.swap.set _).swap⟩)
  ·have:i=t.outs.length:=by omega
   subst this
   rw[List.drop_length,takeL]at hgo
   rw[←hgo]
   simp[g10,h11]
   refine⟨st4,sub_self _,hmo,?_⟩
   cases mo with
   | none=>exact S.tail fun r h=>h.drop.drop
   | some m=>exact S.tail fun r h=>h.tail fun r h=>h.drop.drop
theorem spec261 (ok:OkCoins P F){st:St}{o off:Nat}{f:V→List V}(hf:Hole f off){cm:CM}{L:List Asn}(h0:SetS o f cm L st)(t:Tx1)(ht:t.ok 100):
  ACalls P (F 261) [.ptr (some (o,off)),.agg (eTx t)] st fun v st'=>SetS o f (takeM t cm) L st':=by
 obtain⟨mo,hmo,S⟩:=h0
 exact(spec261m ok hf hmo S t ht).mono fun v st' ⟨h1,h2⟩=>⟨mo,h1,h2⟩
set_option maxHeartbeats 8000000 in
theorem spec262a (ok:OkCoins P F)(hc:CloneC P (F 256)){st:St}{o off:Nat}{f:V→List V}(hf:Hole f off){cm:CM}{L:List Asn}(h0:SetS o f cm L st)(b:Blk1)(t:Tx1)(hb:b.txs=[t])(ht:t.ok 100):
  ACalls P (F 262) [.ptr (some (o,off)),.agg (eBlk b),undo0] st fun v st'=>v=.int .i64 0∧SetS o f (takeM t cm) L st':=by
 refine shows_call ok.mixed ok.h262 (by simp[k262]) ?_
 simp only[k262]
 have hln:lenSlV (txsV b.tk b.txs)=some (.int .i64 1):=by rw[hb];rfl
 have hsT:=bsegT b
 have ht0: ∀hx,b.txs[0]'hx=t:=fun hx=>by simp[hb]
 have hx0:0<b.txs.length:=by rw[hb];simp
 simp
 intro i4 h4
 have W:=h0.new h4 (.cells (eBlk b))
 generalize st.upd i4 _=st1 at W⊢
 simp[undo0]
 intro i5 h5
 have W:=W.new h5 (.cells [.sl .nil [] 0,.sl .nil [] 0])
 generalize st1.upd i5 _=st2 at W⊢
 have o4:=W.ext (i:=i4) (x:=.cells (eBlk b)) (by simp)
 simp[St.seg,o4,hsT,hln]
 refine vc_joinB (M:=fun env' st'=>env' 7=.int .i64 0∧SetS o f cm (pt i5 (.cells [.sl .nil [] 0,.sl .nil [] 0])::pt i4 (.cells (eBlk b))::L) st') ?_ ?_
 ·refine vc_loopJ (fun c env' st'=>∃i:Nat,i≤1∧c=1-i∧env' 15=.int .i64 (i:Nat)∧env' 7=.int .i64 0∧SetS o f cm (pt i5 (.cells [.sl .nil [] 0,.sl .nil [] 0])::pt i4 (.cells (eBlk b))::L) st') 1
    ⟨0,by omega,by omega,by simp,by simp,W⟩ ?_
  clear W o4
  rintro J hJ c env' st4 hsame ⟨i,hi,rfl,h15,h7,W⟩
  have g13:=(hsame.get 13 rfl).trans (by simp:_=txsV b.tk b.txs)
  have g14:=(hsame.get 14 rfl).trans (by simp:_=V.int .i64 1)
  clear hsame
  by_cases hlt:i<1
  ·have:i=0:=by omega
   subst this
   obtain⟨r1,r2,r3,r4⟩:=(rd_txs b st4).row eTx_len hx0
   rw[ht0]at r3
   simp at r1
   simp[g13,g14,h15,r1,r3]
   intro i9 h9
   have W:=W.new h9 (.cells [.sl .nil [] 0,.sl .nil [] 0])
   have o9:=W.ext (i:=i9) (x:=.cells [.sl .nil [] 0,.sl .nil [] 0]) (by simp)
   have hst:=store_pt (sz:=2) (o:=0) o9 (v:=.agg (eTx t)) (vs:=eTx t) rfl rfl (by simp)
   rw[show spliceV [V.sl .nil [] 0,V.sl .nil [] 0] 0 (eTx t)=eTx t from rfl]at hst
   have W:=W.setL (i:=i9) (.cells (eTx t))
   simp[hst,h15]at W⊢
   exact Round.mk 0 _ (by omega) (sub_self _) (hJ _ _ _ ⟨1,by omega,rfl,by simp,by simp[h7],W.tail fun r h=>h.drop⟩)
  ·have:i=1:=by omega
   subst this
   simp[g14,h15]
   exact⟨h7,W⟩
 clear W o4
 rintro env1 st3 hsame ⟨g7,W⟩
 have g0:=(hsame.get 0 rfl).trans (by simp:_=V.ptr (some (o,off)))
 have g4:=(hsame.get 4 rfl).trans (by simp:_=V.ptr (some (i4,0)))
 have g5:=(hsame.get 5 rfl).trans (by simp:_=V.ptr (some (i5,0)))
 clear hsame
 have o4:=W.ext (i:=i4) (x:=.cells (eBlk b)) (by simp)
 have o5:=W.ext (i:=i5) (x:=.cells [.sl .nil [] 0,.sl .nil [] 0]) (by simp)
 have u0:segOf [V.sl .nil [] 0,V.sl .nil [] 0] 0 1=some [V.sl .nil [] 0]:=rfl
 have u1:segOf [V.sl .nil [] 0,V.sl .nil [] 0] 1 1=some [V.sl .nil [] 0]:=rfl
 obtain⟨mo,hmo,S⟩:=W
 simp[g0,g4,g5,g7,St.seg,o4,o5,u0,u1,hsT,hln]
 refine(spec255 ok hc hf hmo S).mono ?_
 rintro v st4 ⟨ic,rfl,W⟩
 clear S o4 o5
 obtain⟨mo2,hmo2,S⟩:=W
 have hsg: ∀v:V,segOf (lone v) 0 1=some [v]:=fun _=>rfl
 have oo:st4 ic=some (.cells (lone (.map mo2))):=by cases mo2<;>exact S.get
 obtain⟨bb,hbb⟩: ∃bb,bb=mo2.isNone:=⟨_,rfl⟩
 have heq:eqK .map (V.map mo2) (V.map none)=some bb:=by rw[hbb];cases mo2<;>rfl
 simp[St.seg,oo,hsg,heq]
 refine condB_cut (M:=fun env' st'=>env' 0=.ptr (some (o,off))∧env' 4=.ptr (some (i4,0))∧env' 7=.int .i64 0∧env' 10=.ptr (some (ic,0))∧SetS ic lone cm (SetL o f cm mo++(pt i5 (.cells [.sl .nil [] 0,.sl .nil [] 0])::pt i4 (.cells (eBlk b))::L)) st') ?_ ?_
 ·cases mo2 with
  | none=>
    have he:cm=[]:=hmo2 rfl
    subst he
    have hb1:bb=true:=hbb
    subst hb1
    simp
    intro m hm
    have S:=S.new hm (.mp [])
    have o2:=S.drop.get
    have hst:=store_pt (sz:=1) (o:=0) o2 (v:=.map (some m)) (vs:=[.map (some m)]) rfl rfl (by simp[lone])
    rw[show spliceV (lone (.map none)) 0 [V.map (some m)]=lone (.map (some m))from rfl]at hst
    have S:=S.setAt (.cells (lone (.map (some m)))) 1 rfl
    simp only[List.set_cons_succ,List.set_cons_zero]at S
    simp[hst,g0,g4,g7]
    exact⟨some m,(fun e=>by cases e),S.swap⟩
  | some m=>
    have hb1:bb=false:=hbb
    subst hb1
    simp[g0,g4,g7]
    exact⟨some m,hmo2,S⟩
 clear S oo g0 g4 g7
 rintro env2 st5 ⟨g0,g4,g7,g10,W⟩
 have o4:=W.ext (i:=i4) (x:=.cells (eBlk b)) (by cases mo<;>simp[SetL])
 obtain⟨r1,r2,r3,r4⟩:=(rd_txs b st5).row eTx_len hx0
 rw[ht0]at r3
 simp at r1
 simp[g4,g10,St.seg,o4,hsT,r1,r3]
 refine(spec261 ok lone_hole W t ht).mono ?_
 clear W o4 r1 r2 r3 r4
 intro v st6 W
 have o4:=W.ext (i:=i4) (x:=.cells (eBlk b)) (by cases mo<;>simp[SetL])
 simp[g4,St.seg,o4,hsT,hln]
 refine vc_joinB (M:=fun env' st'=>SetS ic lone (takeM t cm) (SetL o f cm mo++(pt i5 (.cells [.sl .nil [] 0,.sl .nil [] 0])::pt i4 (.cells (eBlk b))::L)) st') ?_ ?_
 ·refine vc_loopJ (fun c env' st'=>c=0∧env' 11=.int .i64 0∧SetS ic lone (takeM t cm) (SetL o f cm mo++(pt i5 (.cells [.sl .nil [] 0,.sl .nil [] 0])::pt i4 (.cells (eBlk b))::L)) st') 0
    ⟨rfl,by simp,W⟩ ?_
  rintro J hJ c env' st7 hsame ⟨rfl,h11,W⟩
  simp[h11]
  exact W
 clear W o4
 rintro env3 st7 hsame W
 have g0:=(hsame.get 0 rfl).trans (by simp[g0]:_=V.ptr (some (o,off)))
 have g10:=(hsame.get 10 rfl).trans (by simp[g10]:_=V.ptr (some (ic,0)))
 clear hsame
 obtain⟨mo2,hmo2,S⟩:=W
 obtain⟨t1,t2,t3⟩:=takeOver S
 have hsg:segOf [V.map mo2] 0 1=some [.map mo2]:=rfl
 have hsto:=store_pt (sz:=1) (o:=off) t2 (v:=.map mo2) (vs:=[.map mo2]) rfl rfl (by have:=hf.seg (.map mo);simp[segOf]at this;omega)
 rw[hf.spl]at hsto
 simp[g0,g10,St.seg,t1,lone,hsg,hsto]
 exact⟨_,sub_self _,mo2,hmo2,by
  cases mo2 with
  | none=>exact t3.tail fun r h=>h.drop.drop
  | some m=>exact t3.tail fun r h=>h.tail fun r h=>h.drop.drop⟩
end
def rw0:Rw:=(⟨hdr0,id0,0,0,0,0,false⟩,.nil,[])
def stp (k:Nat):Int:=((2 ^ (k-10):Nat):Int)
section
variable {P:Program} {F:Fn}
theorem fill1 (x:Int):fillV (repV [.int .i64 0] 1) [(0,1,.int .i64 x)]=some (e1 x):=rfl
theorem el1 (st:St)(k:SK)(x:Int):elems st 1 (.sl k (e1 x) 1)=some (e1 x,1):=by simp[elems,e1]
end
def On (l:List Nd)(i k:Nat):Prop:=hgt l i≤hgt l k∧anc l k (hgt l i)=i
theorem onB_on {l:List Nd}{i k:Nat}(hi:i<l.length)(hk:k<l.length):onB l i k=true↔On l i k:=by
 rw[onB_nat hi hk];simp[On]
theorem ancI_nat {l:List Nd}{i h:Nat}(hi:i<l.length)(hh:h≤hgt l i):ancI l i h=(anc l i h:Nat):=by
 unfold ancI
 rw[if_neg (by simp only[Int.toNat_natCast];omega),Int.toNat_natCast,Int.toNat_natCast]
theorem onB_range {l:List Nd}{i k:Int}(h:onB l i k=true): ∃a b:Nat,i=a∧k=b∧a<l.length∧b<l.length:=by
 unfold onB at h
 simp only[Bool.and_eq_true,decide_eq_true_eq,beq_iff_eq]at h
 obtain⟨⟨h1,h2⟩,h3⟩:=h
 unfold ancI at h3
 split at h3
 ·omega
 ·exact⟨i.toNat,k.toNat,by omega,by omega,by omega,by omega⟩
section
variable {l:List Nd} (w:Wf l)
include w
theorem On.refl' (i:Nat):On l i i:=⟨Nat.le_refl _,anc_self i⟩
theorem On.le {i k:Nat}(hk:k<l.length)(h:On l i k):i≤k:=by
 have:=w.anc_le (h:=hgt l i) hk
 rw[h.2]at this
 exact this
theorem On.of {k h:Nat}(hk:k<l.length)(hh:h≤hgt l k):On l (anc l k h) k:=by
 have e:=w.anc_hgt hk hh
 refine⟨by omega,by rw[e]⟩
theorem On.trans {i j k:Nat}(hk:k<l.length)(h1:On l i j)(h2:On l j k):On l i k:=by
 refine⟨Nat.le_trans h1.1 h2.1,?_⟩
 have:=w.anc_anc hk h1.1 h2.1
 rw[h2.2,h1.2]at this
 exact this.symm
theorem On.chain {i j k:Nat}(hk:k<l.length)(h1:On l i k)(h2:On l j k)(h:hgt l i≤hgt l j):On l i j:=by
 refine⟨h,?_⟩
 have:=w.anc_anc hk h h2.1
 rw[h2.2,h1.2]at this
 exact this
theorem hgt_zero_iff {i:Nat}(hi:i<l.length)(h:hgt l i=0):i=0:=by
 rcases Nat.eq_zero_or_pos i with e | e
 ·exact e
 ·have:=w.hgt_par e hi;omega
theorem On.par {i k:Nat}(hk:k<l.length)(h:On l i k)(hne:i≠k):On l i (par l k)∧0<k:=by
 have hlt:hgt l i<hgt l k:=by
  rcases Nat.lt_or_ge (hgt l i) (hgt l k)with g | g
  ·exact g
  ·have e:hgt l i=hgt l k:=by have:=h.1;omega
   have:=h.2
   rw[e,anc_self]at this
   exact absurd this.symm hne
 have hp:=w.pos_of_hgt (i:=k) (by omega)
 have h2:=w.hgt_par hp hk
 refine⟨⟨by omega,?_⟩,hp⟩
 rw[←w.anc_par hk hlt]
 exact h.2
theorem On.up {k:Nat}(hp:0<k)(hk:k<l.length):On l (Ab.par l k) k:=by
 have h1:=w.hgt_par hp hk
 have h2:=w.anc_par hk (h:=hgt l (Ab.par l k)) (by omega)
 refine⟨by omega,?_⟩
 rw[h2,anc_self]
end
def meetGo (l:List Nd):Nat→Nat→Nat→Nat
 | 0,a,_=>a
 | n+1,a,b=>if a=b then a else meetGo l n (par l a) (par l b)
def meetM (l:List Nd)(a b:Nat):Nat:=meetGo l (min (hgt l a) (hgt l b)) (anc l a (min (hgt l a) (hgt l b))) (anc l b (min (hgt l a) (hgt l b)))
structure Meets (l:List Nd) (a b m:Nat):Prop where
 lt:m<l.length
 on1:On l m a
 on2:On l m b
 top: ∀i,On l i a→On l i b→On l i m
theorem meetGo_spec {l:List Nd}(w:Wf l): ∀(n a b:Nat),a<l.length→b<l.length→hgt l a=n→hgt l b=n→Meets l a b (meetGo l n a b)
 | 0,a,b,ha,hb,e1,e2=>by
   have h1:=hgt_zero_iff w ha e1
   have h2:=hgt_zero_iff w hb e2
   subst h1 h2
   exact⟨ha,On.refl' w _,On.refl' w _,fun i h _=>h⟩
 | n+1,a,b,ha,hb,e1,e2=>by
   unfold meetGo
   by_cases h:a=b
   ·subst h
    rw[if_pos rfl]
    exact⟨ha,On.refl' w _,On.refl' w _,fun i h _=>h⟩
   ·rw[if_neg h]
    have pa:=w.pos_of_hgt (i:=a) (by omega)
    have pb:=w.pos_of_hgt (i:=b) (by omega)
    have ia:=w.par_lt pa ha
    have ib:=w.par_lt pb hb
    have ga:=w.hgt_par pa ha
    have gb:=w.hgt_par pb hb
    have ih:=meetGo_spec w n (par l a) (par l b) (by omega) (by omega) (by omega) (by omega)
    refine⟨ih.lt,On.trans w ha ih.on1 (On.up w pa ha),On.trans w hb ih.on2 (On.up w pb hb),fun i h1 h2=>?_⟩
    have na:i≠a:=fun e=>by
     subst e
     have:=h2.2
     rw[e1,←e2,anc_self]at this
     exact h this.symm
    have nb:i≠b:=fun e=>by
     subst e
     have:=h1.2
     rw[e2,←e1,anc_self]at this
     exact h this
    exact ih.top i (On.par w ha h1 na).1 (On.par w hb h2 nb).1
theorem meet_spec {l:List Nd}(w:Wf l){a b:Nat}(ha:a<l.length)(hb:b<l.length):Meets l a b (meetM l a b):=by
 obtain⟨h,hh⟩: ∃h,h=min (hgt l a) (hgt l b):=⟨_,rfl⟩
 have i1:=w.anc_lt (h:=h) ha
 have i2:=w.anc_lt (h:=h) hb
 have g1:=w.anc_hgt ha (h:=h) (by omega)
 have g2:=w.anc_hgt hb (h:=h) (by omega)
 have m:=meetGo_spec w h (anc l a h) (anc l b h) i1 i2 g1 g2
 have o1:=On.of w ha (h:=h) (by omega)
 have o2:=On.of w hb (h:=h) (by omega)
 have e:meetM l a b=meetGo l h (anc l a h) (anc l b h):=by rw[meetM,←hh]
 rw[e]
 refine⟨m.lt,On.trans w ha m.on1 o1,On.trans w hb m.on2 o2,fun i k1 k2=>?_⟩
 have hi:hgt l i≤h:=by have:=k1.1;have:=k2.1;omega
 exact m.top i (On.chain w ha k1 o1 (by omega)) (On.chain w hb k2 o2 (by omega))
theorem On.anti {l:List Nd}(w:Wf l){a b:Nat}(ha:a<l.length)(hb:b<l.length)(h1:On l a b)(h2:On l b a):a=b:=by
 have:=On.le w hb h1
 have:=On.le w ha h2
 omega
theorem Meets.uniq {l:List Nd}(w:Wf l){a b m m':Nat}(h:Meets l a b m)(h':Meets l a b m'):m=m':=
 On.anti w h.lt h'.lt (h'.top m h.on1 h.on2) (h.top m' h'.on1 h'.on2)
def wayM (l:List Nd)(a b:Nat):List Int:=(List.range (hgt l b-hgt l a)).map fun k=>((anc l b (hgt l a+1+k):Nat):Int)
def wayI (l:List Nd)(a b:Int):List Int:=if onB l a b=true then wayM l a.toNat b.toNat else[]
theorem wayM_len (l:List Nd)(a b:Nat):(wayM l a b).length=hgt l b-hgt l a:=by simp[wayM]
theorem wayM_rev {l:List Nd}(a b:Nat):((List.range (hgt l b-hgt l a)).map fun k=>((anc l b (hgt l b-k):Nat):Int)).reverse=wayM l a b:=by
 apply List.ext_getElem
 ·simp[wayM]
 ·intro i h1 h2
  have hi:i<hgt l b-hgt l a:=by simpa[wayM]using h2
  rw[List.getElem_reverse]
  simp only[wayM,List.getElem_map,List.getElem_range,List.length_map,List.length_range]
  congr 2
  omega
def revTo (l:List Int)(i:Nat):List Int:=(List.range l.length).map fun k=>if k<i∨l.length-1-k<i then l.getD (l.length-1-k) 0 else l.getD k 0
@[simp] theorem revTo_len (l:List Int)(i:Nat):(revTo l i).length=l.length:=by simp[revTo]
theorem revTo_get (l:List Int)(i k:Nat)(h:k<l.length):(revTo l i)[k]'(by simpa using h)=if k<i∨l.length-1-k<i then l.getD (l.length-1-k) 0 else l.getD k 0:=by simp[revTo]
theorem revTo_zero (l:List Int):revTo l 0=l:=by
 apply List.ext_getElem
 ·simp
 ·intro k h1 h2
  rw[revTo_get _ _ _ h2,if_neg (by omega)]
  simp[h2]
theorem revTo_all (l:List Int){i:Nat}(h:l.length≤2*i+1):revTo l i=l.reverse:=by
 apply List.ext_getElem
 ·simp
 ·intro k h1 h2
  have hk:k<l.length:=by simpa using h1
  rw[revTo_get _ _ _ hk,List.getElem_reverse]
  have e: ∀j (hj:j<l.length),l.getD j 0=l[j]:=fun j hj=>by simp[hj]
  split
  ·exact e _ (by omega)
  ·have:k=l.length-1-k:=by omega
   rw[e k hk]
   congr 1
theorem revTo_succ (l:List Int){i:Nat}(h:2*i+1<l.length):((revTo l i).set i ((revTo l i)[l.length-1-i]'(by simp;omega))).set (l.length-1-i) ((revTo l i)[i]'(by simp;omega))=revTo l (i+1):=by
 apply List.ext_getElem
 ·simp
 ·intro k h1 h2
  have hk:k<l.length:=by simpa using h2
  rw[List.getElem_set,List.getElem_set,revTo_get _ _ _ hk,revTo_get _ _ _ (show i<l.length by omega),revTo_get _ _ _ (show l.length-1-i<l.length by omega),revTo_get _ _ _ hk]
  by_cases c1:l.length-1-i=k
  ·rw[if_pos c1,if_neg (by omega),if_pos (by omega)]
   congr 1;omega
  ·rw[if_neg c1]
   by_cases c2:i=k
   ·rw[if_pos c2,if_neg (by omega),if_pos (by omega)]
    congr 1;omega
   ·rw[if_neg c2]
    by_cases c3:k<i∨l.length-1-k<i
    ·rw[if_pos c3,if_pos (by omega)]
    ·rw[if_neg c3,if_neg (by omega)]
section
variable {P:Program} {F:Fn}
theorem e1_read {st:St}{id:Nat}{xs:List Int}{sp:List V}(h:st id=some (.cells (rowsOf e1 xs++sp))){i:Nat}(hi:i<xs.length):st.seg id i 1=some [.int .i64 xs[i]]:=by
 have:=rowsOf_seg e1_len xs sp hi
 rw[Nat.mul_one]at this
 simp only[St.seg,h]
 exact this
theorem e1_store {st:St}{id:Nat}{xs:List Int}{sp:List V}(h:st id=some (.cells (rowsOf e1 xs++sp))){i:Nat}(hi:i<xs.length)(x:Int):storeS st 1 (.ptr (some (id,i))) (.int .i64 x)=some (st.upd id (.cells (rowsOf e1 (xs.set i x)++sp))):=by
 have hs:=rowsOf_splice e1_len xs sp hi (o:=0) (vs:=[.int .i64 x]) (by simp) (a:=x) rfl
 rw[Nat.mul_one,Nat.add_zero]at hs
 simp only[storeS,h,cells_int]
 rw[if_pos ⟨rfl,by rw[List.length_append,rowsOf_length e1_len];omega⟩,hs]
set_option maxHeartbeats 1000000 in
theorem spec230 (ok:OkLocate P F){st:St}{s:V}{l:List Int}{L:List Asn}(S:Sep (Sl 1 e1 s l::L) st)(hl:l.length≤1000000):ACalls P (F 230) [s] st fun v st'=>Sep (Sl 1 e1 s l.reverse::L) st':=by
 refine shows_call ok.mixed ok.h230 (by simp[k230]) ?_
 simp only[k230]
 have hlen:=(Sep.rd e1_len S).len
 by_cases hne:l=[]
 ·subst hne
  have w0:IntKind.i64.wrap (-1)=-1:=rfl
  simp at hlen
  simp[hlen,w0]
  refine vc_loopJ (fun c env' st'=>env' 2=.int .i64 0∧env' 3=.int .i64 (-1)∧st'=st) 0 ⟨by simp,by simp,rfl⟩ ?_
  rintro J hJ c env' st1 hsame ⟨h2,h3,rfl⟩
  simp[h2,h3]
  exact⟨st1,sub_self _,by simpa using S⟩
 ·obtain⟨sid,spare,rfl,hsp,S⟩:=S.slObj hne
  have hp:=List.length_pos_iff.2 hne
  have w0:IntKind.i64.wrap ((l.length:Int)-1)=(l.length:Int)-1:=wrap64 (by omega) (by omega)
  simp[w0]
  have S:Sep (pt sid (.cells (rowsOf e1 (revTo l 0)++spare))::L) st:=by rw[revTo_zero];exact S
  refine vc_loopJ (fun c env' st'=>∃i:Nat,2*i≤l.length∧c=l.length-i∧env' 2=.int .i64 (i:Nat)∧env' 3=.int .i64 ((l.length:Int)-1-i)∧Sep (pt sid (.cells (rowsOf e1 (revTo l i)++spare))::L) st') l.length
   ⟨0,by omega,by omega,by simp,by simp,S⟩ ?_
  clear S
  rintro J hJ c env' st1 hsame ⟨i,hi,rfl,h2,h3,S⟩
  have g0:=(hsame.get 0 rfl).trans (by simp:_=V.hsl sid 0 1 l.length)
  clear hsame
  by_cases hlt:(i:Int)< (l.length:Int)-1-i
  ·obtain⟨j,hj⟩: ∃j,j=l.length-1-i:=⟨_,rfl⟩
   have ej:(l.length:Int)-1-i=(j:Int):=by omega
   rw[ej]at h3 hlt
   have hil:i< (revTo l i).length:=by simp;omega
   have hjl:j< (revTo l i).length:=by simp;omega
   have hin:(i:Int)<l.length:=by omega
   have hjn:(j:Int)<l.length:=by omega
   have ri:=e1_read S.get hil
   have rj:=e1_read S.get hjl
   have hst1:=e1_store S.get hil ((revTo l i)[j])
   have S1:=S.set (.cells (rowsOf e1 ((revTo l i).set i ((revTo l i)[j]))++spare))
   have hst2:=e1_store (i:=j) S1.get (by simpa using hjl) ((revTo l i)[i])
   have S2:=S1.set (.cells (rowsOf e1 (((revTo l i).set i ((revTo l i)[j])).set j ((revTo l i)[i]))++spare))
   have hsu:=revTo_succ l (i:=i) (by omega)
   have e1':(revTo l i)[l.length-1-i]'(by simp;omega)=(revTo l i)[j]:=by congr 1;omega
   rw[e1',←hj]at hsu
   rw[hsu]at hst2 S2
   have w1:IntKind.i64.wrap ((i:Int)+1)=(i:Int)+1:=wrap64 (by omega) (by omega)
   have w2:IntKind.i64.wrap ((j:Int)-1)=(j:Int)-1:=wrap64 (by omega) (by omega)
   generalize st1.upd sid (.cells (rowsOf e1 ((revTo l i).set i ((revTo l i)[j]))++spare))=st2 at hst1 hst2 S2
   have hlt':i<j:=by omega
   have hin':i<l.length:=by omega
   have hjn':j<l.length:=by omega
   simp[g0,h2,h3,hlt',hin',hjn',ri,rj,hst1,hst2,w1,w2]
   refine Round.mk (l.length-(i+1)) _ (by omega) (sub_self _) (hJ _ _ _ ⟨i+1,by omega,rfl,by simp,?_,S2⟩)
   simp
   omega
  ·have S:=S
   rw[revTo_all l (by omega)]at S
   simp[h2,h3,hlt]
   refine⟨st1,sub_self _,?_⟩
   have:=Sep.ofObj S hsp
   simpa using this
theorem min_cl {l:List Nd}(w:Wf l)(hl:l.length≤16384)(i:Int):foldV min2V (.int .i64 i) [.int .i64 ((l.length:Int)-1)]=some (.int .i64 (min i ((l.length:Int)-1)))∧foldV max2V (.int .i64 0) [.int .i64 (min i ((l.length:Int)-1))]=some (.int .i64 (clI l i:Nat))∧IntKind.i64.wrap ((l.length:Int)-1)=(l.length:Int)-1:=by
 have hp:=w.ne
 refine⟨?_,?_,wrap64 (by omega) (by omega)⟩
 ·simp only[foldV,min2V,if_true,Option.bind_some]
  congr 2
  split<;>omega
 ·simp only[foldV,max2V,if_true,Option.bind_some]
  unfold clI
  congr 2
  split<;>omega
end
theorem osegPar (x:Nd):segOf (eNd x) 100 1=some [.int .i64 x.parent]:=seg_of_take (nsegPar x) (by rw[eNd_len];omega)
theorem inI_of {l:List Nd}{i:Nat}(h:i<l.length):inI l i=i:=by unfold inI;rw[if_neg (by omega)];omega
theorem par_int {l:List Nd}(w:Wf l){i:Nat}(h0:0<i)(hi:i<l.length):(nd l i).parent=(par l i:Nat):=by
 have:=w.succ i _ h0 (List.getElem?_eq_getElem hi)
 rw[par_at hi,nd_at hi]
 omega
theorem nd_hgt_eq {l:List Nd}{i:Nat}(hi:i<l.length):(nd l i).height=hgt l i:=by rw[nd_at hi,hgt_at hi]
section
variable {P:Program} {F:Fn}
set_option maxHeartbeats 1000000 in
theorem spec229 (ok:OkLocate P F){st:St}{tid:Nat}{r:Rl}{l:List Nd}(h:TreeR tid r l st)(w:Wf l)(hl:l.length≤16384)(a b:Int):
  ACalls P (F 229) [.ptr (some (tid,0)),.int .i64 a,.int .i64 b] st fun v st'=>Sep [Sl 1 e1 v (wayI l a b),Was st] st':=by
 have okz:=ok.toOkIndexZ
 have oki:=okz.toOkIndex
 refine shows_call ok.mixed ok.h229 (by simp[k229]) ?_
 simp only[k229]
 have fin:onB l a b=false→∃s,St.sub s st∧Sep [Sl 1 e1 (.sl .nil [] 0) (wayI l a b),Was st] s:=fun hb=>by
  rw[wayI,hb]
  exact⟨st,sub_self _,(Sep.start st).slNil⟩
 by_cases hb0:b<0
 ·have hb:onB l a b=false:=by
    cases e:onB l a b with
    | false=>rfl
    | true=>obtain⟨x,y,_,rfl,_,_⟩:=onB_range e;omega
  simp[hb0]
  exact fin hb
 ·simp[hb0]
  refine(spec159 oki h).mono ?_
  rintro v st ⟨rfl,rfl⟩
  by_cases hbl:(l.length:Int)≤b
  ·have hb:onB l a b=false:=by
     cases e:onB l a b with
     | false=>rfl
     | true=>obtain⟨x,y,_,rfl,_,_⟩:=onB_range e;omega
   simp[hbl]
   exact fin hb
  ·simp[hbl]
   refine(spec163 oki h w a b).mono ?_
   rintro v st ⟨rfl,rfl⟩
   cases hb:onB l a b with
   | false=>
     simp
     exact fin hb
   | true=>
     clear fin
     obtain⟨A,B,rfl,rfl,hA,hB⟩:=onB_range hb
     have on:=(onB_on hA hB).1 hb
     have hway:wayI l A B=wayM l A B:=by rw[wayI,if_pos hb,Int.toNat_natCast,Int.toNat_natCast]
     rw[hway]
     have hgl:=w.hgt_le hB
     obtain⟨D,hD⟩: ∃D,D=hgt l B-hgt l A:=⟨_,rfl⟩
     simp
     refine vc_loopJ (fun c env' st'=>∃(k:Nat) (s:V),k≤D∧c=D-k∧env' 8=.int .i64 (anc l B (hgt l B-k):Nat)∧env' 7=s∧Sep [Sl 1 e1 s ((List.range k).map fun k=>((anc l B (hgt l B-k):Nat):Int)),Was st] st') D
      ⟨0,.sl .nil [] 0,by omega,by omega,by simp[anc_self],by simp,(Sep.start st).slNil⟩ ?_
     rintro J hJ c env' st1 hsame ⟨k,s,hk,rfl,h8,h7,S⟩
     have g0:=(hsame.get 0 rfl).trans (by simp:_=V.ptr (some (tid,0)))
     have g1:=(hsame.get 1 rfl).trans (by simp:_=V.int .i64 (A:Int))
     clear hsame
     have hhk:=w.anc_hgt hB (h:=hgt l B-k) (by omega)
     have hlk:=w.anc_lt (h:=hgt l B-k) hB
     by_cases hlt:k<D
     ·have hne:anc l B (hgt l B-k)≠A:=fun e=>by
        rw[e]at hhk;omega
      have hpos:=w.pos_of_hgt (i:=anc l B (hgt l B-k)) (by omega)
      have hpar:par l (anc l B (hgt l B-k))=anc l B (hgt l B-(k+1)):=by
       have h1:=w.anc_par hlk (h:=hgt l B-(k+1)) (by omega)
       have h2:=w.anc_anc hB (h:=hgt l B-(k+1)) (h':=hgt l B-k) (by omega) (by omega)
       have h3:=w.hgt_par hpos hlk
       rw[h2]at h1
       rw[h1,show hgt l B-(k+1)=hgt l (par l (anc l B (hgt l B-k))) by omega,anc_self]
      have hpi:=par_int w hpos hlk
      rw[hpar]at hpi
      obtain⟨X,hX⟩: ∃X,X=anc l B (hgt l B-k):=⟨_,rfl⟩
      rw[←hX]at h8 hlk hne hpi
      have hXb:((X:Int) != (A:Int))=true:=by simp;omega
      simp[g1,h8,h7,hXb,fill1,el1]
      refine Sep.app1 e1_len (by omega) S (a:=(X:Int)) rfl (by simp;omega) ?_
      intro s' st2 S
      have TR:=h.sub (S.was' (st0:=st) (by simp))
      simp[g0,h8]
      refine(spec161 oki TR w X).mono ?_
      rintro v st2 ⟨rfl,rfl⟩
      have oP:=osegPar (nd l X)
      rw[inI_of hlk]
      rw[hpi]at oP
      simp[fldV_agg,oP]
      refine Round.mk (D-(k+1)) _ (by omega) (sub_self _) (hJ _ _ _ ⟨k+1,s',by omega,rfl,by simp,by simp,?_⟩)
      rw[List.range_succ,List.map_append]
      have:[((X:Nat):Int)]=List.map (fun k=>((anc l B (hgt l B-k):Nat):Int)) [k]:=by simp[hX]
      rw[←this]
      exact S
     ·have hkD:k=D:=by omega
      have e:anc l B (hgt l B-k)=A:=by
       rw[hkD,hD,show hgt l B-(hgt l B-hgt l A)=hgt l A by have:=on.1;omega]
       exact on.2
      rw[e]at h8
      simp[g1,h8,h7]
      refine(spec230 ok S (by simp;omega)).mono ?_
      intro v st2 S
      rw[hkD,hD,wayM_rev]at S
      simp[h7]
      exact⟨st2,sub_self _,S⟩
set_option maxHeartbeats 1000000 in
theorem spec228 (ok:OkLocate P F){st:St}{tid:Nat}{r:Rl}{l:List Nd}(h:TreeR tid r l st)(w:Wf l)(hl:l.length≤16384)(a b:Int):
  ACalls P (F 228) [.ptr (some (tid,0)),.int .i64 a,.int .i64 b] st fun v st'=>v=.int .i64 (meetM l (clI l a) (clI l b):Nat)∧st'=st:=by
 have okz:=ok.toOkIndexZ
 have oki:=okz.toOkIndex
 refine shows_call ok.mixed ok.h228 (by simp[k228]) ?_
 simp only[k228]
 obtain⟨a1,a2,a3⟩:=min_cl w hl a
 obtain⟨b1,b2,_⟩:=min_cl w hl b
 obtain⟨A,hA⟩: ∃A,A=clI l a:=⟨_,rfl⟩
 obtain⟨B,hB⟩: ∃B,B=clI l b:=⟨_,rfl⟩
 have hAl:A<l.length:=hA ▸clI_lt w a
 have hBl:B<l.length:=hB ▸clI_lt w b
 rw[←hA]at a2⊢
 rw[←hB]at b2⊢
 simp
 refine(spec159 oki h).mono ?_
 rintro v st ⟨rfl,rfl⟩
 simp[a1,a2,a3]
 refine(spec159 oki h).mono ?_
 rintro v st ⟨rfl,rfl⟩
 simp[b1,b2,a3]
 refine(spec161 oki h w A).mono ?_
 rintro v st ⟨rfl,rfl⟩
 have oA:=osegHgt (nd l A)
 rw[nd_hgt_eq hAl]at oA
 rw[inI_of hAl]
 simp[fldV_agg,oA]
 refine(spec161 oki h w B).mono ?_
 rintro v st ⟨rfl,rfl⟩
 have oB:=osegHgt (nd l B)
 rw[nd_hgt_eq hBl]at oB
 rw[inI_of hBl]
 obtain⟨M,hM⟩: ∃M,M=min (hgt l A) (hgt l B):=⟨_,rfl⟩
 have hmin:foldV min2V (.int .i64 (hgt l A:Nat)) [.int .i64 (hgt l B:Nat)]=some (.int .i64 (M:Nat)):=by
  simp only[foldV,min2V,if_true,Option.bind_some]
  congr 2
  split<;>omega
 simp[fldV_agg,oB,hmin]
 refine(spec158 oki h w A M).mono ?_
 rintro v st ⟨rfl,rfl⟩
 rw[ancI_nat hAl (by omega)]
 simp
 refine(spec158 oki h w B M).mono ?_
 rintro v st ⟨rfl,rfl⟩
 rw[ancI_nat hBl (by omega)]
 have e:meetM l A B=meetGo l M (anc l A M) (anc l B M):=by rw[meetM,←hM]
 have g1:=w.anc_hgt hAl (h:=M) (by omega)
 have g2:=w.anc_hgt hBl (h:=M) (by omega)
 have i1:=w.anc_lt (h:=M) hAl
 have i2:=w.anc_lt (h:=M) hBl
 rw[e]
 obtain⟨X,hX⟩: ∃X,X=anc l A M:=⟨_,rfl⟩
 obtain⟨Y,hY⟩: ∃Y,Y=anc l B M:=⟨_,rfl⟩
 rw[←hX]at g1 i1⊢
 rw[←hY]at g2 i2⊢
 simp
 refine vc_loopJ (fun c env' st'=>∃(x y:Nat),x<l.length∧y<l.length∧hgt l x=c∧hgt l y=c∧meetGo l c x y=meetGo l M X Y∧env' 1=.int .i64 (x:Nat)∧env' 2=.int .i64 (y:Nat)∧st'=st) M
  ⟨X,Y,i1,i2,g1,g2,rfl,by simp,by simp,rfl⟩ ?_
 rintro J hJ c env' st1 hsame ⟨x,y,hx,hy,ex,ey,hm,h1,h2,rfl⟩
 have g0:=(hsame.get 0 rfl).trans (by simp:_=V.ptr (some (tid,0)))
 clear hsame
 by_cases hxy:x=y
 ·have:meetGo l c x y=x:=by
    cases c with
    | zero=>rfl
    | succ c=>rw[meetGo,if_pos hxy]
  rw[this]at hm
  simp[h1,h2,hxy,←hm]
 ·have hb:((x:Int) != (y:Int))=true:=by simp;omega
  cases c with
  | zero=>
    exact absurd ((hgt_zero_iff w hx ex).trans (hgt_zero_iff w hy ey).symm) hxy
  | succ c=>
    rw[meetGo,if_neg hxy]at hm
    have px:=w.pos_of_hgt (i:=x) (by omega)
    have py:=w.pos_of_hgt (i:=y) (by omega)
    have hpx:=par_int w px hx
    have hpy:=par_int w py hy
    have lx:=w.par_lt px hx
    have ly:=w.par_lt py hy
    have hhx:=w.hgt_par px hx
    have hhy:=w.hgt_par py hy
    have ox:=osegPar (nd l x)
    have oy:=osegPar (nd l y)
    rw[hpx]at ox
    rw[hpy]at oy
    simp[g0,h1,h2,hb]
    refine(spec161 oki h w x).mono ?_
    rintro v st1 ⟨rfl,rfl⟩
    rw[inI_of hx]
    simp[fldV_agg,ox,g0,h2]
    refine(spec161 oki h w y).mono ?_
    rintro v st1 ⟨rfl,rfl⟩
    rw[inI_of hy]
    simp[fldV_agg,oy]
    exact Round.mk c _ (by omega) (sub_self _) (hJ _ _ _ ⟨par l x,par l y,by omega,by omega,by omega,by omega,hm,by simp,by simp,rfl⟩)
end
section
variable {α:Type}
def flg (l:List (α×Bool)):List α:=(l.filter (·.2)).map (·.1)
theorem flg_set {l:List (α×Bool)}{i:Nat}(hi:i<l.length)(hf:l[i].2=false):(flg (l.set i (l[i].1,true))).Perm (flg l++[l[i].1]):=by
 have e:l=l.take i++l[i]::l.drop (i+1):=by rw[←List.drop_eq_getElem_cons hi,List.take_append_drop]
 have e2:l.set i (l[i].1,true)=l.take i++(l[i].1,true)::l.drop (i+1):=List.set_eq_take_append_cons_drop.trans (if_pos hi)
 have h1:flg (l.set i (l[i].1,true))=flg (l.take i)++l[i].1::flg (l.drop (i+1)):=by rw[e2];simp[flg]
 have h2:flg l=flg (l.take i)++flg (l.drop (i+1)):=by
  refine(congrArg flg e).trans ?_
  simp only[flg,List.filter_append,List.filter_cons,hf,Bool.false_eq_true,if_false,List.map_append]
 rw[h1,h2,List.append_assoc]
 exact List.Perm.append_left _ (List.perm_append_comm (l₁:=[l[i].1]))
theorem flg_all {l:List (α×Bool)}(h: ∀x∈l,x.2=true):flg l=l.map (·.1):=by
 unfold flg
 rw[List.filter_eq_self.2 h]
theorem flg_none (l:List α):flg (l.map fun x=>(x,false))=[]:=by simp[flg]
theorem fst_set {l:List (α×Bool)}{i:Nat}(hi:i<l.length):(l.set i (l[i].1,true)).map (·.1)=l.map (·.1):=by
 apply List.ext_getElem
 ·simp
 ·intro j q1 q2
  simp only[List.getElem_map,List.getElem_set]
  split
  ·rename_i e;subst e;rfl
  ·rfl
end
section
variable {K A:Type} (ek:K→V) (ev:A→V)
def encG (fl:List ((K×A)×Bool)):List ((V×V)×Bool):=fl.map fun p=>((ek p.1.1,ev p.1.2),p.2)
theorem encG_len (fl:List ((K×A)×Bool)):(encG ek ev fl).length=fl.length:=by simp[encG]
theorem encG_start (es:List (K×A)):(encM ek ev es).map (fun e=>(e,false))=encG ek ev (es.map fun x=>(x,false)):=by simp[encG,encM,Function.comp_def]
theorem encG_map (fl:List ((K×A)×Bool)):(encG ek ev fl).map (·.1)=encM ek ev (fl.map (·.1)):=by simp[encG,encM,Function.comp_def]
theorem encG_set (fl:List ((K×A)×Bool)){i:Nat}(hi:i<fl.length)(h:i< (encG ek ev fl).length):(encG ek ev fl).set i ((encG ek ev fl)[i].1,true)=encG ek ev (fl.set i (fl[i].1,true)):=by
 simp[encG,List.map_set]
theorem encG_all {fl:List ((K×A)×Bool)}(h: ∀x∈encG ek ev fl,x.2=true): ∀x∈fl,x.2=true:=fun x hx=>h ((ek x.1.1,ev x.1.2),x.2) (List.mem_map.2 ⟨x,hx,rfl⟩)
end
abbrev Fl:=Int×Int
def eFl (x:Fl):List V:=[.int .i64 x.1,.int .i64 x.2]
def vFl (x:Fl):V:=.agg (eFl x)
abbrev Fls:=List (Int×Fl)
def WinL (t:Nat)(es:Fls)(sl:Int):Option Nat→List Asn
 | none=>[pt t (.cells [.map none,.int .i64 sl])]
 | some m=>[pt t (.cells [.map (some m),.int .i64 sl]),pt m (.mp (encM kInt vFl es))]
def WinS (t:Nat)(es:Fls)(sl:Int)(L:List Asn)(st:St):Prop:=∃mo,(mo=none→es=[])∧Sep (WinL t es sl mo++L) st
theorem WinS.at {t:Nat}{es:Fls}{sl:Int}{L:List Asn}{st:St}(h:WinS t es sl L st): ∃mv,st t=some (.cells [mv,.int .i64 sl]):=by
 obtain⟨mo,h0,S⟩:=h
 cases mo with
 | none=>exact⟨_,S.get⟩
 | some m=>exact⟨_,S.get⟩
theorem WinS.tail {t:Nat}{es:Fls}{sl:Int}{L L':List Asn}{st:St}(h:WinS t es sl L st)(hL: ∀r,Sep L r→Sep L' r):WinS t es sl L' st:=by
 obtain⟨mo,h0,S⟩:=h
 refine⟨mo,h0,?_⟩
 cases mo with
 | none=>exact S.tail hL
 | some m=>exact S.tail fun r h=>h.tail hL
theorem WinS.rest {t:Nat}{es:Fls}{sl:Int}{L:List Asn}{st:St}(h:WinS t es sl L st):Sep L st:=by
 obtain⟨mo,h0,S⟩:=h
 cases mo with
 | none=>exact S.drop
 | some m=>exact S.drop.drop
theorem WinS.new {t:Nat}{es:Fls}{sl:Int}{L:List Asn}{st:St}(h:WinS t es sl L st){i:Nat}(hi:st i=none)(o:AObj):WinS t es sl (pt i o::L) (st.upd i o):=by
 obtain⟨mo,h0,S⟩:=h
 refine⟨mo,h0,?_⟩
 have S:=S.new hi o
 cases mo with
 | none=>exact S.swap
 | some m=>exact S.swap.tail fun r h=>h.swap
theorem WinS.start {t:Nat}{L:List Asn}{st:St}(h:Sep (pt t (.cells [.map none,.int .i64 0])::L) st):WinS t [] 0 L st:=⟨none,fun _=>rfl,h⟩
def countM (es:Fls)(p:Int):Nat:=es.countP fun e=>e.2.1==p
def limM (sl:Int):Int:=min 160 (20*2 ^ sl.toNat)
theorem shl20 {sl:Int}(h:0≤sl∧sl≤3):binV .shl (.int .i64 20) (.int .i64 sl)=some (.int .i64 (20*2 ^ sl.toNat)):=by
 obtain rfl | rfl | rfl | rfl:sl=0∨sl=1∨sl=2∨sl=3:=by omega
 all_goals rfl
section
variable {P:Program} {F:Fn}
theorem spec279 (ok:OkWindow P F){st:St}{t:Nat}{mv:V}{sl:Int}(h:st t=some (.cells [mv,.int .i64 sl]))(hs:0≤sl∧sl≤3):ACalls P (F 279) [.ptr (some (t,0))] st fun v st'=>v=.int .i64 (limM sl)∧st'=st:=by
 refine shows_call ok.mixed ok.h279 (by simp[k279]) ?_
 simp only[k279]
 have hseg:segOf [mv,V.int .i64 sl] 1 1=some [.int .i64 sl]:=rfl
 have hm:foldV min2V (V.int .i64 160) [V.int .i64 (20*2 ^ sl.toNat)]=some (.int .i64 (limM sl)):=by
  simp only[foldV,min2V,if_true,Option.bind_some,limM]
  congr 2
  split<;>omega
 simp[St.seg,h,hseg,shl20 hs,hm]
set_option maxHeartbeats 1000000 in
theorem spec281 (ok:OkWindow P F){st:St}{t:Nat}{es:Fls}{sl:Int}{L:List Asn}(h:WinS t es sl L st)(p:Int)(hl:es.length≤1000000):ACalls P (F 281) [.ptr (some (t,0)),.int .i64 p] st fun v st'=>v=.int .i64 (countM es p:Nat)∧WinS t es sl L st':=by
 refine shows_call ok.mixed ok.h281 (by simp[k281]) ?_
 simp only[k281]
 obtain⟨mo,h0,S⟩:=h
 have hseg: ∀mv:V,segOf [mv,V.int .i64 sl] 0 1=some [mv]:=fun _=>rfl
 cases mo with
 | none=>
   have o:=S.get
   have he:es=[]:=h0 rfl
   subst he
   simp[St.seg,o,hseg,rngMapS]
   intro it hit
   have S:=S.new hit (.mit none 0 [] 0)
   generalize st.upd it _=st2 at S⊢
   refine vc_joinB (M:=fun env' st'=>env' 5=.int .i64 0∧Sep (pt t (.cells [.map none,.int .i64 sl])::L) st') ?_ ?_
   ·refine vc_loopJ (fun c env' st'=>c=0∧env' 5=.int .i64 0∧Sep (pt it (.mit none 0 [] 0)::pt t (.cells [.map none,.int .i64 sl])::L) st') 0 ⟨rfl,by simp,S⟩ ?_
    rintro J hJ c env' st3 hsame ⟨rfl,h5,S⟩
    have g12:=(hsame.get 12 rfl).trans (by simp:_=V.ptr (some (it,0)))
    clear hsame
    have oi:=S.get
    simp[g12,nextMapS,oi,h5]
    exact S.drop
   ·rintro env' st3 hsame ⟨h5,S⟩
    have g11:=(hsame.get 11 rfl).trans (by simp:_=V.map none)
    clear hsame
    refine frzP_one (v:=.map none) (st':=st3) (by rw[g11];rfl) ?_
    simp[h5,countM]
    exact⟨st3,sub_self _,none,fun _=>rfl,S⟩
 | some m=>
   have o:=S.get
   simp[St.seg,o,hseg]
   refine Sep.rng S.swap ?_
   intro it st2 S
   rw[encG_start]at S
   simp
   refine vc_joinB (M:=fun env' st'=>env' 5=.int .i64 (countM es p:Nat)∧∃fl last,fl.map (·.1)=es∧Sep (Going m it (encG kInt vFl fl) last::pt t (.cells [.map (some m),.int .i64 sl])::L) st') ?_ ?_
   ·refine vc_loopJ (fun c env' st'=>∃fl last,c=unseen (encG kInt vFl fl)∧fl.map (·.1)=es∧env' 5=.int .i64 (countM (flg fl) p:Nat)∧Sep (Going m it (encG kInt vFl fl) last::pt t (.cells [.map (some m),.int .i64 sl])::L) st') (unseen (encG kInt vFl (es.map fun x=>(x,false))))
      ⟨_,none,rfl,by simp[Function.comp_def],by simp[flg_none,countM],S⟩ ?_
    rintro J hJ c env' st3 hsame ⟨fl,last,rfl,hfl,h5,S⟩
    have g1:=(hsame.get 1 rfl).trans (by simp:_=V.int .i64 p)
    have g12:=(hsame.get 12 rfl).trans (by simp:_=V.ptr (some (it,0)))
    clear hsame
    simp[g12]
    refine Sep.next S ?_ ?_
    ·intro hall
     have:=flg_all (encG_all kInt vFl hall)
     rw[this,hfl]at h5
     simp[h5]
     exact⟨fl,hfl,last,S⟩
    ·intro i hi hf st4 S
     have hi':i<fl.length:=by rw[←encG_len kInt vFl];exact hi
     rw[encG_set kInt vFl fl hi' hi]at S
     obtain⟨hi2,hent⟩:=S.ent
     have hfi:fl[i].2=false:=by simpa[encG]using hf
     obtain⟨x,hx⟩: ∃x,x=fl[i].1:=⟨_,rfl⟩
     simp[encG,←hx]at hent
     simp[g12,hent]
     intro i7 h7
     have key:storeS (st4.upd i7 (.cells [.int .i64 0,.int .i64 0])) 2 (.ptr (some (i7,0))) (vFl x.2)=some (st4.upd i7 (.cells (eFl x.2))):=by
      rw[store_pt (sz:=2) (o:=0) (vs:=eFl x.2) (St.upd_same _ _ _) rfl rfl (by simp)]
      simp[spliceV,eFl]
     have hf0:segOf (eFl x.2) 0 1=some [.int .i64 x.2.1]:=rfl
     have S:=S.new h7 (.cells (eFl x.2))
     have hun:=unseen_set hi hf ((encG kInt vFl fl)[i].1)
     rw[encG_set kInt vFl fl hi' hi]at hun
     have hpm:=(flg_set hi' hfi).countP_eq (fun e=>e.2.1==p)
     rw[List.countP_append,←hx]at hpm
     have hle:countM (flg fl) p≤1000000:=by
      refine Nat.le_trans List.countP_le_length (Nat.le_trans ?_ hl)
      rw[←hfl,List.length_map]
      unfold flg
      rw[List.length_map]
      exact List.length_filter_le _ _
     have w1:IntKind.i64.wrap ((countM (flg fl) p:Int)+1)=(countM (flg fl) p:Int)+1:=wrap64 (by omega) (by omega)
     by_cases hp:x.2.1=p
     ·have e1:countM (flg (fl.set i (x,true))) p=countM (flg fl) p+1:=by
        rw[hx]at hpm⊢
        unfold countM
        rw[hpm,←hx]
        simp[hp]
      simp[key,St.seg,hf0,g1,hp,h5,w1]
      exact Round.mk _ _ hun (sub_self _) (hJ _ _ _ ⟨fl.set i (fl[i].1,true),some i,rfl,by rw[fst_set hi',hfl],by simp[←hx,e1],S.drop⟩)
     ·have e1:countM (flg (fl.set i (x,true))) p=countM (flg fl) p:=by
        rw[hx]at hpm⊢
        unfold countM
        rw[hpm,←hx]
        simp[hp]
      have hpb:(x.2.1==p)=false:=beq_eq_false_iff_ne.2 hp
      simp[key,St.seg,hf0,g1,hpb,h5]
      exact Round.mk _ _ hun (sub_self _) (hJ _ _ _ ⟨fl.set i (fl[i].1,true),some i,rfl,by rw[fst_set hi',hfl],by simp[←hx,e1,h5],S.drop⟩)
   ·rintro env' st3 hsame ⟨h5,fl,last,hfl,S⟩
    have g11:=(hsame.get 11 rfl).trans (by simp:_=V.map (some m))
    clear hsame
    obtain⟨hfz,S⟩:=S.gone
    refine frzP_one (by rw[g11];exact hfz) ?_
    rw[encG_map,hfl]at S
    simp[h5]
    exact⟨_,sub_self _,some m,(fun e=>by cases e),by rw[encG_map,hfl];exact S.swap⟩
def askM (es:Fls)(i p:Int):Int:=if(lk i es).isSome=true then 5 else if 16≤countM es p then 3 else 0
def askT (es:Fls)(i p now:Int):Fls:=if askM es i p=0 then es++[(i,p,now)]else es
theorem aSet_app {K A:Type}[DecidableEq K](k:K)(v:A): ∀l:List (K×A),lk k l=none→aSet k v l=l++[(k,v)]
 | [],_=>rfl
 | p::l,h=>by
   unfold lk at h
   rw[List.lookup_cons]at h
   by_cases hk:k=p.1
   ·simp[hk]at h
   ·have:(k==p.1)=false:=by simpa using hk
    rw[this]at h
    rw[aSet,if_neg hk,aSet_app k v l h]
    rfl
set_option maxHeartbeats 1000000 in
theorem spec283 (ok:OkWindow P F){st:St}{t:Nat}{es:Fls}{sl:Int}{L:List Asn}(h:WinS t es sl L st)(i p now:Int)(hl:es.length≤1000000):ACalls P (F 283) [.ptr (some (t,0)),.int .i64 i,.int .i64 p,.int .i64 now] st fun v st'=>v=.int .i64 (askM es i p)∧WinS t (askT es i p now) sl L st':=by
 refine shows_call ok.mixed ok.h283 (by simp[k283]) ?_
 simp only[k283]
 have hseg: ∀mv:V,segOf [mv,V.int .i64 sl] 0 1=some [mv]:=fun _=>rfl
 have z:V.agg [.int .i64 0,.int .i64 0]=vFl (0,0):=rfl
 have key: ∀(x:Fl) (st:St) (i6:Nat),storeS (st.upd i6 (.cells [.int .i64 0,.int .i64 0])) 2 (.ptr (some (i6,0))) (vFl x)=some (st.upd i6 (.cells (eFl x))):=fun x st i6=>by
  rw[store_pt (sz:=2) (o:=0) (vs:=eFl x) (St.upd_same _ _ _) rfl rfl (by simp)]
  simp[spliceV,eFl]
 have hfb:fillV [V.int .i64 0,V.int .i64 0] [(0,1,V.int .i64 p),(1,1,V.int .i64 now)]=some (eFl (p,now)):=rfl
 have hlook: ∃st2,lookupV st .int (V.agg [.int .i64 0,.int .i64 0]) true ((fun mo:Option Nat=>V.map mo) (Classical.choose h)) (.int .i64 i)=some (.tup [vFl ((lk i es).getD (0,0)),.bool (lk i es).isSome])∧st2=st:=by
  have h1:=Classical.choose_spec h
  refine⟨st,?_,rfl⟩
  generalize Classical.choose h=mo at h1
  cases mo with
  | none=>
    have he:es=[]:=h1.1 rfl
    subst he
    exact lookup_none keyed_int (st:=st) (V.agg [.int .i64 0,.int .i64 0]) true i
  | some m=>
    have hl:=lookup_lk keyed_int (ev:=vFl) (h1.2.drop.get) (V.agg [.int .i64 0,.int .i64 0]) i
    have hx:((lk i es).map vFl).getD (V.agg [.int .i64 0,.int .i64 0])=vFl ((lk i es).getD (0,0)):=by
     cases lk i es<;>rfl
    rw[hx]at hl
    exact hl
 have h1:=Classical.choose_spec h
 obtain⟨-,hlook,-⟩:=hlook
 generalize Classical.choose h=mo at h1 hlook
 have o:st t=some (.cells [.map mo,.int .i64 sl]):=by
  cases mo with
  | none=>exact h1.2.get
  | some m=>exact h1.2.get
 simp[St.seg,o,hseg,hlook]
 intro i9 h9
 have W:WinS t es sl (pt i9 (.cells (eFl ((lk i es).getD (0,0))))::L) ((st.upd i9 (.cells [.int .i64 0,.int .i64 0])).upd i9 (.cells (eFl ((lk i es).getD (0,0))))):=by
  simp
  exact WinS.new h h9 _
 simp at W
 simp[key]
 generalize st.upd i9 (.cells (eFl ((lk i es).getD (0,0))))=st2 at W⊢
 have W:=W.tail fun r h=>h.drop
 cases hs:(lk i es).isSome with
 | true=>
   have e1:askM es i p=5:=by rw[askM,if_pos hs]
   have e2:askT es i p now=es:=by rw[askT,if_neg (by rw[e1];decide)]
   simp[e1,e2]
   exact⟨st2,sub_self _,W⟩
 | false=>
   have hnone:lk i es=none:=by cases hx:lk i es with | none=>rfl | some _=>rw[hx]at hs;cases hs
   simp
   refine(spec281 ok W p hl).mono ?_
   rintro v st3 ⟨rfl,W⟩
   by_cases c16:16≤countM es p
   ·have e1:askM es i p=3:=by rw[askM,if_neg (by simp[hs]),if_pos c16]
    have e2:askT es i p now=es:=by rw[askT,if_neg (by rw[e1];decide)]
    have c16':16≤(countM es p:Int):=by omega
    simp[c16',c16,e1,e2]
    exact⟨st3,sub_self _,W⟩
   ·have e1:askM es i p=0:=by rw[askM,if_neg (by simp[hs]),if_neg c16]
    have e2:askT es i p now=es++[(i,p,now)]:=by rw[askT,if_pos e1]
    have c16':¬16≤(countM es p:Int):=by omega
    have hset:aSet i (p,now) es=es++[(i,p,now)]:=aSet_app i (p,now) es hnone
    obtain⟨mo,h0,S⟩:=W
    rw[e1,e2]
    cases mo with
    | none=>
      have he:es=[]:=h0 rfl
      subst he
      have o:=S.get
      simp[c16',c16,St.seg,o,hseg,eqK]
      intro m hm
      have S:=S.new hm (.mp [])
      have o2:=S.drop.get
      have hst:=store_pt (sz:=1) (o:=0) o2 (v:=.map (some m)) (vs:=[.map (some m)]) rfl rfl (by simp)
      rw[show spliceV [V.map none,V.int .i64 sl] 0 [V.map (some m)]=[.map (some m),.int .i64 sl]from rfl]at hst
      have S:=S.setAt (.cells [.map (some m),.int .i64 sl]) 1 rfl
      simp only[List.set_cons_succ,List.set_cons_zero]at S
      simp[hst]
      generalize(st3.upd m (.mp [])).upd t _=st4 at S⊢
      have om:=S.get
      have ot:=S.drop.get
      have hms:=mset_enc keyed_int (ev:=vFl) (l:=[]) om i (p,now)
      simp only[kInt]at hms
      have hv:V.agg (eFl (p,now))=vFl (p,now):=rfl
      simp[St.seg,ot,hseg,hfb,hv,hms]
      exact⟨_,sub_self _,some m,(fun e=>by cases e),(S.set _).swap⟩
    | some m=>
      have ot:=S.get
      have om:=S.drop.get
      have hms:=mset_enc keyed_int (ev:=vFl) om i (p,now)
      simp only[kInt]at hms
      have hv:V.agg (eFl (p,now))=vFl (p,now):=rfl
      simp[c16',c16,St.seg,ot,hseg,eqK,hfb,hv,hms]
      rw[hset]
      exact⟨_,sub_self _,some m,(fun e=>by cases e),(S.swap.set _).swap⟩
def gotT (es:Fls)(sl i:Int):Int:=if(lk i es).isSome=true then max 0 (sl-1)else sl
theorem aDel_none {K A:Type}[DecidableEq K](k:K): ∀l:List (K×A),lk k l=none→aDel k l=l
 | [],_=>rfl
 | p::l,h=>by
   unfold lk at h
   rw[List.lookup_cons]at h
   by_cases hk:k=p.1
   ·simp[hk]at h
   ·have:(k==p.1)=false:=by simpa using hk
    rw[this]at h
    rw[aDel,if_neg hk,aDel_none k l h]
set_option maxHeartbeats 1000000 in
theorem spec284 (ok:OkWindow P F){st:St}{t:Nat}{es:Fls}{sl:Int}{L:List Asn}(h:WinS t es sl L st)(i:Int)(hs:0≤sl∧sl≤3):ACalls P (F 284) [.ptr (some (t,0)),.int .i64 i] st fun v st'=>WinS t (aDel i es) (gotT es sl i) L st':=by
 refine shows_call ok.mixed ok.h284 (by simp[k284]) ?_
 simp only[k284]
 have hseg: ∀mv:V,segOf [mv,V.int .i64 sl] 0 1=some [mv]:=fun _=>rfl
 have hseg1: ∀mv:V,segOf [mv,V.int .i64 sl] 1 1=some [.int .i64 sl]:=fun _=>rfl
 have z:V.agg [.int .i64 0,.int .i64 0]=vFl (0,0):=rfl
 have key: ∀(x:Fl) (st:St) (i6:Nat),storeS (st.upd i6 (.cells [.int .i64 0,.int .i64 0])) 2 (.ptr (some (i6,0))) (vFl x)=some (st.upd i6 (.cells (eFl x))):=fun x st i6=>by
  rw[store_pt (sz:=2) (o:=0) (vs:=eFl x) (St.upd_same _ _ _) rfl rfl (by simp)]
  simp[spliceV,eFl]
 have w1:IntKind.i64.wrap (sl-1)=sl-1:=wrap64 (by omega) (by omega)
 have hmax:foldV max2V (V.int .i64 0) [V.int .i64 (sl-1)]=some (.int .i64 (max 0 (sl-1))):=by
  simp only[foldV,max2V,if_true,Option.bind_some]
  congr 2
  split<;>omega
 obtain⟨mo,h0,S⟩:=h
 cases mo with
 | none=>
   have he:es=[]:=h0 rfl
   subst he
   have o:=S.get
   have hl:=lookup_none keyed_int (st:=st) (V.agg [.int .i64 0,.int .i64 0]) true i
   simp only[kInt]at hl
   simp[St.seg,o,hseg,hl]
   intro i4 h4
   have S:=S.new h4 (.cells (eFl (0,0)))
   simp[z,key]
   exact⟨_,sub_self _,none,fun _=>rfl,by rw[gotT,if_neg (by simp[lk])];exact S.drop⟩
 | some m=>
   have o:=S.get
   have om:=S.drop.get
   have hl:=lookup_lk keyed_int (ev:=vFl) om (V.agg [.int .i64 0,.int .i64 0]) i
   simp only[kInt]at hl
   have hx:((lk i es).map vFl).getD (V.agg [.int .i64 0,.int .i64 0])=vFl ((lk i es).getD (0,0)):=by
    cases lk i es<;>rfl
   rw[hx]at hl
   simp[St.seg,o,hseg,hl]
   intro i4 h4
   have S:=S.new h4 (.cells (eFl ((lk i es).getD (0,0))))
   simp[key]
   generalize st.upd i4 _=st2 at S⊢
   cases hsm:(lk i es).isSome with
   | false=>
     have hnone:lk i es=none:=by cases hx:lk i es with | none=>rfl | some _=>rw[hx]at hsm;cases hsm
     have e1:gotT es sl i=sl:=by rw[gotT,if_neg (by simp[hsm])]
     rw[e1,aDel_none i es hnone]
     simp
     exact⟨_,sub_self _,some m,(fun e=>by cases e),S.drop⟩
   | true=>
     have e1:gotT es sl i=max 0 (sl-1):=by rw[gotT,if_pos hsm]
     have S:=S.drop
     have ot:=S.get
     have om:=S.drop.get
     have hd:=mdel_enc keyed_int (ev:=vFl) om i
     simp only[kInt]at hd
     have hne:t≠m:=S.ne
     have S2:=(S.swap.set (.mp (encM kInt vFl (aDel i es)))).swap
     have ot2:=S2.get
     have hst:=store_pt (sz:=1) (o:=1) ot2 (v:=.int .i64 (max 0 (sl-1))) (vs:=[.int .i64 (max 0 (sl-1))]) rfl rfl (by simp)
     rw[show spliceV [V.map (some m),V.int .i64 sl] 1 [V.int .i64 (max 0 (sl-1))]=[.map (some m),.int .i64 (max 0 (sl-1))]from rfl]at hst
     have S3:=S2.set (.cells [.map (some m),.int .i64 (max 0 (sl-1))])
     simp[St.seg,ot,hseg,hd,hne,hseg1,w1,hmax,hst]
     exact⟨_,sub_self _,some m,(fun e=>by cases e),by rw[e1];exact S3⟩
end
def ChA (cid:Nat)(c:Ch):Asn:=fun h=>ChS cid c [] h
theorem ChS.asn {cid:Nat}{c:Ch}{L:List Asn}{st:St}(h:ChS cid c L st):Sep (ChA cid c::L) st:=by
 obtain⟨tid,bid,uid,mo,h0,S⟩:=h
 cases mo with
 | none=>exact(Sep.all (L1:=SetL cid (chF tid bid uid c.tip) c.cm none++ChL c tid bid uid) S).head fun h hh=>⟨tid,bid,uid,none,h0,by rw[List.append_nil];exact hh⟩
 | some m=>exact(Sep.all (L1:=SetL cid (chF tid bid uid c.tip) c.cm (some m)++ChL c tid bid uid) S).head fun h hh=>⟨tid,bid,uid,some m,h0,by rw[List.append_nil];exact hh⟩
theorem chRead {cid:Nat}{c:Ch}{L:List Asn}{st:St}(h:Sep (ChA cid c::L) st): ∃mo tid bid uid,ChR cid c st mo tid bid uid:=by
 obtain⟨h',hs,hc⟩:=h.part
 obtain⟨mo,tid,bid,uid,hr⟩:=ChS.read hc
 exact⟨mo,tid,bid,uid,hr.sub hs⟩
theorem WinS.ov {A:Asn}{t:Nat}{es:Fls}{sl:Int}{L:List Asn}{st st':St}(h:Sep [A,Was st] st')(W:WinS t es sl L st):WinS t es sl (A::L) st':=by
 obtain⟨mo,h0,S⟩:=W
 have S:=h.ov S
 refine⟨mo,h0,?_⟩
 cases mo with
 | none=>exact S.swap
 | some m=>exact(S.pull 2).pull 2
theorem WinS.front {A:Asn}{t:Nat}{es:Fls}{sl:Int}{L:List Asn}{st:St}(W:WinS t es sl (A::L) st): ∃mo,(mo=none→es=[])∧Sep (A::(WinL t es sl mo++L)) st:=by
 obtain⟨mo,h0,S⟩:=W
 refine⟨mo,h0,?_⟩
 cases mo with
 | none=>exact S.swap
 | some m=>exact S.pull 2
theorem WinS.back {A:Asn}{t:Nat}{es:Fls}{sl:Int}{L:List Asn}{st:St}{mo:Option Nat}(h0:mo=none→es=[])(S:Sep (A::(WinL t es sl mo++L)) st):WinS t es sl (A::L) st:=by
 refine⟨mo,h0,?_⟩
 cases mo with
 | none=>exact S.swap
 | some m=>exact(S.pull 2).pull 2
def wantGo (c:Ch)(es:Fls)(top left:Int):List Int→List Int→List Int
 | out,[]=>out
 | out,i::r=>
   if left≤(out.length:Int)∨top< ((nd c.l (inI c.l i)).height:Int)then out
   else if(lk i es).isSome=false∧hasM c i=false then wantGo c es top left (out++[i]) r
   else wantGo c es top left out r
def wantM (c:Ch)(es:Fls)(peer best:Int):List Int:=
 if best<0∨(c.l.length:Int)≤best∨(nd c.l (inI c.l best)).failed=true then[]
 else wantGo c es (((nd c.l (inI c.l c.tip)).height:Int)+1024) (16-(countM es peer:Int)) [] (wayI c.l (meetM c.l (clI c.l c.tip) (clI c.l best):Nat) best)
theorem WinS.look {t:Nat}{es:Fls}{sl:Int}{L:List Asn}{st:St}(W:WinS t es sl L st)(i:Int): ∃mv,st t=some (.cells [mv,.int .i64 sl])∧
  lookupV st .int (V.agg [.int .i64 0,.int .i64 0]) true mv (.int .i64 i)=some (.tup [vFl ((lk i es).getD (0,0)),.bool (lk i es).isSome]):=by
 obtain⟨mo,h0,S⟩:=W
 cases mo with
 | none=>
   have he:es=[]:=h0 rfl
   subst he
   exact⟨_,S.get,lookup_none keyed_int (st:=st) (V.agg [.int .i64 0,.int .i64 0]) true i⟩
 | some m=>
   have hl:=lookup_lk keyed_int (ev:=vFl) (S.drop.get) (V.agg [.int .i64 0,.int .i64 0]) i
   have hx:((lk i es).map vFl).getD (V.agg [.int .i64 0,.int .i64 0])=vFl ((lk i es).getD (0,0)):=by
    cases lk i es<;>rfl
   rw[hx]at hl
   exact⟨_,S.get,hl⟩
theorem wayI_len {l:List Nd}(w:Wf l)(a b:Int)(hb:b<l.length):(wayI l a b).length≤l.length:=by
 unfold wayI
 split
 ·rw[wayM_len]
  by_cases h:b.toNat<l.length
  ·have:=w.hgt_le h
   omega
  ·have h0:hgt l b.toNat=0:=by simp[hgt,List.getElem?_eq_none (Nat.le_of_not_lt h)]
   omega
 ·exact Nat.zero_le _
section
variable {P:Program} {F:Fn}
set_option maxHeartbeats 8000000 in
theorem spec289 (ok:OkWindow P F){st:St}{t cid:Nat}{c:Ch}{es:Fls}{sl:Int}{L:List Asn}(W:WinS t es sl (ChA cid c::L) st)(w:Wf c.l)(hl:c.l.length≤16384)(he:es.length≤1000000)(peer best:Int):
  ACalls P (F 289) [.ptr (some (t,0)),.ptr (some (cid,0)),.int .i64 peer,.int .i64 best] st fun v st'=>WinS t es sl (Slx 1 e1 v (wantM c es peer best)::ChA cid c::L) st':=by
 have okc:=ok.toOkChain
 have okl:=okc.toOkLocate
 have oki:=okl.toOkIndexZ.toOkIndex
 refine shows_call ok.mixed ok.h289 (by simp[k289]) ?_
 simp only[k289]
 obtain⟨cmo,tid,bid,uid,R⟩:=chRead W.rest
 have T:=R.tree w.neNil
 have o1:=R.top
 have hnil:WinS t es sl (Slx 1 e1 (.sl .nil [] 0) []::ChA cid c::L) st:=by
  obtain⟨mo,h0,S⟩:=W
  exact WinS.back h0 (Sep.slxNil S)
 by_cases c1:best<0
 ·have e:wantM c es peer best=[]:=by rw[wantM,if_pos (.inl c1)]
  simp[c1,e]
  exact⟨st,sub_self _,hnil⟩
 simp[c1,St.seg,o1,cseg0]
 refine(spec159 oki T).mono ?_
 rintro v st1 ⟨rfl,rfl⟩
 by_cases c2:(c.l.length:Int)≤best
 ·have e:wantM c es peer best=[]:=by rw[wantM,if_pos (.inr (.inl c2))]
  simp[c2,e]
  exact⟨st1,sub_self _,hnil⟩
 simp[c2,St.seg,o1,cseg0]
 refine(spec161 oki T w best).mono ?_
 rintro v st2 ⟨rfl,rfl⟩
 have hfF: ∀x,fldV false 107 1 (V.agg (eNd x))=some (.bool x.failed):=fun x=>by
  show(segOf _ 107 1).bind (packV false)=_
  rw[nseg107];rfl
 have hfH: ∀x,fldV false 102 1 (V.agg (eNd x))=some (.int .i64 x.height):=fun x=>by
  show(segOf _ 102 1).bind (packV false)=_
  rw[osegHgt];rfl
 cases c3:(nd c.l (inI c.l best)).failed with
 | true=>
   have e:wantM c es peer best=[]:=by rw[wantM,if_pos (.inr (.inr c3))]
   simp[hfF,c3,e]
   exact⟨st2,sub_self _,hnil⟩
 | false=>
   have e:wantM c es peer best=wantGo c es (((nd c.l (inI c.l c.tip)).height:Int)+1024) (16-(countM es peer:Int)) [] (wayI c.l (meetM c.l (clI c.l c.tip) (clI c.l best):Nat) best):=by
    rw[wantM,if_neg (by rw[c3];rintro(h | h | h);exact c1 h;exact c2 h;cases h)]
   rw[e]
   have hhgt: ∀i,((nd c.l (inI c.l i)).height:Int)≤16384:=fun i=>by
    have h1:=inI_lt w i
    have h2:=w.hgt_le h1
    have h3:hgt c.l (inI c.l i)=(nd c.l (inI c.l i)).height:=(nd_hgt_eq h1).symm
    omega
   have w1:IntKind.i64.wrap (((nd c.l (inI c.l c.tip)).height:Int)+1024)=((nd c.l (inI c.l c.tip)).height:Int)+1024:=wrap64 (by omega) (by have:=hhgt c.tip;omega)
   simp[hfF,c3,St.seg,o1,cseg0]
   refine still_call _ _ _ _ (by simpa using spec266 okc R) ?_
   simp
   refine still_call _ _ _ _ (by simpa using spec161 oki T w c.tip) ?_
   simp[hfH,w1,St.seg,o1,cseg0]
   refine still_call _ _ _ _ (by simpa using spec266 okc R) ?_
   simp
   refine still_call _ _ _ _ (by simpa using spec228 okl T w hl c.tip best) ?_
   simp
   refine(spec281 ok W peer he).mono ?_
   rintro v st3 ⟨rfl,W⟩
   obtain⟨cmo,tid,bid,uid,R⟩:=chRead W.rest
   have T:=R.tree w.neNil
   have o1:=R.top
   have hcm:countM es peer≤es.length:=List.countP_le_length
   have w2:IntKind.i64.wrap (16-(countM es peer:Int))=16-(countM es peer:Int):=wrap64 (by omega) (by omega)
   simp[w2,St.seg,o1,cseg0]
   refine(spec229 okl T w hl _ best).mono ?_
   intro vw st4 S1
   have W:=W.ov S1
   clear R T o1 S1
   obtain⟨way,hway⟩: ∃x,x=wayI c.l (meetM c.l (clI c.l c.tip) (clI c.l best):Nat) best:=⟨_,rfl⟩
   have hwl:way.length≤16384:=by
    have:=wayI_len w (meetM c.l (clI c.l c.tip) (clI c.l best):Nat) best (by omega)
    rw[←hway]at this
    omega
   rw[←hway]at W⊢
   obtain⟨top,htop⟩: ∃x,x=((nd c.l (inI c.l c.tip)).height:Int)+1024:=⟨_,rfl⟩
   obtain⟨left,hleft⟩: ∃x,x=16-(countM es peer:Int):=⟨_,rfl⟩
   rw[←htop,←hleft]
   have hwr:=(Sep.rd e1_len W.rest).len
   simp[hwr]
   have W:WinS t es sl (Slx 1 e1 (.sl .nil [] 0) []::Sl 1 e1 vw way::ChA cid c::L) st4:=by
    obtain⟨mo,h0,S⟩:=W
    exact WinS.back h0 (Sep.slxNil S)
   refine vc_joinB (M:=fun env' st'=>WinS t es sl (Slx 1 e1 (env' 12) (wantGo c es top left [] way)::ChA cid c::L) st') ?_ ?_
   ·refine vc_loopJ (fun n env' st'=>∃(i:Nat) (out:List Int),i≤way.length∧out.length≤i∧n=way.length-i∧env' 66=.int .i64 (i:Nat)∧wantGo c es top left out (way.drop i)=wantGo c es top left [] way∧WinS t es sl (Slx 1 e1 (env' 12) out::Sl 1 e1 vw way::ChA cid c::L) st') way.length
      ⟨0,[],by omega,by simp,by omega,by simp,rfl,by simpa using W⟩ ?_
    rintro J hJ n env' st5 hsame ⟨i,out,hi,hol,rfl,h66,hgo,W⟩
    have g0:=(hsame.get 0 rfl).trans (by simp:_=V.ptr (some (t,0)))
    have g1:=(hsame.get 1 rfl).trans (by simp:_=V.ptr (some (cid,0)))
    have g9:=(hsame.get 9 rfl).trans (by simp:_=V.int .i64 top)
    have g11:=(hsame.get 11 rfl).trans (by simp:_=V.int .i64 left)
    have g64:=(hsame.get 64 rfl).trans (by simp:_=vw)
    have g65:=(hsame.get 65 rfl).trans (by simp:_=V.int .i64 (way.length:Int))
    clear hsame
    by_cases hlt:i<way.length
    ·obtain⟨r1,r2,r3,r4⟩:=(Sep.rd e1_len W.rest.drop).row e1_len hlt
     rw[List.drop_eq_getElem_cons hlt,wantGo]at hgo
     obtain⟨x,hx⟩: ∃x,x=way[i]:=⟨_,rfl⟩
     rw[←hx]at r3 hgo
     have w1:IntKind.i64.wrap ((i:Int)+1)=(i:Int)+1:=wrap64 (by omega) (by omega)
     obtain⟨mv,ot,hlook⟩:=W.look x
     have sg:segOf [mv,V.int .i64 sl] 0 1=some [mv]:=rfl
     simp[g0,g64,g65,h66,hlt,r1,r3,e1,St.seg,ot,sg,hlook]
     intro i15 h15
     have W:=W.new h15 (.cells (eFl ((lk x es).getD (0,0))))
     have key:storeS (st5.upd i15 (.cells [.int .i64 0,.int .i64 0])) 2 (.ptr (some (i15,0))) (vFl ((lk x es).getD (0,0)))=some (st5.upd i15 (.cells (eFl ((lk x es).getD (0,0))))):=by
      rw[store_pt (sz:=2) (o:=0) (vs:=eFl ((lk x es).getD (0,0))) (St.upd_same _ _ _) rfl rfl (by simp)]
      simp[spliceV,eFl]
     simp[key]
     generalize st5.upd i15 _=st6 at W⊢
     have W:=W.tail fun r h=>h.drop
     have hln:=(Sep.rd e1_len (W.rest.head fun h hh=>hh.sl)).len
     obtain⟨cmo,tid,bid,uid,R⟩:=chRead W.rest.drop.drop
     have T:=R.tree w.neNil
     have o1:=R.top
     have hbreak:(left≤(out.length:Int)∨top< ((nd c.l (inI c.l x)).height:Int))→WinS t es sl (Slx 1 e1 (env' 12) (wantGo c es top left [] way)::ChA cid c::L) st6:=fun hb=>by
      rw[if_pos hb]at hgo
      rw[←hgo]
      exact W.tail fun r h=>h.tail fun r h=>h.drop
     by_cases c4:left≤(out.length:Int)
     ·simp[hln,g11,c4]
      exact hbreak (.inl c4)
     simp[hln,g1,g9,g11,c4,St.seg,o1,cseg0]
     refine(spec161 oki T w x).mono ?_
     rintro v st7 ⟨rfl,rfl⟩
     by_cases c5:top< ((nd c.l (inI c.l x)).height:Int)
     ·simp[hfH,g9,c5]
      exact hbreak (.inr c5)
     rw[if_neg (by rintro(h | h);exact c4 h;exact c5 h)]at hgo
     cases c6:(lk x es).isSome with
     | true=>
       rw[if_neg (by rw[c6];rintro⟨h,-⟩;cases h)]at hgo
       simp[hfH,g9,c5,c6,h66,w1]
       exact Round.mk (way.length-(i+1)) _ (by omega) (sub_self _) (hJ _ _ _ ⟨i+1,out,by omega,by omega,rfl,by simp,hgo,by simpa using W⟩)
     | false=>
       simp[hfH,g1,g9,c5,c6]
       refine(spec268 okc R x).mono ?_
       rintro v st8 ⟨rfl,rfl⟩
       cases c7:hasM c x with
       | true=>
         rw[if_neg (by rw[c7];rintro⟨-,h⟩;cases h)]at hgo
         simp[h66,w1]
         exact Round.mk (way.length-(i+1)) _ (by omega) (sub_self _) (hJ _ _ _ ⟨i+1,out,by omega,by omega,rfl,by simp,hgo,by simpa using W⟩)
       | false=>
         rw[if_pos ⟨c6,c7⟩]at hgo
         have hfb:fillV (repV [V.int .i64 0] 1) [(0,1,V.int .i64 x)]=some [.int .i64 x]:=rfl
         have hel:elems st8 1 (.sl .full [.int .i64 x] 1)=some (rowsOf e1 [x],1):=by simp[elems,e1]
         simp[hfb,hel]
         obtain⟨mo,h0,S⟩:=W.front
         refine Sep.appx' (b:=8) e1_len (by omega) S [x] rfl rfl (by simp only[List.length_singleton];omega) ?_
         intro s' st9 S
         have W:=WinS.back h0 S
         simp[h66,w1]
         exact Round.mk (way.length-(i+1)) _ (by omega) (sub_self _) (hJ _ _ _ ⟨i+1,out++[x],by omega,by simp;omega,rfl,by simp,hgo,by simpa using W⟩)
    ·have:i=way.length:=by omega
     subst this
     rw[List.drop_length,wantGo]at hgo
     rw[hgo]at W
     simp[g65,h66]
     exact W.tail fun r h=>h.tail fun r h=>h.drop
   ·rintro env' st5 hsame W
    simp
    exact⟨st5,sub_self _,W⟩
end
end Go.Ab

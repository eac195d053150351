import Derived.Test.YtjcpdljfkhbbkaaGreatY7
import Derived.Test.YtjcpdljfkhbbkaaGreatY1
import Derived.Test.YtjcpdljfkhbbkaaGreatY2
import Derived.Test.YtjcpdljfkhbbkaaGreatY6
import Derived.Test.YtjcpdljfkhbbkaaGreatY4
set_option linter.unusedVariables false
set_option linter.unusedSimpArgs false
set_option linter.unusedSectionVars false
namespace Go.Ab
open Go Go.RowKit
set_option maxRecDepth 10000
def Tx1.fine (t:Tx1):Prop:=t.ins.length≤32∧t.outs.length≤32∧∀x∈t.ins,x.key.length≤100
theorem Tx1.fine.ok {t:Tx1}(h:t.fine):t.ok 100:=⟨by have:=h.1;omega,by have:=h.2.1;omega,fun x hx=>by have:=h.2.2 x hx;omega⟩
theorem txB_fine (t:Tx1)(h:t.fine):(txB t).length≤10000:=by
 have hc1:=countB_len (BitVec.ofNat 64 t.ins.length)
 have hc2:=countB_len (BitVec.ofNat 64 t.outs.length)
 have h1:=fm_len inB 145 t.ins fun x hx=>by
  have:=textB_len x.key
  have:=h.2.2 x hx
  simp[inB,putB_len]
  omega
 have h2:=fm_len outB 40 t.outs fun x hx=>by rw[outB_len];omega
 have h3:=h.1
 have h4:=h.2.1
 rw[txB,List.length_append,List.length_append,List.length_append]
 omega
theorem insGo_keys: ∀(l:List In1) (first:Bool) (seen:List Pt),insGo first seen l=none→∀x∈l,x.key.length≤100
 | [],_,_,_,x,hx=>by cases hx
 | a::l,first,seen,h,x,hx=>by
   rw[insGo]at h
   split at h
   ·cases h
   ·rename_i hk
    split at h
    ·cases h
    ·split at h
     ·cases h
     ·rcases List.mem_cons.1 hx with rfl | hx
      ·omega
      ·exact insGo_keys l first _ h x hx
theorem txM_fine {t:Tx1}{first:Bool}(h:txM t first=0):t.fine:=by
 unfold txM at h
 split at h
 ·cases h
 ·rename_i hc
  split at h
  ·rename_i e he
   subst h
   exfalso
   have: ∀(l:List In1) (seen:List Pt),insGo first seen l≠some 0:=by
    intro l
    induction l with
    | nil=>intro seen h;cases h
    | cons a l ih=>
      intro seen
      rw[insGo]
      split
      ·simp
      ·split
       ·simp
       ·split
        ·simp
        ·exact ih _
   exact this _ _ he
  ·rename_i he
   exact⟨by omega,by omega,insGo_keys _ _ _ he⟩
def blkB (b:Blk1):List UInt8:=hBytes b.hdr++(countB (BitVec.ofNat 64 b.txs.length)++b.txs.flatMap txB)
theorem bsegAll0 (b:Blk1):segOf (eBlk b) 0 69=some (eBlk b):=bsegAll b
theorem rd_txs (b:Blk1)(st:St):Rd 2 eTx (txsV b.tk b.txs) b.txs st:=.inl ⟨b.tk,rfl⟩
section
variable {P:Program} {F:Fn}
set_option maxHeartbeats 1000000 in
theorem spec204r (ok:OkTx P F){st:St}{wid:Nat}{l:List UInt8}{L:List Asn}(S:WrR wid l L st){x:V}{m:List UInt8}(hx:Rd 1 e8 x m st)(hl:l.length+m.length≤900000):
  ACalls P (F 204) [.ptr (some (wid,0)),.sl .full [x] 1] st fun v st'=>v=.tup []∧WrR wid (l++m) L st':=by
 refine shows_call ok.mixed ok.h204 (by simp[k204]) ?_
 simp only[k204]
 simp
 obtain⟨s,S⟩:=S
 have o:=S.get
 have hsg:segOf [x] 0 1=some [x]:=rfl
 have hsg0:segOf [s] 0 1=some [s]:=rfl
 have hel:=hx.elems e8_len
 refine vc_unroll 2 ?_
 simp[unr_succ,hsg,St.seg,o,hsg0,hel]
 refine Wr.app S m rfl rfl (by omega) ?_
 intro s' st2 st3 hc' hst S'
 simp[hst,unr_succ]
 exact⟨st3,sub_self _,S'⟩
set_option maxHeartbeats 4000000 in
theorem spec251 (ok:OkCheck2 P F)(st:St)(b:Blk1)(hl:b.txs.length≤32)(hb: ∀t∈b.txs,t.fine):ACalls P (F 251) [.agg (eBlk b)] st fun v st'=>Sep [Slx 1 e8 v (blkB b),Was st] st':=by
 have okt:=ok.toOkCheck.toOkTx
 refine shows_call ok.mixed ok.h251 (by simp[k251]) ?_
 simp only[k251]
 simp
 intro i1 h1
 have S:=(Sep.start st).new h1 (.cells (eBlk b))
 generalize st.upd i1 _=st1 at S⊢
 simp
 intro wid hw
 have S:=S.slxNil (sz:=1) (f:=e8)
 have S:=S.new hw (.cells [.sl .nil [] 0])
 generalize st1.upd wid _=st2 at S⊢
 have o1:=S.mem (i:=i1) (o:=.cells (eBlk b)) (by simp)
 have hsH:=bsegH b
 have hsT:=bsegT b
 have hln:lenSlV (txsV b.tk b.txs)=some (.int .i64 b.txs.length):=rfl
 simp[St.seg,o1,hsH]
 refine(spec140 okt.toOkHead st2 b.hdr).mono ?_
 intro v st3 S1
 have S:=S1.ov S
 have hf:=partFill S.cells
 have rdv:Rd 1 e8 v (hBytes b.hdr) st3:=Sep.rd e8_len (S.head fun h hh=>hh.sl)
 have S:WrR wid [] (Slx 1 e8 v (hBytes b.hdr)::pt i1 (.cells (eBlk b))::[Was st]) st3:=⟨_,S.swap.tail fun r h=>h.swap⟩
 simp[hf]
 refine(spec204r okt S rdv (by rw[hBytes_len];simp)).mono ?_
 rintro u st4 ⟨rfl,S⟩
 rw[List.nil_append]at S
 have S:=S.tail fun r h=>h.drop
 have o1:st4 i1=some (.cells (eBlk b)):=by
  obtain⟨s,S⟩:=S
  exact S.mem (by simp)
 simp[St.seg,o1,hsT,hln]
 refine(spec203 okt S (by rw[hBytes_len];omega) _).mono ?_
 rintro u st5 ⟨rfl,S⟩
 have o1:st5 i1=some (.cells (eBlk b)):=by
  obtain⟨s,S⟩:=S
  exact S.mem (by simp)
 simp[St.seg,o1,hsT,hln]
 have hc0:=countB_len (BitVec.ofNat 64 b.txs.length)
 refine vc_loopJ (fun c env' st'=>∃i:Nat,i≤b.txs.length∧c=b.txs.length-i∧env' 19=.int .i64 (i:Nat)∧WrR wid (hBytes b.hdr++countB (BitVec.ofNat 64 b.txs.length)++(b.txs.take i).flatMap txB) (pt i1 (.cells (eBlk b))::[Was st]) st') b.txs.length
  ⟨0,by omega,by omega,by simp,by simpa using S⟩ ?_
 rintro J hJ c env' st6 hsame ⟨i,hi,rfl,h19,S⟩
 have g3:=(hsame.get 3 rfl).trans (by simp:_=V.ptr (some (wid,0)))
 have g17:=(hsame.get 17 rfl).trans (by simp:_=txsV b.tk b.txs)
 have g18:=(hsame.get 18 rfl).trans (by simp:_=V.int .i64 (b.txs.length:Int))
 clear hsame
 have hlen: ∀k,((b.txs.take k).flatMap txB).length≤320000:=fun k=>by
  have:=fm_len txB 10000 (b.txs.take k) fun t ht=>txB_fine t (hb t (List.mem_of_mem_take ht))
  rw[List.length_take]at this
  have h2:min k b.txs.length*10000≤32*10000:=Nat.mul_le_mul_right _ (by omega)
  omega
 have hw:(hBytes b.hdr++countB (BitVec.ofNat 64 b.txs.length)++(b.txs.take i).flatMap txB).length≤330000:=by
  have:=hlen i
  rw[List.length_append,List.length_append,hBytes_len]
  omega
 by_cases hlt:i<b.txs.length
 ·obtain⟨r1,r2,r3,r4⟩:=(rd_txs b st6).row eTx_len hlt
  have htf:=hb b.txs[i] (List.getElem_mem hlt)
  obtain⟨t,ht⟩: ∃t,t=b.txs[i]:=⟨_,rfl⟩
  rw[←ht]at r3 htf
  have w1:IntKind.i64.wrap ((i:Int)+1)=(i:Int)+1:=wrap64 (by omega) (by omega)
  simp[g17,g18,h19,hlt,r1,r3]
  intro i5 h5
  have S:=S.new h5 (.cells [.sl .nil [] 0,.sl .nil [] 0])
  have o5:(st6.upd i5 (.cells [.sl .nil [] 0,.sl .nil [] 0])) i5=some (.cells [.sl .nil [] 0,.sl .nil [] 0]):=by simp
  have hst:=store_pt (sz:=2) (o:=0) o5 (v:=.agg (eTx t)) (vs:=eTx t) rfl rfl (by simp)
  rw[show spliceV [V.sl .nil [] 0,V.sl .nil [] 0] 0 (eTx t)=eTx t from rfl]at hst
  have S:WrR wid (hBytes b.hdr++countB (BitVec.ofNat 64 b.txs.length)++(b.txs.take i).flatMap txB) (pt i5 (.cells (eTx t))::pt i1 (.cells (eBlk b))::[Was st]) ((st6.upd i5 (.cells [.sl .nil [] 0,.sl .nil [] 0])).upd i5 (.cells (eTx t))):=by
   obtain⟨s,S⟩:=S
   exact⟨s,((S.pull 2).set (.cells (eTx t))).swap.tail fun r h=>h.swap⟩
  simp[hst]at S⊢
  generalize(st6.upd i5 (.cells (eTx t)))=st7 at S⊢
  have o5:st7 i5=some (.cells (eTx t)):=by
   obtain⟨s,S⟩:=S
   exact S.mem (by simp)
  simp[g3,St.seg,o5,tsegAll]
  refine(spec201 okt S t htf.ok (by rw[←List.append_assoc];omega)).mono ?_
  rintro u st8 ⟨rfl,S⟩
  simp[h19,w1]
  refine Round.mk (b.txs.length-(i+1)) _ (by omega) (sub_self _) (hJ _ _ _ ⟨i+1,by omega,rfl,by simp,?_⟩)
  rw[List.take_succ_eq_append_getElem hlt,←ht,List.flatMap_append]
  have S:=S.tail fun r h=>h.drop
  refine S.imp ?_
  simp
 ·have:i=b.txs.length:=by omega
  subst this
  rw[List.take_length]at S hw
  simp[g3,g18,h19]
  refine(spec202 okt S (by omega)).mono ?_
  rintro u st7 ⟨s,S⟩
  simp
  refine⟨st7,sub_self _,?_⟩
  rw[List.append_assoc]at S
  exact S.tail fun r h=>h.drop.drop.drop
def rootE (b:Blk1):Int:=if(∃t∈b.txs,(txB t).length=64)∨(rootM (rowsIds b.txs)).2=true∨(rootM (rowsIds b.txs)).1≠b.hdr.root then 40 else 0
set_option maxHeartbeats 4000000 in
theorem spec252 (ok:OkCheck2 P F)(st:St)(b:Blk1)(hl:b.txs.length≤1000)(hb: ∀t∈b.txs,t.ok 100):ACalls P (F 252) [.agg (eBlk b)] st fun v st'=>v=.int .i64 (rootE b)∧St.sub st st':=by
 have okt:=ok.toOkCheck.toOkTx
 refine shows_call ok.mixed ok.h252 (by simp[k252]) ?_
 simp only[k252]
 simp
 intro i1 h1
 have S:=(Sep.start st).new h1 (.cells (eBlk b))
 generalize st.upd i1 _=st1 at S⊢
 have o1:=S.get
 have hsT:=bsegT b
 have hln:lenSlV (txsV b.tk b.txs)=some (.int .i64 b.txs.length):=rfl
 simp[St.seg,o1,hsT,hln]
 refine vc_joinB (M:=fun env' st'=>(∀t∈b.txs,(txB t).length≠64)∧Sep [pt i1 (.cells (eBlk b)),Was st] st') ?_ ?_
 ·refine vc_loopJ (fun c env' st'=>∃i:Nat,i≤b.txs.length∧c=b.txs.length-i∧env' 10=.int .i64 (i:Nat)∧(∀t∈b.txs.take i,(txB t).length≠64)∧Sep [pt i1 (.cells (eBlk b)),Was st] st') b.txs.length
    ⟨0,by omega,by omega,by simp,by simp,S⟩ ?_
  rintro J hJ c env' st6 hsame ⟨i,hi,rfl,h10,hno,S⟩
  have g8:=(hsame.get 8 rfl).trans (by simp:_=txsV b.tk b.txs)
  have g9:=(hsame.get 9 rfl).trans (by simp:_=V.int .i64 (b.txs.length:Int))
  clear hsame
  by_cases hlt:i<b.txs.length
  ·obtain⟨r1,r2,r3,r4⟩:=(rd_txs b st6).row eTx_len hlt
   have htf:=hb b.txs[i] (List.getElem_mem hlt)
   have hmem:=List.getElem_mem hlt
   obtain⟨t,ht⟩: ∃t,t=b.txs[i]:=⟨_,rfl⟩
   rw[←ht]at r3 htf hmem
   have w1:IntKind.i64.wrap ((i:Int)+1)=(i:Int)+1:=wrap64 (by omega) (by omega)
   simp[g8,g9,h10,hlt,r1,r3]
   intro i4 h4
   have S:=S.new h4 (.cells [.sl .nil [] 0,.sl .nil [] 0])
   have hst:=store_pt (sz:=2) (o:=0) S.get (v:=.agg (eTx t)) (vs:=eTx t) rfl rfl (by simp)
   rw[show spliceV [V.sl .nil [] 0,V.sl .nil [] 0] 0 (eTx t)=eTx t from rfl]at hst
   have S:=S.set (.cells (eTx t))
   simp[hst]at S⊢
   generalize(st6.upd i4 (.cells (eTx t)))=st7 at S⊢
   have o4:=S.get
   simp[St.seg,o4,tsegAll]
   refine(spec200 okt st7 t htf).mono ?_
   intro u st8 S1
   have S:=S1.ov S
   have hlu:=(Sep.rd e8_len (S.head fun h hh=>hh.sl)).len
   by_cases h64:(txB t).length=64
   ·have e:rootE b=40:=by rw[rootE,if_pos (.inl ⟨t,hmem,h64⟩)]
    simp[hlu,h64,e]
    exact⟨st8,sub_self _,S.was' (st0:=st) (by simp)⟩
   ·have h64':(((txB t).length:Int)==64)=false:=by
      rw[beq_eq_false_iff_ne];omega
    simp[hlu,h64',h10,w1]
    refine Round.mk (b.txs.length-(i+1)) _ (by omega) (sub_self _) (hJ _ _ _ ⟨i+1,by omega,rfl,by simp,?_,S.drop.drop⟩)
    intro y hy
    rw[List.take_succ_eq_append_getElem hlt,←ht]at hy
    rcases List.mem_append.1 hy with hy | hy
    ·exact hno y hy
    ·rw[List.mem_singleton.1 hy];exact h64
  ·have:i=b.txs.length:=by omega
   subst this
   rw[List.take_length]at hno
   simp[g9,h10]
   exact⟨hno,S⟩
 ·rintro env' st3 hsame ⟨hno,S⟩
  have g1:=(hsame.get 1 rfl).trans (by simp:_=V.ptr (some (i1,0)))
  clear hsame
  have o1:=S.get
  simp[g1,St.seg,o1,hsT]
  refine(spec192 okt st3 (rd_txs b st3) hl hb).mono ?_
  rintro v st3 ⟨rfl,rfl⟩
  obtain⟨rt,hrt⟩: ∃rt,rt=(rootM (rowsIds b.txs)).1:=⟨_,rfl⟩
  rw[←hrt]
  simp
  intro i5 h5
  have S:=S.new h5 (.cells zR32_w80)
  have hst:=store_z32 S.get rt
  have S:=S.set (.cells (eId rt))
  simp[hst]at S⊢
  generalize st3.upd i5 (.cells (eId rt))=st4 at S⊢
  have o5:=S.get
  have o1:=S.mem (i:=i1) (o:=.cells (eBlk b)) (by simp)
  have hsr:segOf (eBlk b) 33 32=some (eId b.hdr.root):=by
   have:=hsegRoot b.hdr
   unfold segOf at this⊢
   rw[eHdr_len,if_pos (by omega)]at this
   rw[eBlk_len,if_pos (by omega),←Option.some.inj this,eBlk,List.drop_append_of_le_length (by rw[eHdr_len];omega),List.take_append_of_le_length (by rw[List.length_drop,eHdr_len];omega)]
  have hq:eqK (.agg 32) (.agg (eId rt)) (.agg (eId b.hdr.root))=some (decide (rt=b.hdr.root)):=by simp[eqK,eId_len,eqL_id]
  have hs0:=segId0 rt
  have hs1:=segId0 b.hdr.root
  have hq1:eqK (.agg 32) (.agg (eId b.hdr.root)) (.agg (eId b.hdr.root))=some true:=by simp[eqK,eId_len,eqL_id]
  have hw:=S.was' (st0:=st) (by simp)
  cases htw:(rootM (rowsIds b.txs)).2 with
  | true=>
    have e:rootE b=40:=by rw[rootE,if_pos (.inr (.inl htw))]
    simp[e]
    exact⟨st4,sub_self _,hw⟩
  | false=>
    by_cases hr:rt=b.hdr.root
    ·have e:rootE b=0:=by
       rw[rootE,if_neg]
       rintro(⟨t,h1,h2⟩ | h | h)
       ·exact hno t h1 h2
       ·rw[htw]at h;cases h
       ·exact h (by rw[←hrt];exact hr)
     simp[St.seg,o5,o1,hs0,hs1,hsr,hq,hq1,hr,g1,e]
     exact⟨st4,sub_self _,hw⟩
    ·have e:rootE b=40:=by rw[rootE,if_pos (.inr (.inr (by rw[←hrt];exact hr)))]
     simp[St.seg,o5,o1,hs0,hs1,hsr,hq,hq1,hr,g1,e]
     exact⟨st4,sub_self _,hw⟩
def txsE:Nat→List Tx1→Int
 | _,[]=>0
 | i,t::l=>if txM t (i==0)≠0 then txM t (i==0)else txsE (i+1) l
def blkE (b:Blk1):Int:=
 if b.txs.length=0∨32<b.txs.length then 120 else if txsE 0 b.txs≠0 then txsE 0 b.txs else if 8192< (blkB b).length then 2 else rootE b
set_option maxHeartbeats 4000000 in
theorem spec253 (ok:OkCheck2 P F)(st:St)(b:Blk1)(hl:b.txs.length≤100000)(hb: ∀t∈b.txs,t.ins.length≤100000∧t.outs.length≤100000∧∀x∈t.ins,x.key.length≤1000000):ACalls P (F 253) [.agg (eBlk b)] st fun v st'=>v=.int .i64 (blkE b)∧St.sub st st':=by
 have okt:=ok.toOkCheck.toOkTx
 refine shows_call ok.mixed ok.h253 (by simp[k253]) ?_
 simp only[k253]
 simp
 intro i1 h1
 have S:=(Sep.start st).new h1 (.cells (eBlk b))
 generalize st.upd i1 _=st1 at S⊢
 have o1:=S.get
 have hsT:=bsegT b
 have hln:lenSlV (txsV b.tk b.txs)=some (.int .i64 b.txs.length):=rfl
 have hw:=S.was' (st0:=st) (by simp)
 by_cases c1:b.txs.length=0
 ·have e:blkE b=120:=by rw[blkE,if_pos (.inl c1)]
  have c1':((b.txs.length:Int)==0)=true:=by simp;exact List.length_eq_zero_iff.1 c1
  simp[St.seg,o1,hsT,hln,c1',e]
  exact⟨st1,sub_self _,hw⟩
 have b1:((b.txs.length:Int)==0)=false:=by simpa using c1
 by_cases c2:32<b.txs.length
 ·have e:blkE b=120:=by rw[blkE,if_pos (.inr c2)]
  have c2':32< (b.txs.length:Int):=by omega
  simp[St.seg,o1,hsT,hln,b1,c2',c2,e]
  exact⟨st1,sub_self _,hw⟩
 have c2':¬32< (b.txs.length:Int):=by omega
 have e0:blkE b=if txsE 0 b.txs≠0 then txsE 0 b.txs else if 8192< (blkB b).length then 2 else rootE b:=by rw[blkE,if_neg (by omega)]
 simp[St.seg,o1,hsT,hln,b1,c2',c2]
 refine vc_joinB (M:=fun env' st'=>txsE 0 b.txs=0∧(∀t∈b.txs,t.fine)∧Sep [pt i1 (.cells (eBlk b)),Was st] st') ?_ ?_
 ·refine vc_loopJ (fun c env' st'=>∃i:Nat,i≤b.txs.length∧c=b.txs.length-i∧env' 19=.int .i64 (i:Nat)∧txsE i (b.txs.drop i)=txsE 0 b.txs∧(∀t∈b.txs.take i,t.fine)∧Sep [pt i1 (.cells (eBlk b)),Was st] st') b.txs.length
    ⟨0,by omega,by omega,by simp,by simp,by simp,S⟩ ?_
  rintro J hJ c env' st6 hsame ⟨i,hi,rfl,h19,hgo,hfi,S⟩
  have g17:=(hsame.get 17 rfl).trans (by simp:_=txsV b.tk b.txs)
  have g18:=(hsame.get 18 rfl).trans (by simp:_=V.int .i64 (b.txs.length:Int))
  clear hsame
  by_cases hlt:i<b.txs.length
  ·obtain⟨r1,r2,r3,r4⟩:=(rd_txs b st6).row eTx_len hlt
   have htf:=hb b.txs[i] (List.getElem_mem hlt)
   rw[List.drop_eq_getElem_cons hlt,txsE]at hgo
   obtain⟨t,ht⟩: ∃t,t=b.txs[i]:=⟨_,rfl⟩
   rw[←ht]at r3 htf hgo
   have w1:IntKind.i64.wrap ((i:Int)+1)=(i:Int)+1:=wrap64 (by omega) (by omega)
   simp[g17,g18,h19,hlt,r1,r3]
   intro i4 h4
   have S:=S.new h4 (.cells [.sl .nil [] 0,.sl .nil [] 0])
   have hst:=store_pt (sz:=2) (o:=0) S.get (v:=.agg (eTx t)) (vs:=eTx t) rfl rfl (by simp)
   rw[show spliceV [V.sl .nil [] 0,V.sl .nil [] 0] 0 (eTx t)=eTx t from rfl]at hst
   have S:=S.set (.cells (eTx t))
   simp[hst]at S⊢
   generalize(st6.upd i4 (.cells (eTx t)))=st7 at S⊢
   have o4:=S.get
   have hi0:((i:Int)==0)=(i==0):=by
    rw[Bool.eq_iff_iff];simp
   simp[St.seg,o4,tsegAll,hi0]
   refine(spec249 ok.toOkCheck st7 t (i==0) htf.1 htf.2.1 htf.2.2).mono ?_
   rintro u st7 ⟨rfl,rfl⟩
   by_cases hz:txM t (i==0)=0
   ·rw[if_neg (by simpa using hz)]at hgo
    simp[hz,h19,w1]
    refine Round.mk (b.txs.length-(i+1)) _ (by omega) (sub_self _) (hJ _ _ _ ⟨i+1,by omega,rfl,by simp,hgo,?_,S.drop⟩)
    intro y hy
    rw[List.take_succ_eq_append_getElem hlt,←ht]at hy
    rcases List.mem_append.1 hy with hy | hy
    ·exact hfi y hy
    ·rw[List.mem_singleton.1 hy];exact txM_fine hz
   ·rw[if_pos hz]at hgo
    rw[←hgo,if_pos hz]at e0
    have hz':(txM t (i==0) != 0)=true:=by simpa using hz
    simp only[e0]
    simp[hz']
    exact⟨_,sub_self _,S.was' (st0:=st) (by simp)⟩
  ·have:i=b.txs.length:=by omega
   subst this
   rw[List.drop_length,txsE]at hgo
   rw[List.take_length]at hfi
   simp[g18,h19]
   exact⟨hgo.symm,hfi,S⟩
 ·rintro env' st3 hsame ⟨hno,hfi,S⟩
  have g1:=(hsame.get 1 rfl).trans (by simp:_=V.ptr (some (i1,0)))
  clear hsame
  rw[hno,if_neg (by simp)]at e0
  have o1:=S.get
  simp[g1,St.seg,o1,bsegAll0]
  refine(spec251 ok st3 b (by omega) hfi).mono ?_
  intro v st4 S1
  have S:=S1.ov S
  have hlv:=(Sep.rd e8_len (S.head fun h hh=>hh.sl)).len
  by_cases c3:8192< (blkB b).length
  ·have c3':8192< ((blkB b).length:Int):=by omega
   rw[if_pos c3]at e0
   simp[hlv,c3',c3,e0]
   exact⟨st4,sub_self _,S.was' (st0:=st) (by simp)⟩
  ·have c3':¬8192< ((blkB b).length:Int):=by omega
   rw[if_neg c3]at e0
   have o1:=S.mem (i:=i1) (o:=.cells (eBlk b)) (by simp)
   simp[hlv,c3',c3,g1,St.seg,o1,bsegAll0]
   refine(spec252 ok st4 b (by omega) fun t ht=>(hfi t ht).ok).mono ?_
   rintro u st5 ⟨rfl,hs5⟩
   simp[e0]
   exact⟨st5,sub_self _,sub_trans (S.was' (st0:=st) (by simp)) hs5⟩
end
abbrev Coin1:=Out1×Int
def eCoin (c:Coin1):List V:=eOut c.1++[.int .i64 c.2]
def vCoin (c:Coin1):V:=.agg (eCoin c)
theorem eCoin_len (c:Coin1):(eCoin c).length=34:=by simp[eCoin,eOut_len]
abbrev CM:=List (Pt×Coin1)
structure Hole (f:V→List V) (off:Nat):Prop where
 seg: ∀v,segOf (f v) off 1=some [v]
 spl: ∀v w,spliceV (f v) off [w]=f w
def SetL (o:Nat)(f:V→List V)(cm:CM):Option Nat→List Asn
 | none=>[pt o (.cells (f (.map none)))]
 | some m=>[pt o (.cells (f (.map (some m)))),pt m (.mp (encM kPt vCoin cm))]
def SetS (o:Nat)(f:V→List V)(cm:CM)(L:List Asn)(st:St):Prop:=∃mo,(mo=none→cm=[])∧Sep (SetL o f cm mo++L) st
theorem SetS.tail {o:Nat}{f:V→List V}{cm:CM}{L L':List Asn}{st:St}(h:SetS o f cm L st)(hL: ∀r,Sep L r→Sep L' r):SetS o f cm L' st:=by
 obtain⟨mo,h0,S⟩:=h
 refine⟨mo,h0,?_⟩
 cases mo with
 | none=>exact S.tail hL
 | some m=>exact S.tail fun r h=>h.tail hL
theorem SetS.new {o:Nat}{f:V→List V}{cm:CM}{L:List Asn}{st:St}(h:SetS o f cm L st){i:Nat}(hi:st i=none)(x:AObj):SetS o f cm (pt i x::L) (st.upd i x):=by
 obtain⟨mo,h0,S⟩:=h
 refine⟨mo,h0,?_⟩
 have S:=S.new hi x
 cases mo with
 | none=>exact S.swap
 | some m=>exact(S.pull 2).pull 2
def layHit (id:Id)(cm:CM):Nat→List Out1→Bool
 | _,[]=>false
 | j,_::l=>(lk (id,BitVec.ofNat 32 j) cm).isSome||layHit id cm (j+1) l
def layL (id:Id)(h:Int):Nat→List Out1→CM→CM
 | _,[],cm=>cm
 | j,o::l,cm=>layL id h (j+1) l (aSet (id,BitVec.ofNat 32 j) (o,h) cm)
def layM (t:Tx1)(h:Int)(cm:CM):Int×CM:=if layHit (txIdM t) cm 0 t.outs=true then(5,cm)else(0,layL (txIdM t) h 0 t.outs cm)
theorem wrap32 (i:Nat):V.int .u32 (IntKind.u32.wrap (i:Int))=w32 (BitVec.ofNat 32 i):=by
 rw[wrap_u32,BitVec.ofInt_natCast];rfl
theorem zPt:z33_1371=eId id0++[w32 0#32]:=rfl
theorem ptFill (id:Id)(x:W32):fillV z33_1371 [(0,32,.agg (eId id)),(32,1,w32 x)]=some (ePt (id,x)):=by
 simp[fillV,zPt,spliceV,eId_len,ePt,w32]
theorem coinFill (c:Coin1):fillV z34_7943 [(0,33,.agg (eOut c.1)),(33,1,.int .i64 c.2)]=some (eCoin c):=by
 have z:z34_7943=eOut ⟨0,id0⟩++[.int .i64 0]:=rfl
 simp[fillV,z,spliceV,eOut_len,eCoin]
def coin0:Coin1:=(⟨0,id0⟩,0)
theorem coin0_cells:z34_7943=eCoin coin0:=rfl
section
variable {P:Program} {F:Fn}
set_option maxHeartbeats 4000000 in
theorem spec258 (ok:OkCoins P F){st:St}{o off:Nat}{f:V→List V}(hf:Hole f off){cm:CM}{L:List Asn}(h0:SetS o f cm L st)(t:Tx1)(ht:t.ok 100)(h:Int):
  ACalls P (F 258) [.ptr (some (o,off)),.agg (eTx t),.int .i64 h] st fun v st'=>v=.int .i64 (layM t h cm).1∧SetS o f (layM t h cm).2 L st':=by
 have okt:=ok.toOkCheck2.toOkCheck.toOkTx
 refine shows_call ok.mixed ok.h258 (by simp[k258]) ?_
 simp only[k258]
 refine vc_cut (M:=fun env' st'=>env' 0=.ptr (some (o,off))∧env' 2=.int .i64 h∧∃i4,env' 4=.ptr (some (i4,0))∧SetS o f cm (pt i4 (.cells (eTx t))::L) st') ?_ ?_
 ·simp
  intro i4 h4
  simp
  exact h0.new h4 _
 rintro env1 st1 ⟨g0,g2,i4,g4,W⟩
 refine vc_cut (M:=fun env' st'=>env' 0=.ptr (some (o,off))∧env' 2=.int .i64 h∧env' 4=.ptr (some (i4,0))∧∃m,Sep (pt o (.cells (f (.map (some m))))::pt m (.mp (encM kPt vCoin cm))::pt i4 (.cells (eTx t))::L) st') ?_ ?_
 ·obtain⟨mo,hc,S⟩:=W
  have hsg:=hf.seg
  cases mo with
  | none=>
    have he:cm=[]:=hc rfl
    subst he
    have oo:=S.get
    simp[St.seg,oo,hsg,g0,eqK]
    intro m hm
    have S:=S.new hm (.mp [])
    have o2:=S.drop.get
    have hst:=store_pt (sz:=1) (o:=off) o2 (v:=.map (some m)) (vs:=[.map (some m)]) rfl rfl (by have:=hf.seg (.map none);simp[segOf]at this;omega)
    rw[hf.spl]at hst
    have S:=S.setAt (.cells (f (.map (some m)))) 1 rfl
    simp only[List.set_cons_succ,List.set_cons_zero]at S
    simp[hst,g0,g2,g4]
    exact⟨m,S.swap⟩
  | some m=>
    have oo:=S.get
    simp[St.seg,oo,hsg,g0,g2,g4,eqK]
    exact⟨m,S⟩
 rintro env2 st2 ⟨g0,g2,g4,m,S⟩
 have o4:=S.drop.drop.get
 simp[g4,St.seg,o4,tsegAll]
 refine(spec198 okt st2 t ht).mono ?_
 rintro v st3 ⟨rfl,rfl⟩
 simp
 intro i7 h7
 have S:=S.new h7 (.cells zR32_w80)
 have hst:=store_z32 S.get (txIdM t)
 have S:=S.set (.cells (eId (txIdM t)))
 simp[hst]at S⊢
 generalize st3.upd i7 (.cells (eId (txIdM t)))=st5 at S⊢
 have S:Sep (pt o (.cells (f (.map (some m))))::pt m (.mp (encM kPt vCoin cm))::pt i7 (.cells (eId (txIdM t)))::pt i4 (.cells (eTx t))::L) st5:=(S.pull 1).tail fun r h=>h.swap
 have o4:=S.drop.drop.drop.get
 have so:=tsegOuts t
 have lo:=outsV_len t
 have hsg:=hf.seg
 simp[g4,St.seg,o4,so,lo]
 refine vc_joinB (M:=fun env' st'=>layHit (txIdM t) cm 0 t.outs=false∧Sep (pt o (.cells (f (.map (some m))))::pt m (.mp (encM kPt vCoin cm))::pt i7 (.cells (eId (txIdM t)))::pt i4 (.cells (eTx t))::L) st') ?_ ?_
 ·refine vc_loopJ (fun c env' st'=>∃i:Nat,i≤t.outs.length∧c=t.outs.length-i∧env' 27=.int .i64 (i:Nat)∧layHit (txIdM t) cm i (t.outs.drop i)=layHit (txIdM t) cm 0 t.outs∧Sep (pt o (.cells (f (.map (some m))))::pt m (.mp (encM kPt vCoin cm))::pt i7 (.cells (eId (txIdM t)))::pt i4 (.cells (eTx t))::L) st') t.outs.length
    ⟨0,by omega,by omega,by simp,by simp,S⟩ ?_
  rintro J hJ c env' st4 hsame ⟨i,hi,rfl,h27,hgo,S⟩
  have g0:=(hsame.get 0 rfl).trans (by simp[g0]:_=V.ptr (some (o,off)))
  have g7:=(hsame.get 7 rfl).trans (by simp:_=V.ptr (some (i7,0)))
  have g26:=(hsame.get 26 rfl).trans (by simp:_=V.int .i64 (t.outs.length:Int))
  clear hsame
  have oo:=S.get
  have om:=S.drop.get
  have o7:=S.drop.drop.get
  by_cases hlt:i<t.outs.length
  ·rw[List.drop_eq_getElem_cons hlt,layHit]at hgo
   have w1:IntKind.i64.wrap ((i:Int)+1)=(i:Int)+1:=wrap64 (by omega) (by have:=ht.2.1;omega)
   have w2:=wrap32 i
   have hfl:=ptFill (txIdM t) (BitVec.ofNat 32 i)
   have hlk:=lookup_lk keyed_pt (ev:=vCoin) om (V.agg z34_7943) (txIdM t,BitVec.ofNat 32 i)
   have hz:(V.agg z34_7943)=vCoin coin0:=by rw[coin0_cells];rfl
   have hx:((lk (txIdM t,BitVec.ofNat 32 i) cm).map vCoin).getD (V.agg z34_7943)=vCoin ((lk (txIdM t,BitVec.ofNat 32 i) cm).getD coin0):=by
    rw[hz];cases lk (txIdM t,BitVec.ofNat 32 i) cm<;>rfl
   rw[hx]at hlk
   have s7:segOf (eId (txIdM t)) 0 32=some (eId (txIdM t)):=seg_of_drop (zs:=[]) (by simp) (eId_len _) (by omega)
   simp[g0,g7,g26,h27,hlt,St.seg,oo,hsg,o7,s7,w2,hfl]
   rw[show V.agg (ePt (txIdM t,BitVec.ofNat 32 i))=kPt (txIdM t,BitVec.ofNat 32 i)from rfl,hlk]
   simp
   intro i9 h9
   have S:=S.new h9 (.cells z34_7943)
   obtain⟨c9,hc9⟩: ∃c9,c9=(lk (txIdM t,BitVec.ofNat 32 i) cm).getD coin0:=⟨_,rfl⟩
   rw[←hc9]
   have hst:=store_pt (sz:=34) (o:=0) S.get (v:=vCoin c9) (vs:=eCoin c9) rfl (eCoin_len _) (by simp)
   rw[show spliceV z34_7943 0 (eCoin c9)=eCoin c9 by simp[spliceV,eCoin_len]]at hst
   have S:=S.set (.cells (eCoin c9))
   simp[hst]at S⊢
   generalize st4.upd i9 (.cells (eCoin c9))=st6 at S⊢
   have S:=S.drop
   cases hs:(lk (txIdM t,BitVec.ofNat 32 i) cm).isSome with
   | true=>
     rw[hs,Bool.true_or]at hgo
     have e:layM t h cm=(5,cm):=by rw[layM,if_pos hgo.symm]
     simp[e]
     exact⟨st6,sub_self _,some m,(fun e=>by cases e),S.tail fun r h=>h.tail fun r h=>h.drop.drop⟩
   | false=>
     rw[hs,Bool.false_or]at hgo
     simp[h27,w1]
     exact Round.mk (t.outs.length-(i+1)) _ (by omega) (sub_self _) (hJ _ _ _ ⟨i+1,by omega,rfl,by simp,hgo,S⟩)
  ·have:i=t.outs.length:=by omega
   subst this
   rw[List.drop_length,layHit]at hgo
   simp[g26,h27]
   exact⟨hgo.symm,S⟩
 rintro env3 st4 hsame ⟨hno,S⟩
 have e:layM t h cm=(0,layL (txIdM t) h 0 t.outs cm):=by rw[layM,if_neg (by rw[hno];decide)]
 have g0:=(hsame.get 0 rfl).trans (by simp[g0]:_=V.ptr (some (o,off)))
 have g2:=(hsame.get 2 rfl).trans (by simp[g2]:_=V.int .i64 h)
 have g4:=(hsame.get 4 rfl).trans (by simp[g4]:_=V.ptr (some (i4,0)))
 have g7:=(hsame.get 7 rfl).trans (by simp:_=V.ptr (some (i7,0)))
 clear hsame
 have o4:=S.drop.drop.drop.get
 simp[g4,St.seg,o4,so,lo]
 refine vc_joinB (M:=fun env' st'=>Sep (pt o (.cells (f (.map (some m))))::pt m (.mp (encM kPt vCoin (layL (txIdM t) h 0 t.outs cm)))::pt i7 (.cells (eId (txIdM t)))::pt i4 (.cells (eTx t))::L) st') ?_ ?_
 ·refine vc_loopJ (fun c env' st'=>∃(i:Nat) (cm':CM),i≤t.outs.length∧c=t.outs.length-i∧env' 47=.int .i64 (i:Nat)∧layL (txIdM t) h i (t.outs.drop i) cm'=layL (txIdM t) h 0 t.outs cm∧Sep (pt o (.cells (f (.map (some m))))::pt m (.mp (encM kPt vCoin cm'))::pt i7 (.cells (eId (txIdM t)))::pt i4 (.cells (eTx t))::L) st') t.outs.length
    ⟨0,cm,by omega,by omega,by simp,by simp,S⟩ ?_
  rintro J hJ c env' st5 hsame ⟨i,cm',hi,rfl,h47,hgo,S⟩
  have g0:=(hsame.get 0 rfl).trans (by simp[g0]:_=V.ptr (some (o,off)))
  have g2:=(hsame.get 2 rfl).trans (by simp[g2]:_=V.int .i64 h)
  have g7:=(hsame.get 7 rfl).trans (by simp[g7]:_=V.ptr (some (i7,0)))
  have g45:=(hsame.get 45 rfl).trans (by simp:_=outsV t)
  have g46:=(hsame.get 46 rfl).trans (by simp:_=V.int .i64 (t.outs.length:Int))
  clear hsame
  by_cases hlt:i<t.outs.length
  ·obtain⟨r1,r2,r3,r4⟩:=(rd_outs t st5).row eOut_len hlt
   rw[List.drop_eq_getElem_cons hlt,layL]at hgo
   obtain⟨x,hx⟩: ∃x,x=t.outs[i]:=⟨_,rfl⟩
   rw[←hx]at r3 hgo
   have w1:IntKind.i64.wrap ((i:Int)+1)=(i:Int)+1:=wrap64 (by omega) (by have:=ht.2.1;omega)
   have w2:=wrap32 i
   have hfl:=ptFill (txIdM t) (BitVec.ofNat 32 i)
   have hfc:=coinFill (x,h)
   have s7:segOf (eId (txIdM t)) 0 32=some (eId (txIdM t)):=seg_of_drop (zs:=[]) (by simp) (eId_len _) (by omega)
   simp[g45,g46,h47,hlt,r1,r3]
   intro i12 h12
   have S:=S.new h12 (.cells z33_0be4)
   have hst:=store_pt (sz:=33) (o:=0) S.get (v:=.agg (eOut x)) (vs:=eOut x) rfl (eOut_len _) (by simp)
   rw[show spliceV z33_0be4 0 (eOut x)=eOut x by simp[spliceV,eOut_len]]at hst
   have S:=S.set (.cells (eOut x))
   simp[hst]at S⊢
   generalize st5.upd i12 (.cells (eOut x))=st6 at S⊢
   have o12:=S.get
   have S:=S.drop
   have oo:=S.get
   have om:=S.drop.get
   have o7:=S.drop.drop.get
   have sx:segOf (eOut x) 0 33=some (eOut x):=seg_of_drop (zs:=[]) (by simp) (eOut_len _) (by omega)
   simp[g0,g2,g7,St.seg,oo,hsg,o7,s7,w2,hfl,o12,sx,hfc]
   have hms:=mset_enc keyed_pt (ev:=vCoin) om (txIdM t,BitVec.ofNat 32 i) (x,h)
   rw[show V.agg (ePt (txIdM t,BitVec.ofNat 32 i))=kPt (txIdM t,BitVec.ofNat 32 i)from rfl,show V.agg (eCoin (x,h))=vCoin (x,h)from rfl,hms]
   have S:=S.setAt (.mp (encM kPt vCoin (aSet (txIdM t,BitVec.ofNat 32 i) (x,h) cm'))) 1 rfl
   simp only[List.set_cons_succ,List.set_cons_zero]at S
   simp[h47,w1]
   exact Round.mk (t.outs.length-(i+1)) _ (by omega) (sub_self _) (hJ _ _ _ ⟨i+1,_,by omega,rfl,by simp,hgo,S⟩)
  ·have:i=t.outs.length:=by omega
   subst this
   rw[List.drop_length,layL]at hgo
   rw[hgo]at S
   simp[g46,h47]
   exact S
 rintro env4 st5 hsame S
 simp[e]
 exact⟨st5,sub_self _,some m,(fun e=>by cases e),S.tail fun r h=>h.tail fun r h=>h.drop.drop⟩
end
structure CloneC (P:Program) (f:FuncId):Prop where
 nil: ∀st:St,ACalls P f [.map none] st fun v st'=>v=.map none∧st'=st
 some: ∀(st:St) (m:Nat) (es:List (V×V)),st m=some (.mp es)→ACalls P f [.map (some m)] st fun v st'=>∃n,v=.map (some n)∧st n=none∧st'=st.upd n (.mp es)
theorem lrel_one {G:Gh}{v:V}{xs:List Value}(h:LRel G [v] xs): ∃x,xs=[x]∧VRel G v x:=by
 obtain⟨h1,h2⟩:=h
 match xs,h1 with
 | [x],_=>exact⟨x,rfl,by simpa using h2 0 (by simp)⟩
theorem cloneC_of {P:Program}{f:FuncId}(h0: ∀w:World,Calls P f #[.map none] w fun e w'=>e=.returned (.map none)∧w'=w)
  (h1: ∀(w:World) (b:Nat) (E:Array MapEntry) (clk:Nat),w.heap[b]? =some (.map E clk)→Calls P f #[.map (some b)] w fun e w'=>e=.returned (.map (some w.heap.size))∧w'=w.alloc (.map E clk)):CloneC P f:=by
 constructor
 ·intro st fr hd B w0 G w xs hs ha
  obtain⟨x,rfl,hx⟩:=lrel_one ha
  cases hx
  refine(h0 w).mono ?_
  rintro e w' ⟨rfl,rfl⟩
  exact⟨_,_,G,st,rfl,G.le_refl,.nilmap,hd,hs,rfl,rfl⟩
 ·intro st m es hm fr hd B w0 G w xs hs ha
  obtain⟨x,rfl,hx⟩:=lrel_one ha
  cases hx with
  | map id b l k hι=>
    obtain⟨b',l',m',k1,k2,E,clk,k3,k4,k5,k6,k7⟩:=hs.obj m _ (add_some hm)
    rw[hι]at k1
    cases k1
    refine(h1 w b E clk k3).mono ?_
    rintro e w' ⟨rfl,rfl⟩
    obtain⟨g1,g2⟩:=hs.addObj (.map E clk) (.mp es) 0 0 ⟨E,clk,heap_alloc_self _ _,k4,fun i hi=>⟨(k5 i hi).1.mono (G.addObj_le _),(k5 i hi).2.mono (G.addObj_le _)⟩,k6,k7⟩
    have hN:st G.N=none∧fr G.N=none:=by
     simp only[St.add]at g1
     cases h:st G.N with
     | none=>exact⟨rfl,by simpa[h]using g1⟩
     | some o=>simp[h]at g1
    rw[←upd_add]at g2
    exact⟨_,_,_,_,rfl,G.addObj_le _,.map _ _ _ _ (G.addObj_new _),hd.upd hN.2 _,g2,G.N,rfl,hN.1,rfl⟩
def lone (v:V):List V:=[v]
theorem lone_hole:Hole lone 0:=⟨fun _=>rfl,fun _ _=>rfl⟩
def undo0:V:=.agg [.sl .nil [] 0,.sl .nil [] 0]
def conn1 (t:Tx1)(h sub:Int)(cm:CM):Int×CM:=if(sumM t.outs).2=false∨0< (sumM t.outs).1-sub then(121,cm)else layM t h cm
theorem layM_err {t:Tx1}{h:Int}{cm:CM}:(layM t h cm).1=0∨(layM t h cm).1=5∧(layM t h cm).2=cm:=by
 unfold layM
 split
 ·exact .inr ⟨rfl,rfl⟩
 ·exact .inl rfl
theorem conn1_err {t:Tx1}{h sub:Int}{cm:CM}(hne:(conn1 t h sub cm).1≠0):(conn1 t h sub cm).2=cm:=by
 unfold conn1 at hne⊢
 split
 ·rfl
 ·rename_i hc
  rw[if_neg hc]at hne
  rcases layM_err (t:=t) (h:=h) (cm:=cm)with h1 | h1
  ·exact absurd h1 hne
  ·exact h1.2
theorem SetS.ext {o:Nat}{f:V→List V}{cm:CM}{L:List Asn}{st:St}(h:SetS o f cm L st){i:Nat}{x:AObj}(hm:pt i x∈L):st i=some x:=by
 obtain⟨mo,h0,S⟩:=h
 cases mo with
 | none=>exact S.mem (List.mem_append.2 (.inr hm))
 | some m=>exact S.mem (List.mem_append.2 (.inr hm))
theorem SetS.setL {o:Nat}{f:V→List V}{cm:CM}{L:List Asn}{st:St}{i:Nat}{x:AObj}(h:SetS o f cm (pt i x::L) st)(y:AObj):SetS o f cm (pt i y::L) (st.upd i y):=by
 obtain⟨mo,h0,S⟩:=h
 refine⟨mo,h0,?_⟩
 cases mo with
 | none=>exact S.setAt y 1 rfl
 | some m=>exact S.setAt y 2 rfl
theorem bury {o:Nat}{f:V→List V}{cm:CM}{mo:Option Nat}{A:Asn}{L:List Asn}{st:St}(S:Sep (A::(SetL o f cm mo++L)) st):Sep (SetL o f cm mo++A::L) st:=by
 cases mo with
 | none=>exact S.swap
 | some m=>exact(S.pull 2).pull 2
theorem bury2 {ic o:Nat}{g f:V→List V}{cm cm':CM}{mo mo2:Option Nat}{A:Asn}{L:List Asn}{st:St}(S:Sep (A::(SetL ic g cm' mo2++(SetL o f cm mo++L))) st):Sep (SetL ic g cm' mo2++(SetL o f cm mo++A::L)) st:=by
 have S:=bury S
 cases mo2 with
 | none=>exact S.tail fun r h=>bury h
 | some m=>exact S.tail fun r h=>h.tail fun r h=>bury h
theorem takeOver {ic o:Nat}{f:V→List V}{cm cm':CM}{mo mo2:Option Nat}{L:List Asn}{st:St}(S:Sep (SetL ic lone cm' mo2++(SetL o f cm mo++L)) st):
  st ic=some (.cells [.map mo2])∧st o=some (.cells (f (.map mo)))∧Sep (SetL o f cm' mo2++L) (st.upd o (.cells (f (.map mo2)))):=by
 cases mo2 with
 | none=>
   cases mo with
   | none=>exact⟨S.get,S.drop.get,S.drop.set _⟩
   | some m=>exact⟨S.get,S.drop.get,(S.drop.set _).tail fun r h=>h.drop⟩
 | some m2=>
   cases mo with
   | none=>exact⟨S.get,S.drop.drop.get,(S.drop.swap.set _).tail fun r h=>h⟩
   | some m=>exact⟨S.get,S.drop.drop.get,(S.drop.swap.set _).tail fun r h=>h.tail fun r h=>h.drop⟩
section
variable {P:Program} {F:Fn}
set_option maxHeartbeats 2000000 in
theorem spec255 (ok:OkCoins P F)(hc:CloneC P (F 256)){st:St}{o off:Nat}{f:V→List V}(hf:Hole f off){cm:CM}{mo:Option Nat}(h0:mo=none→cm=[]){L:List Asn}(S:Sep (SetL o f cm mo++L) st):
  ACalls P (F 255) [.ptr (some (o,off))] st fun v st'=>∃i,v=.ptr (some (i,0))∧SetS i lone cm (SetL o f cm mo++L) st':=by
 refine shows_call ok.mixed ok.h255 (by simp[k255]) ?_
 simp only[k255]
 have hsg:=hf.seg
 cases mo with
 | none=>
   have oo:=S.get
   simp[St.seg,oo,hsg]
   refine(hc.nil st).mono ?_
   rintro v st' ⟨rfl,rfl⟩
   simp[fillV,spliceV]
   intro i hi
   have S:=S.new hi (.cells [.map none])
   simp
   exact⟨_,sub_self _,none,fun _=>h0 rfl,S⟩
 | some m=>
   have oo:=S.get
   have om:=S.drop.get
   simp[St.seg,oo,hsg]
   refine(hc.some st m _ om).mono ?_
   rintro v st' ⟨n,rfl,hn,rfl⟩
   have S:=S.new hn (.mp (encM kPt vCoin cm))
   generalize st.upd n _=st2 at S⊢
   simp[fillV,spliceV]
   intro i hi
   have S:=S.new hi (.cells [.map (some n)])
   simp
   exact⟨_,sub_self _,some n,(fun e=>by cases e),S⟩
set_option maxHeartbeats 4000000 in
theorem spec259a (ok:OkCoins P F){st:St}{o off:Nat}{f:V→List V}(hf:Hole f off){cm:CM}{L:List Asn}(h0:SetS o f cm L st)(b:Blk1)(t:Tx1)(hb:b.txs=[t])(ht:t.ok 100)(h sub:Int)(hs1:-4611686018427387904≤sub)(hs2:sub≤4611686018427387904):
  ACalls P (F 259) [.ptr (some (o,off)),.agg (eBlk b),.int .i64 h,.int .i64 sub] st fun v st'=>v=.tup [undo0,.int .i64 (conn1 t h sub cm).1]∧SetS o f (conn1 t h sub cm).2 L st':=by
 have okc:=ok.toOkCheck2.toOkCheck
 refine shows_call ok.mixed ok.h259 (by simp[k259]) ?_
 simp only[k259]
 have hln:lenSlV (txsV b.tk b.txs)=some (.int .i64 1):=by rw[hb];rfl
 have hsT:=bsegT b
 simp
 intro i5 h5
 have W:=h0.new h5 (.cells (eBlk b))
 generalize st.upd i5 _=st1 at W⊢
 simp
 intro i8 h8
 have W:=W.new h8 (.cells [.sl .nil [] 0,.sl .nil [] 0])
 generalize st1.upd i8 _=st2 at W⊢
 simp
 intro i10 h10
 have W:=W.new h10 (.cells [.sl .nil [] 0,.sl .nil [] 0])
 generalize st2.upd i10 _=st3 at W⊢
 have o5:=W.ext (i:=i5) (x:=.cells (eBlk b)) (by simp)
 have ht0: ∀hx,b.txs[0]'hx=t:=fun hx=>by simp[hb]
 have hx0:0<b.txs.length:=by rw[hb];simp
 simp[St.seg,o5,hsT,hln]
 refine vc_joinB (M:=fun env' st'=>env' 11=.int .i64 0∧SetS o f cm (pt i10 (.cells [.sl .nil [] 0,.sl .nil [] 0])::pt i8 (.cells [.sl .nil [] 0,.sl .nil [] 0])::pt i5 (.cells (eBlk b))::L) st') ?_ ?_
 ·refine vc_loopJ (fun c env' st'=>∃i:Nat,i≤1∧c=1-i∧env' 24=.int .i64 (i:Nat)∧env' 11=.int .i64 0∧SetS o f cm (pt i10 (.cells [.sl .nil [] 0,.sl .nil [] 0])::pt i8 (.cells [.sl .nil [] 0,.sl .nil [] 0])::pt i5 (.cells (eBlk b))::L) st') 1
    ⟨0,by omega,by omega,by simp,by simp,W⟩ ?_
  rintro J hJ c env' st4 hsame ⟨i,hi,rfl,h24,h11,W⟩
  have g22:=(hsame.get 22 rfl).trans (by simp:_=txsV b.tk b.txs)
  have g23:=(hsame.get 23 rfl).trans (by simp:_=V.int .i64 1)
  clear hsame
  by_cases hlt:i<1
  ·have:i=0:=by omega
   subst this
   obtain⟨r1,r2,r3,r4⟩:=(rd_txs b st4).row eTx_len hx0
   rw[ht0]at r3
   simp at r1
   simp[g22,g23,h24,r1,r3]
   intro i13 h13
   have W:=W.new h13 (.cells [.sl .nil [] 0,.sl .nil [] 0])
   have o13:=W.ext (i:=i13) (x:=.cells [.sl .nil [] 0,.sl .nil [] 0]) (by simp)
   have hst:=store_pt (sz:=2) (o:=0) o13 (v:=.agg (eTx t)) (vs:=eTx t) rfl rfl (by simp)
   rw[show spliceV [V.sl .nil [] 0,V.sl .nil [] 0] 0 (eTx t)=eTx t from rfl]at hst
   have W:=W.setL (i:=i13) (.cells (eTx t))
   simp[hst,h24]at W⊢
   exact Round.mk 0 _ (by omega) (sub_self _) (hJ _ _ _ ⟨1,by omega,rfl,by simp,by simp[h11],W.tail fun r h=>h.drop⟩)
  ·have:i=1:=by omega
   subst this
   simp[g23,h24]
   exact⟨h11,W⟩
 rintro env1 st4 hsame ⟨g11,W⟩
 have g0:=(hsame.get 0 rfl).trans (by simp:_=V.ptr (some (o,off)))
 have g2:=(hsame.get 2 rfl).trans (by simp:_=V.int .i64 h)
 have g3:=(hsame.get 3 rfl).trans (by simp:_=V.int .i64 sub)
 have g5:=(hsame.get 5 rfl).trans (by simp:_=V.ptr (some (i5,0)))
 have g8:=(hsame.get 8 rfl).trans (by simp:_=V.ptr (some (i8,0)))
 have g10:=(hsame.get 10 rfl).trans (by simp:_=V.ptr (some (i10,0)))
 clear hsame
 have o5:=W.ext (i:=i5) (x:=.cells (eBlk b)) (by simp)
 have o8:=W.ext (i:=i8) (x:=.cells [.sl .nil [] 0,.sl .nil [] 0]) (by simp)
 have o10:=W.ext (i:=i10) (x:=.cells [.sl .nil [] 0,.sl .nil [] 0]) (by simp)
 obtain⟨r1,r2,r3,r4⟩:=(rd_txs b st4).row eTx_len hx0
 obtain⟨q1,q2⟩:=r4 1 1 (by omega)
 rw[ht0]at r3 q2
 simp at r1
 have q2':ldCells st4 1 (fldP 1 (rowP 2 (txsV b.tk b.txs) 0))=some [outsV t]:=q2
 have hu:segOf [V.sl .nil [] 0,V.sl .nil [] 0] 0 2=some [V.sl .nil [] 0,V.sl .nil [] 0]:=rfl
 simp[g5,g11,St.seg,o5,hsT,hln,r1,q1,q2']
 refine(spec250 okc st4 (rd_outs t st4) (by have:=ht.2.1;omega)).mono ?_
 rintro v st5 ⟨rfl,rfl⟩
 have hsr:=sumM_range t.outs
 have w1:IntKind.i64.wrap ((sumM t.outs).1-sub)=(sumM t.outs).1-sub:=wrap64 (by omega) (by omega)
 have hst8:=store_pt (sz:=2) (o:=0) o8 (v:=undo0) (vs:=[V.sl .nil [] 0,V.sl .nil [] 0]) rfl rfl (by simp)
 rw[show spliceV [V.sl .nil [] 0,V.sl .nil [] 0] 0 [V.sl .nil [] 0,V.sl .nil [] 0]=[V.sl .nil [] 0,V.sl .nil [] 0]from rfl]at hst8
 have hst8':st5.upd i8 (.cells [V.sl .nil [] 0,V.sl .nil [] 0])=st5:=funext fun j=>by
  by_cases ej:j=i8
  ·rw[ej,St.upd_same,o8]
  ·rw[St.upd_other _ _ ej]
 rw[hst8',undo0]at hst8
 simp
 cases hok:(sumM t.outs).2 with
 | false=>
   have e:conn1 t h sub cm=(121,cm):=by rw[conn1,if_pos (.inl hok)]
   simp[hok,g10,g8,St.seg,o10,o8,hu,hst8,e,undo0]
   exact⟨st5,sub_self _,W.tail fun r h=>h.drop.drop.drop⟩
 | true=>
   by_cases c1:0< (sumM t.outs).1-sub
   ·have e:conn1 t h sub cm=(121,cm):=by rw[conn1,if_pos (.inr c1)]
    have c2:sub< (sumM t.outs).1:=by omega
    simp[hok,g3,g11,w1,c2,g10,g8,St.seg,o10,o8,hu,hst8,e,undo0]
    exact⟨st5,sub_self _,W.tail fun r h=>h.drop.drop.drop⟩
   ·have e:conn1 t h sub cm=layM t h cm:=by rw[conn1,if_neg (by rw[hok];rintro(h | h);cases h;exact c1 h)]
    have c2:¬sub< (sumM t.outs).1:=by omega
    simp[hok,g3,g11,w1,c2]
    have W:=W.setL (.ro [V.sl .nil [] 0,V.sl .nil [] 0])
    simp[frzP,frzV,frzOb,frzL,frzH,g10,o10]
    generalize st5.upd i10 _=st6 at W⊢
    have o5:=W.ext (i:=i5) (x:=.cells (eBlk b)) (by simp)
    have o8:=W.ext (i:=i8) (x:=.cells [.sl .nil [] 0,.sl .nil [] 0]) (by simp)
    obtain⟨r1,r2,r3,r4⟩:=(rd_txs b st6).row eTx_len hx0
    rw[ht0]at r3
    simp at r1
    simp[hu,g0,g2,g5,St.seg,o5,hsT,r1,r3]
    refine(spec258 ok hf W t ht h).mono ?_
    rintro v st7 ⟨rfl,W⟩
    have o8:=W.ext (i:=i8) (x:=.cells [.sl .nil [] 0,.sl .nil [] 0]) (by simp)
    have hst8:=store_pt (sz:=2) (o:=0) o8 (v:=undo0) (vs:=[V.sl .nil [] 0,V.sl .nil [] 0]) rfl rfl (by simp)
    rw[show spliceV [V.sl .nil [] 0,V.sl .nil [] 0] 0 [V.sl .nil [] 0,V.sl .nil [] 0]=[V.sl .nil [] 0,V.sl .nil [] 0]from rfl]at hst8
    have hst8':st7.upd i8 (.cells [V.sl .nil [] 0,V.sl .nil [] 0])=st7:=funext fun j=>by
     by_cases ej:j=i8
     ·rw[ej,St.upd_same,o8]
     ·rw[St.upd_other _ _ ej]
    rw[hst8',undo0]at hst8
    simp[g8,hst8,St.seg,o8,hu,e,undo0]
    exact⟨st7,sub_self _,W.tail fun r h=>h.drop.drop.drop⟩
set_option maxHeartbeats 4000000 in
theorem spec260a (ok:OkCoins P F)(hc:CloneC P (F 256)){st:St}{o off:Nat}{f:V→List V}(hf:Hole f off){cm:CM}{L:List Asn}(h0:SetS o f cm L st)(b:Blk1)(t:Tx1)(hb:b.txs=[t])(ht:t.ok 100)(h sub:Int)(hs1:-4611686018427387904≤sub)(hs2:sub≤4611686018427387904):
  ACalls P (F 260) [.ptr (some (o,off)),.agg (eBlk b),.int .i64 h,.int .i64 sub] st fun v st'=>v=.tup [undo0,.int .i64 (conn1 t h sub cm).1]∧SetS o f (conn1 t h sub cm).2 L st':=by
 refine shows_call ok.mixed ok.h260 (by simp[k260]) ?_
 simp only[k260]
 simp
 intro i5 h5
 have W:=h0.new h5 (.cells (eBlk b))
 generalize st.upd i5 _=st1 at W⊢
 simp
 intro i8 h8
 have W:=W.new h8 (.cells [.sl .nil [] 0,.sl .nil [] 0])
 generalize st1.upd i8 _=st2 at W⊢
 obtain⟨mo,hmo,S⟩:=W
 simp
 refine(spec255 ok hc hf hmo S).mono ?_
 rintro v st3 ⟨ic,rfl,W⟩
 have o5:=W.ext (i:=i5) (x:=.cells (eBlk b)) (by cases mo<;>simp[SetL])
 have sb:=bsegAll b
 simp[St.seg,o5,sb]
 refine(spec259a ok lone_hole W b t hb ht h sub hs1 hs2).mono ?_
 rintro v st4 ⟨rfl,W⟩
 obtain⟨mo2,hmo2,S⟩:=W
 simp
 intro i11 h11
 have S:=S.new h11 (.cells [.sl .nil [] 0,.sl .nil [] 0])
 have hst:=store_pt (sz:=2) (o:=0) S.get (v:=undo0) (vs:=[V.sl .nil [] 0,V.sl .nil [] 0]) rfl rfl (by simp)
 rw[show spliceV [V.sl .nil [] 0,V.sl .nil [] 0] 0 [V.sl .nil [] 0,V.sl .nil [] 0]=[V.sl .nil [] 0,V.sl .nil [] 0]from rfl]at hst
 have hst8': ∀(s:St) (j:Nat),s j=some (.cells [V.sl .nil [] 0,V.sl .nil [] 0])→s.upd j (.cells [V.sl .nil [] 0,V.sl .nil [] 0])=s:=fun s j hj=>funext fun k=>by
  by_cases ej:k=j
  ·rw[ej,St.upd_same,hj]
  ·rw[St.upd_other _ _ ej]
 have o11:=S.get
 rw[hst8' _ _ o11]at hst
 simp[hst]
 generalize st4.upd i11 _=st5 at S o11⊢
 have hu:segOf [V.sl .nil [] 0,V.sl .nil [] 0] 0 2=some [V.sl .nil [] 0,V.sl .nil [] 0]:=rfl
 have hfl:fillV [V.sl .nil [] 0,V.sl .nil [] 0] []=some [V.sl .nil [] 0,V.sl .nil [] 0]:=rfl
 have S:=bury2 S
 have o8:st5 i8=some (.cells [V.sl .nil [] 0,V.sl .nil [] 0]):=S.mem (by cases mo<;>cases mo2<;>simp[SetL])
 have hst8:=store_pt (sz:=2) (o:=0) o8 (v:=undo0) (vs:=[V.sl .nil [] 0,V.sl .nil [] 0]) rfl rfl (by simp)
 rw[show spliceV [V.sl .nil [] 0,V.sl .nil [] 0] 0 [V.sl .nil [] 0,V.sl .nil [] 0]=[V.sl .nil [] 0,V.sl .nil [] 0]from rfl,hst8' _ _ o8,undo0]at hst8
 by_cases he:(conn1 t h sub cm).1=0
 ·have hb':((conn1 t h sub cm).1 != 0)=false:=by rw[he];rfl
  obtain⟨t1,t2,t3⟩:=takeOver (L:=pt i11 (.cells [V.sl .nil [] 0,V.sl .nil [] 0])::pt i8 (.cells [V.sl .nil [] 0,V.sl .nil [] 0])::pt i5 (.cells (eBlk b))::L) S
  have hsg:segOf [V.map mo2] 0 1=some [.map mo2]:=rfl
  have hsto:=store_pt (sz:=1) (o:=off) t2 (v:=.map mo2) (vs:=[.map mo2]) rfl rfl (by have:=hf.seg (.map mo);simp[segOf]at this;omega)
  rw[hf.spl]at hsto
  have W:SetS o f (conn1 t h sub cm).2 (pt i11 (.cells [V.sl .nil [] 0,V.sl .nil [] 0])::pt i8 (.cells [V.sl .nil [] 0,V.sl .nil [] 0])::pt i5 (.cells (eBlk b))::L) (st5.upd o (.cells (f (.map mo2)))):=⟨mo2,hmo2,t3⟩
  obtain⟨st6,hst6⟩: ∃s,s=st5.upd o (.cells (f (.map mo2))):=⟨_,rfl⟩
  rw[←hst6]at hsto W
  simp[hb',St.seg,t1,lone,hsg,hsto]
  have o11:=W.ext (i:=i11) (x:=.cells [.sl .nil [] 0,.sl .nil [] 0]) (by simp)
  have o8:=W.ext (i:=i8) (x:=.cells [.sl .nil [] 0,.sl .nil [] 0]) (by simp)
  have hst8:=store_pt (sz:=2) (o:=0) o8 (v:=undo0) (vs:=[V.sl .nil [] 0,V.sl .nil [] 0]) rfl rfl (by simp)
  rw[show spliceV [V.sl .nil [] 0,V.sl .nil [] 0] 0 [V.sl .nil [] 0,V.sl .nil [] 0]=[V.sl .nil [] 0,V.sl .nil [] 0]from rfl,hst8' _ _ o8,undo0]at hst8
  simp[o11,hu,hst8,St.seg,o8,undo0,he]
  exact⟨st6,sub_self _,W.tail fun r h=>h.drop.drop.drop⟩
 ·have hb':((conn1 t h sub cm).1 != 0)=true:=by simpa using he
  rw[conn1_err he]at S⊢
  simp[hb',he,hfl,hst8,St.seg,o8,hu,undo0]
  exact⟨st5,sub_self _,mo,hmo,by
   have S2:Sep (SetL o f cm mo++L) st5:=by
    cases mo2 with
    | none=>
      cases mo with
      | none=>exact S.drop.tail fun r h=>h.drop.drop.drop
      | some m=>exact S.drop.tail fun r h=>h.tail fun r h=>h.drop.drop.drop
    | some m2=>
      cases mo with
      | none=>exact S.drop.drop.tail fun r h=>h.drop.drop.drop
      | some m=>exact S.drop.drop.tail fun r h=>h.tail fun r h=>h.drop.drop.drop
   exact S2⟩
end
section
variable {P:Program} {F:Fn}
theorem spec160 (ok:OkIndexZ P F){st:St}{tid:Nat}{r:Rl}{l:List Nd}(h:TreeR tid r l st):ACalls P (F 160) [.ptr (some (tid,0))] st fun v st'=>v=.agg (eRl r)∧st'=st:=by
 obtain⟨sid,mid,spare,es,h⟩:=h
 refine shows_call ok.mixed ok.h160 (by simp[k160]) ?_
 simp only[k160]
 simp
 intro i2 h2
 have hz:z74_2f53.length=74:=rfl
 have hsp:spliceV z74_2f53 0 (eRl r)=eRl r:=by simp[spliceV,eRl_len,hz]
 have h':=h.sub (sub_upd (o:=.cells z74_2f53) h2)
 have o1:=h'.top
 have hall:segOf (eRl r) 0 74=some (eRl r):=by
  unfold segOf
  rw[if_pos (by rw[eRl_len];omega),List.drop_zero,←eRl_len r,List.take_length]
 have hst:storeS (st.upd i2 (.cells z74_2f53)) 74 (.ptr (some (i2,0))) (.agg (eRl r))=some (st.upd i2 (.cells (eRl r))):=by
  simp[storeS,eRl_len,hsp,hz]
 generalize hst1:st.upd i2 (.cells z74_2f53)=st1 at h' hst o1⊢
 have hsub: ∀x,St.sub st (st.upd i2 (.cells x)):=fun x=>sub_upd h2
 simp[St.seg,o1,tree_seg0,hst,hall,hsub]
theorem spec162 (ok:OkIndexZ P F){st:St}{tid:Nat}{r:Rl}{l:List Nd}(h:TreeR tid r l st)(k:Id):ACalls P (F 162) [.ptr (some (tid,0)),.agg (eId k)] st fun v st'=>v=.tup [.int .i64 (((findM l k).getD 0:Nat):Int),.bool (findM l k).isSome]∧st'=st:=by
 obtain⟨sid,mid,spare,es,h⟩:=h
 refine shows_call ok.mixed ok.h162 (by simp[k162]) ?_
 simp only[k162]
 simp
 intro i3 h3
 have S:=(Sep.start st).new h3 (.cells (eId k))
 generalize st.upd i3 _=st1 at S⊢
 have hs:St.sub st st1:=S.was' (by simp)
 have h:=h.sub hs
 have o3:=S.mem (i:=i3) (o:=.cells (eId k)) (by simp)
 have hk:segOf (eId k) 0 32=some (eId k):=by
  unfold segOf
  rw[if_pos (by rw[eId_len];omega),List.drop_zero,←eId_len k,List.take_length]
 have hl:=lookup_lk keyed_id (ev:=kInt) h.by_ (.int .i64 0) k
 rw[h.look]at hl
 simp only[kId]at hl
 simp[St.seg,h.top,tree_seg75,o3,hk,hl]
 cases e:findM l k<;>simp[kInt,hs]
end
structure Undo1 where
 pk:SK
 ps:List Pt
 ck:SK
 cs:List Coin1
def vUndo (u:Undo1):V:=.agg [.sl u.pk (rowsOf ePt u.ps) u.ps.length,.sl u.ck (rowsOf eCoin u.cs) u.cs.length]
def vBlk (b:Blk1):V:=.agg (eBlk b)
def chF (tid bid uid:Nat)(tip:Int)(v:V):List V:=[.ptr (some (tid,0)),v,.map (some bid),.map (some uid),.int .i64 tip]
theorem ch_hole (tid bid uid:Nat)(tip:Int):Hole (chF tid bid uid tip) 1:=⟨fun _=>rfl,fun _ _=>rfl⟩
abbrev Bods:=List (Int×Blk1)
abbrev Unds:=List (Int×Undo1)
structure Ch where
 r:Rl
 l:List Nd
 cm:CM
 bs:Bods
 us:Unds
 tip:Int
def ChL (c:Ch)(tid bid uid:Nat):List Asn:=[TreeS tid c.r c.l,pt bid (.mp (encM kInt vBlk c.bs)),pt uid (.mp (encM kInt vUndo c.us))]
def ChS (cid:Nat)(c:Ch)(L:List Asn)(st:St):Prop:=∃tid bid uid,SetS cid (chF tid bid uid c.tip) c.cm (ChL c tid bid uid++L) st
structure ChR (cid:Nat) (c:Ch) (st:St) (mo:Option Nat) (tid bid uid:Nat):Prop where
 top:st cid=some (.cells (chF tid bid uid c.tip (.map mo)))
 tree:c.l≠[]→TreeR tid c.r c.l st
 bod:st bid=some (.mp (encM kInt vBlk c.bs))
 und:st uid=some (.mp (encM kInt vUndo c.us))
theorem ChS.read {cid:Nat}{c:Ch}{L:List Asn}{st:St}(h:ChS cid c L st): ∃mo tid bid uid,ChR cid c st mo tid bid uid:=by
 obtain⟨tid,bid,uid,mo,h0,S⟩:=h
 refine⟨mo,tid,bid,uid,?_⟩
 cases mo with
 | none=>exact⟨S.get,fun hl=>S.drop.treeR hl,S.drop.drop.get,S.drop.drop.drop.get⟩
 | some m=>exact⟨S.get,fun hl=>S.drop.drop.treeR hl,S.drop.drop.drop.get,S.drop.drop.drop.drop.get⟩
theorem ChR.sub {cid:Nat}{c:Ch}{st st':St}{mo:Option Nat}{tid bid uid:Nat}(h:ChR cid c st mo tid bid uid)(hs:St.sub st st'):ChR cid c st' mo tid bid uid:=
 ⟨hs _ _ h.top,fun hl=>(h.tree hl).sub hs,hs _ _ h.bod,hs _ _ h.und⟩
theorem rsegBlk (r:Rl):segOf (eRl r) 5 69=some (eHdr r.gen++[r.txs]):=by
 refine rseg r ?_ (by omega)
 show(eHdr r.gen++[r.txs]).take 69=_
 rw[List.take_of_length_le]
 simp[eHdr_len]
section
variable {P:Program} {F:Fn}
set_option maxHeartbeats 4000000 in
theorem spec265a (ok:OkChain P F)(hc:CloneC P (F 256))(st:St)(r:Rl)(b:Blk1)(t:Tx1)(hh:b.hdr=r.gen)(hx:r.txs=txsV b.tk b.txs)(hb:b.txs=[t])(ht:t.ok 100)
  (e1:checkM r=0) (e2:blkE b=0) (e3:(conn1 t 0 r.subsidy []).1=0):
  ACalls P (F 265) [.agg (eRl r)] st fun v st'=>∃c,v=.tup [.ptr (some (c,0)),.int .i64 0]∧ChS c ⟨r,newM r,(conn1 t 0 r.subsidy []).2,[(0,b)],[],0⟩ [Was st] st':=by
 have okc2:=ok.toOkCoins.toOkCheck2
 have oki:=ok.toOkLocate.toOkIndexZ.toOkIndex
 have hsub:-4611686018427387904≤r.subsidy∧r.subsidy≤4611686018427387904:=by
  unfold checkM at e1
  split at e1
  ·cases e1
  ·split at e1
   ·cases e1
   ·omega
 have hblk:eHdr r.gen++[r.txs]=eBlk b:=by rw[eBlk,hh,hx]
 refine shows_call ok.mixed ok.h265 (by simp[k265]) ?_
 simp only[k265]
 simp
 intro i1 h1
 have S:=(Sep.start st).new h1 (.cells (eRl r))
 generalize st.upd i1 _=st1 at S⊢
 have o1:=S.get
 simp[St.seg,o1,rsegAll]
 refine(spec155 oki st1 r).mono ?_
 intro v st2 hv
 rw[if_pos e1]at hv
 obtain⟨tid,rfl,S2⟩:=hv
 have S:=S2.ov S
 have o1:=S.drop.get
 have s5:=rsegBlk r
 rw[hblk]at s5
 simp[St.seg,o1,s5]
 refine(spec253 okc2 st2 b (by rw[hb];simp) (by rw[hb];intro u hu;rw[List.mem_singleton.1 hu];exact⟨by have:=ht.1;omega,by have:=ht.2.1;omega,fun x hx=>by have:=ht.2.2 x hx;omega⟩)).mono ?_
 rintro v st3 ⟨rfl,hs⟩
 have S:=S.sub hs
 simp[e2]
 intro bid hbid
 have S:=S.new hbid (.mp [])
 have hms:=mset_enc keyed_int (ev:=vBlk) (l:=[]) S.get 0 b
 have o1:=S.drop.drop.get
 have S:=S.set (.mp (encM kInt vBlk [(0,b)]))
 have hms':msetS (st3.upd bid (.mp [])) .int (.map (some bid)) (.int .i64 0) (.agg (eBlk b))=some (st3.upd bid (.mp (encM kInt vBlk [(0,b)]))):=by
  rw[show st3.upd bid (.mp (encM kInt vBlk [(0,b)]))=(st3.upd bid (.mp [])).upd bid (.mp (encM kInt vBlk [(0,b)])) by simp]
  exact hms
 simp at S o1
 simp[St.seg,o1,s5,hms']
 generalize st3.upd bid (.mp (encM kInt vBlk [(0,b)]))=st4 at S⊢
 intro uid huid
 have S:=S.new huid (.mp [])
 generalize st4.upd uid (.mp [])=st5 at S⊢
 simp[fillV,spliceV]
 intro cid hcid
 have S:=S.new hcid (.cells (chF tid bid uid 0 (.map none)))
 simp[chF]at S⊢
 generalize st5.upd cid _=st6 at S⊢
 have W:SetS cid (chF tid bid uid 0) [] ([pt uid (.mp []),pt bid (.mp (encM kInt vBlk [(0,b)])),TreeS tid r (newM r),pt i1 (.cells (eRl r)),Was st]) st6:=⟨none,fun _=>rfl,S⟩
 have o1:=W.ext (i:=i1) (x:=.cells (eRl r)) (by simp)
 have s3:=rsegSubsidy r
 simp[St.seg,o1,s5,s3]
 refine(spec260a ok.toOkCoins hc (ch_hole tid bid uid 0) W b t hb ht 0 r.subsidy hsub.1 hsub.2).mono ?_
 rintro v st7 ⟨rfl,W⟩
 simp
 intro i8 h8
 have W:=W.new h8 (.cells [.sl .nil [] 0,.sl .nil [] 0])
 have hst:=store_pt (sz:=2) (o:=0) (W.ext (i:=i8) (x:=.cells [.sl .nil [] 0,.sl .nil [] 0]) (by simp)) (v:=undo0) (vs:=[V.sl .nil [] 0,V.sl .nil [] 0]) rfl rfl (by simp)
 rw[show spliceV [V.sl .nil [] 0,V.sl .nil [] 0] 0 [V.sl .nil [] 0,V.sl .nil [] 0]=[V.sl .nil [] 0,V.sl .nil [] 0]from rfl]at hst
 simp at hst
 simp[hst,e3]
 refine⟨_,sub_self _,tid,bid,uid,W.tail fun r' h=>?_⟩
 have h:=h.drop
 have h:Sep ([TreeS tid r (newM r),pt bid (.mp (encM kInt vBlk [(0,b)])),pt uid (.mp []),pt i1 (.cells (eRl r)),Was st]) r':=(h.pull 2).tail fun r h=>h.swap
 exact h.tail fun r h=>h.tail fun r h=>h.tail fun r h=>h.drop
end
section
variable {P:Program} {F:Fn}
variable {cid tid bid uid:Nat} {c:Ch} {mo:Option Nat}
theorem cseg0 (tid bid uid:Nat)(tip:Int)(v:V):segOf (chF tid bid uid tip v) 0 1=some [.ptr (some (tid,0))]:=rfl
theorem cseg2 (tid bid uid:Nat)(tip:Int)(v:V):segOf (chF tid bid uid tip v) 2 1=some [.map (some bid)]:=rfl
theorem cseg3 (tid bid uid:Nat)(tip:Int)(v:V):segOf (chF tid bid uid tip v) 3 1=some [.map (some uid)]:=rfl
theorem cseg4 (tid bid uid:Nat)(tip:Int)(v:V):segOf (chF tid bid uid tip v) 4 1=some [.int .i64 tip]:=rfl
theorem spec266 (ok:OkChain P F){st:St}(h:ChR cid c st mo tid bid uid):ACalls P (F 266) [.ptr (some (cid,0))] st fun v st'=>v=.int .i64 c.tip∧st'=st:=by
 refine shows_call ok.mixed ok.h266 (by simp[k266]) ?_
 simp only[k266]
 simp[St.seg,h.top,cseg4]
theorem nseg107 (x:Nd):segOf (eNd x) 107 1=some [.bool x.failed]:=seg_of_take (nsegFail x) (by rw[eNd_len];omega)
def hasM (c:Ch)(i:Int):Bool:=(lk i c.bs).isSome
theorem spec268 (ok:OkChain P F){st:St}(h:ChR cid c st mo tid bid uid)(i:Int):ACalls P (F 268) [.ptr (some (cid,0)),.int .i64 i] st fun v st'=>v=.bool (hasM c i)∧st'=st:=by
 refine shows_call ok.mixed ok.h268 (by simp[k268]) ?_
 simp only[k268]
 have hl:=lookup_lk keyed_int (ev:=vBlk) h.bod (V.agg z69_adc1) i
 obtain⟨ys,hys,hlen⟩: ∃ys,((lk i c.bs).map vBlk).getD (V.agg z69_adc1)=.agg ys∧ys.length=69:=by
  cases lk i c.bs with
  | none=>exact⟨_,rfl,rfl⟩
  | some b=>exact⟨_,rfl,eBlk_len b⟩
 rw[hys]at hl
 have hl:lookupV st .int (V.agg z69_adc1) true (.map (some bid)) (.int .i64 i)=some (.tup [.agg ys,.bool (hasM c i)]):=hl
 simp[St.seg,h.top,cseg2,hl]
 intro i5 h5
 have hst:=store_pt (sz:=69) (o:=0) (St.upd_same st i5 (.cells z69_adc1)) (v:=.agg ys) (vs:=ys) rfl hlen (by simp)
 simp[hst]
 exact sub_upd h5
theorem inI_nat {l:List Nd}{i:Nat}(h:i<l.length):inI l (i:Int)=i:=by
 unfold inI
 rw[if_neg (by omega)]
 omega
end
def kindOf {α:Type}(l:List α):SK:=if l=[]then .nil else .some
def cloneI (x:In1):In1:=⟨x.tx,x.ix,if x.key.length=0 then .full else .some,x.key⟩
def cloneT (t:Tx1):Tx1:=⟨kindOf (t.ins.map cloneI),t.ins.map cloneI,kindOf t.outs,t.outs⟩
def cloneB (b:Blk1):Blk1:=⟨b.hdr,kindOf (b.txs.map cloneT),b.txs.map cloneT⟩
theorem frzH_plain {st:St}{v:V}(h: ∀id off sz n,v≠.hsl id off sz n):frzH st v=some (v,st):=by
 cases v<;>first | rfl | exact absurd rfl (h _ _ _ _)
theorem frzL_app {st:St}: ∀(vs ws:List V),(∀v∈vs,∀id off sz n,v≠.hsl id off sz n)→frzL st (vs++ws)=(frzL st ws).map fun q=>(vs++q.1,q.2)
 | [],ws,_=>by cases h:frzL st ws<;>simp[h]
 | v::vs,ws,h=>by
   rw[List.cons_append,frzL,frzH_plain (h v (by simp)),Option.bind_some,frzL_app vs ws fun x hx=>h x (by simp[hx])]
   cases frzL st ws<;>rfl
theorem eHdr_plain (h:Hdr): ∀v∈eHdr h,∀id off sz n,v≠.hsl id off sz n:=by
 intro v hv id off sz n e
 subst e
 simp[eHdr,eId,w32]at hv
theorem Sep.frzHx {α:Type}{f:α→List V}{sz:Nat}(hf: ∀a,(f a).length=sz){s:V}{l:List α}{L:List Asn}{st:St}(h:Sep (Slx sz f s l::L) st)(hnil:l=[]→s=.sl .nil [] 0):
  ∃st',frzH st s=some (.sl (kindOf l) (rowsOf f l) l.length,st')∧Sep L st':=by
 by_cases hl:l=[]
 ·subst hl
  rw[hnil rfl]
  exact⟨st,rfl,h.drop⟩
 ·obtain⟨k,st',h1,h2,h3⟩:=Sep.frzSl hf (h.head fun h hh=>hh.sl)
  have hk:=h3 hl
  subst hk
  obtain⟨a0,r,q1,q2,q3,q4⟩:=h
  rcases q3 with⟨-,q3⟩ | ⟨sid,rfl,-⟩
  ·exact absurd q3 hl
  ·refine⟨st',?_,h2⟩
   rw[kindOf,if_neg hl]
   exact h1
theorem Sep.slxCells {α:Type}{f:α→List V}{sz:Nat}{s:V}{l:List α}{L:List Asn}{st:St}(h:Sep (Slx sz f s l::L) st):s.cells? =some [s]:=by
 obtain⟨a0,r,h1,h2,h3,h4⟩:=h
 rcases h3 with⟨rfl | rfl,-⟩ | ⟨sid,rfl,-⟩<;>rfl
theorem Sep.appx0 {α:Type}{f:α→List V}{sz:Nat}(hf: ∀a,(f a).length=sz)(hsz:0<sz){L:List Asn}{st:St}(h:Sep L st){b:Nat}(m:List α){ys:List V}{n:Nat}(hys:ys=rowsOf f m)(hn:n=m.length)(hb:n*b≤140737488355328){K:V→St→Prop}
  (hK: ∀s' st',(m=[]→s'=.sl .nil [] 0)→Sep (Slx sz f s' m::L) st'→K s' st'):appS sz b (.sl .nil [] 0) (some (ys,n)) st K:=by
 subst hys hn
 by_cases hm:m=[]
 ·subst hm
  exact⟨.inl rfl,by simp,by simp,fun _=>hK _ _ (fun _=>rfl) h.slxNil,fun e=>absurd rfl e⟩
 ·refine Sep.appx hf hsz (l:=[]) h.slxNil (m:=m) (by simpa using hb) fun s' st' S=>hK _ _ (fun e=>absurd e hm) ?_
  simpa using S
theorem appn_full {sz b:Nat}{ys:List V}{m:Nat}{K:V→Prop}(h0:m=0→ys=[])(hb:m*b≤140737488355328)(h:K (.sl (if m=0 then .full else .some) ys m)):appnS sz b (.sl .full [] 0) (some (ys,m)) K:=by
 refine⟨.inr rfl,by simp,by simpa using hb,fun e=>?_,fun e=>?_⟩
 ·rw[if_pos e,h0 e,e]at h
  exact h
 ·rw[if_neg e]at h
  simpa using h
section
variable {P:Program} {F:Fn}
set_option maxHeartbeats 8000000 in
theorem spec271 (ok:OkChain P F)(st:St)(b:Blk1)(hl:b.txs.length≤1000)(hk: ∀t∈b.txs,t.ok 100):
  ACalls P (F 271) [.agg (eBlk b)] st fun v st'=>v=vBlk (cloneB b)∧st'=st:=by
 refine shows_call ok.mixed ok.h271 (by simp[k271]) ?_
 simp only[k271]
 have hsT:=bsegT b
 have hsH:=bsegH b
 have z69:fillV z69_adc1 [(0,68,.agg (eHdr b.hdr))]=some (eHdr b.hdr++[.sl .nil [] 0]):=by
  have z:z69_adc1=eHdr hdr0++[.sl .nil [] 0]:=rfl
  simp[fillV,z,spliceV,eHdr_len]
 simp
 intro i1 h1
 have S:=(Sep.start st).new h1 (.cells (eBlk b))
 generalize st.upd i1 _=st1 at S⊢
 simp
 intro i2 h2
 have S:=S.new h2 (.cells z69_adc1)
 generalize st1.upd i2 _=st2 at S⊢
 have o1:=S.drop.get
 simp[St.seg,o1,hsH,z69]
 intro i3 h3
 have S:=S.new h3 (.cells z69_adc1)
 have hst:=store_pt (sz:=69) (o:=0) S.get (v:=.agg (eHdr b.hdr++[.sl .nil [] 0])) (vs:=eHdr b.hdr++[.sl .nil [] 0]) rfl (by simp[eHdr_len]) (by decide)
 have hsp:spliceV z69_adc1 0 (eHdr b.hdr++[.sl .nil [] 0])=eHdr b.hdr++[.sl .nil [] 0]:=by
  have z:z69_adc1.length=69:=rfl
  simp[spliceV,eHdr_len,z]
 rw[hsp]at hst
 have S:=S.set (.cells (eHdr b.hdr++[.sl .nil [] 0]))
 simp[hst]at S⊢
 generalize st2.upd i3 _=st3 at S⊢
 have o1:=S.drop.drop.get
 have hln:lenSlV (txsV b.tk b.txs)=some (.int .i64 (b.txs.length:Nat)):=rfl
 simp[St.seg,o1,hsT,hln]
 have sT: ∀v:V,segOf (eHdr b.hdr++[v]) 68 1=some [v]:=fun v=>seg_of_drop (zs:=[]) (by rw[List.drop_left' (eHdr_len _)];rfl) rfl (by omega)
 have sAll: ∀v:V,segOf (eHdr b.hdr++[v]) 0 69=some (eHdr b.hdr++[v]):=fun v=>seg_of_take (by rw[List.drop_zero,List.take_of_length_le (by simp[eHdr_len])]) (by simp[eHdr_len])
 have spT: ∀v u:V,spliceV (eHdr b.hdr++[v]) 68 [u]=eHdr b.hdr++[u]:=fun v u=>by
  have:(eHdr b.hdr).take 68=eHdr b.hdr:=List.take_of_length_le (by rw[eHdr_len];exact Nat.le_refl _)
  simp[spliceV,eHdr_len,List.take_append_of_le_length,this]
 have s2a: ∀v u:V,segOf [v,u] 0 1=some [v]:=fun _ _=>rfl
 have s2b: ∀v u:V,segOf [v,u] 1 1=some [u]:=fun _ _=>rfl
 refine vc_joinB (M:=fun env' st'=>∃tv,(b.txs=[]→tv=.sl .nil [] 0)∧Sep [Slx 2 eTx tv (b.txs.map cloneT),pt i3 (.cells (eHdr b.hdr++[tv])),pt i2 (.cells z69_adc1),pt i1 (.cells (eBlk b)),Was st] st') ?_ ?_
 ·refine vc_loopJ (fun n env' st'=>∃(i:Nat) (tv:V),i≤b.txs.length∧n=b.txs.length-i∧env' 15=.int .i64 (i:Nat)∧(i=0→tv=.sl .nil [] 0)∧Sep [Slx 2 eTx tv ((b.txs.map cloneT).take i),pt i3 (.cells (eHdr b.hdr++[tv])),pt i2 (.cells z69_adc1),pt i1 (.cells (eBlk b)),Was st] st') b.txs.length
    ⟨0,.sl .nil [] 0,by omega,by omega,by simp,fun _=>rfl,by
     have S:Sep [Slx 2 eTx (.sl .nil [] 0) [],pt i3 (.cells (eHdr b.hdr++[.sl .nil [] 0])),pt i2 (.cells z69_adc1),pt i1 (.cells (eBlk b)),Was st] st3:=Sep.slxNil S
     simpa using S⟩ ?_
  clear S o1 hst
  rintro J hJ n env1 st4 hsame ⟨i,tv,hi,rfl,h15,htv,S⟩
  have g1:=(hsame.get 1 rfl).trans (by simp:_=V.ptr (some (i1,0)))
  have g3:=(hsame.get 3 rfl).trans (by simp:_=V.ptr (some (i3,0)))
  have g13:=(hsame.get 13 rfl).trans (by simp:_=txsV b.tk b.txs)
  have g14:=(hsame.get 14 rfl).trans (by simp:_=V.int .i64 (b.txs.length:Int))
  clear hsame
  by_cases hlt:i<b.txs.length
  ·have w1:IntKind.i64.wrap ((i:Int)+1)=(i:Int)+1:=wrap64 (by omega) (by omega)
   obtain⟨r1,r2,r3,r4⟩:=(rd_txs b st4).row eTx_len hlt
   obtain⟨t,ht⟩: ∃t,t=b.txs[i]:=⟨_,rfl⟩
   rw[←ht]at r3
   have htk:(b.txs.map cloneT).take (i+1)=(b.txs.map cloneT).take i++[cloneT t]:=by
    rw[List.take_succ_eq_append_getElem (by rw[List.length_map];exact hlt),List.getElem_map,←ht]
   have hto:=hk t (ht ▸List.getElem_mem hlt)
   simp[g13,g14,h15,hlt,r1,r3]
   intro i5 h5
   have S:=S.new h5 (.cells [.sl .nil [] 0,.sl .nil [] 0])
   have hst:=store_pt (sz:=2) (o:=0) S.get (v:=.agg (eTx t)) (vs:=eTx t) rfl rfl (by simp)
   rw[show spliceV [V.sl .nil [] 0,V.sl .nil [] 0] 0 (eTx t)=eTx t from rfl]at hst
   have S:=S.set (.cells (eTx t))
   simp[hst]at S⊢
   generalize st4.upd i5 _=st5 at S⊢
   intro i6 h6
   have S:=S.new h6 (.cells [.sl .nil [] 0,.sl .nil [] 0])
   generalize st5.upd i6 _=st6 at S⊢
   have o5:=S.drop.get
   have hli:lenSlV (insV t)=some (.int .i64 (t.ins.length:Nat)):=rfl
   simp[St.seg,o5,tsegIns,hli]
   refine vc_joinB (M:=fun env' st'=>∃iv,(t.ins=[]→iv=.sl .nil [] 0)∧Sep [Slx 34 eIn iv (t.ins.map cloneI),pt i6 (.cells [iv,.sl .nil [] 0]),pt i5 (.cells (eTx t)),Slx 2 eTx tv ((b.txs.map cloneT).take i),pt i3 (.cells (eHdr b.hdr++[tv])),pt i2 (.cells z69_adc1),pt i1 (.cells (eBlk b)),Was st] st') ?_ ?_
   ·refine vc_loopJ (fun n env' st'=>∃(k:Nat) (iv:V),k≤t.ins.length∧n=t.ins.length-k∧env' 22=.int .i64 (k:Nat)∧(k=0→iv=.sl .nil [] 0)∧Sep [Slx 34 eIn iv ((t.ins.map cloneI).take k),pt i6 (.cells [iv,.sl .nil [] 0]),pt i5 (.cells (eTx t)),Slx 2 eTx tv ((b.txs.map cloneT).take i),pt i3 (.cells (eHdr b.hdr++[tv])),pt i2 (.cells z69_adc1),pt i1 (.cells (eBlk b)),Was st] st') t.ins.length
      ⟨0,.sl .nil [] 0,by omega,by omega,by simp,fun _=>rfl,by
       have S:Sep [Slx 34 eIn (.sl .nil [] 0) [],pt i6 (.cells [.sl .nil [] 0,.sl .nil [] 0]),pt i5 (.cells (eTx t)),Slx 2 eTx tv ((b.txs.map cloneT).take i),pt i3 (.cells (eHdr b.hdr++[tv])),pt i2 (.cells z69_adc1),pt i1 (.cells (eBlk b)),Was st] st6:=Sep.slxNil S
       simpa using S⟩ ?_
    clear S o5 hst
    rintro J2 hJ2 n env2 st7 hsame ⟨k,iv,hkl,rfl,h22,hiv,S⟩
    have g6:=(hsame.get 6 rfl).trans (by simp:_=V.ptr (some (i6,0)))
    have g20:=(hsame.get 20 rfl).trans (by simp:_=insV t)
    have g21:=(hsame.get 21 rfl).trans (by simp:_=V.int .i64 (t.ins.length:Int))
    clear hsame
    by_cases hkt:k<t.ins.length
    ·have w2:IntKind.i64.wrap ((k:Int)+1)=(k:Int)+1:=wrap64 (by omega) (by have:=hto.1;omega)
     obtain⟨q1,q2,q3,q4⟩:=(rd_ins t st7).row eIn_len hkt
     obtain⟨x,hx⟩: ∃x,x=t.ins[k]:=⟨_,rfl⟩
     rw[←hx]at q3
     have hxk:=hto.2.2 x (hx ▸List.getElem_mem hkt)
     have htk2:(t.ins.map cloneI).take (k+1)=(t.ins.map cloneI).take k++[cloneI x]:=by
      rw[List.take_succ_eq_append_getElem (by rw[List.length_map];exact hkt),List.getElem_map,←hx]
     simp[g20,g21,h22,hkt,q1,q3]
     intro i8 h8
     have S:=S.new h8 (.cells z34_1838)
     have hst:=store_pt (sz:=34) (o:=0) S.get (v:=.agg (eIn x)) (vs:=eIn x) rfl (eIn_len _) (by decide)
     rw[show spliceV z34_1838 0 (eIn x)=eIn x by simp[spliceV,eIn_len]]at hst
     have S:=S.set (.cells (eIn x))
     simp[hst]at S⊢
     generalize st7.upd i8 _=st8 at S⊢
     have o8:=S.get
     have o6:=S.drop.drop.get
     have hfe:fillV (repV [w8 0] 0) []=some []:=rfl
     have hke:elems st8 1 (keyV x.kk x.key)=some (rowsOf e8 x.key,x.key.length):=Rd.elems e8_len (.inl ⟨x.kk,rfl⟩)
     have hfI: ∀kd:SK,fillV z34_1838 [(0,33,.agg (ePt x.pt)),(33,1,.sl kd (rowsOf e8 x.key) x.key.length)]=some (eIn ⟨x.tx,x.ix,kd,x.key⟩):=fun kd=>by
      have z:z34_1838=ePt (id0,0#32)++[.sl .nil [] 0]:=rfl
      simp[fillV,z,spliceV,ePt_len,eIn,keyV]
      simp[ePt,In1.pt,eId_len]
     have hfr:fillV (repV z34_1838 1) [(0,34,.agg (eIn (cloneI x)))]=some (eIn (cloneI x)):=by
      rw[show repV z34_1838 1=z34_1838 from rfl]
      have z:z34_1838.length=34:=rfl
      simp[fillV,spliceV,eIn_len,z]
     have hel: ∀s:St,elems s 34 (.sl .full (eIn (cloneI x)) 1)=some (rowsOf eIn [cloneI x],1):=fun s=>by simp[elems,eIn_len,rowsOf]
     simp[g6,hfe,St.seg,o8,o6,insegPt,insegKey,s2a,hke]
     refine appn_full (ys:=rowsOf e8 x.key) (m:=x.key.length) (b:=1) (fun e=>by rw[List.length_eq_zero_iff.1 e];rfl) (by omega) ?_
     rw[show(if x.key.length=0 then SK.full else SK.some)=(cloneI x).kk from rfl]
     simp[hfI]
     rw[show(⟨x.tx,x.ix,(cloneI x).kk,x.key⟩:In1)=cloneI x from rfl]
     simp[hfr,hel]
     refine Sep.appx' (b:=64) eIn_len (by omega) S.drop [cloneI x] (by simp[rowsOf]) rfl (by simp only[List.length_singleton,List.length_map,List.length_take];have:=hto.1;omega) ?_
     intro s' st9 S
     rw[←htk2]at S
     have o6:=S.drop.get
     have hst:=store_pt (sz:=1) (o:=0) o6 (v:=s') (vs:=[s']) S.slxCells rfl (by simp)
     rw[show spliceV [iv,V.sl .nil [] 0] 0 [s']=[s',.sl .nil [] 0]from rfl]at hst
     have S:=S.setAt (.cells [s',.sl .nil [] 0]) 1 rfl
     simp only[List.set_cons_succ,List.set_cons_zero]at S
     simp[g6,hst,h22,w2]
     exact Round.mk (t.ins.length-(k+1)) _ (by omega) (sub_self _) (hJ2 _ _ _ ⟨k+1,s',by omega,rfl,by simp,(fun e=>by omega),S⟩)
    ·have:k=t.ins.length:=by omega
     subst this
     rw[List.take_of_length_le (by rw[List.length_map];exact Nat.le_refl _)]at S
     simp[g21,h22]
     exact⟨iv,(fun e=>hiv (by rw[e];rfl)),S⟩
   clear S o5 hst
   rintro env2 st7 hsame ⟨iv,hiv,S⟩
   have g3:=(hsame.get 3 rfl).trans (by simp[g3]:_=V.ptr (some (i3,0)))
   have g5:=(hsame.get 5 rfl).trans (by simp:_=V.ptr (some (i5,0)))
   have g6:=(hsame.get 6 rfl).trans (by simp:_=V.ptr (some (i6,0)))
   have g15:=(hsame.get 15 rfl).trans (by simp[h15]:_=V.int .i64 (i:Int))
   clear hsame
   have o5:=S.drop.drop.get
   have o6:=S.drop.get
   have heo:elems st7 33 (outsV t)=some (rowsOf eOut t.outs,t.outs.length):=(rd_outs t st7).elems eOut_len
   simp[g5,g6,St.seg,o5,o6,s2b,tsegOuts,heo]
   refine Sep.appx0 (b:=40) eOut_len (by omega) S t.outs rfl rfl (by have:=hto.2.1;omega) ?_
   clear S o5 o6
   intro ov st8 hov S
   have o6:=S.drop.drop.get
   have hst:=store_pt (sz:=1) (o:=1) o6 (v:=ov) (vs:=[ov]) S.slxCells rfl (by simp)
   rw[show spliceV [iv,V.sl .nil [] 0] 1 [ov]=[iv,ov]from rfl]at hst
   have S:=S.setAt (.cells [iv,ov]) 2 rfl
   simp only[List.set_cons_succ,List.set_cons_zero]at S
   simp[g6,hst]
   clear hst o6
   generalize st8.upd i6 _=st9 at S⊢
   have o6:=S.drop.drop.get
   have S:=S.setAt (.ro [iv,ov]) 2 rfl
   simp only[List.set_cons_succ,List.set_cons_zero]at S
   have S:Sep [Slx 34 eIn iv (t.ins.map cloneI),Slx 33 eOut ov t.outs,pt i5 (.cells (eTx t)),Slx 2 eTx tv ((b.txs.map cloneT).take i),pt i3 (.cells (eHdr b.hdr++[tv])),pt i2 (.cells z69_adc1),pt i1 (.cells (eBlk b)),Was st] (st9.upd i6 (.ro [iv,ov])):=S.swap.tail fun r h=>h.tail fun r h=>h.drop
   obtain⟨sa,ha,S⟩:=Sep.frzHx eIn_len S (fun e=>hiv (by simpa using e))
   obtain⟨sb,hb,S⟩:=Sep.frzHx eOut_len S hov
   have hfL:frzL (st9.upd i6 (.ro [iv,ov])) [iv,ov]=some (eTx (cloneT t),sb):=by
    simp only[frzL,ha,hb,Option.bind_some,Option.map_some]
    rfl
   have S:=S.drop
   have o3:=S.drop.get
   have hfr:fillV (repV [V.sl .nil [] 0,V.sl .nil [] 0] 1) [(0,2,.agg (eTx (cloneT t)))]=some (eTx (cloneT t)):=rfl
   have hel: ∀s:St,elems s 2 (.sl .full (eTx (cloneT t)) 1)=some (rowsOf eTx [cloneT t],1):=fun s=>by simp[elems,eTx_len,rowsOf]
   have hle:ldE 2 (.eptr (eTx (cloneT t)))=some (eTx (cloneT t)):=rfl
   simp[frzP,frzV,frzOb,o6,g6,hfL,g3,St.seg,o3,sT,hle,hfr,hel]
   refine Sep.appx' (b:=48) eTx_len (by omega) S [cloneT t] (by simp[rowsOf]) rfl (by simp only[List.length_singleton,List.length_map,List.length_take];omega) ?_
   intro s' st10 S
   rw[←htk]at S
   have o3:=S.drop.get
   have hst:=store_pt (sz:=1) (o:=68) o3 (v:=s') (vs:=[s']) S.slxCells rfl (by simp[eHdr_len])
   rw[spT]at hst
   have S:=S.setAt (.cells (eHdr b.hdr++[s'])) 1 rfl
   simp only[List.set_cons_succ,List.set_cons_zero]at S
   simp[g3,hst,g15,w1]
   exact Round.mk (b.txs.length-(i+1)) _ (by omega) (sub_self _) (hJ _ _ _ ⟨i+1,s',by omega,rfl,by simp,(fun e=>by omega),S⟩)
  ·have:i=b.txs.length:=by omega
   subst this
   rw[List.take_of_length_le (by rw[List.length_map];exact Nat.le_refl _)]at S
   simp[g14,h15]
   exact⟨tv,(fun e=>htv (by rw[e];rfl)),S⟩
 clear S o1 hst
 rintro env1 st4 hsame ⟨tv,htv,S⟩
 have g2:=(hsame.get 2 rfl).trans (by simp:_=V.ptr (some (i2,0)))
 have g3:=(hsame.get 3 rfl).trans (by simp:_=V.ptr (some (i3,0)))
 clear hsame
 have o3:=S.drop.get
 have S:=S.setAt (.ro (eHdr b.hdr++[tv])) 1 rfl
 simp only[List.set_cons_succ,List.set_cons_zero]at S
 have S:Sep [Slx 2 eTx tv (b.txs.map cloneT),pt i2 (.cells z69_adc1),pt i1 (.cells (eBlk b)),Was st] (st4.upd i3 (.ro (eHdr b.hdr++[tv]))):=S.tail fun r h=>h.drop
 obtain⟨sa,ha,S⟩:=Sep.frzHx eTx_len S (fun e=>htv (by simpa using e))
 have hfL:frzL (st4.upd i3 (.ro (eHdr b.hdr++[tv]))) (eHdr b.hdr++[tv])=some (eBlk (cloneB b),sa):=by
  rw[frzL_app _ _ (eHdr_plain b.hdr)]
  simp only[frzL,ha,Option.bind_some,Option.map_some]
  rfl
 have hle:ldE 69 (.eptr (eBlk (cloneB b)))=some (eBlk (cloneB b)):=by simp[ldE,bsegAll]
 have hst:=store_pt (sz:=69) (o:=0) S.get (v:=.agg (eBlk (cloneB b))) (vs:=eBlk (cloneB b)) rfl (eBlk_len _) (by decide)
 have hsp:spliceV z69_adc1 0 (eBlk (cloneB b))=eBlk (cloneB b):=by
  have z:z69_adc1.length=69:=rfl
  simp[spliceV,eBlk_len,z]
 rw[hsp]at hst
 have S:=S.set (.cells (eBlk (cloneB b)))
 simp[frzP,frzV,frzOb,o3,g3,hfL,hle,g2,hst]
 have o2:=S.get
 simp[St.seg,bsegAll,vBlk]
 exact S.was' (st0:=st) (by simp)
end
theorem condB_cut {P:Program}{v:V}{a b rest:PC}{Q:Ex→Env→St→Prop}{env:Env}{st:St}(M:Env→St→Prop)
  (h:condB P v a b (fun e env' st'=>match e with | .normal=>M env' st' | e=>Q e env' st') env st) (k: ∀env' st',M env' st'→vc P rest Q env' st'):condB P v a b (seqK P rest Q) env st:=by
 unfold condB at h⊢
 cases v<;>simp only at h⊢
 case bool t=>
  have key: ∀c,vc P c (fun e env' st'=>match e with | .normal=>M env' st' | e=>Q e env' st') env st→vc P c (seqK P rest Q) env st:=fun c h=>
   vc_frame c _ _ env st (fun e env' st' _ h=>by cases e<;>first | exact k _ _ h | exact h) h
  cases t
  ·simp only[Bool.false_eq_true,if_false]at h⊢
   exact key _ h
  ·simp only[if_true]at h⊢
   exact key _ h
def takeL (id:Id):Nat→List Out1→CM→CM
 | _,[],cm=>cm
 | j,_::l,cm=>takeL id (j+1) l (aDel (id,BitVec.ofNat 32 j) cm)
def takeM (t:Tx1)(cm:CM):CM:=takeL (txIdM t) 0 t.outs cm
section
variable {P:Program} {F:Fn}
set_option maxHeartbeats 4000000 in
theorem spec261 (ok:OkCoins P F){st:St}{o off:Nat}{f:V→List V}(hf:Hole f off){cm:CM}{L:List Asn}(h0:SetS o f cm L st)(t:Tx1)(ht:t.ok 100):
  ACalls P (F 261) [.ptr (some (o,off)),.agg (eTx t)] st fun v st'=>SetS o f (takeM t cm) L st':=by
 have okt:=ok.toOkCheck2.toOkCheck.toOkTx
 refine shows_call ok.mixed ok.h261 (by simp[k261]) ?_
 simp only[k261]
 have hsg:=hf.seg
 simp
 intro i3 h3
 have W:=h0.new h3 (.cells (eTx t))
 generalize st.upd i3 _=st1 at W⊢
 have o3:=W.ext (i:=i3) (x:=.cells (eTx t)) (by simp)
 simp[St.seg,o3,tsegAll]
 refine(spec198 okt st1 t ht).mono ?_
 rintro v st2 ⟨rfl,rfl⟩
 simp
 intro i4 h4
 have W:=W.new h4 (.cells zR32_w80)
 have o4:=W.ext (i:=i4) (x:=.cells zR32_w80) (by simp)
 have hst:=store_z32 o4 (txIdM t)
 have W:=W.setL (.cells (eId (txIdM t)))
 simp[hst]at W⊢
 generalize st2.upd i4 (.cells (eId (txIdM t)))=st5 at W⊢
 have o3:=W.ext (i:=i3) (x:=.cells (eTx t)) (by simp)
 have so:=tsegOuts t
 have lo:=outsV_len t
 simp[St.seg,o3,so,lo]
 ·refine vc_loopJ (fun c env' st'=>∃(i:Nat) (cm':CM),i≤t.outs.length∧c=t.outs.length-i∧env' 11=.int .i64 (i:Nat)∧takeL (txIdM t) i (t.outs.drop i) cm'=takeM t cm∧SetS o f cm' (pt i4 (.cells (eId (txIdM t)))::pt i3 (.cells (eTx t))::L) st') t.outs.length
    ⟨0,cm,by omega,by omega,by simp,by simp[takeM],W⟩ ?_
  clear W o3 o4 hst
  rintro J hJ c env' st4 hsame ⟨i,cm',hi,rfl,h11,hgo,W⟩
  have g0:=(hsame.get 0 rfl).trans (by simp:_=V.ptr (some (o,off)))
  have g4:=(hsame.get 4 rfl).trans (by simp:_=V.ptr (some (i4,0)))
  have g10:=(hsame.get 10 rfl).trans (by simp:_=V.int .i64 (t.outs.length:Int))
  clear hsame
  by_cases hlt:i<t.outs.length
  ·rw[List.drop_eq_getElem_cons hlt,takeL]at hgo
   have w1:IntKind.i64.wrap ((i:Int)+1)=(i:Int)+1:=wrap64 (by omega) (by have:=ht.2.1;omega)
   have w2:=wrap32 i
   have hfl:=ptFill (txIdM t) (BitVec.ofNat 32 i)
   have s7:segOf (eId (txIdM t)) 0 32=some (eId (txIdM t)):=seg_of_drop (zs:=[]) (by simp) (eId_len _) (by omega)
   have o4:=W.ext (i:=i4) (x:=.cells (eId (txIdM t))) (by simp)
   obtain⟨mo,hmo,S⟩:=W
   cases mo with
   | none=>
     have he:cm'=[]:=hmo rfl
     subst he
     have oo:=S.get
     have hd:=mdel_none keyed_pt (st:=st4) (txIdM t,BitVec.ofNat 32 i)
     simp[g0,g4,g10,h11,hlt,St.seg,oo,hsg,o4,s7,w2,hfl]
     rw[show V.agg (ePt (txIdM t,BitVec.ofNat 32 i))=kPt (txIdM t,BitVec.ofNat 32 i)from rfl,hd]
     simp[h11,w1]
     exact Round.mk (t.outs.length-(i+1)) _ (by omega) (sub_self _) (hJ _ _ _ ⟨i+1,[],by omega,rfl,by simp,hgo,none,fun _=>rfl,S⟩)
   | some m=>
     have oo:=S.get
     have om:=S.drop.get
     have hd:=mdel_enc keyed_pt (ev:=vCoin) om (txIdM t,BitVec.ofNat 32 i)
     simp[g0,g4,g10,h11,hlt,St.seg,oo,hsg,o4,s7,w2,hfl]
     rw[show V.agg (ePt (txIdM t,BitVec.ofNat 32 i))=kPt (txIdM t,BitVec.ofNat 32 i)from rfl,hd]
     simp[h11,w1]
     exact Round.mk (t.outs.length-(i+1)) _ (by omega) (sub_self _) (hJ _ _ _ ⟨i+1,_,by omega,rfl,by simp,hgo,some m,(fun e=>by cases e),(S.swap.set _).swap⟩)
  ·have:i=t.outs.length:=by omega
   subst this
   rw[List.drop_length,takeL]at hgo
   rw[←hgo]
   simp[g10,h11]
   exact⟨st4,sub_self _,W.tail fun r h=>h.drop.drop⟩
set_option maxHeartbeats 8000000 in
theorem spec262a (ok:OkCoins P F)(hc:CloneC P (F 256)){st:St}{o off:Nat}{f:V→List V}(hf:Hole f off){cm:CM}{L:List Asn}(h0:SetS o f cm L st)(b:Blk1)(t:Tx1)(hb:b.txs=[t])(ht:t.ok 100):
  ACalls P (F 262) [.ptr (some (o,off)),.agg (eBlk b),undo0] st fun v st'=>v=.int .i64 0∧SetS o f (takeM t cm) L st':=by
 refine shows_call ok.mixed ok.h262 (by simp[k262]) ?_
 simp only[k262]
 have hln:lenSlV (txsV b.tk b.txs)=some (.int .i64 1):=by rw[hb];rfl
 have hsT:=bsegT b
 have ht0: ∀hx,b.txs[0]'hx=t:=fun hx=>by simp[hb]
 have hx0:0<b.txs.length:=by rw[hb];simp
 simp
 intro i4 h4
 have W:=h0.new h4 (.cells (eBlk b))
 generalize st.upd i4 _=st1 at W⊢
 simp[undo0]
 intro i5 h5
 have W:=W.new h5 (.cells [.sl .nil [] 0,.sl .nil [] 0])
 generalize st1.upd i5 _=st2 at W⊢
 have o4:=W.ext (i:=i4) (x:=.cells (eBlk b)) (by simp)
 simp[St.seg,o4,hsT,hln]
 refine vc_joinB (M:=fun env' st'=>env' 7=.int .i64 0∧SetS o f cm (pt i5 (.cells [.sl .nil [] 0,.sl .nil [] 0])::pt i4 (.cells (eBlk b))::L) st') ?_ ?_
 ·refine vc_loopJ (fun c env' st'=>∃i:Nat,i≤1∧c=1-i∧env' 15=.int .i64 (i:Nat)∧env' 7=.int .i64 0∧SetS o f cm (pt i5 (.cells [.sl .nil [] 0,.sl .nil [] 0])::pt i4 (.cells (eBlk b))::L) st') 1
    ⟨0,by omega,by omega,by simp,by simp,W⟩ ?_
  clear W o4
  rintro J hJ c env' st4 hsame ⟨i,hi,rfl,h15,h7,W⟩
  have g13:=(hsame.get 13 rfl).trans (by simp:_=txsV b.tk b.txs)
  have g14:=(hsame.get 14 rfl).trans (by simp:_=V.int .i64 1)
  clear hsame
  by_cases hlt:i<1
  ·have:i=0:=by omega
   subst this
   obtain⟨r1,r2,r3,r4⟩:=(rd_txs b st4).row eTx_len hx0
   rw[ht0]at r3
   simp at r1
   simp[g13,g14,h15,r1,r3]
   intro i9 h9
   have W:=W.new h9 (.cells [.sl .nil [] 0,.sl .nil [] 0])
   have o9:=W.ext (i:=i9) (x:=.cells [.sl .nil [] 0,.sl .nil [] 0]) (by simp)
   have hst:=store_pt (sz:=2) (o:=0) o9 (v:=.agg (eTx t)) (vs:=eTx t) rfl rfl (by simp)
   rw[show spliceV [V.sl .nil [] 0,V.sl .nil [] 0] 0 (eTx t)=eTx t from rfl]at hst
   have W:=W.setL (i:=i9) (.cells (eTx t))
   simp[hst,h15]at W⊢
   exact Round.mk 0 _ (by omega) (sub_self _) (hJ _ _ _ ⟨1,by omega,rfl,by simp,by simp[h7],W.tail fun r h=>h.drop⟩)
  ·have:i=1:=by omega
   subst this
   simp[g14,h15]
   exact⟨h7,W⟩
 clear W o4
 rintro env1 st3 hsame ⟨g7,W⟩
 have g0:=(hsame.get 0 rfl).trans (by simp:_=V.ptr (some (o,off)))
 have g4:=(hsame.get 4 rfl).trans (by simp:_=V.ptr (some (i4,0)))
 have g5:=(hsame.get 5 rfl).trans (by simp:_=V.ptr (some (i5,0)))
 clear hsame
 have o4:=W.ext (i:=i4) (x:=.cells (eBlk b)) (by simp)
 have o5:=W.ext (i:=i5) (x:=.cells [.sl .nil [] 0,.sl .nil [] 0]) (by simp)
 have u0:segOf [V.sl .nil [] 0,V.sl .nil [] 0] 0 1=some [V.sl .nil [] 0]:=rfl
 have u1:segOf [V.sl .nil [] 0,V.sl .nil [] 0] 1 1=some [V.sl .nil [] 0]:=rfl
 obtain⟨mo,hmo,S⟩:=W
 simp[g0,g4,g5,g7,St.seg,o4,o5,u0,u1,hsT,hln]
 refine(spec255 ok hc hf hmo S).mono ?_
 rintro v st4 ⟨ic,rfl,W⟩
 clear S o4 o5
 obtain⟨mo2,hmo2,S⟩:=W
 have hsg: ∀v:V,segOf (lone v) 0 1=some [v]:=fun _=>rfl
 have oo:st4 ic=some (.cells (lone (.map mo2))):=by cases mo2<;>exact S.get
 obtain⟨bb,hbb⟩: ∃bb,bb=mo2.isNone:=⟨_,rfl⟩
 have heq:eqK .map (V.map mo2) (V.map none)=some bb:=by rw[hbb];cases mo2<;>rfl
 simp[St.seg,oo,hsg,heq]
 refine condB_cut (M:=fun env' st'=>env' 0=.ptr (some (o,off))∧env' 4=.ptr (some (i4,0))∧env' 7=.int .i64 0∧env' 10=.ptr (some (ic,0))∧SetS ic lone cm (SetL o f cm mo++(pt i5 (.cells [.sl .nil [] 0,.sl .nil [] 0])::pt i4 (.cells (eBlk b))::L)) st') ?_ ?_
 ·cases mo2 with
  | none=>
    have he:cm=[]:=hmo2 rfl
    subst he
    have hb1:bb=true:=hbb
    subst hb1
    simp
    intro m hm
    have S:=S.new hm (.mp [])
    have o2:=S.drop.get
    have hst:=store_pt (sz:=1) (o:=0) o2 (v:=.map (some m)) (vs:=[.map (some m)]) rfl rfl (by simp[lone])
    rw[show spliceV (lone (.map none)) 0 [V.map (some m)]=lone (.map (some m))from rfl]at hst
    have S:=S.setAt (.cells (lone (.map (some m)))) 1 rfl
    simp only[List.set_cons_succ,List.set_cons_zero]at S
    simp[hst,g0,g4,g7]
    exact⟨some m,(fun e=>by cases e),S.swap⟩
  | some m=>
    have hb1:bb=false:=hbb
    subst hb1
    simp[g0,g4,g7]
    exact⟨some m,hmo2,S⟩
 clear S oo g0 g4 g7
 rintro env2 st5 ⟨g0,g4,g7,g10,W⟩
 have o4:=W.ext (i:=i4) (x:=.cells (eBlk b)) (by cases mo<;>simp[SetL])
 obtain⟨r1,r2,r3,r4⟩:=(rd_txs b st5).row eTx_len hx0
 rw[ht0]at r3
 simp at r1
 simp[g4,g10,St.seg,o4,hsT,r1,r3]
 refine(spec261 ok lone_hole W t ht).mono ?_
 clear W o4 r1 r2 r3 r4
 intro v st6 W
 have o4:=W.ext (i:=i4) (x:=.cells (eBlk b)) (by cases mo<;>simp[SetL])
 simp[g4,St.seg,o4,hsT,hln]
 refine vc_joinB (M:=fun env' st'=>SetS ic lone (takeM t cm) (SetL o f cm mo++(pt i5 (.cells [.sl .nil [] 0,.sl .nil [] 0])::pt i4 (.cells (eBlk b))::L)) st') ?_ ?_
 ·refine vc_loopJ (fun c env' st'=>c=0∧env' 11=.int .i64 0∧SetS ic lone (takeM t cm) (SetL o f cm mo++(pt i5 (.cells [.sl .nil [] 0,.sl .nil [] 0])::pt i4 (.cells (eBlk b))::L)) st') 0
    ⟨rfl,by simp,W⟩ ?_
  rintro J hJ c env' st7 hsame ⟨rfl,h11,W⟩
  simp[h11]
  exact W
 clear W o4
 rintro env3 st7 hsame W
 have g0:=(hsame.get 0 rfl).trans (by simp[g0]:_=V.ptr (some (o,off)))
 have g10:=(hsame.get 10 rfl).trans (by simp[g10]:_=V.ptr (some (ic,0)))
 clear hsame
 obtain⟨mo2,hmo2,S⟩:=W
 obtain⟨t1,t2,t3⟩:=takeOver S
 have hsg:segOf [V.map mo2] 0 1=some [.map mo2]:=rfl
 have hsto:=store_pt (sz:=1) (o:=off) t2 (v:=.map mo2) (vs:=[.map mo2]) rfl rfl (by have:=hf.seg (.map mo);simp[segOf]at this;omega)
 rw[hf.spl]at hsto
 simp[g0,g10,St.seg,t1,lone,hsg,hsto]
 exact⟨_,sub_self _,mo2,hmo2,by
  cases mo2 with
  | none=>exact t3.tail fun r h=>h.drop.drop
  | some m=>exact t3.tail fun r h=>h.tail fun r h=>h.drop.drop⟩
end
def rw0:Rw:=(⟨hdr0,id0,0,0,0,0,false⟩,.nil,[])
def stp (k:Nat):Int:=((2 ^ (k-10):Nat):Int)
section
variable {P:Program} {F:Fn}
theorem fill1 (x:Int):fillV (repV [.int .i64 0] 1) [(0,1,.int .i64 x)]=some (e1 x):=rfl
theorem el1 (st:St)(k:SK)(x:Int):elems st 1 (.sl k (e1 x) 1)=some (e1 x,1):=by simp[elems,e1]
end
def On (l:List Nd)(i k:Nat):Prop:=hgt l i≤hgt l k∧anc l k (hgt l i)=i
theorem onB_on {l:List Nd}{i k:Nat}(hi:i<l.length)(hk:k<l.length):onB l i k=true↔On l i k:=by
 rw[onB_nat hi hk];simp[On]
theorem ancI_nat {l:List Nd}{i h:Nat}(hi:i<l.length)(hh:h≤hgt l i):ancI l i h=(anc l i h:Nat):=by
 unfold ancI
 rw[if_neg (by simp only[Int.toNat_natCast];omega),Int.toNat_natCast,Int.toNat_natCast]
theorem onB_range {l:List Nd}{i k:Int}(h:onB l i k=true): ∃a b:Nat,i=a∧k=b∧a<l.length∧b<l.length:=by
 unfold onB at h
 simp only[Bool.and_eq_true,decide_eq_true_eq,beq_iff_eq]at h
 obtain⟨⟨h1,h2⟩,h3⟩:=h
 unfold ancI at h3
 split at h3
 ·omega
 ·exact⟨i.toNat,k.toNat,by omega,by omega,by omega,by omega⟩
section
variable {l:List Nd} (w:Wf l)
include w
theorem On.refl' (i:Nat):On l i i:=⟨Nat.le_refl _,anc_self i⟩
theorem On.le {i k:Nat}(hk:k<l.length)(h:On l i k):i≤k:=by
 have:=w.anc_le (h:=hgt l i) hk
 rw[h.2]at this
 exact this
theorem On.of {k h:Nat}(hk:k<l.length)(hh:h≤hgt l k):On l (anc l k h) k:=by
 have e:=w.anc_hgt hk hh
 refine⟨by omega,by rw[e]⟩
theorem On.trans {i j k:Nat}(hk:k<l.length)(h1:On l i j)(h2:On l j k):On l i k:=by
 refine⟨Nat.le_trans h1.1 h2.1,?_⟩
 have:=w.anc_anc hk h1.1 h2.1
 rw[h2.2,h1.2]at this
 exact this.symm
theorem On.chain {i j k:Nat}(hk:k<l.length)(h1:On l i k)(h2:On l j k)(h:hgt l i≤hgt l j):On l i j:=by
 refine⟨h,?_⟩
 have:=w.anc_anc hk h h2.1
 rw[h2.2,h1.2]at this
 exact this
theorem hgt_zero_iff {i:Nat}(hi:i<l.length)(h:hgt l i=0):i=0:=by
 rcases Nat.eq_zero_or_pos i with e | e
 ·exact e
 ·have:=w.hgt_par e hi;omega
theorem On.par {i k:Nat}(hk:k<l.length)(h:On l i k)(hne:i≠k):On l i (par l k)∧0<k:=by
 have hlt:hgt l i<hgt l k:=by
  rcases Nat.lt_or_ge (hgt l i) (hgt l k)with g | g
  ·exact g
  ·have e:hgt l i=hgt l k:=by have:=h.1;omega
   have:=h.2
   rw[e,anc_self]at this
   exact absurd this.symm hne
 have hp:=w.pos_of_hgt (i:=k) (by omega)
 have h2:=w.hgt_par hp hk
 refine⟨⟨by omega,?_⟩,hp⟩
 rw[←w.anc_par hk hlt]
 exact h.2
theorem On.up {k:Nat}(hp:0<k)(hk:k<l.length):On l (Ab.par l k) k:=by
 have h1:=w.hgt_par hp hk
 have h2:=w.anc_par hk (h:=hgt l (Ab.par l k)) (by omega)
 refine⟨by omega,?_⟩
 rw[h2,anc_self]
end
def meetGo (l:List Nd):Nat→Nat→Nat→Nat
 | 0,a,_=>a
 | n+1,a,b=>if a=b then a else meetGo l n (par l a) (par l b)
def meetM (l:List Nd)(a b:Nat):Nat:=meetGo l (min (hgt l a) (hgt l b)) (anc l a (min (hgt l a) (hgt l b))) (anc l b (min (hgt l a) (hgt l b)))
structure Meets (l:List Nd) (a b m:Nat):Prop where
 lt:m<l.length
 on1:On l m a
 on2:On l m b
 top: ∀i,On l i a→On l i b→On l i m
theorem meetGo_spec {l:List Nd}(w:Wf l): ∀(n a b:Nat),a<l.length→b<l.length→hgt l a=n→hgt l b=n→Meets l a b (meetGo l n a b)
 | 0,a,b,ha,hb,e1,e2=>by
   have h1:=hgt_zero_iff w ha e1
   have h2:=hgt_zero_iff w hb e2
   subst h1 h2
   exact⟨ha,On.refl' w _,On.refl' w _,fun i h _=>h⟩
 | n+1,a,b,ha,hb,e1,e2=>by
   unfold meetGo
   by_cases h:a=b
   ·subst h
    rw[if_pos rfl]
    exact⟨ha,On.refl' w _,On.refl' w _,fun i h _=>h⟩
   ·rw[if_neg h]
    have pa:=w.pos_of_hgt (i:=a) (by omega)
    have pb:=w.pos_of_hgt (i:=b) (by omega)
    have ia:=w.par_lt pa ha
    have ib:=w.par_lt pb hb
    have ga:=w.hgt_par pa ha
    have gb:=w.hgt_par pb hb
    have ih:=meetGo_spec w n (par l a) (par l b) (by omega) (by omega) (by omega) (by omega)
    refine⟨ih.lt,On.trans w ha ih.on1 (On.up w pa ha),On.trans w hb ih.on2 (On.up w pb hb),fun i h1 h2=>?_⟩
    have na:i≠a:=fun e=>by
     subst e
     have:=h2.2
     rw[e1,←e2,anc_self]at this
     exact h this.symm
    have nb:i≠b:=fun e=>by
     subst e
     have:=h1.2
     rw[e2,←e1,anc_self]at this
     exact h this
    exact ih.top i (On.par w ha h1 na).1 (On.par w hb h2 nb).1
theorem meet_spec {l:List Nd}(w:Wf l){a b:Nat}(ha:a<l.length)(hb:b<l.length):Meets l a b (meetM l a b):=by
 obtain⟨h,hh⟩: ∃h,h=min (hgt l a) (hgt l b):=⟨_,rfl⟩
 have i1:=w.anc_lt (h:=h) ha
 have i2:=w.anc_lt (h:=h) hb
 have g1:=w.anc_hgt ha (h:=h) (by omega)
 have g2:=w.anc_hgt hb (h:=h) (by omega)
 have m:=meetGo_spec w h (anc l a h) (anc l b h) i1 i2 g1 g2
 have o1:=On.of w ha (h:=h) (by omega)
 have o2:=On.of w hb (h:=h) (by omega)
 have e:meetM l a b=meetGo l h (anc l a h) (anc l b h):=by rw[meetM,←hh]
 rw[e]
 refine⟨m.lt,On.trans w ha m.on1 o1,On.trans w hb m.on2 o2,fun i k1 k2=>?_⟩
 have hi:hgt l i≤h:=by have:=k1.1;have:=k2.1;omega
 exact m.top i (On.chain w ha k1 o1 (by omega)) (On.chain w hb k2 o2 (by omega))
theorem On.anti {l:List Nd}(w:Wf l){a b:Nat}(ha:a<l.length)(hb:b<l.length)(h1:On l a b)(h2:On l b a):a=b:=by
 have:=On.le w hb h1
 have:=On.le w ha h2
 omega
theorem Meets.uniq {l:List Nd}(w:Wf l){a b m m':Nat}(h:Meets l a b m)(h':Meets l a b m'):m=m':=
 On.anti w h.lt h'.lt (h'.top m h.on1 h.on2) (h.top m' h'.on1 h'.on2)
def wayM (l:List Nd)(a b:Nat):List Int:=(List.range (hgt l b-hgt l a)).map fun k=>((anc l b (hgt l a+1+k):Nat):Int)
def wayI (l:List Nd)(a b:Int):List Int:=if onB l a b=true then wayM l a.toNat b.toNat else[]
theorem wayM_len (l:List Nd)(a b:Nat):(wayM l a b).length=hgt l b-hgt l a:=by simp[wayM]
theorem wayM_rev {l:List Nd}(a b:Nat):((List.range (hgt l b-hgt l a)).map fun k=>((anc l b (hgt l b-k):Nat):Int)).reverse=wayM l a b:=by
 apply List.ext_getElem
 ·simp[wayM]
 ·intro i h1 h2
  have hi:i<hgt l b-hgt l a:=by simpa[wayM]using h2
  rw[List.getElem_reverse]
  simp only[wayM,List.getElem_map,List.getElem_range,List.length_map,List.length_range]
  congr 2
  omega
def revTo (l:List Int)(i:Nat):List Int:=(List.range l.length).map fun k=>if k<i∨l.length-1-k<i then l.getD (l.length-1-k) 0 else l.getD k 0
@[simp] theorem revTo_len (l:List Int)(i:Nat):(revTo l i).length=l.length:=by simp[revTo]
theorem revTo_get (l:List Int)(i k:Nat)(h:k<l.length):(revTo l i)[k]'(by simpa using h)=if k<i∨l.length-1-k<i then l.getD (l.length-1-k) 0 else l.getD k 0:=by simp[revTo]
theorem revTo_zero (l:List Int):revTo l 0=l:=by
 apply List.ext_getElem
 ·simp
 ·intro k h1 h2
  rw[revTo_get _ _ _ h2,if_neg (by omega)]
  simp[h2]
theorem revTo_all (l:List Int){i:Nat}(h:l.length≤2*i+1):revTo l i=l.reverse:=by
 apply List.ext_getElem
 ·simp
 ·intro k h1 h2
  have hk:k<l.length:=by simpa using h1
  rw[revTo_get _ _ _ hk,List.getElem_reverse]
  have e: ∀j (hj:j<l.length),l.getD j 0=l[j]:=fun j hj=>by simp[hj]
  split
  ·exact e _ (by omega)
  ·have:k=l.length-1-k:=by omega
   rw[e k hk]
   congr 1
theorem revTo_succ (l:List Int){i:Nat}(h:2*i+1<l.length):((revTo l i).set i ((revTo l i)[l.length-1-i]'(by simp;omega))).set (l.length-1-i) ((revTo l i)[i]'(by simp;omega))=revTo l (i+1):=by
 apply List.ext_getElem
 ·simp
 ·intro k h1 h2
  have hk:k<l.length:=by simpa using h2
  rw[List.getElem_set,List.getElem_set,revTo_get _ _ _ hk,revTo_get _ _ _ (show i<l.length by omega),revTo_get _ _ _ (show l.length-1-i<l.length by omega),revTo_get _ _ _ hk]
  by_cases c1:l.length-1-i=k
  ·rw[if_pos c1,if_neg (by omega),if_pos (by omega)]
   congr 1;omega
  ·rw[if_neg c1]
   by_cases c2:i=k
   ·rw[if_pos c2,if_neg (by omega),if_pos (by omega)]
    congr 1;omega
   ·rw[if_neg c2]
    by_cases c3:k<i∨l.length-1-k<i
    ·rw[if_pos c3,if_pos (by omega)]
    ·rw[if_neg c3,if_neg (by omega)]
section
variable {P:Program} {F:Fn}
theorem e1_read {st:St}{id:Nat}{xs:List Int}{sp:List V}(h:st id=some (.cells (rowsOf e1 xs++sp))){i:Nat}(hi:i<xs.length):st.seg id i 1=some [.int .i64 xs[i]]:=by
 have:=rowsOf_seg e1_len xs sp hi
 rw[Nat.mul_one]at this
 simp only[St.seg,h]
 exact this
theorem e1_store {st:St}{id:Nat}{xs:List Int}{sp:List V}(h:st id=some (.cells (rowsOf e1 xs++sp))){i:Nat}(hi:i<xs.length)(x:Int):storeS st 1 (.ptr (some (id,i))) (.int .i64 x)=some (st.upd id (.cells (rowsOf e1 (xs.set i x)++sp))):=by
 have hs:=rowsOf_splice e1_len xs sp hi (o:=0) (vs:=[.int .i64 x]) (by simp) (a:=x) rfl
 rw[Nat.mul_one,Nat.add_zero]at hs
 simp only[storeS,h,cells_int]
 rw[if_pos ⟨rfl,by rw[List.length_append,rowsOf_length e1_len];omega⟩,hs]
set_option maxHeartbeats 1000000 in
theorem spec230 (ok:OkLocate P F){st:St}{s:V}{l:List Int}{L:List Asn}(S:Sep (Sl 1 e1 s l::L) st)(hl:l.length≤1000000):ACalls P (F 230) [s] st fun v st'=>Sep (Sl 1 e1 s l.reverse::L) st':=by
 refine shows_call ok.mixed ok.h230 (by simp[k230]) ?_
 simp only[k230]
 have hlen:=(Sep.rd e1_len S).len
 by_cases hne:l=[]
 ·subst hne
  have w0:IntKind.i64.wrap (-1)=-1:=rfl
  simp at hlen
  simp[hlen,w0]
  refine vc_loopJ (fun c env' st'=>env' 2=.int .i64 0∧env' 3=.int .i64 (-1)∧st'=st) 0 ⟨by simp,by simp,rfl⟩ ?_
  rintro J hJ c env' st1 hsame ⟨h2,h3,rfl⟩
  simp[h2,h3]
  exact⟨st1,sub_self _,by simpa using S⟩
 ·obtain⟨sid,spare,rfl,hsp,S⟩:=S.slObj hne
  have hp:=List.length_pos_iff.2 hne
  have w0:IntKind.i64.wrap ((l.length:Int)-1)=(l.length:Int)-1:=wrap64 (by omega) (by omega)
  simp[w0]
  have S:Sep (pt sid (.cells (rowsOf e1 (revTo l 0)++spare))::L) st:=by rw[revTo_zero];exact S
  refine vc_loopJ (fun c env' st'=>∃i:Nat,2*i≤l.length∧c=l.length-i∧env' 2=.int .i64 (i:Nat)∧env' 3=.int .i64 ((l.length:Int)-1-i)∧Sep (pt sid (.cells (rowsOf e1 (revTo l i)++spare))::L) st') l.length
   ⟨0,by omega,by omega,by simp,by simp,S⟩ ?_
  clear S
  rintro J hJ c env' st1 hsame ⟨i,hi,rfl,h2,h3,S⟩
  have g0:=(hsame.get 0 rfl).trans (by simp:_=V.hsl sid 0 1 l.length)
  clear hsame
  by_cases hlt:(i:Int)< (l.length:Int)-1-i
  ·obtain⟨j,hj⟩: ∃j,j=l.length-1-i:=⟨_,rfl⟩
   have ej:(l.length:Int)-1-i=(j:Int):=by omega
   rw[ej]at h3 hlt
   have hil:i< (revTo l i).length:=by simp;omega
   have hjl:j< (revTo l i).length:=by simp;omega
   have hin:(i:Int)<l.length:=by omega
   have hjn:(j:Int)<l.length:=by omega
   have ri:=e1_read S.get hil
   have rj:=e1_read S.get hjl
   have hst1:=e1_store S.get hil ((revTo l i)[j])
   have S1:=S.set (.cells (rowsOf e1 ((revTo l i).set i ((revTo l i)[j]))++spare))
   have hst2:=e1_store (i:=j) S1.get (by simpa using hjl) ((revTo l i)[i])
   have S2:=S1.set (.cells (rowsOf e1 (((revTo l i).set i ((revTo l i)[j])).set j ((revTo l i)[i]))++spare))
   have hsu:=revTo_succ l (i:=i) (by omega)
   have e1':(revTo l i)[l.length-1-i]'(by simp;omega)=(revTo l i)[j]:=by congr 1;omega
   rw[e1',←hj]at hsu
   rw[hsu]at hst2 S2
   have w1:IntKind.i64.wrap ((i:Int)+1)=(i:Int)+1:=wrap64 (by omega) (by omega)
   have w2:IntKind.i64.wrap ((j:Int)-1)=(j:Int)-1:=wrap64 (by omega) (by omega)
   generalize st1.upd sid (.cells (rowsOf e1 ((revTo l i).set i ((revTo l i)[j]))++spare))=st2 at hst1 hst2 S2
   have hlt':i<j:=by omega
   have hin':i<l.length:=by omega
   have hjn':j<l.length:=by omega
   simp[g0,h2,h3,hlt',hin',hjn',ri,rj,hst1,hst2,w1,w2]
   refine Round.mk (l.length-(i+1)) _ (by omega) (sub_self _) (hJ _ _ _ ⟨i+1,by omega,rfl,by simp,?_,S2⟩)
   simp
   omega
  ·have S:=S
   rw[revTo_all l (by omega)]at S
   simp[h2,h3,hlt]
   refine⟨st1,sub_self _,?_⟩
   have:=Sep.ofObj S hsp
   simpa using this
theorem min_cl {l:List Nd}(w:Wf l)(hl:l.length≤16384)(i:Int):foldV min2V (.int .i64 i) [.int .i64 ((l.length:Int)-1)]=some (.int .i64 (min i ((l.length:Int)-1)))∧foldV max2V (.int .i64 0) [.int .i64 (min i ((l.length:Int)-1))]=some (.int .i64 (clI l i:Nat))∧IntKind.i64.wrap ((l.length:Int)-1)=(l.length:Int)-1:=by
 have hp:=w.ne
 refine⟨?_,?_,wrap64 (by omega) (by omega)⟩
 ·simp only[foldV,min2V,if_true,Option.bind_some]
  congr 2
  split<;>omega
 ·simp only[foldV,max2V,if_true,Option.bind_some]
  unfold clI
  congr 2
  split<;>omega
end
theorem osegPar (x:Nd):segOf (eNd x) 100 1=some [.int .i64 x.parent]:=seg_of_take (nsegPar x) (by rw[eNd_len];omega)
theorem eqL_refl: ∀cs:List V,(∀v∈cs,∃k n,v=.int k n)→eqL cs cs=some true
 | [],_=>rfl
 | v::cs,h=>by
   obtain⟨k,n,rfl⟩:=h v (by simp)
   have ih:=eqL_refl cs fun u hu=>h u (by simp[hu])
   simp[eqL,ih]
theorem eId_ints (x:Id): ∀v∈eId x,∃k n,v=.int k n:=by
 intro v hv
 rw[eId_rows,rows_e8]at hv
 obtain⟨b,-,rfl⟩:=List.mem_map.1 hv
 exact⟨_,_,rfl⟩
theorem eHdr_ints (x:Hdr): ∀v∈eHdr x,∃k n,v=.int k n:=by
 intro v hv
 unfold eHdr at hv
 rcases List.mem_cons.1 hv with rfl | hv
 ·exact⟨_,_,rfl⟩
 ·rcases List.mem_append.1 hv with hv | hv
  ·exact eId_ints _ v hv
  ·rcases List.mem_append.1 hv with hv | hv
   ·exact eId_ints _ v hv
   ·simp at hv
    rcases hv with rfl | rfl | rfl<;>exact⟨_,_,rfl⟩
theorem eqL_hdr (x:Hdr):eqL (eHdr x) (eHdr x)=some true:=eqL_refl _ (eHdr_ints x)
theorem inI_of {l:List Nd}{i:Nat}(h:i<l.length):inI l i=i:=by unfold inI;rw[if_neg (by omega)];omega
theorem par_int {l:List Nd}(w:Wf l){i:Nat}(h0:0<i)(hi:i<l.length):(nd l i).parent=(par l i:Nat):=by
 have:=w.succ i _ h0 (List.getElem?_eq_getElem hi)
 rw[par_at hi,nd_at hi]
 omega
theorem nd_hgt_eq {l:List Nd}{i:Nat}(hi:i<l.length):(nd l i).height=hgt l i:=by rw[nd_at hi,hgt_at hi]
section
variable {P:Program} {F:Fn}
set_option maxHeartbeats 1000000 in
theorem spec229 (ok:OkLocate P F){st:St}{tid:Nat}{r:Rl}{l:List Nd}(h:TreeR tid r l st)(w:Wf l)(hl:l.length≤16384)(a b:Int):
  ACalls P (F 229) [.ptr (some (tid,0)),.int .i64 a,.int .i64 b] st fun v st'=>Sep [Sl 1 e1 v (wayI l a b),Was st] st':=by
 have okz:=ok.toOkIndexZ
 have oki:=okz.toOkIndex
 refine shows_call ok.mixed ok.h229 (by simp[k229]) ?_
 simp only[k229]
 have fin:onB l a b=false→∃s,St.sub s st∧Sep [Sl 1 e1 (.sl .nil [] 0) (wayI l a b),Was st] s:=fun hb=>by
  rw[wayI,hb]
  exact⟨st,sub_self _,(Sep.start st).slNil⟩
 by_cases hb0:b<0
 ·have hb:onB l a b=false:=by
    cases e:onB l a b with
    | false=>rfl
    | true=>obtain⟨x,y,_,rfl,_,_⟩:=onB_range e;omega
  simp[hb0]
  exact fin hb
 ·simp[hb0]
  refine(spec159 oki h).mono ?_
  rintro v st ⟨rfl,rfl⟩
  by_cases hbl:(l.length:Int)≤b
  ·have hb:onB l a b=false:=by
     cases e:onB l a b with
     | false=>rfl
     | true=>obtain⟨x,y,_,rfl,_,_⟩:=onB_range e;omega
   simp[hbl]
   exact fin hb
  ·simp[hbl]
   refine(spec163 oki h w a b).mono ?_
   rintro v st ⟨rfl,rfl⟩
   cases hb:onB l a b with
   | false=>
     simp
     exact fin hb
   | true=>
     clear fin
     obtain⟨A,B,rfl,rfl,hA,hB⟩:=onB_range hb
     have on:=(onB_on hA hB).1 hb
     have hway:wayI l A B=wayM l A B:=by rw[wayI,if_pos hb,Int.toNat_natCast,Int.toNat_natCast]
     rw[hway]
     have hgl:=w.hgt_le hB
     obtain⟨D,hD⟩: ∃D,D=hgt l B-hgt l A:=⟨_,rfl⟩
     simp
     refine vc_loopJ (fun c env' st'=>∃(k:Nat) (s:V),k≤D∧c=D-k∧env' 8=.int .i64 (anc l B (hgt l B-k):Nat)∧env' 7=s∧Sep [Sl 1 e1 s ((List.range k).map fun k=>((anc l B (hgt l B-k):Nat):Int)),Was st] st') D
      ⟨0,.sl .nil [] 0,by omega,by omega,by simp[anc_self],by simp,(Sep.start st).slNil⟩ ?_
     rintro J hJ c env' st1 hsame ⟨k,s,hk,rfl,h8,h7,S⟩
     have g0:=(hsame.get 0 rfl).trans (by simp:_=V.ptr (some (tid,0)))
     have g1:=(hsame.get 1 rfl).trans (by simp:_=V.int .i64 (A:Int))
     clear hsame
     have hhk:=w.anc_hgt hB (h:=hgt l B-k) (by omega)
     have hlk:=w.anc_lt (h:=hgt l B-k) hB
     by_cases hlt:k<D
     ·have hne:anc l B (hgt l B-k)≠A:=fun e=>by
        rw[e]at hhk;omega
      have hpos:=w.pos_of_hgt (i:=anc l B (hgt l B-k)) (by omega)
      have hpar:par l (anc l B (hgt l B-k))=anc l B (hgt l B-(k+1)):=by
       have h1:=w.anc_par hlk (h:=hgt l B-(k+1)) (by omega)
       have h2:=w.anc_anc hB (h:=hgt l B-(k+1)) (h':=hgt l B-k) (by omega) (by omega)
       have h3:=w.hgt_par hpos hlk
       rw[h2]at h1
       rw[h1,show hgt l B-(k+1)=hgt l (par l (anc l B (hgt l B-k))) by omega,anc_self]
      have hpi:=par_int w hpos hlk
      rw[hpar]at hpi
      obtain⟨X,hX⟩: ∃X,X=anc l B (hgt l B-k):=⟨_,rfl⟩
      rw[←hX]at h8 hlk hne hpi
      have hXb:((X:Int) != (A:Int))=true:=by simp;omega
      simp[g1,h8,h7,hXb,fill1,el1]
      refine Sep.app1 e1_len (by omega) S (a:=(X:Int)) rfl (by simp;omega) ?_
      intro s' st2 S
      have TR:=h.sub (S.was' (st0:=st) (by simp))
      simp[g0,h8]
      refine(spec161 oki TR w X).mono ?_
      rintro v st2 ⟨rfl,rfl⟩
      have oP:=osegPar (nd l X)
      rw[inI_of hlk]
      rw[hpi]at oP
      simp[fldV_agg,oP]
      refine Round.mk (D-(k+1)) _ (by omega) (sub_self _) (hJ _ _ _ ⟨k+1,s',by omega,rfl,by simp,by simp,?_⟩)
      rw[List.range_succ,List.map_append]
      have:[((X:Nat):Int)]=List.map (fun k=>((anc l B (hgt l B-k):Nat):Int)) [k]:=by simp[hX]
      rw[←this]
      exact S
     ·have hkD:k=D:=by omega
      have e:anc l B (hgt l B-k)=A:=by
       rw[hkD,hD,show hgt l B-(hgt l B-hgt l A)=hgt l A by have:=on.1;omega]
       exact on.2
      rw[e]at h8
      simp[g1,h8,h7]
      refine(spec230 ok S (by simp;omega)).mono ?_
      intro v st2 S
      rw[hkD,hD,wayM_rev]at S
      simp[h7]
      exact⟨st2,sub_self _,S⟩
set_option maxHeartbeats 1000000 in
theorem spec228 (ok:OkLocate P F){st:St}{tid:Nat}{r:Rl}{l:List Nd}(h:TreeR tid r l st)(w:Wf l)(hl:l.length≤16384)(a b:Int):
  ACalls P (F 228) [.ptr (some (tid,0)),.int .i64 a,.int .i64 b] st fun v st'=>v=.int .i64 (meetM l (clI l a) (clI l b):Nat)∧st'=st:=by
 have okz:=ok.toOkIndexZ
 have oki:=okz.toOkIndex
 refine shows_call ok.mixed ok.h228 (by simp[k228]) ?_
 simp only[k228]
 obtain⟨a1,a2,a3⟩:=min_cl w hl a
 obtain⟨b1,b2,_⟩:=min_cl w hl b
 obtain⟨A,hA⟩: ∃A,A=clI l a:=⟨_,rfl⟩
 obtain⟨B,hB⟩: ∃B,B=clI l b:=⟨_,rfl⟩
 have hAl:A<l.length:=hA ▸clI_lt w a
 have hBl:B<l.length:=hB ▸clI_lt w b
 rw[←hA]at a2⊢
 rw[←hB]at b2⊢
 simp
 refine(spec159 oki h).mono ?_
 rintro v st ⟨rfl,rfl⟩
 simp[a1,a2,a3]
 refine(spec159 oki h).mono ?_
 rintro v st ⟨rfl,rfl⟩
 simp[b1,b2,a3]
 refine(spec161 oki h w A).mono ?_
 rintro v st ⟨rfl,rfl⟩
 have oA:=osegHgt (nd l A)
 rw[nd_hgt_eq hAl]at oA
 rw[inI_of hAl]
 simp[fldV_agg,oA]
 refine(spec161 oki h w B).mono ?_
 rintro v st ⟨rfl,rfl⟩
 have oB:=osegHgt (nd l B)
 rw[nd_hgt_eq hBl]at oB
 rw[inI_of hBl]
 obtain⟨M,hM⟩: ∃M,M=min (hgt l A) (hgt l B):=⟨_,rfl⟩
 have hmin:foldV min2V (.int .i64 (hgt l A:Nat)) [.int .i64 (hgt l B:Nat)]=some (.int .i64 (M:Nat)):=by
  simp only[foldV,min2V,if_true,Option.bind_some]
  congr 2
  split<;>omega
 simp[fldV_agg,oB,hmin]
 refine(spec158 oki h w A M).mono ?_
 rintro v st ⟨rfl,rfl⟩
 rw[ancI_nat hAl (by omega)]
 simp
 refine(spec158 oki h w B M).mono ?_
 rintro v st ⟨rfl,rfl⟩
 rw[ancI_nat hBl (by omega)]
 have e:meetM l A B=meetGo l M (anc l A M) (anc l B M):=by rw[meetM,←hM]
 have g1:=w.anc_hgt hAl (h:=M) (by omega)
 have g2:=w.anc_hgt hBl (h:=M) (by omega)
 have i1:=w.anc_lt (h:=M) hAl
 have i2:=w.anc_lt (h:=M) hBl
 rw[e]
 obtain⟨X,hX⟩: ∃X,X=anc l A M:=⟨_,rfl⟩
 obtain⟨Y,hY⟩: ∃Y,Y=anc l B M:=⟨_,rfl⟩
 rw[←hX]at g1 i1⊢
 rw[←hY]at g2 i2⊢
 simp
 refine vc_loopJ (fun c env' st'=>∃(x y:Nat),x<l.length∧y<l.length∧hgt l x=c∧hgt l y=c∧meetGo l c x y=meetGo l M X Y∧env' 1=.int .i64 (x:Nat)∧env' 2=.int .i64 (y:Nat)∧st'=st) M
  ⟨X,Y,i1,i2,g1,g2,rfl,by simp,by simp,rfl⟩ ?_
 rintro J hJ c env' st1 hsame ⟨x,y,hx,hy,ex,ey,hm,h1,h2,rfl⟩
 have g0:=(hsame.get 0 rfl).trans (by simp:_=V.ptr (some (tid,0)))
 clear hsame
 by_cases hxy:x=y
 ·have:meetGo l c x y=x:=by
    cases c with
    | zero=>rfl
    | succ c=>rw[meetGo,if_pos hxy]
  rw[this]at hm
  simp[h1,h2,hxy,←hm]
 ·have hb:((x:Int) != (y:Int))=true:=by simp;omega
  cases c with
  | zero=>
    exact absurd ((hgt_zero_iff w hx ex).trans (hgt_zero_iff w hy ey).symm) hxy
  | succ c=>
    rw[meetGo,if_neg hxy]at hm
    have px:=w.pos_of_hgt (i:=x) (by omega)
    have py:=w.pos_of_hgt (i:=y) (by omega)
    have hpx:=par_int w px hx
    have hpy:=par_int w py hy
    have lx:=w.par_lt px hx
    have ly:=w.par_lt py hy
    have hhx:=w.hgt_par px hx
    have hhy:=w.hgt_par py hy
    have ox:=osegPar (nd l x)
    have oy:=osegPar (nd l y)
    rw[hpx]at ox
    rw[hpy]at oy
    simp[g0,h1,h2,hb]
    refine(spec161 oki h w x).mono ?_
    rintro v st1 ⟨rfl,rfl⟩
    rw[inI_of hx]
    simp[fldV_agg,ox,g0,h2]
    refine(spec161 oki h w y).mono ?_
    rintro v st1 ⟨rfl,rfl⟩
    rw[inI_of hy]
    simp[fldV_agg,oy]
    exact Round.mk c _ (by omega) (sub_self _) (hJ _ _ _ ⟨par l x,par l y,by omega,by omega,by omega,by omega,hm,by simp,by simp,rfl⟩)
end
def ChA (cid:Nat)(c:Ch):Asn:=fun h=>ChS cid c [] h
theorem ChS.asn {cid:Nat}{c:Ch}{L:List Asn}{st:St}(h:ChS cid c L st):Sep (ChA cid c::L) st:=by
 obtain⟨tid,bid,uid,mo,h0,S⟩:=h
 cases mo with
 | none=>exact(Sep.all (L1:=SetL cid (chF tid bid uid c.tip) c.cm none++ChL c tid bid uid) S).head fun h hh=>⟨tid,bid,uid,none,h0,by rw[List.append_nil];exact hh⟩
 | some m=>exact(Sep.all (L1:=SetL cid (chF tid bid uid c.tip) c.cm (some m)++ChL c tid bid uid) S).head fun h hh=>⟨tid,bid,uid,some m,h0,by rw[List.append_nil];exact hh⟩
theorem chRead {cid:Nat}{c:Ch}{L:List Asn}{st:St}(h:Sep (ChA cid c::L) st): ∃mo tid bid uid,ChR cid c st mo tid bid uid:=by
 obtain⟨h',hs,hc⟩:=h.part
 obtain⟨mo,tid,bid,uid,hr⟩:=ChS.read hc
 exact⟨mo,tid,bid,uid,hr.sub hs⟩
theorem chOpen {cid:Nat}{c:Ch}{L:List Asn}{st:St}(S:Sep (ChA cid c::L) st): ∃tid bid uid,SetS cid (chF tid bid uid c.tip) c.cm (ChL c tid bid uid++L) st:=by
 obtain⟨a0,r,h1,h2,⟨tid,bid,uid,mo,hmo,h3⟩,h4⟩:=S
 refine⟨tid,bid,uid,mo,hmo,?_⟩
 rw[List.append_nil]at h3
 have S:Sep (All (SetL cid (chF tid bid uid c.tip) c.cm mo++ChL c tid bid uid)::L) st:=⟨a0,r,h1,h2,h3,h4⟩
 have:=S.app
 rwa [List.append_assoc]at this
theorem chClose {cid:Nat}{c:Ch}{tid bid uid:Nat}{L:List Asn}{st:St}(h:SetS cid (chF tid bid uid c.tip) c.cm (ChL c tid bid uid++L) st):Sep (ChA cid c::L) st:=ChS.asn ⟨tid,bid,uid,h⟩
theorem ChR.at {cid:Nat}{c:Ch}{tid bid uid:Nat}{L:List Asn}{st:St}(h:SetS cid (chF tid bid uid c.tip) c.cm (ChL c tid bid uid++L) st): ∃mo,ChR cid c st mo tid bid uid:=by
 obtain⟨mo,h0,S⟩:=h
 refine⟨mo,?_⟩
 cases mo with
 | none=>exact⟨S.get,fun hl=>S.drop.treeR hl,S.drop.drop.get,S.drop.drop.drop.get⟩
 | some m=>exact⟨S.get,fun hl=>S.drop.drop.treeR hl,S.drop.drop.drop.get,S.drop.drop.drop.drop.get⟩
theorem SetS.reset {o:Nat}{f f':V→List V}{cm:CM}{L:List Asn}{st:St}(h:SetS o f cm L st): ∃mo:Option Nat,st o=some (.cells (f (.map mo)))∧SetS o f' cm L (st.upd o (.cells (f' (.map mo)))):=by
 obtain⟨mo,h0,S⟩:=h
 cases mo with
 | none=>exact⟨none,S.get,none,h0,S.set _⟩
 | some m=>exact⟨some m,S.get,some m,h0,S.set _⟩
theorem findIdx_at {bs:List Nat}(h:bs.Pairwise (· < ·)){j:Nat}(hj:j<bs.length){n:Int}(hn:n=(bs[j]:Nat)):(bs.findIdx? fun b:Nat=>(b:Int)==n)=some j:=by
 rw[List.findIdx?_eq_some_iff_getElem]
 refine⟨hj,by simp[hn],fun i hi=>?_⟩
 have:=List.pairwise_iff_getElem.1 h i j (by omega) hj hi
 simp[hn]
 omega
theorem mfindI_enc {K A:Type}[DecidableEq K]{ek:K→V}{ev:A→V}{kk:KK}(hk:Keyed ek kk)(k:K): ∀(l:List (K×A)) (n:Nat),
  (mfindI kk (ek k) (encM ek ev l) n=some none∧∀v,aSet k v l=l++[(k,v)])∨∃j,j<l.length∧mfindI kk (ek k) (encM ek ev l) n=some (some (n+j))∧∀v,aSet k v l=l.set j (k,v)
 | [],n=>.inl ⟨by simp[mfindI,encM],fun v=>rfl⟩
 | p::l,n=>by
   by_cases h:k=p.1
   ·refine .inr ⟨0,by simp,?_,fun v=>?_⟩
    ·subst h
     simp[mfindI,encM,hk.eq]
    ·rw[aSet,if_pos h];rfl
   ·have ih:=mfindI_enc hk (ev:=ev) k l (n+1)
    have e:mfindI kk (ek k) (encM ek ev (p::l)) n=mfindI kk (ek k) (encM ek ev l) (n+1):=by
     simp[encM,mfindI,hk.eq,h]
    rcases ih with⟨h1,h2⟩ | ⟨j,hj,h1,h2⟩
    ·exact .inl ⟨by rw[e,h1],fun v=>by rw[aSet,if_neg h,h2];rfl⟩
    ·exact .inr ⟨j+1,by simp;omega,by rw[e,h1];congr 2;omega,fun v=>by rw[aSet,if_neg h,h2];rfl⟩
theorem ment_enc {A:Type}{ev:A→V}{st:St}{id:Nat}{l:List (Int×A)}(h:st id=some (.mp (encM kInt ev l)))(i:Int)(zero:V){K:V→St→Prop}
  (hK: ∀(x:V) (n:Int) (es:List (V×V)) (bs:List Nat) (clk:Nat),(∀(s:St) (v:A),s id=some (.mpi es bs clk)→entS s (.map (some id)) (.int .i64 n) (ev v)=some (s.upd id (.mpi (encM kInt ev (aSet i v l)) bs clk)))→
    K (.tup [x,.int .i64 n]) (st.upd id (.mpi es bs clk))):mentS .int zero (.map (some id)) (.int .i64 i) st K:=by
 simp only[mentS,h]
 refine⟨rfl,fun bs clk hl hp hb=>?_⟩
 have hlen:(encM kInt ev l).length=l.length:=by simp[encM]
 rcases mfindI_enc keyed_int (ev:=ev) i l 0 with⟨h1,h2⟩ | ⟨j,hj,h1,h2⟩
 ·have h1:mfindI .int (.int .i64 i) (encM kInt ev l) 0=some none:=h1
  rw[h1]
  refine hK _ _ _ _ _ fun s v hs=>?_
  have hfi:((bs++[clk]).findIdx? fun b:Nat=>(b:Int)==(clk:Int))=some l.length:=by
   refine findIdx_at ?_ (j:=l.length) (by simp;omega) ?_
   ·rw[List.pairwise_append]
    exact⟨hp,by simp,fun a ha b hb'=>by rw[List.mem_singleton.1 hb'];exact hb a ha⟩
   ·rw[List.getElem_append_right (by omega)]
    simp
  simp only[entS,hs,hfi,Option.bind_some]
  rw[List.getElem?_append_right (by omega),h2]
  simp[hlen,encM,List.set_append]
  rfl
 ·rw[Nat.zero_add]at h1
  have h1:mfindI .int (.int .i64 i) (encM kInt ev l) 0=some (some j):=h1
  rw[h1]
  refine hK _ _ _ _ _ fun s v hs=>?_
  have hjb:j<bs.length:=by omega
  have hfi:(bs.findIdx? fun b:Nat=>(b:Int)==(((bs.getD j 0:Nat)):Int))=some j:=findIdx_at hp hjb (by rw[List.getD_eq_getElem?_getD,List.getElem?_eq_getElem hjb];rfl)
  simp only[entS,hs,hfi,Option.bind_some]
  rw[List.getElem?_set_self (by omega),h2]
  simp[encM,List.map_set,kInt]
def u00:Undo1:=⟨.nil,[],.nil,[]⟩
def readyGo (c:Ch):Nat→Int→Bool
 | 0,_=>true
 | n+1,i=>if onB c.l i c.tip=true then true else if hasM c i=true then readyGo c n (nd c.l (inI c.l i)).parent else false
def readyM (c:Ch)(i:Nat):Bool:=readyGo c (i+1) i
theorem hgtZ {l:List Nd}(w:Wf l):hgt l 0=0:=by
 have h:=w.zero (l[0]'w.ne) (List.getElem?_eq_getElem w.ne)
 rw[hgt_at w.ne]
 exact h.2
theorem zeroOfHgt {l:List Nd}(w:Wf l){i:Nat}(hi:i<l.length)(h:hgt l i=0):i=0:=by
 cases i with
 | zero=>rfl
 | succ i=>
   have:=w.hgt_par (i:=i+1) (by omega) hi
   omega
def downC (c:Ch)(t:Tx1):Ch:={c with cm:=takeM t c.cm,us:=aDel c.tip c.us,tip:=(nd c.l (inI c.l c.tip)).parent}
def upE (c:Ch)(i:Int)(t:Tx1):Int×CM:=conn1 t ((nd c.l (inI c.l i)).height:Int) c.r.subsidy c.cm
def upC (c:Ch)(i:Int)(t:Tx1):Ch:=if(upE c i t).1=0 then{c with cm:=(upE c i t).2,us:=aSet i u00 c.us,tip:=i}else c
theorem chsegPar (x:Nd):segOf (eNd x) 100 1=some [.int .i64 x.parent]:=seg_of_take (nsegPar x) (by rw[eNd_len];omega)
section
variable {P:Program} {F:Fn}
set_option maxHeartbeats 4000000 in
theorem spec275 (ok:OkChain P F){st:St}{cid:Nat}{c:Ch}{mo:Option Nat}{tid bid uid:Nat}(R:ChR cid c st mo tid bid uid)(w:Wf c.l){tp:Nat}(htip:c.tip=tp)(htl:tp<c.l.length)(i:Nat)(hi:i<c.l.length):
  ACalls P (F 275) [.ptr (some (cid,0)),.int .i64 (i:Int)] st fun v st'=>v=.bool (readyM c i)∧st'=st:=by
 have oki:=ok.toOkLocate.toOkIndexZ.toOkIndex
 refine shows_call ok.mixed ok.h275 (by simp[k275]) ?_
 simp only[k275]
 have T:=R.tree w.neNil
 have o1:=R.top
 have hfP: ∀x,fldV false 100 1 (V.agg (eNd x))=some (.int .i64 x.parent):=fun x=>by
  show(segOf _ 100 1).bind (packV false)=_
  rw[chsegPar];rfl
 have z0:onB c.l ((0:Nat):Int) c.tip=true:=by
  rw[htip,onB_nat w.ne htl,decide_eq_true_eq,hgtZ w]
  exact⟨Nat.zero_le _,zeroOfHgt w (w.anc_lt htl) (w.anc_hgt htl (Nat.zero_le _))⟩
 simp
 refine vc_joinB (M:=fun env' st'=>readyM c i=true∧st'=st) ?_ ?_
 ·refine vc_loopJ (fun n env' st'=>∃j f:Nat,j<c.l.length∧j≤f∧n=j+1∧env' 1=.int .i64 (j:Int)∧readyGo c (f+1) j=readyM c i∧st'=st) (i+1)
    ⟨i,i,hi,Nat.le_refl _,rfl,by simp,rfl,rfl⟩ ?_
  rintro J hJ n env1 st1 hsame ⟨j,f,hj,hjf,rfl,h1,hgo,rfl⟩
  have g0:=(hsame.get 0 rfl).trans (by simp:_=V.ptr (some (cid,0)))
  clear hsame
  simp[g0,h1,St.seg,o1,cseg0,cseg4]
  refine(spec163 oki T w j c.tip).mono ?_
  rintro v st2 ⟨rfl,rfl⟩
  rw[readyGo]at hgo
  cases ho:onB c.l (j:Int) c.tip with
  | true=>
    rw[ho,if_pos rfl]at hgo
    simp
    exact hgo.symm
  | false=>
    rw[ho,if_neg (by decide)]at hgo
    simp[g0,h1]
    refine(spec268 ok R j).mono ?_
    rintro v st3 ⟨rfl,rfl⟩
    cases hh:hasM c (j:Int)with
    | false=>
      rw[hh,if_neg (by decide)]at hgo
      simp
      exact hgo.symm
    | true=>
      rw[hh,if_pos rfl]at hgo
      simp[g0,h1,St.seg,o1,cseg0]
      refine(spec161 oki T w j).mono ?_
      rintro v st4 ⟨rfl,rfl⟩
      have hj0:0<j:=by
       cases j with
       | zero=>rw[z0]at ho;cases ho
       | succ j=>omega
      have hnd:=w.succ j c.l[j] hj0 (List.getElem?_eq_getElem hj)
      rw[inI_nat hj,nd_at hj]at hgo⊢
      obtain⟨p,hp⟩: ∃p:Nat,c.l[j].parent=p:=⟨c.l[j].parent.toNat,by omega⟩
      rw[hp]at hgo hnd
      simp[hfP,hp]
      obtain⟨f',rfl⟩: ∃f',f=f'+1:=⟨f-1,by omega⟩
      exact Round.mk (p+1) _ (by omega) (sub_self _) (hJ _ _ _ ⟨p,f',by omega,by omega,rfl,by simp,hgo,rfl⟩)
 ·rintro env1 st1 hsame ⟨hr,rfl⟩
  simp[hr]
set_option maxHeartbeats 4000000 in
theorem spec277 (ok:OkChain P F)(hc:CloneC P (F 256)){st:St}{cid:Nat}{c:Ch}{L:List Asn}(S:Sep (ChA cid c::L) st)(w:Wf c.l)(b:Blk1)(t:Tx1)(hb:lk c.tip c.bs=some b)(hbt:b.txs=[t])(ht:t.ok 100)(hu: ∀u,lk c.tip c.us=some u→u=u00):
  ACalls P (F 277) [.ptr (some (cid,0))] st fun v st'=>Sep (ChA cid (downC c t)::L) st':=by
 have oki:=ok.toOkLocate.toOkIndexZ.toOkIndex
 refine shows_call ok.mixed ok.h277 (by simp[k277]) ?_
 simp only[k277]
 have hfP: ∀x,fldV false 100 1 (V.agg (eNd x))=some (.int .i64 x.parent):=fun x=>by
  show(segOf _ 100 1).bind (packV false)=_
  rw[chsegPar];rfl
 obtain⟨tid,bid,uid,W⟩:=chOpen S
 clear S
 obtain⟨mo,R⟩:=ChR.at W
 have o1:=R.top
 have h1:=lookup_lk0 keyed_int (ev:=vBlk) R.bod (V.agg z69_adc1) c.tip
 rw[hb]at h1
 have h2:=lookup_lk0 keyed_int (ev:=vUndo) R.und (V.agg [.sl .nil [] 0,.sl .nil [] 0]) c.tip
 have h2':((lk c.tip c.us).map vUndo).getD (V.agg [.sl .nil [] 0,.sl .nil [] 0])=undo0:=by
  cases h:lk c.tip c.us with
  | none=>rfl
  | some u=>rw[hu u h];rfl
 rw[h2']at h2
 simp only[kInt,Option.map_some,Option.getD_some]at h1 h2
 have hcell1: ∀v:V,fldAV 1 (.ptr (some (cid,0)))=some (.ptr (some (cid,1))):=fun _=>rfl
 simp[St.seg,o1,cseg2,cseg3,cseg4,h1,h2]
 refine(spec262a ok.toOkCoins hc (ch_hole tid bid uid c.tip) W b t hbt ht).mono ?_
 clear W R o1 h1 h2 mo
 rintro v st1 ⟨-,W⟩
 have W':SetS cid (chF tid bid uid ({c with cm:=takeM t c.cm}:Ch).tip) ({c with cm:=takeM t c.cm}:Ch).cm (ChL {c with cm:=takeM t c.cm} tid bid uid++L) st1:=W
 obtain⟨mo,R⟩:=ChR.at W'
 have o1:=R.top
 have hd:=mdel_enc keyed_int (ev:=vUndo) R.und c.tip
 simp only[kInt]at hd
 have W:=SetS.setL (i:=uid) (x:=.mp (encM kInt vUndo c.us)) (W.tail (L':=pt uid (.mp (encM kInt vUndo c.us))::TreeS tid c.r c.l::pt bid (.mp (encM kInt vBlk c.bs))::L) fun r h=>h.pull 2) (.mp (encM kInt vUndo (aDel c.tip c.us)))
 obtain⟨st2,hst2⟩: ∃s,s=st1.upd uid (.mp (encM kInt vUndo (aDel c.tip c.us))):=⟨_,rfl⟩
 rw[←hst2]at hd W
 simp[St.seg,o1,cseg3,cseg4,hd]
 clear R o1 hd W' hst2 mo
 have W:SetS cid (chF tid bid uid c.tip) (takeM t c.cm) (ChL {c with us:=aDel c.tip c.us} tid bid uid++L) st2:=W.tail fun r h=>(h.pull 1).tail fun r h=>h.swap
 have W':SetS cid (chF tid bid uid ({c with cm:=takeM t c.cm,us:=aDel c.tip c.us}:Ch).tip) ({c with cm:=takeM t c.cm,us:=aDel c.tip c.us}:Ch).cm (ChL {c with cm:=takeM t c.cm,us:=aDel c.tip c.us} tid bid uid++L) st2:=W
 obtain⟨mo,R⟩:=ChR.at W'
 have o1:=R.top
 have T:=R.tree w.neNil
 simp[St.seg,o1,cseg0,cseg4]
 refine(spec161 oki T w c.tip).mono ?_
 rintro v st3 ⟨rfl,rfl⟩
 clear R T o1 W'
 obtain⟨mo,o1,W⟩:=SetS.reset (f':=chF tid bid uid (nd c.l (inI c.l c.tip)).parent) W
 have hst:=store_pt (sz:=1) (o:=4) o1 (v:=.int .i64 (nd c.l (inI c.l c.tip)).parent) (vs:=[.int .i64 (nd c.l (inI c.l c.tip)).parent]) rfl rfl (by simp[chF])
 rw[show spliceV (chF tid bid uid c.tip (.map mo)) 4 [V.int .i64 (nd c.l (inI c.l c.tip)).parent]=chF tid bid uid (nd c.l (inI c.l c.tip)).parent (.map mo)from rfl]at hst
 simp[hfP,hst]
 exact⟨_,sub_self _,chClose (c:=downC c t) W⟩
set_option maxHeartbeats 4000000 in
theorem spec278 (ok:OkChain P F)(hc:CloneC P (F 256)){st:St}{cid:Nat}{c:Ch}{L:List Asn}(S:Sep (ChA cid c::L) st)(w:Wf c.l)(i:Int)(b:Blk1)(t:Tx1)(hb:lk i c.bs=some b)(hbt:b.txs=[t])(ht:t.ok 100)
  (hs1:-4611686018427387904≤c.r.subsidy) (hs2:c.r.subsidy≤4611686018427387904):
  ACalls P (F 278) [.ptr (some (cid,0)),.int .i64 i] st fun v st'=>v=.bool (decide ((upE c i t).1=0))∧Sep (ChA cid (upC c i t)::L) st':=by
 have okz:=ok.toOkLocate.toOkIndexZ
 have oki:=okz.toOkIndex
 refine shows_call ok.mixed ok.h278 (by simp[k278]) ?_
 simp only[k278]
 have hfH: ∀x,fldV false 102 1 (V.agg (eNd x))=some (.int .i64 x.height):=fun x=>by
  show(segOf _ 102 1).bind (packV false)=_
  rw[osegHgt];rfl
 have hfS: ∀r:Rl,fldV false 3 1 (V.agg (eRl r))=some (.int .i64 r.subsidy):=fun _=>rfl
 obtain⟨tid,bid,uid,W⟩:=chOpen S
 clear S
 obtain⟨mo,R⟩:=ChR.at W
 have o1:=R.top
 have T:=R.tree w.neNil
 have h1:=lookup_lk0 keyed_int (ev:=vBlk) R.bod (V.agg z69_adc1) i
 rw[hb]at h1
 simp only[kInt,Option.map_some,Option.getD_some]at h1
 simp[St.seg,o1,cseg0,cseg2,h1]
 refine still_call _ _ _ _ (by simpa using spec161 oki T w i) ?_
 simp[hfH,St.seg,o1,cseg0]
 refine still_call _ _ _ _ (by simpa using spec160 okz T) ?_
 simp[hfS]
 refine(spec260a ok.toOkCoins hc (ch_hole tid bid uid c.tip) W b t hbt ht ((nd c.l (inI c.l i)).height:Int) c.r.subsidy hs1 hs2).mono ?_
 clear W R o1 T h1 mo
 rintro v st1 ⟨rfl,W⟩
 simp
 intro i5 hi5
 have W:=W.new hi5 (.cells [.sl .nil [] 0,.sl .nil [] 0])
 have o5:=W.ext (i:=i5) (x:=.cells [.sl .nil [] 0,.sl .nil [] 0]) (by simp)
 have hst:=store_pt (sz:=2) (o:=0) o5 (v:=undo0) (vs:=[V.sl .nil [] 0,V.sl .nil [] 0]) rfl rfl (by simp)
 rw[show spliceV [V.sl .nil [] 0,V.sl .nil [] 0] 0 [V.sl .nil [] 0,V.sl .nil [] 0]=[V.sl .nil [] 0,V.sl .nil [] 0]from rfl]at hst
 have hsame2:(st1.upd i5 (.cells [.sl .nil [] 0,.sl .nil [] 0])).upd i5 (.cells [.sl .nil [] 0,.sl .nil [] 0])=st1.upd i5 (.cells [.sl .nil [] 0,.sl .nil [] 0]):=by simp
 rw[hsame2]at hst
 simp[hst]
 clear hst hsame2
 generalize st1.upd i5 _=st2 at W o5⊢
 by_cases he:(conn1 t ((nd c.l (inI c.l i)).height:Int) c.r.subsidy c.cm).1=0
 ·have he':(upE c i t).1=0:=he
  have hup:upC c i t={c with cm:=(upE c i t).2,us:=aSet i u00 c.us,tip:=i}:=by rw[upC,if_pos he']
  have W':SetS cid (chF tid bid uid ({c with cm:=(upE c i t).2}:Ch).tip) ({c with cm:=(upE c i t).2}:Ch).cm (ChL {c with cm:=(upE c i t).2} tid bid uid++(pt i5 (.cells [.sl .nil [] 0,.sl .nil [] 0])::L)) st2:=W.tail fun r h=>h.pull 3 |>.pull 3 |>.pull 3
  obtain⟨mo,R⟩:=ChR.at W'
  have o1:=R.top
  have hu:segOf [V.sl .nil [] 0,V.sl .nil [] 0] 0 2=some [V.sl .nil [] 0,V.sl .nil [] 0]:=rfl
  have hzero:(V.agg [.sl .nil [] 0,.sl .nil [] 0])=undo0:=rfl
  have hfin: ∀(s:St) (n:Int) (es:List (V×V)) (bs:List Nat) (clk:Nat),s=st2.upd uid (.mpi es bs clk)→(∀(s:St) (v:Undo1),s uid=some (.mpi es bs clk)→entS s (.map (some uid)) (.int .i64 n) (vUndo v)=some (s.upd uid (.mpi (encM kInt vUndo (aSet i v c.us)) bs clk)))→
    s i5=some (.cells [.sl .nil [] 0,.sl .nil [] 0])∧∃s1 s2,entS s (.map (some uid)) (.int .i64 n) undo0=some s1∧storeS s1 1 (.ptr (some (cid,4))) (.int .i64 i)=some s2∧frzV s2 (.map (some uid))=some (.map (some uid),s2.upd uid (.mp (encM kInt vUndo (aSet i u00 c.us))))∧
      Sep (ChA cid (upC c i t)::L) (s2.upd uid (.mp (encM kInt vUndo (aSet i u00 c.us)))):=by
   rintro s n es bs clk rfl hent
   have W3:=W.tail (L':=pt uid (.mp (encM kInt vUndo c.us))::pt i5 (.cells [.sl .nil [] 0,.sl .nil [] 0])::TreeS tid c.r c.l::pt bid (.mp (encM kInt vBlk c.bs))::L) fun r h=>h.pull 3
   have W4:=(W3.setL (.mpi (encM kInt vUndo (aSet i u00 c.us)) bs clk))
   obtain⟨mo2,q1,W5⟩:=SetS.reset (f':=chF tid bid uid i) W4
   have hst:=store_pt (sz:=1) (o:=4) q1 (v:=.int .i64 i) (vs:=[.int .i64 i]) rfl rfl (by simp[chF])
   rw[show spliceV (chF tid bid uid c.tip (.map mo2)) 4 [V.int .i64 i]=chF tid bid uid i (.map mo2)from rfl]at hst
   have hent1:=hent (st2.upd uid (.mpi es bs clk)) u00 (St.upd_same _ _ _)
   rw[show(st2.upd uid (.mpi es bs clk)).upd uid (.mpi (encM kInt vUndo (aSet i u00 c.us)) bs clk)=st2.upd uid (.mpi (encM kInt vUndo (aSet i u00 c.us)) bs clk) by simp]at hent1
   obtain⟨s2,hs2⟩: ∃s2,s2=(st2.upd uid (.mpi (encM kInt vUndo (aSet i u00 c.us)) bs clk)).upd cid (.cells (chF tid bid uid i (.map mo2))):=⟨_,rfl⟩
   rw[←hs2]at hst W5
   have q2:=W5.ext (i:=uid) (x:=.mpi (encM kInt vUndo (aSet i u00 c.us)) bs clk) (by simp)
   have q5:=(W3.setL (.mpi es bs clk)).ext (i:=i5) (x:=.cells [.sl .nil [] 0,.sl .nil [] 0]) (by simp)
   refine⟨q5,_,s2,hent1,hst,by simp[frzV,q2],?_⟩
   have W6:=W5.setL (.mp (encM kInt vUndo (aSet i u00 c.us)))
   rw[hup]
   exact chClose (c:={c with cm:=(upE c i t).2,us:=aSet i u00 c.us,tip:=i}) (W6.tail fun r h=>((h.tail fun r h=>h.drop).pull 2).pull 2 |>.tail fun r h=>h)
  have hU:V.agg [V.sl .nil [] 0,V.sl .nil [] 0]=undo0:=rfl
  simp[he,he',St.seg,o1,o5,cseg3,hu]
  refine⟨?_,?_⟩
  ·refine ment_enc R.und i _ ?_
   intro x n es bs clk hent
   obtain⟨s,hs⟩: ∃s,s=st2.upd uid (.mpi es bs clk):=⟨_,rfl⟩
   obtain⟨a0,s1,s2,a1,a2,a3,a4⟩:=hfin s n es bs clk hs hent
   rw[←hs]
   simp[hU,a1,a2,frzP,a3]
   exact⟨_,sub_self _,a4⟩
  ·refine ment_enc R.und i _ ?_
   intro x n es bs clk hent
   obtain⟨s,hs⟩: ∃s,s=st2.upd uid (.mpi es bs clk):=⟨_,rfl⟩
   obtain⟨a0,s1,s2,a1,a2,a3,a4⟩:=hfin s n es bs clk hs hent
   rw[←hs]
   simp[St.seg,a0,hu,hU,a1,a2,frzP,a3]
   exact⟨_,sub_self _,a4⟩
 ·have he':¬(upE c i t).1=0:=he
  have heb:((conn1 t ((nd c.l (inI c.l i)).height:Int) c.r.subsidy c.cm).1 != 0)=true:=by simpa using he
  have hup:upC c i t=c:=by rw[upC,if_neg he']
  rw[conn1_err he]at W
  simp[heb,he,he',hup]
  exact⟨st2,sub_self _,chClose (W.tail fun r h=>h.drop)⟩
end
theorem chGrow {P:Program}{cid:Nat}{c:Ch}{L:List Asn}{st:St}(S:Sep (ChA cid c::L) st): ∃mo tid bid uid,ChR cid c st mo tid bid uid∧
  ∀(f:FuncId) (args:List V) (R:V→Prop) (l':List Nd),(∀h,TreeS tid c.r c.l h→ACalls P f args h fun v h'=>R v∧TreeS tid c.r l' h')→
   ACalls P f args st fun v st'=>R v∧Sep (ChA cid {c with l:=l'}::L) st':=by
 obtain⟨a,r,hd,hs,⟨tid,bid,uid,mo,h0,Si⟩,hL⟩:=S
 have hch:ChS cid c [] a:=⟨tid,bid,uid,mo,h0,Si⟩
 have hsub:St.sub a st:=fun i o e=>hs i o (add_some e)
 have R0:ChR cid c a mo tid bid uid:=by
  cases mo with
  | none=>exact⟨Si.get,fun hl=>Si.drop.treeR hl,Si.drop.drop.get,Si.drop.drop.drop.get⟩
  | some m=>exact⟨Si.get,fun hl=>Si.drop.drop.treeR hl,Si.drop.drop.drop.get,Si.drop.drop.drop.drop.get⟩
 refine⟨mo,tid,bid,uid,R0.sub hsub,fun f args R l' hf=>?_⟩
 have S':Sep ((fun h=>Sep (SetL cid (chF tid bid uid c.tip) c.cm mo++(ChL c tid bid uid++[])) h)::L) st:=⟨a,r,hd,hs,Si,hL⟩
 refine(Sep.call S' (R:=fun v h'=>R v∧ChA cid {c with l:=l'} h') fun h hh=>?_).mono ?_
 ·cases mo with
  | none=>
    have hh:Sep (TreeS tid c.r c.l::pt cid (.cells (chF tid bid uid c.tip (.map none)))::[pt bid (.mp (encM kInt vBlk c.bs)),pt uid (.mp (encM kInt vUndo c.us))]) h:=Sep.swap hh
    refine(Sep.call hh hf).mono ?_
    intro v h' S
    have hv:R v:=by
     obtain⟨x,-,h2⟩:=S.part
     exact h2.1
    exact⟨hv,tid,bid,uid,none,h0,(S.head fun x hx=>hx.2).swap⟩
  | some m=>
    have hh:Sep (TreeS tid c.r c.l::pt cid (.cells (chF tid bid uid c.tip (.map (some m))))::pt m (.mp (encM kPt vCoin c.cm))::[pt bid (.mp (encM kInt vBlk c.bs)),pt uid (.mp (encM kInt vUndo c.us))]) h:=Sep.pull 2 _ hh
    refine(Sep.call hh hf).mono ?_
    intro v h' S
    have hv:R v:=by
     obtain⟨x,-,h2⟩:=S.part
     exact h2.1
    exact⟨hv,tid,bid,uid,some m,h0,Sep.pull 2 _ (Sep.pull 2 _ (S.head fun x hx=>hx.2))⟩
 ·intro v st' S
  have hv:R v:=by
   obtain⟨x,-,h2⟩:=S.part
   exact h2.1
  exact⟨hv,S.head fun x hx=>hx.2⟩
def growU (l:List Nd)(i:Nat)(q:Nat):Hdr:={hdr0 with ver:=BitVec.ofInt 32 (i:Int),prev:=(nd l q).id,time:=(nd l q).hdr.time+1#32,bits:=easyB}
def growH1 (l:List Nd)(i:Nat)(p:Int):Hdr:=(mineN (growU l i (clI l p)) easyB 1000).getD hdr0
def growL (ps:List Int):Nat→List Nd
 | 0=>newM easyR
 | n+1=>(addM easyR (growL ps n) (growH1 (growL ps n) n (ps.getD n 0)) 100000).1
def growM (ps:List Int):List Nd:=growL ps ps.length
theorem findM_last {l:List Nd}{x:Nd}:findM (l++[x]) x.id=some l.length:=by simp[findM_append]
theorem findM_end {l:List Nd}{k:Nat}(hk:k+1=l.length):findM l (nd l k).id=some k:=by
 have hne:l≠[]:=by rintro rfl;simp at hk
 have e:=List.dropLast_concat_getLast hne
 have hd:l.dropLast.length=k:=by simp;omega
 have:nd l k=l.getLast hne:=by rw[nd_at (by omega),List.getLast_eq_getElem];congr 1;omega
 obtain⟨x,hx⟩: ∃x,x=l.getLast hne:=⟨_,rfl⟩
 rw[←hx]at e this
 rw[this,←e,findM_last,hd]
theorem timesM_mem {l:List Nd}{n i:Nat}{t:W32}(h:t∈timesM l n i): ∃k,∃hk:k<l.length,t=l[k].hdr.time:=by
 induction n generalizing i with
 | zero=>simp[timesM]at h
 | succ n ih=>
   unfold timesM at h
   cases e:l[i]? with
   | none=>rw[e]at h;simp at h
   | some x=>
     rw[e]at h
     obtain⟨hi,e2⟩:=List.getElem?_eq_some_iff.1 e
     simp only[List.mem_cons]at h
     rcases h with h | h
     ·exact⟨i,hi,by rw[h,e2]⟩
     ·split at h
      ·simp at h
      ·exact ih h
theorem middle_mem {l:List W32}(h:l≠[]):middle32 l∈l:=by
 unfold middle32
 have hpos:=List.length_pos_iff.2 h
 have hl:l.length / 2< (sorted32 l).length:=by rw[sorted32_length];omega
 have:(sorted32 l).getD (l.length / 2) 0=(sorted32 l)[l.length / 2]:=by simp[hl]
 rw[this]
 exact(List.mergeSort_perm l _).mem_iff.1 (List.getElem_mem hl)
theorem fits_ok {r:Rl}{l:List Nd}{h:Hdr}{p:Nat}{now:Int}(hp:p<l.length)(h1:provedN h r.limit=0)(h2:(nd l p).failed=false)(h3:h.bits=nextM r l p)(h4:medianM l p<h.time)(h5:(h.time.toNat:Int)-7200≤now):fitsM r l h p now=0:=by
 have e1:¬((p:Int)<0∨(l.length:Int)≤p):=by omega
 have e2:¬h.time≤medianM l p:=BitVec.not_le.2 h4
 have e3:¬now< (h.time.toNat:Int)-7200:=by omega
 simp only[fitsM,e1,if_false,h1,ne_eq,not_true_eq_false,Int.toNat_natCast,h2,h3,e2,e3,Bool.false_eq_true]
def Uniq (l:List Nd):Prop:=∀(k:Nat) (h:k<l.length),findM l l[k].id=some k
theorem uniq_push {l:List Nd}(u:Uniq l){x:Nd}(h:findM l x.id=none):Uniq (l++[x]):=by
 intro k hk
 rw[findM_append]
 by_cases hkl:k<l.length
 ·rw[List.getElem_append_left hkl,if_neg (fun e=>findM_none h _ (List.getElem_mem hkl) e.symm),u k hkl]
 ·have:k=l.length:=by simp at hk;omega
  subst this
  rw[List.getElem_append_right (Nat.le_refl _)]
  simp
structure Fresh (l:List Nd):Prop where
 wf:Wf l
 ok: ∀(k:Nat) (h:k<l.length),l[k].failed=false
 uniq:Uniq l
theorem fresh_gen:Fresh [gen0]:=⟨newM_wf easyR,fun k h=>by
 have:k=0:=by simp at h;exact h
 subst this;rfl,fun k h=>by
 have:k=0:=by simp at h;exact h
 subst this
 simp[findM]⟩
theorem addM_uniq {r:Rl}{l:List Nd}(u:Uniq l)(h:Hdr)(now:Int):Uniq (addM r l h now).1:=by
 rcases addM_cases r l h now with⟨e,_⟩ | ⟨p,_,h1,_,_,e⟩
 ·rw[e];exact u
 ·rw[e];exact uniq_push u h1
theorem fresh_add {r:Rl}{l:List Nd}(hF:Fresh l)(hl:l.length≤16384)(h:Hdr)(now:Int):Fresh (addM r l h now).1∧(addM r l h now).1.length≤l.length+1∧l.length≤(addM r l h now).1.length:=by
 refine⟨⟨(addM_wf hF.wf hl h now).1,?_,addM_uniq hF.uniq h now⟩,?_⟩
 ·rcases addM_cases r l h now with⟨e,_⟩ | ⟨p,_,h1,_,_,e⟩
  ·rw[e];exact hF.ok
  ·rw[e]
   intro k hk
   by_cases hkl:k<l.length
   ·rw[List.getElem_append_left hkl];exact hF.ok k hkl
   ·have:k=l.length:=by simp at hk;omega
    subst this
    rw[List.getElem_append_right (Nat.le_refl _)]
    have e: ∀x:Nd,[x][l.length-l.length]'(by simp)=x:=fun x=>by simp
    rw[e];rfl
 ·rcases addM_cases r l h now with⟨e,_⟩ | ⟨p,_,h1,_,_,e⟩
  ·rw[e];omega
  ·rw[e];simp
theorem add_zero {l:List Nd}(now:Int): ∃i e,addM easyR l hdr0 now=(l,i,e)∧e≠0:=by
 cases h1:findM l (hId hdr0)with
 | some i=>exact⟨_,_,addM_twice h1,by simp⟩
 | none=>
   rcases addM_cases easyR l hdr0 now with⟨e,h⟩ | ⟨p,h2,_,h3,_,_⟩
   ·exact⟨_,_,Prod.ext e rfl,h⟩
   ·exfalso
    have hp:=findM_lt h2
    have hpr:provedN hdr0 easyR.limit=30:=by
     have:tgt hdr0.bits=none:=by decide+kernel
     simp[provedN,this]
    have e1:¬((p:Int)<0∨(l.length:Int)≤p):=by omega
    simp only[fitsM,e1,if_false,hpr]at h3
    simp at h3
def idG:Id:=⟨⟨[21,69,166,194,34,142,174,254,51,143,16,178,185,178,204,107,138,25,0,80,180,91,164,132,47,186,142,94,126,96,52,167]⟩,rfl⟩
def idA:Id:=⟨⟨[249,182,181,195,143,2,170,189,230,242,107,83,189,148,246,187,181,62,161,144,91,11,14,69,23,213,175,253,125,206,235,106]⟩,rfl⟩
def idB:Id:=⟨⟨[17,201,86,10,97,254,97,209,23,135,65,78,190,187,183,154,85,228,203,214,148,79,229,233,49,73,244,124,97,50,187,119]⟩,rfl⟩
def idC:Id:=⟨⟨[43,62,228,172,249,202,246,235,73,97,160,103,90,236,253,101,73,20,60,34,66,93,50,158,178,100,152,79,22,70,41,16]⟩,rfl⟩
def hdU (v:W32)(p:Id)(t:W32):Hdr:={hdr0 with ver:=v,prev:=p,time:=t,bits:=easyB}
def hdA:Hdr:={hdU 0#32 idG 1#32 with nonce:=2#32}
def hdB:Hdr:={hdU 1#32 idA 2#32 with nonce:=1#32}
def hdC:Hdr:={hdU 2#32 idA 2#32 with nonce:=0#32}
theorem gen_id:hId easyR.gen=idG:=by decide+kernel
theorem mineA:mineN (hdU 0#32 idG 1#32) easyB 1000=some hdA:=by decide+kernel
theorem hdA_id:hId hdA=idA:=by decide+kernel
theorem mineB:mineN (hdU 1#32 idA 2#32) easyB 1000=some hdB:=by decide+kernel
theorem hdB_id:hId hdB=idB:=by decide+kernel
theorem mineC:mineN (hdU 2#32 idA 2#32) easyB 1000=some hdC:=by decide+kernel
theorem hdC_id:hId hdC=idC:=by decide+kernel
theorem ids_apart:idA≠idG∧idB≠idG∧idB≠idA∧idC≠idG∧idC≠idA∧idC≠idB∧idA≠id0∧idB≠id0:=by decide+kernel
theorem ndOf_idn (l:List Nd)(h:Hdr)(p:Nat):(ndOf l h p).id=hId h:=by
 unfold ndOf
 generalize hId h=I
 rfl
theorem add_behind {l:List Nd}(hF:Fresh l)(hl:l.length≤1000){p:Nat}(hp:p<l.length){h:Hdr}(hprev:h.prev=(nd l p).id)(hnew:findM l (hId h)=none)(hpr:provedN h easyB=0)(hb:h.bits=(nd l p).hdr.bits)(ht:medianM l p<h.time)(ht2:(h.time.toNat:Int)-7200≤100000):
  addM easyR l h 100000=(l++[ndOf l h p],(l.length:Int),0):=by
 have h2:findM l h.prev=some p:=by rw[hprev,nd_at hp];exact hF.uniq p hp
 have hfail:(nd l p).failed=false:=by rw[nd_at hp];exact hF.ok p hp
 exact addM_ok hnew h2 (fits_ok hp hpr hfail (by rw[easy_next];exact hb) ht ht2) (by omega)
theorem growH1_eq {l:List Nd}{i:Nat}{p:Int}{q:Nat}(hq:clI l p=q){x:Nd}(hx:nd l q=x){v:W32}{I:Id}{T:W32}(hv:BitVec.ofInt 32 (i:Int)=v)(hid:x.id=I)(ht:x.hdr.time+1#32=T){h:Hdr}(hm:mineN (hdU v I T) easyB 1000=some h):growH1 l i p=h:=by
 have e:growU l i q=hdU v I T:=by
  unfold growU hdU
  rw[hx,hv,hid,ht]
 rw[growH1,hq,e,hm];rfl
structure Three (x1 x2 x3:Nd):Prop where
 grown:growM [0,1,1]=[gen0,x1,x2,x3]
 p1:x1.parent=0
 p2:x2.parent=1
 p3:x3.parent=1
 h1:x1.height=1
 h2:x2.height=2
 h3:x3.height=2
 i1:x1.id=idA
 i2:x2.id=idB
 i3:x3.id=idC
theorem three: ∃x1 x2 x3,Three x1 x2 x3:=by
 obtain⟨a1,a2,a3,a4,a5,a6,-,-⟩:=ids_apart
 have gid:gen0.id=idG:=gen_id
 have gp:gen0.parent=-1:=rfl
 have gt:gen0.hdr.time=0#32:=rfl
 have gb:gen0.hdr.bits=easyB:=rfl
 have F0:Fresh [gen0]:=fresh_gen
 have n0:nd [gen0] 0=gen0:=nd_at (by simp)
 have g1:growH1 [gen0] 0 0=hdA:=growH1_eq (q:=0) rfl n0 rfl gid (by rw[gt];rfl) mineA
 have t0:medianM [gen0] 0=0#32:=by rw[median_one rfl,n0,gt]
 obtain⟨-,m2,-,m4,m5,m6⟩:=mineN_some mineA
 have e1:=add_behind F0 (by simp) (p:=0) (h:=hdA) (by simp) (by rw[n0,gid];exact m2) (by rw[hdA_id];simp[findM,gid,a1.symm]) m6 (by rw[n0,gb];exact m5) (by rw[t0];decide) (by decide)
 obtain⟨x1,hx1⟩: ∃x1,x1=ndOf [gen0] hdA 0:=⟨_,rfl⟩
 rw[←hx1]at e1
 have f1h:x1.hdr=hdA:=by rw[hx1];rfl
 have f1p:x1.parent=0:=by rw[hx1];rfl
 have f1g:x1.height=1:=by
  have:x1.height=hgt [gen0] 0+1:=by rw[hx1];rfl
  rw[this,hgt_at (by simp)];rfl
 have f1i:x1.id=idA:=by rw[hx1,ndOf_idn,hdA_id]
 have F1:Fresh [gen0,x1]:=by
  have:=(fresh_add (r:=easyR) F0 (by simp) hdA 100000).1
  rw[e1]at this
  exact this
 have n1:nd [gen0,x1] 1=x1:=nd_at (by simp)
 have g2:growH1 [gen0,x1] 1 1=hdB:=growH1_eq (q:=1) rfl n1 rfl f1i (by rw[f1h];rfl) mineB
 have hmed: ∀l:List Nd,timesM l 11 1=[1#32,0#32]→medianM l 1<2#32:=fun l h=>by
  have hm:medianM l 1∈[1#32,0#32]:=by
   have:=middle_mem (l:=timesM l 11 1) (by rw[h];simp)
   rw[h]at this
   unfold medianM
   rw[h]
   exact this
  simp at hm
  rcases hm with hm | hm<;>rw[hm]<;>decide
 have t1:timesM [gen0,x1] 11 1=[1#32,0#32]:=by
  simp[timesM,f1p,f1h,gp,gt,hdA,hdU]
 obtain⟨-,m2,-,m4,m5,m6⟩:=mineN_some mineB
 have e2:=add_behind F1 (by simp) (p:=1) (h:=hdB) (by simp) (by rw[n1,f1i];exact m2) (by rw[hdB_id];simp[findM,gid,f1i,a2.symm,a3.symm]) m6 (by rw[n1,f1h];exact m5) (hmed _ t1) (by decide)
 obtain⟨x2,hx2⟩: ∃x2,x2=ndOf [gen0,x1] hdB 1:=⟨_,rfl⟩
 rw[←hx2]at e2
 have f2p:x2.parent=1:=by rw[hx2];rfl
 have f2g:x2.height=2:=by
  have:x2.height=hgt [gen0,x1] 1+1:=by rw[hx2];rfl
  rw[this,hgt_at (by simp)];simp[f1g]
 have f2i:x2.id=idB:=by rw[hx2,ndOf_idn,hdB_id]
 have F2:Fresh [gen0,x1,x2]:=by
  have:=(fresh_add (r:=easyR) F1 (by simp) hdB 100000).1
  rw[e2]at this
  exact this
 have n2:nd [gen0,x1,x2] 1=x1:=nd_at (by simp)
 have g3:growH1 [gen0,x1,x2] 2 1=hdC:=growH1_eq (q:=1) rfl n2 rfl f1i (by rw[f1h];rfl) mineC
 have t2:timesM [gen0,x1,x2] 11 1=[1#32,0#32]:=by
  simp[timesM,f1p,f1h,gp,gt,hdA,hdU]
 obtain⟨-,m2,-,m4,m5,m6⟩:=mineN_some mineC
 have e3:=add_behind F2 (by simp) (p:=1) (h:=hdC) (by simp) (by rw[n2,f1i];exact m2) (by rw[hdC_id];simp[findM,gid,f1i,f2i,a4.symm,a5.symm,a6.symm]) m6 (by rw[n2,f1h];exact m5) (hmed _ t2) (by decide)
 obtain⟨x3,hx3⟩: ∃x3,x3=ndOf [gen0,x1,x2] hdC 1:=⟨_,rfl⟩
 rw[←hx3]at e3
 have f3p:x3.parent=1:=by rw[hx3];rfl
 have f3g:x3.height=2:=by
  have:x3.height=hgt [gen0,x1,x2] 1+1:=by rw[hx3];rfl
  rw[this,hgt_at (by simp)];simp[f1g]
 have f3i:x3.id=idC:=by rw[hx3,ndOf_idn,hdC_id]
 refine⟨x1,x2,x3,⟨?_,f1p,f2p,f3p,f1g,f2g,f3g,f1i,f2i,f3i⟩⟩
 have l0:growL [0,1,1] 0=[gen0]:=rfl
 have l1:growL [0,1,1] 1=[gen0,x1]:=by
  rw[growL,l0,show([0,1,1]:List Int).getD 0 0=0 from rfl,g1,e1];rfl
 have l2:growL [0,1,1] 2=[gen0,x1,x2]:=by
  rw[growL,l1,show([0,1,1]:List Int).getD 1 0=1 from rfl,g2,e2];rfl
 have l3:growL [0,1,1] 3=[gen0,x1,x2,x3]:=by
  rw[growL,l2,show([0,1,1]:List Int).getD 2 0=1 from rfl,g3,e3];rfl
 exact l3
theorem wayM_get (l:List Nd)(a b:Nat){k:Nat}(h:k< (wayM l a b).length):(wayM l a b)[k]=((anc l b (hgt l a+1+k):Nat):Int):=by simp[wayM]
theorem anc_step_par {l:List Nd}(w:Wf l){b k:Nat}(hb:b<l.length)(hk:k+1≤hgt l b):par l (anc l b (k+1))=anc l b k∧0<anc l b (k+1):=by
 have hl:=w.anc_lt (h:=k+1) hb
 have hg:=w.anc_hgt hb hk
 have hp:=w.pos_of_hgt (i:=anc l b (k+1)) (by omega)
 have h1:=w.anc_par hl (h:=k) (by omega)
 have h2:=w.anc_anc hb (h:=k) (h':=k+1) (by omega) hk
 have h3:=w.hgt_par hp hl
 rw[h2]at h1
 refine⟨?_,hp⟩
 have e:hgt l (par l (anc l b (k+1)))=k:=by omega
 have h4:=anc_self (l:=l) (par l (anc l b (k+1)))
 rw[e]at h4
 rw[h1]
 exact h4.symm
structure ChW (c:Ch):Prop where
 wf:Wf c.l
 len:c.l.length≤16384
 one: ∀i b,lk i c.bs=some b→∃t,b.txs=[t]∧t.ok 100
 us: ∀e∈c.us,e.2=u00
 s1:-4611686018427387904≤c.r.subsidy
 s2:c.r.subsidy≤4611686018427387904
structure ChOk (c:Ch) (tp:Nat):Prop extends ChW c where
 tip:c.tip=tp
 lt:tp<c.l.length
 way: ∀k,On c.l k tp→hasM c k=true
def tx0:Tx1:=⟨.nil,[],.nil,[]⟩
def txOf (c:Ch)(i:Int):Tx1:=match lk i c.bs with | some b=>b.txs.headD tx0 | none=>tx0
theorem ChW.txOf {c:Ch}(h:ChW c){i:Int}(hh:hasM c i=true): ∃b,lk i c.bs=some b∧b.txs=[txOf c i]∧(txOf c i).ok 100:=by
 unfold hasM at hh
 cases hb:lk i c.bs with
 | none=>rw[hb]at hh;cases hh
 | some b=>
   obtain⟨t,h1,h2⟩:=h.one i b hb
   refine⟨b,rfl,?_⟩
   have:Ab.txOf c i=t:=by unfold Ab.txOf;rw[hb];simp[h1]
   rw[this]
   exact⟨h1,h2⟩
def dn (c:Ch):Ch:=downC c (txOf c c.tip)
def downN:Nat→Ch→Ch
 | 0,c=>c
 | n+1,c=>dn (downN n c)
def ups (c:Ch)(i:Int):Ch:=upC c i (txOf c i)
def fits1 (c:Ch)(i:Int):Bool:=decide ((upE c i (txOf c i)).1=0)
def upWay:Ch→List Int→Ch×Option Int
 | c,[]=>(c,none)
 | c,i::r=>if fits1 c i=true then upWay (ups c i) r else(c,some i)
def upAll:Ch→List Int→Ch
 | c,[]=>c
 | c,i::r=>upAll (ups c i) r
theorem ups_r (c:Ch)(i:Int):(ups c i).r=c.r∧(ups c i).l=c.l∧(ups c i).bs=c.bs:=by
 unfold ups upC
 split<;>exact⟨rfl,rfl,rfl⟩
theorem ups_tip {c:Ch}{i:Int}(h:fits1 c i=true):(ups c i).tip=i:=by
 unfold fits1 at h
 rw[decide_eq_true_eq]at h
 unfold ups upC
 rw[if_pos h]
theorem ups_not {c:Ch}{i:Int}(h:fits1 c i=false):ups c i=c:=by
 unfold fits1 at h
 rw[decide_eq_false_iff_not]at h
 unfold ups upC
 rw[if_neg h]
theorem mem_aSetI {A:Type}{i:Int}{v:A}{e:Int×A}: ∀{l:List (Int×A)},e∈aSet i v l→e=(i,v)∨e∈l
 | [],h=>.inl (List.mem_singleton.1 h)
 | p::l,h=>by
   rw[aSet]at h
   split at h
   ·rcases List.mem_cons.1 h with h | h
    ·exact .inl h
    ·exact .inr (List.mem_cons_of_mem _ h)
   ·rcases List.mem_cons.1 h with h | h
    ·exact .inr (h ▸List.mem_cons_self)
    ·rcases mem_aSetI h with h | h
     ·exact .inl h
     ·exact .inr (List.mem_cons_of_mem _ h)
theorem mem_aDelI {A:Type}{i:Int}{e:Int×A}: ∀{l:List (Int×A)},e∈aDel i l→e∈l
 | [],h=>h
 | p::l,h=>by
   rw[aDel]at h
   split at h
   ·exact List.mem_cons_of_mem _ h
   ·rcases List.mem_cons.1 h with h | h
    ·exact h ▸List.mem_cons_self
    ·exact List.mem_cons_of_mem _ (mem_aDelI h)
theorem lk_in {A:Type}{i:Int}{v:A}{l:List (Int×A)}(h:lk i l=some v):(i,v)∈l:=by
 unfold lk at h
 obtain⟨l1,l2,e,-⟩:=List.lookup_eq_some_iff.1 h
 rw[e]
 simp
theorem ChW.usAt {c:Ch}(h:ChW c){i:Int}{u:Undo1}(hu:lk i c.us=some u):u=u00:=h.us _ (lk_in hu)
theorem ChW.ups {c:Ch}(h:ChW c)(i:Int):ChW (ups c i):=by
 unfold Ab.ups upC
 split
 ·exact⟨h.wf,h.len,h.one,fun e he=>by
   rcases mem_aSetI he with rfl | he
   ·rfl
   ·exact h.us e he,h.s1,h.s2⟩
 ·exact h
theorem ChW.dn {c:Ch}(h:ChW c):ChW (dn c):=⟨h.wf,h.len,h.one,fun e he=>h.us e (mem_aDelI he),h.s1,h.s2⟩
theorem downN_W {c:Ch}(h:ChW c): ∀n,ChW (downN n c)
 | 0=>h
 | n+1=>(downN_W h n).dn
theorem downN_keep (c:Ch): ∀n,(downN n c).r=c.r∧(downN n c).l=c.l∧(downN n c).bs=c.bs
 | 0=>⟨rfl,rfl,rfl⟩
 | n+1=>downN_keep c n
theorem downN_tip {c:Ch}{tp:Nat}(w:Wf c.l)(ht:c.tip=tp)(hl:tp<c.l.length): ∀n,n≤hgt c.l tp→(downN n c).tip=(anc c.l tp (hgt c.l tp-n):Nat)
 | 0,_=>by rw[Nat.sub_zero,anc_self];exact ht
 | n+1,hn=>by
   have ih:=downN_tip w ht hl n (by omega)
   obtain⟨-,hkl,-⟩:=downN_keep c n
   show(nd (downN n c).l (inI (downN n c).l (downN n c).tip)).parent=_
   rw[hkl,ih]
   have hlt:=w.anc_lt (h:=hgt c.l tp-n) hl
   rw[inI_nat hlt]
   obtain⟨k,hk⟩: ∃k,hgt c.l tp-n=k+1:=⟨hgt c.l tp-n-1,by omega⟩
   obtain⟨h1,h2⟩:=anc_step_par w hl (k:=k) (by omega)
   rw[hk]at hlt⊢
   have hs:=w.succ _ _ h2 (List.getElem?_eq_getElem hlt)
   have hp:par c.l (anc c.l tp (k+1))=(nd c.l (anc c.l tp (k+1))).parent.toNat:=by
    simp only[par,List.getElem?_eq_getElem hlt,Option.map_some,Option.getD_some,nd_at hlt]
   rw[nd_at hlt]at hp⊢
   rw[show hgt c.l tp-(n+1)=k by omega,←h1,hp]
   omega
theorem failM_setF (l:List Nd)(i:Int): ∃f,(failM l i).1=setF f l:=by
 unfold failM
 split
 ·exact⟨_,setF_none.symm⟩
 ·exact⟨_,rfl⟩
theorem setF_wayM {f:Nat→Bool}{l:List Nd}(a b:Nat):wayM (setF f l) a b=wayM l a b:=by
 unfold wayM
 simp only[setF_hgt,setF_anc]
theorem setF_wayI {f:Nat→Bool}{l:List Nd}(a b:Int):wayI (setF f l) a b=wayI l a b:=by
 unfold wayI
 rw[setF_onB,setF_wayM]
def moveM (c:Ch)(tp to:Nat):Ch×Bool:=
 let m:=meetM c.l tp to
 match upWay (downN (hgt c.l tp-hgt c.l m) c) (wayM c.l m to)with
 | (c2,none)=>(c2,true)
 | (c2,some i)=>(upAll (downN (hgt c.l c2.tip.toNat-hgt c.l m) {c2 with l:=(failM c2.l i).1}) (wayM c.l m tp),false)
theorem wayI_on {l:List Nd}(w:Wf l){a b:Nat}(hb:b<l.length)(ha:a<l.length)(h:On l a b):wayI l a b=wayM l a b:=by
 unfold wayI
 rw[if_pos ((onB_on ha hb).2 h)]
 rfl
theorem wayM_at {l:List Nd}(w:Wf l){a b k:Nat}(hb:b<l.length)(hk:k< (wayM l a b).length):On l (anc l b (hgt l a+1+k)) b∧anc l b (hgt l a+1+k)<l.length∧hgt l a+1+k≤hgt l b:=by
 rw[wayM_len]at hk
 exact⟨On.of w hb (by omega),w.anc_lt hb,by omega⟩
theorem ChW.failed {c:Ch}(h:ChW c)(i:Int):ChW {c with l:=(failM c.l i).1}:=by
 obtain⟨f,hf⟩:=failM_setF c.l i
 refine⟨by rw[hf];exact setF_wf h.wf,by rw[hf,setF_length];exact h.len,h.one,h.us,h.s1,h.s2⟩
theorem upWay_keep: ∀(r:List Int) (c:Ch),((upWay c r).1.r=c.r∧(upWay c r).1.l=c.l∧(upWay c r).1.bs=c.bs)
 | [],c=>⟨rfl,rfl,rfl⟩
 | i::r,c=>by
   rw[upWay]
   split
   ·obtain⟨h1,h2,h3⟩:=ups_r c i
    obtain⟨k1,k2,k3⟩:=upWay_keep r (ups c i)
    exact⟨k1.trans h1,k2.trans h2,k3.trans h3⟩
   ·exact⟨rfl,rfl,rfl⟩
section
variable {P:Program} {F:Fn}
set_option maxHeartbeats 16000000 in
theorem spec276 (ok:OkChain P F)(hc:CloneC P (F 256)){st:St}{cid:Nat}{c:Ch}{L:List Asn}(S:Sep (ChA cid c::L) st){tp:Nat}(h:ChOk c tp)(to:Nat)(hto:to<c.l.length)(hr: ∀k,On c.l k to→hasM c k=true):
  ACalls P (F 276) [.ptr (some (cid,0)),.int .i64 (to:Int)] st fun v st'=>v=.bool (moveM c tp to).2∧Sep (ChA cid (moveM c tp to).1::L) st':=by
 have okl:=ok.toOkLocate
 have oki:=okl.toOkIndexZ.toOkIndex
 refine shows_call ok.mixed ok.h276 (by simp[k276]) ?_
 simp only[k276]
 have w:=h.wf
 have hl:=h.len
 have htl:=h.lt
 obtain⟨m,hm⟩: ∃m,m=meetM c.l tp to:=⟨_,rfl⟩
 have hM:=meet_spec w htl hto
 rw[←hm]at hM
 obtain⟨D,hD⟩: ∃D,D=hgt c.l tp-hgt c.l m:=⟨_,rfl⟩
 have hDm:hgt c.l m≤hgt c.l tp:=hM.on1.1
 have hmt:anc c.l tp (hgt c.l m)=m:=hM.on1.2
 obtain⟨mo,tid,bid,uid,R⟩:=chRead S
 have T:=R.tree w.neNil
 have o1:=R.top
 have cl1:clI c.l c.tip=tp:=by rw[h.tip];unfold clI;omega
 have cl2:clI c.l (to:Int)=to:=by unfold clI;omega
 simp[St.seg,o1,cseg0,cseg4]
 refine still_call _ _ _ _ (by simpa using spec228 okl T w hl c.tip to) ?_
 rw[cl1,cl2,←hm,h.tip]
 simp
 clear R T o1
 have hkeep:=downN_keep c
 have htipN:=downN_tip w h.tip htl
 have hWN:=downN_W h.toChW
 refine vc_joinB (M:=fun env' st'=>Sep (ChA cid (downN D c)::L) st') ?_ ?_
 ·refine vc_loopJ (fun n env' st'=>∃d:Nat,d≤D∧n=D-d∧Sep (ChA cid (downN d c)::L) st') D
    ⟨0,by omega,by omega,S⟩ ?_
  clear S
  rintro J hJ n env1 st1 hsame ⟨d,hd,rfl,S⟩
  have g0:=(hsame.get 0 rfl).trans (by simp:_=V.ptr (some (cid,0)))
  have g6:=(hsame.get 6 rfl).trans (by simp:_=V.int .i64 (m:Int))
  clear hsame
  obtain⟨mo,tid,bid,uid,R⟩:=chRead S
  have o1:=R.top
  have ht:=htipN d (by omega)
  by_cases hdD:d<D
  ·have hne:¬(((anc c.l tp (hgt c.l tp-d):Nat)):Int)=m:=fun e=>by
     have e:anc c.l tp (hgt c.l tp-d)=m:=by omega
     have g1:=w.anc_hgt htl (h:=hgt c.l tp-d) (by omega)
     rw[e]at g1
     omega
   have hneb:((((anc c.l tp (hgt c.l tp-d):Nat)):Int) != m)=true:=by simpa using hne
   obtain⟨k1,k2,k3⟩:=hkeep d
   have hhas:hasM (downN d c) (downN d c).tip=true:=by
    unfold hasM
    rw[k3,ht]
    exact h.way _ (On.of w htl (by omega))
   obtain⟨b,hb1,hb2,hb3⟩:=(hWN d).txOf hhas
   rw[ht]at o1
   simp[g0,g6,St.seg,o1,cseg4,hneb]
   refine(spec277 ok hc S (hWN d).wf b _ hb1 hb2 hb3 (fun u hu=>(hWN d).usAt hu)).mono ?_
   intro v st2 S
   simp
   exact Round.mk (D-(d+1)) _ (by omega) (sub_self _) (hJ _ _ _ ⟨d+1,by omega,rfl,S⟩)
  ·have:d=D:=by omega
   subst this
   have e:anc c.l tp (hgt c.l tp-d)=m:=by rw[show hgt c.l tp-d=hgt c.l m by omega,hmt]
   rw[ht,e]at o1
   simp[g0,g6,St.seg,o1,cseg4]
   exact S
 clear S
 rintro env1 st1 hsame S
 have g0:=(hsame.get 0 rfl).trans (by simp:_=V.ptr (some (cid,0)))
 have g1:=(hsame.get 1 rfl).trans (by simp:_=V.int .i64 (to:Int))
 have g5:=(hsame.get 5 rfl).trans (by simp:_=V.int .i64 (tp:Int))
 have g6:=(hsame.get 6 rfl).trans (by simp:_=V.int .i64 (m:Int))
 clear hsame
 obtain⟨c1,hc1⟩: ∃c1,c1=downN D c:=⟨_,rfl⟩
 obtain⟨k1,k2,k3⟩:=hkeep D
 have hW1:=hWN D
 have ht1:=htipN D (by omega)
 rw[←hc1]at k1 k2 k3 hW1 ht1 S
 rw[show hgt c.l tp-D=hgt c.l m by omega,hmt]at ht1
 obtain⟨way,hway⟩: ∃way,way=wayM c.l m to:=⟨_,rfl⟩
 have hwl:way.length=hgt c.l to-hgt c.l m:=by rw[hway,wayM_len]
 have hmto:hgt c.l m≤hgt c.l to:=hM.on2.1
 have hbound:hgt c.l to<16384:=Nat.lt_of_lt_of_le (w.hgt_le hto |>fun h=>by omega) hl
 obtain⟨mo,tid,bid,uid,R⟩:=chRead S
 have o1:=R.top
 have T:=R.tree (by rw[k2];exact w.neNil)
 rw[k2]at T
 simp[g0,g1,g6,St.seg,o1,cseg0]
 refine(spec229 okl T w hl m to).mono ?_
 intro vw st2 S1
 rw[wayI_on w hto hM.lt hM.on2,←hway]at S1
 have S:=S1.ov S
 clear S1 R T o1
 have hwr:=(Sep.rd e1_len S).len
 simp[hwr]
 have hgoal:moveM c tp to=(match upWay c1 way with
   | (c2,none)=>(c2,true)
   | (c2,some i)=>(upAll (downN (hgt c.l c2.tip.toNat-hgt c.l m) {c2 with l:=(failM c2.l i).1}) (wayM c.l m tp),false)):=by
  rw[moveM,←hm,←hD,←hc1,←hway]
 refine vc_joinB (M:=fun env' st'=>(moveM c tp to).2=true∧Sep (ChA cid (moveM c tp to).1::L) st') ?_ ?_
 ·refine vc_loopJ (fun n env' st'=>∃(j:Nat) (c2:Ch),j≤way.length∧n=way.length-j∧env' 41=.int .i64 (j:Nat)∧upWay c2 (way.drop j)=upWay c1 way∧ChW c2∧c2.l=c.l∧c2.bs=c.bs∧c2.tip=(anc c.l to (hgt c.l m+j):Nat)∧Sep (Sl 1 e1 vw way::ChA cid c2::L) st') way.length
    ⟨0,c1,by omega,by omega,by simp,rfl,hW1,k2,k3,by rw[Nat.add_zero,hM.on2.2];exact ht1,S⟩ ?_
  clear S
  rintro J hJ n env2 st3 hsame ⟨j,c2,hj,rfl,h41,hup,hW2,hl2,hb2,ht2,S⟩
  have g0:=(hsame.get 0 rfl).trans (by simp[g0]:_=V.ptr (some (cid,0)))
  have g5:=(hsame.get 5 rfl).trans (by simp[g5]:_=V.int .i64 (tp:Int))
  have g6:=(hsame.get 6 rfl).trans (by simp[g6]:_=V.int .i64 (m:Int))
  have g39:=(hsame.get 39 rfl).trans (by simp:_=vw)
  have g40:=(hsame.get 40 rfl).trans (by simp:_=V.int .i64 (way.length:Int))
  clear hsame
  by_cases hjl:j<way.length
  ·have w1:IntKind.i64.wrap ((j:Int)+1)=(j:Int)+1:=wrap64 (by omega) (by omega)
   obtain⟨r1,r2,r3,r4⟩:=(Sep.rd e1_len S).row e1_len hjl
   obtain⟨x,hx⟩: ∃x,x=way[j]:=⟨_,rfl⟩
   rw[←hx]at r3
   have hxv:x=(anc c.l to (hgt c.l m+(j+1)):Nat):=by
    rw[hx]
    subst hway
    rw[wayM_get,Nat.add_assoc,Nat.add_comm 1 j]
   have hjw:j< (wayM c.l m to).length:=hway ▸hjl
   obtain⟨a1,a2,a3⟩:=wayM_at w (a:=m) hto hjw
   rw[Nat.add_assoc,Nat.add_comm 1 j]at a1 a2
   have hhas:hasM c2 x=true:=by
    unfold hasM
    rw[hb2,hxv]
    exact hr _ a1
   obtain⟨b,hb1,hb2',hb3⟩:=hW2.txOf hhas
   rw[List.drop_eq_getElem_cons hjl,←hx,upWay]at hup
   simp[g0,g39,g40,h41,hjl,r1,r3,e1]
   refine(spec278 ok hc S.swap hW2.wf x b _ hb1 hb2' hb3 hW2.s1 hW2.s2).mono ?_
   clear S r1 r2 r3 r4
   rintro v st4 ⟨rfl,S⟩
   have hfit:decide ((upE c2 x (txOf c2 x)).1=0)=fits1 c2 x:=rfl
   rw[hfit]
   have S:Sep (ChA cid (ups c2 x)::Sl 1 e1 vw way::L) st4:=S
   cases hfx:fits1 c2 x with
   | true=>
     rw[hfx,if_pos rfl]at hup
     obtain⟨u1,u2,u3⟩:=ups_r c2 x
     simp[h41,w1]
     exact Round.mk (way.length-(j+1)) _ (by omega) (sub_self _) (hJ _ _ _ ⟨j+1,ups c2 x,by omega,rfl,by simp,hup,hW2.ups x,u2.trans hl2,u3.trans hb2,by rw[ups_tip hfx,hxv],S.swap⟩)
   | false=>
     rw[hfx,if_neg (by decide)]at hup
     rw[ups_not hfx]at S
     obtain⟨mo,tid,bid,uid,R,hgrow⟩:=chGrow (P:=P) S
     have o1:=R.top
     simp[g0,St.seg,o1,cseg0]
     refine(hgrow (F 170) [.ptr (some (tid,0)),.int .i64 x] (fun _=>True) (failM c2.l x).1 (fun hp hT=>(spec170 oki hT hW2.wf hW2.len x).mono fun v s hh=>⟨trivial,hh.2⟩)).mono ?_
     clear R o1 hgrow S
     rintro v st5 ⟨-,S⟩
     obtain⟨c3,hc3⟩: ∃c3:Ch,c3={c2 with l:=(failM c2.l x).1}:=⟨_,rfl⟩
     rw[←hc3]at S
     obtain⟨fl,hfl⟩:=failM_setF c2.l x
     rw[hl2]at hfl
     have hl3:c3.l=setF fl c.l:=by rw[hc3];show(failM c2.l x).1=_;rw[hl2,hfl]
     have hW3:ChW c3:=by rw[hc3];exact hW2.failed x
     have w3:Wf c3.l:=hW3.wf
     have hb3':c3.bs=c.bs:=by rw[hc3];exact hb2
     obtain⟨t2,ht2'⟩: ∃t2,t2=anc c.l to (hgt c.l m+j):=⟨_,rfl⟩
     rw[←ht2']at ht2
     have ht3:c3.tip=t2:=by rw[hc3];exact ht2
     have ht2l:t2<c.l.length:=by rw[ht2'];exact w.anc_lt hto
     have ht3l:t2<c3.l.length:=by rw[hl3,setF_length];exact ht2l
     have hg2:hgt c.l t2=hgt c.l m+j:=by rw[ht2'];exact w.anc_hgt hto (by omega)
     have hon2:On c.l t2 to:=by rw[ht2'];exact On.of w hto (by omega)
     have hm2:anc c.l t2 (hgt c.l m)=m:=by
      rw[ht2',w.anc_anc hto (by omega) (by omega)]
      exact hM.on2.2
     have hkeep3:=downN_keep c3
     have htip3:=downN_tip w3 ht3 ht3l
     have hWN3:=downN_W hW3
     have hgs:hgt c3.l t2=hgt c.l m+j:=by rw[hl3,setF_hgt];exact hg2
     have hres:moveM c tp to=(upAll (downN j c3) (wayM c.l m tp),false):=by
      rw[hgoal,←hup]
      show(upAll (downN (hgt c.l c2.tip.toNat-hgt c.l m) {c2 with l:=(failM c2.l x).1}) (wayM c.l m tp),false)=_
      rw[←hc3,ht2,Int.toNat_natCast,hg2,Nat.add_sub_cancel_left]
     simp
     refine vc_joinB (M:=fun env' st'=>Sep (ChA cid (downN j c3)::L) st') ?_ ?_
     ·refine vc_loopJ (fun n env' st'=>∃d:Nat,d≤j∧n=j-d∧Sep (ChA cid (downN d c3)::L) st') j
        ⟨0,by omega,by omega,S.tail fun r h=>h.drop⟩ ?_
      clear S
      rintro J2 hJ2 n env3 st6 hsame ⟨d,hd,rfl,S⟩
      have g0:=(hsame.get 0 rfl).trans (by simp[g0]:_=V.ptr (some (cid,0)))
      have g6:=(hsame.get 6 rfl).trans (by simp[g6]:_=V.int .i64 (m:Int))
      clear hsame
      obtain⟨mo,tid,bid,uid,R⟩:=chRead S
      have o1:=R.top
      have ht:=htip3 d (by omega)
      rw[hgs,hl3,setF_anc]at ht
      by_cases hdj:d<j
      ·have hne:¬(((anc c.l t2 (hgt c.l m+j-d):Nat)):Int)=m:=fun e=>by
         have e:anc c.l t2 (hgt c.l m+j-d)=m:=by omega
         have g1:=w.anc_hgt ht2l (h:=hgt c.l m+j-d) (by omega)
         rw[e]at g1
         omega
       have hneb:((((anc c.l t2 (hgt c.l m+j-d):Nat)):Int) != m)=true:=by simpa using hne
       obtain⟨q1,q2,q3⟩:=hkeep3 d
       have hhas:hasM (downN d c3) (downN d c3).tip=true:=by
        unfold hasM
        rw[q3,hb3',ht]
        exact hr _ (On.trans w hto (On.of w ht2l (by omega)) hon2)
       obtain⟨b,hb1,hb2,hb3⟩:=(hWN3 d).txOf hhas
       rw[ht]at o1
       simp[g0,g6,St.seg,o1,cseg4,hneb]
       refine(spec277 ok hc S (hWN3 d).wf b _ hb1 hb2 hb3 (fun u hu=>(hWN3 d).usAt hu)).mono ?_
       intro v st7 S
       simp
       exact Round.mk (j-(d+1)) _ (by omega) (sub_self _) (hJ2 _ _ _ ⟨d+1,by omega,rfl,S⟩)
      ·have:d=j:=by omega
       subst this
       have e:anc c.l t2 (hgt c.l m+d-d)=m:=by rw[Nat.add_sub_cancel,hm2]
       rw[ht,e]at o1
       simp[g0,g6,St.seg,o1,cseg4]
       exact S
     clear S
     rintro env3 st6 hsame S
     have g0:=(hsame.get 0 rfl).trans (by simp[g0]:_=V.ptr (some (cid,0)))
     have g5:=(hsame.get 5 rfl).trans (by simp[g5]:_=V.int .i64 (tp:Int))
     have g6:=(hsame.get 6 rfl).trans (by simp[g6]:_=V.int .i64 (m:Int))
     clear hsame
     obtain⟨c4,hc4⟩: ∃c4,c4=downN j c3:=⟨_,rfl⟩
     obtain⟨q1,q2,q3⟩:=hkeep3 j
     have hW4:=hWN3 j
     rw[←hc4]at q1 q2 q3 hW4 S hres
     obtain⟨mo,tid,bid,uid,R⟩:=chRead S
     have o1:=R.top
     have T:=R.tree hW4.wf.neNil
     simp[g0,g5,g6,St.seg,o1,cseg0]
     refine(spec229 okl T hW4.wf hW4.len m tp).mono ?_
     intro vk st7 S1
     have hwk:wayI c4.l (m:Int) (tp:Int)=wayM c.l m tp:=by
      rw[q2,hl3,setF_wayI,wayI_on w htl hM.lt hM.on1]
     rw[hwk]at S1
     have S:=S1.ov S
     clear S1 R T o1
     obtain⟨wk,hwkd⟩: ∃wk,wk=wayM c.l m tp:=⟨_,rfl⟩
     rw[←hwkd]at S hres
     have hkr:=(Sep.rd e1_len S).len
     have hwkl:wk.length≤16384:=by
      rw[hwkd,wayM_len]
      have:=w.hgt_le htl
      omega
     simp[hkr]
     refine vc_joinB (M:=fun env' st'=>Sep (ChA cid (upAll c4 wk)::L) st') ?_ ?_
     ·refine vc_loopJ (fun n env' st'=>∃(k:Nat) (c5:Ch),k≤wk.length∧n=wk.length-k∧env' 70=.int .i64 (k:Nat)∧upAll c5 (wk.drop k)=upAll c4 wk∧ChW c5∧c5.bs=c.bs∧Sep (Sl 1 e1 vk wk::ChA cid c5::L) st') wk.length
        ⟨0,c4,by omega,by omega,by simp,rfl,hW4,q3.trans hb3',S⟩ ?_
      clear S
      rintro J3 hJ3 n env4 st8 hsame ⟨k,c5,hk,rfl,h70,hall,hW5,hb5,S⟩
      have g0:=(hsame.get 0 rfl).trans (by simp[g0]:_=V.ptr (some (cid,0)))
      have g68:=(hsame.get 68 rfl).trans (by simp:_=vk)
      have g69:=(hsame.get 69 rfl).trans (by simp:_=V.int .i64 (wk.length:Int))
      clear hsame
      by_cases hkl:k<wk.length
      ·have w4:IntKind.i64.wrap ((k:Int)+1)=(k:Int)+1:=wrap64 (by omega) (by omega)
       obtain⟨r1,r2,r3,r4⟩:=(Sep.rd e1_len S).row e1_len hkl
       obtain⟨y,hy⟩: ∃y,y=wk[k]:=⟨_,rfl⟩
       rw[←hy]at r3
       have hkw:k< (wayM c.l m tp).length:=hwkd ▸hkl
       obtain⟨a1,a2,a3⟩:=wayM_at w (a:=m) htl hkw
       have hyv:y=(anc c.l tp (hgt c.l m+1+k):Nat):=by
        rw[hy]
        subst hwkd
        rw[wayM_get]
       have hhas:hasM c5 y=true:=by
        unfold hasM
        rw[hb5,hyv]
        exact h.way _ a1
       obtain⟨b,hb1,hb2,hb3⟩:=hW5.txOf hhas
       rw[List.drop_eq_getElem_cons hkl,←hy,upAll]at hall
       simp[g0,g68,g69,h70,hkl,r1,r3,e1]
       refine(spec278 ok hc S.swap hW5.wf y b _ hb1 hb2 hb3 hW5.s1 hW5.s2).mono ?_
       clear S r1 r2 r3 r4
       rintro v st9 ⟨rfl,S⟩
       have S:Sep (ChA cid (ups c5 y)::Sl 1 e1 vk wk::L) st9:=S
       obtain⟨u1,u2,u3⟩:=ups_r c5 y
       simp[h70,w4]
       exact Round.mk (wk.length-(k+1)) _ (by omega) (sub_self _) (hJ3 _ _ _ ⟨k+1,ups c5 y,by omega,rfl,by simp,hall,hW5.ups y,u3.trans hb5,S.swap⟩)
      ·have:k=wk.length:=by omega
       subst this
       rw[List.drop_length,upAll]at hall
       rw[←hall]
       simp[g69,h70]
       exact S.drop
     clear S
     rintro env4 st8 hsame S
     rw[hres]
     simp
     exact⟨st8,sub_self _,S⟩
  ·have:j=way.length:=by omega
   subst this
   rw[List.drop_length,upWay]at hup
   rw[hgoal,←hup]
   simp[g40,h41]
   exact S.drop
 clear S
 rintro env2 st3 hsame ⟨hv,S⟩
 simp[hv]
 exact⟨st3,sub_self _,S⟩
end
end Go.Ab

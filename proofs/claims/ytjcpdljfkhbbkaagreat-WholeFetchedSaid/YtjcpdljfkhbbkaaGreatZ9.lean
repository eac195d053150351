import Derived.Test.YtjcpdljfkhbbkaaGreatZ8
import Derived.Test.YtjcpdljfkhbbkaaGreatZ4
import Derived.Test.YtjcpdljfkhbbkaaGreatZ7
import Derived.Test.YtjcpdljfkhbbkaaGreatZ5
import Derived.Test.YtjcpdljfkhbbkaaGreatZ6
set_option linter.unusedVariables false
set_option linter.unusedSimpArgs false
set_option linter.unusedSectionVars false
namespace Go.Ab
open Go Go.RowKit
set_option maxRecDepth 10000
theorem chOpen {cid:Nat}{c:Ch}{L:List Asn}{st:St}(S:Sep (ChA cid c::L) st): ∃tid bid uid,SetS cid (chF tid bid uid c.tip) c.cm (ChL c tid bid uid++L) st:=by
 obtain⟨a0,r,h1,h2,⟨tid,bid,uid,mo,hmo,h3⟩,h4⟩:=S
 refine⟨tid,bid,uid,mo,hmo,?_⟩
 rw[List.append_nil]at h3
 have S:Sep (All (SetL cid (chF tid bid uid c.tip) c.cm mo++ChL c tid bid uid)::L) st:=⟨a0,r,h1,h2,h3,h4⟩
 have:=S.app
 rwa [List.append_assoc]at this
theorem chClose {cid:Nat}{c:Ch}{tid bid uid:Nat}{L:List Asn}{st:St}(h:SetS cid (chF tid bid uid c.tip) c.cm (ChL c tid bid uid++L) st):Sep (ChA cid c::L) st:=ChS.asn ⟨tid,bid,uid,h⟩
theorem ChR.at {cid:Nat}{c:Ch}{tid bid uid:Nat}{L:List Asn}{st:St}(h:SetS cid (chF tid bid uid c.tip) c.cm (ChL c tid bid uid++L) st): ∃mo,ChR cid c st mo tid bid uid:=by
 obtain⟨mo,h0,S⟩:=h
 refine⟨mo,?_⟩
 cases mo with
 | none=>exact⟨S.get,fun hl=>S.drop.treeR hl,S.drop.drop.get,S.drop.drop.drop.get⟩
 | some m=>exact⟨S.get,fun hl=>S.drop.drop.treeR hl,S.drop.drop.drop.get,S.drop.drop.drop.drop.get⟩
theorem SetS.reset {o:Nat}{f f':V→List V}{cm:CM}{L:List Asn}{st:St}(h:SetS o f cm L st): ∃mo:Option Nat,st o=some (.cells (f (.map mo)))∧SetS o f' cm L (st.upd o (.cells (f' (.map mo)))):=by
 obtain⟨mo,h0,S⟩:=h
 cases mo with
 | none=>exact⟨none,S.get,none,h0,S.set _⟩
 | some m=>exact⟨some m,S.get,some m,h0,S.set _⟩
theorem findIdx_at {bs:List Nat}(h:bs.Pairwise (· < ·)){j:Nat}(hj:j<bs.length){n:Int}(hn:n=(bs[j]:Nat)):(bs.findIdx? fun b:Nat=>(b:Int)==n)=some j:=by
 rw[List.findIdx?_eq_some_iff_getElem]
 refine⟨hj,by simp[hn],fun i hi=>?_⟩
 have:=List.pairwise_iff_getElem.1 h i j (by omega) hj hi
 simp[hn]
 omega
theorem mfindI_enc {K A:Type}[DecidableEq K]{ek:K→V}{ev:A→V}{kk:KK}(hk:Keyed ek kk)(k:K): ∀(l:List (K×A)) (n:Nat),
  (mfindI kk (ek k) (encM ek ev l) n=some none∧∀v,aSet k v l=l++[(k,v)])∨∃j,j<l.length∧mfindI kk (ek k) (encM ek ev l) n=some (some (n+j))∧∀v,aSet k v l=l.set j (k,v)
 | [],n=>.inl ⟨by simp[mfindI,encM],fun v=>rfl⟩
 | p::l,n=>by
   by_cases h:k=p.1
   ·refine .inr ⟨0,by simp,?_,fun v=>?_⟩
    ·subst h
     simp[mfindI,encM,hk.eq]
    ·rw[aSet,if_pos h];rfl
   ·have ih:=mfindI_enc hk (ev:=ev) k l (n+1)
    have e:mfindI kk (ek k) (encM ek ev (p::l)) n=mfindI kk (ek k) (encM ek ev l) (n+1):=by
     simp[encM,mfindI,hk.eq,h]
    rcases ih with⟨h1,h2⟩ | ⟨j,hj,h1,h2⟩
    ·exact .inl ⟨by rw[e,h1],fun v=>by rw[aSet,if_neg h,h2];rfl⟩
    ·exact .inr ⟨j+1,by simp;omega,by rw[e,h1];congr 2;omega,fun v=>by rw[aSet,if_neg h,h2];rfl⟩
theorem ment_enc {A:Type}{ev:A→V}{st:St}{id:Nat}{l:List (Int×A)}(h:st id=some (.mp (encM kInt ev l)))(i:Int)(zero:V){K:V→St→Prop}
  (hK: ∀(x:V) (n:Int) (es:List (V×V)) (bs:List Nat) (clk:Nat),(∀(s:St) (v:A),s id=some (.mpi es bs clk)→entS s (.map (some id)) (.int .i64 n) (ev v)=some (s.upd id (.mpi (encM kInt ev (aSet i v l)) bs clk)))→
    K (.tup [x,.int .i64 n]) (st.upd id (.mpi es bs clk))):mentS .int zero (.map (some id)) (.int .i64 i) st K:=by
 simp only[mentS,h]
 refine⟨rfl,fun bs clk hl hp hb=>?_⟩
 have hlen:(encM kInt ev l).length=l.length:=by simp[encM]
 rcases mfindI_enc keyed_int (ev:=ev) i l 0 with⟨h1,h2⟩ | ⟨j,hj,h1,h2⟩
 ·have h1:mfindI .int (.int .i64 i) (encM kInt ev l) 0=some none:=h1
  rw[h1]
  refine hK _ _ _ _ _ fun s v hs=>?_
  have hfi:((bs++[clk]).findIdx? fun b:Nat=>(b:Int)==(clk:Int))=some l.length:=by
   refine findIdx_at ?_ (j:=l.length) (by simp;omega) ?_
   ·rw[List.pairwise_append]
    exact⟨hp,by simp,fun a ha b hb'=>by rw[List.mem_singleton.1 hb'];exact hb a ha⟩
   ·rw[List.getElem_append_right (by omega)]
    simp
  simp only[entS,hs,hfi,Option.bind_some]
  rw[List.getElem?_append_right (by omega),h2]
  simp[hlen,encM,List.set_append]
  rfl
 ·rw[Nat.zero_add]at h1
  have h1:mfindI .int (.int .i64 i) (encM kInt ev l) 0=some (some j):=h1
  rw[h1]
  refine hK _ _ _ _ _ fun s v hs=>?_
  have hjb:j<bs.length:=by omega
  have hfi:(bs.findIdx? fun b:Nat=>(b:Int)==(((bs.getD j 0:Nat)):Int))=some j:=findIdx_at hp hjb (by rw[List.getD_eq_getElem?_getD,List.getElem?_eq_getElem hjb];rfl)
  simp only[entS,hs,hfi,Option.bind_some]
  rw[List.getElem?_set_self (by omega),h2]
  simp[encM,List.map_set,kInt]
def u00:Undo1:=⟨.nil,[],.nil,[]⟩
def readyGo (c:Ch):Nat→Int→Bool
 | 0,_=>true
 | n+1,i=>if onB c.l i c.tip=true then true else if hasM c i=true then readyGo c n (nd c.l (inI c.l i)).parent else false
def readyM (c:Ch)(i:Nat):Bool:=readyGo c (i+1) i
theorem hgtZ {l:List Nd}(w:Wf l):hgt l 0=0:=by
 have h:=w.zero (l[0]'w.ne) (List.getElem?_eq_getElem w.ne)
 rw[hgt_at w.ne]
 exact h.2
theorem zeroOfHgt {l:List Nd}(w:Wf l){i:Nat}(hi:i<l.length)(h:hgt l i=0):i=0:=by
 cases i with
 | zero=>rfl
 | succ i=>
   have:=w.hgt_par (i:=i+1) (by omega) hi
   omega
def downC (c:Ch)(t:Tx1):Ch:={c with cm:=takeM t c.cm,us:=aDel c.tip c.us,tip:=(nd c.l (inI c.l c.tip)).parent}
def upE (c:Ch)(i:Int)(t:Tx1):Int×CM:=conn1 t ((nd c.l (inI c.l i)).height:Int) c.r.subsidy c.cm
def upC (c:Ch)(i:Int)(t:Tx1):Ch:=if(upE c i t).1=0 then{c with cm:=(upE c i t).2,us:=aSet i u00 c.us,tip:=i}else c
theorem chsegPar (x:Nd):segOf (eNd x) 100 1=some [.int .i64 x.parent]:=seg_of_take (nsegPar x) (by rw[eNd_len];omega)
section
variable {P:Program} {F:Fn}
set_option maxHeartbeats 4000000 in
theorem spec275 (ok:OkChain P F){st:St}{cid:Nat}{c:Ch}{mo:Option Nat}{tid bid uid:Nat}(R:ChR cid c st mo tid bid uid)(w:Wf c.l){tp:Nat}(htip:c.tip=tp)(htl:tp<c.l.length)(i:Nat)(hi:i<c.l.length):
  ACalls P (F 275) [.ptr (some (cid,0)),.int .i64 (i:Int)] st fun v st'=>v=.bool (readyM c i)∧st'=st:=by
 have oki:=ok.toOkLocate.toOkIndexZ.toOkIndex
 refine shows_call ok.mixed ok.h275 (by simp[k275]) ?_
 simp only[k275]
 have T:=R.tree w.neNil
 have o1:=R.top
 have hfP: ∀x,fldV false 100 1 (V.agg (eNd x))=some (.int .i64 x.parent):=fun x=>by
  show(segOf _ 100 1).bind (packV false)=_
  rw[chsegPar];rfl
 have z0:onB c.l ((0:Nat):Int) c.tip=true:=by
  rw[htip,onB_nat w.ne htl,decide_eq_true_eq,hgtZ w]
  exact⟨Nat.zero_le _,zeroOfHgt w (w.anc_lt htl) (w.anc_hgt htl (Nat.zero_le _))⟩
 simp
 refine vc_joinB (M:=fun env' st'=>readyM c i=true∧st'=st) ?_ ?_
 ·refine vc_loopJ (fun n env' st'=>∃j f:Nat,j<c.l.length∧j≤f∧n=j+1∧env' 1=.int .i64 (j:Int)∧readyGo c (f+1) j=readyM c i∧st'=st) (i+1)
    ⟨i,i,hi,Nat.le_refl _,rfl,by simp,rfl,rfl⟩ ?_
  rintro J hJ n env1 st1 hsame ⟨j,f,hj,hjf,rfl,h1,hgo,rfl⟩
  have g0:=(hsame.get 0 rfl).trans (by simp:_=V.ptr (some (cid,0)))
  clear hsame
  simp[g0,h1,St.seg,o1,cseg0,cseg4]
  refine(spec163 oki T w j c.tip).mono ?_
  rintro v st2 ⟨rfl,rfl⟩
  rw[readyGo]at hgo
  cases ho:onB c.l (j:Int) c.tip with
  | true=>
    rw[ho,if_pos rfl]at hgo
    simp
    exact hgo.symm
  | false=>
    rw[ho,if_neg (by decide)]at hgo
    simp[g0,h1]
    refine(spec268 ok R j).mono ?_
    rintro v st3 ⟨rfl,rfl⟩
    cases hh:hasM c (j:Int)with
    | false=>
      rw[hh,if_neg (by decide)]at hgo
      simp
      exact hgo.symm
    | true=>
      rw[hh,if_pos rfl]at hgo
      simp[g0,h1,St.seg,o1,cseg0]
      refine(spec161 oki T w j).mono ?_
      rintro v st4 ⟨rfl,rfl⟩
      have hj0:0<j:=by
       cases j with
       | zero=>rw[z0]at ho;cases ho
       | succ j=>omega
      have hnd:=w.succ j c.l[j] hj0 (List.getElem?_eq_getElem hj)
      rw[inI_nat hj,nd_at hj]at hgo⊢
      obtain⟨p,hp⟩: ∃p:Nat,c.l[j].parent=p:=⟨c.l[j].parent.toNat,by omega⟩
      rw[hp]at hgo hnd
      simp[hfP,hp]
      obtain⟨f',rfl⟩: ∃f',f=f'+1:=⟨f-1,by omega⟩
      exact Round.mk (p+1) _ (by omega) (sub_self _) (hJ _ _ _ ⟨p,f',by omega,by omega,rfl,by simp,hgo,rfl⟩)
 ·rintro env1 st1 hsame ⟨hr,rfl⟩
  simp[hr]
set_option maxHeartbeats 4000000 in
theorem spec277 (ok:OkChain P F)(hc:CloneC P (F 256)){st:St}{cid:Nat}{c:Ch}{L:List Asn}(S:Sep (ChA cid c::L) st)(w:Wf c.l)(b:Blk1)(t:Tx1)(hb:lk c.tip c.bs=some b)(hbt:b.txs=[t])(ht:t.ok 100)(hu: ∀u,lk c.tip c.us=some u→u=u00):
  ACalls P (F 277) [.ptr (some (cid,0))] st fun v st'=>Sep (ChA cid (downC c t)::L) st':=by
 have oki:=ok.toOkLocate.toOkIndexZ.toOkIndex
 refine shows_call ok.mixed ok.h277 (by simp[k277]) ?_
 simp only[k277]
 have hfP: ∀x,fldV false 100 1 (V.agg (eNd x))=some (.int .i64 x.parent):=fun x=>by
  show(segOf _ 100 1).bind (packV false)=_
  rw[chsegPar];rfl
 obtain⟨tid,bid,uid,W⟩:=chOpen S
 clear S
 obtain⟨mo,R⟩:=ChR.at W
 have o1:=R.top
 have h1:=lookup_lk0 keyed_int (ev:=vBlk) R.bod (V.agg z69_adc1) c.tip
 rw[hb]at h1
 have h2:=lookup_lk0 keyed_int (ev:=vUndo) R.und (V.agg [.sl .nil [] 0,.sl .nil [] 0]) c.tip
 have h2':((lk c.tip c.us).map vUndo).getD (V.agg [.sl .nil [] 0,.sl .nil [] 0])=undo0:=by
  cases h:lk c.tip c.us with
  | none=>rfl
  | some u=>rw[hu u h];rfl
 rw[h2']at h2
 simp only[kInt,Option.map_some,Option.getD_some]at h1 h2
 have hcell1: ∀v:V,fldAV 1 (.ptr (some (cid,0)))=some (.ptr (some (cid,1))):=fun _=>rfl
 simp[St.seg,o1,cseg2,cseg3,cseg4,h1,h2]
 refine(spec262a ok.toOkCoins hc (ch_hole tid bid uid c.tip) W b t hbt ht).mono ?_
 clear W R o1 h1 h2 mo
 rintro v st1 ⟨-,W⟩
 have W':SetS cid (chF tid bid uid ({c with cm:=takeM t c.cm}:Ch).tip) ({c with cm:=takeM t c.cm}:Ch).cm (ChL {c with cm:=takeM t c.cm} tid bid uid++L) st1:=W
 obtain⟨mo,R⟩:=ChR.at W'
 have o1:=R.top
 have hd:=mdel_enc keyed_int (ev:=vUndo) R.und c.tip
 simp only[kInt]at hd
 have W:=SetS.setL (i:=uid) (x:=.mp (encM kInt vUndo c.us)) (W.tail (L':=pt uid (.mp (encM kInt vUndo c.us))::TreeS tid c.r c.l::pt bid (.mp (encM kInt vBlk c.bs))::L) fun r h=>h.pull 2) (.mp (encM kInt vUndo (aDel c.tip c.us)))
 obtain⟨st2,hst2⟩: ∃s,s=st1.upd uid (.mp (encM kInt vUndo (aDel c.tip c.us))):=⟨_,rfl⟩
 rw[←hst2]at hd W
 simp[St.seg,o1,cseg3,cseg4,hd]
 clear R o1 hd W' hst2 mo
 have W:SetS cid (chF tid bid uid c.tip) (takeM t c.cm) (ChL {c with us:=aDel c.tip c.us} tid bid uid++L) st2:=W.tail fun r h=>(h.pull 1).tail fun r h=>h.swap
 have W':SetS cid (chF tid bid uid ({c with cm:=takeM t c.cm,us:=aDel c.tip c.us}:Ch).tip) ({c with cm:=takeM t c.cm,us:=aDel c.tip c.us}:Ch).cm (ChL {c with cm:=takeM t c.cm,us:=aDel c.tip c.us} tid bid uid++L) st2:=W
 obtain⟨mo,R⟩:=ChR.at W'
 have o1:=R.top
 have T:=R.tree w.neNil
 simp[St.seg,o1,cseg0,cseg4]
 refine(spec161 oki T w c.tip).mono ?_
 rintro v st3 ⟨rfl,rfl⟩
 clear R T o1 W'
 obtain⟨mo,o1,W⟩:=SetS.reset (f':=chF tid bid uid (nd c.l (inI c.l c.tip)).parent) W
 have hst:=store_pt (sz:=1) (o:=4) o1 (v:=.int .i64 (nd c.l (inI c.l c.tip)).parent) (vs:=[.int .i64 (nd c.l (inI c.l c.tip)).parent]) rfl rfl (by simp[chF])
 rw[show spliceV (chF tid bid uid c.tip (.map mo)) 4 [V.int .i64 (nd c.l (inI c.l c.tip)).parent]=chF tid bid uid (nd c.l (inI c.l c.tip)).parent (.map mo)from rfl]at hst
 simp[hfP,hst]
 exact⟨_,sub_self _,chClose (c:=downC c t) W⟩
set_option maxHeartbeats 4000000 in
theorem spec278 (ok:OkChain P F)(hc:CloneC P (F 256)){st:St}{cid:Nat}{c:Ch}{L:List Asn}(S:Sep (ChA cid c::L) st)(w:Wf c.l)(i:Int)(b:Blk1)(t:Tx1)(hb:lk i c.bs=some b)(hbt:b.txs=[t])(ht:t.ok 100)
  (hs1:-4611686018427387904≤c.r.subsidy) (hs2:c.r.subsidy≤4611686018427387904):
  ACalls P (F 278) [.ptr (some (cid,0)),.int .i64 i] st fun v st'=>v=.bool (decide ((upE c i t).1=0))∧Sep (ChA cid (upC c i t)::L) st':=by
 have okz:=ok.toOkLocate.toOkIndexZ
 have oki:=okz.toOkIndex
 refine shows_call ok.mixed ok.h278 (by simp[k278]) ?_
 simp only[k278]
 have hfH: ∀x,fldV false 102 1 (V.agg (eNd x))=some (.int .i64 x.height):=fun x=>by
  show(segOf _ 102 1).bind (packV false)=_
  rw[osegHgt];rfl
 have hfS: ∀r:Rl,fldV false 3 1 (V.agg (eRl r))=some (.int .i64 r.subsidy):=fun _=>rfl
 obtain⟨tid,bid,uid,W⟩:=chOpen S
 clear S
 obtain⟨mo,R⟩:=ChR.at W
 have o1:=R.top
 have T:=R.tree w.neNil
 have h1:=lookup_lk0 keyed_int (ev:=vBlk) R.bod (V.agg z69_adc1) i
 rw[hb]at h1
 simp only[kInt,Option.map_some,Option.getD_some]at h1
 simp[St.seg,o1,cseg0,cseg2,h1]
 refine still_call _ _ _ _ (by simpa using spec161 oki T w i) ?_
 simp[hfH,St.seg,o1,cseg0]
 refine still_call _ _ _ _ (by simpa using spec160 okz T) ?_
 simp[hfS]
 refine(spec260a ok.toOkCoins hc (ch_hole tid bid uid c.tip) W b t hbt ht ((nd c.l (inI c.l i)).height:Int) c.r.subsidy hs1 hs2).mono ?_
 clear W R o1 T h1 mo
 rintro v st1 ⟨rfl,W⟩
 simp
 intro i5 hi5
 have W:=W.new hi5 (.cells [.sl .nil [] 0,.sl .nil [] 0])
 have o5:=W.ext (i:=i5) (x:=.cells [.sl .nil [] 0,.sl .nil [] 0]) (by simp)
 have hst:=store_pt (sz:=2) (o:=0) o5 (v:=undo0) (vs:=[V.sl .nil [] 0,V.sl .nil [] 0]) rfl rfl (by simp)
 rw[show spliceV [V.sl .nil [] 0,V.sl .nil [] 0] 0 [V.sl .nil [] 0,V.sl .nil [] 0]=[V.sl .nil [] 0,V.sl .nil [] 0]from rfl]at hst
 have hsame2:(st1.upd i5 (.cells [.sl .nil [] 0,.sl .nil [] 0])).upd i5 (.cells [.sl .nil [] 0,.sl .nil [] 0])=st1.upd i5 (.cells [.sl .nil [] 0,.sl .nil [] 0]):=by simp
 rw[hsame2]at hst
 simp[hst]
 clear hst hsame2
 generalize st1.upd i5 _=st2 at W o5⊢
 by_cases he:(conn1 t ((nd c.l (inI c.l i)).height:Int) c.r.subsidy c.cm).1=0
 ·have he':(upE c i t).1=0:=he
  have hup:upC c i t={c with cm:=(upE c i t).2,us:=aSet i u00 c.us,tip:=i}:=by rw[upC,if_pos he']
  have W':SetS cid (chF tid bid uid ({c with cm:=(upE c i t).2}:Ch).tip) ({c with cm:=(upE c i t).2}:Ch).cm (ChL {c with cm:=(upE c i t).2} tid bid uid++(pt i5 (.cells [.sl .nil [] 0,.sl .nil [] 0])::L)) st2:=W.tail fun r h=>h.pull 3 |>.pull 3 |>.pull 3
  obtain⟨mo,R⟩:=ChR.at W'
  have o1:=R.top
  have hu:segOf [V.sl .nil [] 0,V.sl .nil [] 0] 0 2=some [V.sl .nil [] 0,V.sl .nil [] 0]:=rfl
  have hzero:(V.agg [.sl .nil [] 0,.sl .nil [] 0])=undo0:=rfl
  have hfin: ∀(s:St) (n:Int) (es:List (V×V)) (bs:List Nat) (clk:Nat),s=st2.upd uid (.mpi es bs clk)→(∀(s:St) (v:Undo1),s uid=some (.mpi es bs clk)→entS s (.map (some uid)) (.int .i64 n) (vUndo v)=some (s.upd uid (.mpi (encM kInt vUndo (aSet i v c.us)) bs clk)))→
    s i5=some (.cells [.sl .nil [] 0,.sl .nil [] 0])∧∃s1 s2,entS s (.map (some uid)) (.int .i64 n) undo0=some s1∧storeS s1 1 (.ptr (some (cid,4))) (.int .i64 i)=some s2∧frzV s2 (.map (some uid))=some (.map (some uid),s2.upd uid (.mp (encM kInt vUndo (aSet i u00 c.us))))∧
      Sep (ChA cid (upC c i t)::L) (s2.upd uid (.mp (encM kInt vUndo (aSet i u00 c.us)))):=by
   rintro s n es bs clk rfl hent
   have W3:=W.tail (L':=pt uid (.mp (encM kInt vUndo c.us))::pt i5 (.cells [.sl .nil [] 0,.sl .nil [] 0])::TreeS tid c.r c.l::pt bid (.mp (encM kInt vBlk c.bs))::L) fun r h=>h.pull 3
   have W4:=(W3.setL (.mpi (encM kInt vUndo (aSet i u00 c.us)) bs clk))
   obtain⟨mo2,q1,W5⟩:=SetS.reset (f':=chF tid bid uid i) W4
   have hst:=store_pt (sz:=1) (o:=4) q1 (v:=.int .i64 i) (vs:=[.int .i64 i]) rfl rfl (by simp[chF])
   rw[show spliceV (chF tid bid uid c.tip (.map mo2)) 4 [V.int .i64 i]=chF tid bid uid i (.map mo2)from rfl]at hst
   have hent1:=hent (st2.upd uid (.mpi es bs clk)) u00 (St.upd_same _ _ _)
   rw[show(st2.upd uid (.mpi es bs clk)).upd uid (.mpi (encM kInt vUndo (aSet i u00 c.us)) bs clk)=st2.upd uid (.mpi (encM kInt vUndo (aSet i u00 c.us)) bs clk) by simp]at hent1
   obtain⟨s2,hs2⟩: ∃s2,s2=(st2.upd uid (.mpi (encM kInt vUndo (aSet i u00 c.us)) bs clk)).upd cid (.cells (chF tid bid uid i (.map mo2))):=⟨_,rfl⟩
   rw[←hs2]at hst W5
   have q2:=W5.ext (i:=uid) (x:=.mpi (encM kInt vUndo (aSet i u00 c.us)) bs clk) (by simp)
   have q5:=(W3.setL (.mpi es bs clk)).ext (i:=i5) (x:=.cells [.sl .nil [] 0,.sl .nil [] 0]) (by simp)
   refine⟨q5,_,s2,hent1,hst,by simp[frzV,q2],?_⟩
   have W6:=W5.setL (.mp (encM kInt vUndo (aSet i u00 c.us)))
   rw[hup]
   exact chClose (c:={c with cm:=(upE c i t).2,us:=aSet i u00 c.us,tip:=i}) (W6.tail fun r h=>((h.tail fun r h=>h.drop).pull 2).pull 2 |>.tail fun r h=>h)
  have hU:V.agg [V.sl .nil [] 0,V.sl .nil [] 0]=undo0:=rfl
  simp[he,he',St.seg,o1,o5,cseg3,hu]
  refine⟨?_,?_⟩
  ·refine ment_enc R.und i _ ?_
   intro x n es bs clk hent
   obtain⟨s,hs⟩: ∃s,s=st2.upd uid (.mpi es bs clk):=⟨_,rfl⟩
   obtain⟨a0,s1,s2,a1,a2,a3,a4⟩:=hfin s n es bs clk hs hent
   rw[←hs]
   simp[hU,a1,a2,frzP,a3]
   exact⟨_,sub_self _,a4⟩
  ·refine ment_enc R.und i _ ?_
   intro x n es bs clk hent
   obtain⟨s,hs⟩: ∃s,s=st2.upd uid (.mpi es bs clk):=⟨_,rfl⟩
   obtain⟨a0,s1,s2,a1,a2,a3,a4⟩:=hfin s n es bs clk hs hent
   rw[←hs]
   simp[St.seg,a0,hu,hU,a1,a2,frzP,a3]
   exact⟨_,sub_self _,a4⟩
 ·have he':¬(upE c i t).1=0:=he
  have heb:((conn1 t ((nd c.l (inI c.l i)).height:Int) c.r.subsidy c.cm).1 != 0)=true:=by simpa using he
  have hup:upC c i t=c:=by rw[upC,if_neg he']
  rw[conn1_err he]at W
  simp[heb,he,he',hup]
  exact⟨st2,sub_self _,chClose (W.tail fun r h=>h.drop)⟩
end
theorem chGrow {P:Program}{cid:Nat}{c:Ch}{L:List Asn}{st:St}(S:Sep (ChA cid c::L) st): ∃mo tid bid uid,ChR cid c st mo tid bid uid∧
  ∀(f:FuncId) (args:List V) (R:V→Prop) (l':List Nd),(∀h,TreeS tid c.r c.l h→ACalls P f args h fun v h'=>R v∧TreeS tid c.r l' h')→
   ACalls P f args st fun v st'=>R v∧Sep (ChA cid {c with l:=l'}::L) st':=by
 obtain⟨a,r,hd,hs,⟨tid,bid,uid,mo,h0,Si⟩,hL⟩:=S
 have hch:ChS cid c [] a:=⟨tid,bid,uid,mo,h0,Si⟩
 have hsub:St.sub a st:=fun i o e=>hs i o (add_some e)
 have R0:ChR cid c a mo tid bid uid:=by
  cases mo with
  | none=>exact⟨Si.get,fun hl=>Si.drop.treeR hl,Si.drop.drop.get,Si.drop.drop.drop.get⟩
  | some m=>exact⟨Si.get,fun hl=>Si.drop.drop.treeR hl,Si.drop.drop.drop.get,Si.drop.drop.drop.drop.get⟩
 refine⟨mo,tid,bid,uid,R0.sub hsub,fun f args R l' hf=>?_⟩
 have S':Sep ((fun h=>Sep (SetL cid (chF tid bid uid c.tip) c.cm mo++(ChL c tid bid uid++[])) h)::L) st:=⟨a,r,hd,hs,Si,hL⟩
 refine(Sep.call S' (R:=fun v h'=>R v∧ChA cid {c with l:=l'} h') fun h hh=>?_).mono ?_
 ·cases mo with
  | none=>
    have hh:Sep (TreeS tid c.r c.l::pt cid (.cells (chF tid bid uid c.tip (.map none)))::[pt bid (.mp (encM kInt vBlk c.bs)),pt uid (.mp (encM kInt vUndo c.us))]) h:=Sep.swap hh
    refine(Sep.call hh hf).mono ?_
    intro v h' S
    have hv:R v:=by
     obtain⟨x,-,h2⟩:=S.part
     exact h2.1
    exact⟨hv,tid,bid,uid,none,h0,(S.head fun x hx=>hx.2).swap⟩
  | some m=>
    have hh:Sep (TreeS tid c.r c.l::pt cid (.cells (chF tid bid uid c.tip (.map (some m))))::pt m (.mp (encM kPt vCoin c.cm))::[pt bid (.mp (encM kInt vBlk c.bs)),pt uid (.mp (encM kInt vUndo c.us))]) h:=Sep.pull 2 _ hh
    refine(Sep.call hh hf).mono ?_
    intro v h' S
    have hv:R v:=by
     obtain⟨x,-,h2⟩:=S.part
     exact h2.1
    exact⟨hv,tid,bid,uid,some m,h0,Sep.pull 2 _ (Sep.pull 2 _ (S.head fun x hx=>hx.2))⟩
 ·intro v st' S
  have hv:R v:=by
   obtain⟨x,-,h2⟩:=S.part
   exact h2.1
  exact⟨hv,S.head fun x hx=>hx.2⟩
def growU (l:List Nd)(i:Nat)(q:Nat):Hdr:={hdr0 with ver:=BitVec.ofInt 32 (i:Int),prev:=(nd l q).id,time:=(nd l q).hdr.time+1#32,bits:=easyB}
def growH1 (l:List Nd)(i:Nat)(p:Int):Hdr:=(mineN (growU l i (clI l p)) easyB 1000).getD hdr0
def growL (ps:List Int):Nat→List Nd
 | 0=>newM easyR
 | n+1=>(addM easyR (growL ps n) (growH1 (growL ps n) n (ps.getD n 0)) 100000).1
def growM (ps:List Int):List Nd:=growL ps ps.length
theorem findM_last {l:List Nd}{x:Nd}:findM (l++[x]) x.id=some l.length:=by simp[findM_append]
theorem findM_end {l:List Nd}{k:Nat}(hk:k+1=l.length):findM l (nd l k).id=some k:=by
 have hne:l≠[]:=by rintro rfl;simp at hk
 have e:=List.dropLast_concat_getLast hne
 have hd:l.dropLast.length=k:=by simp;omega
 have:nd l k=l.getLast hne:=by rw[nd_at (by omega),List.getLast_eq_getElem];congr 1;omega
 obtain⟨x,hx⟩: ∃x,x=l.getLast hne:=⟨_,rfl⟩
 rw[←hx]at e this
 rw[this,←e,findM_last,hd]
theorem timesM_mem {l:List Nd}{n i:Nat}{t:W32}(h:t∈timesM l n i): ∃k,∃hk:k<l.length,t=l[k].hdr.time:=by
 induction n generalizing i with
 | zero=>simp[timesM]at h
 | succ n ih=>
   unfold timesM at h
   cases e:l[i]? with
   | none=>rw[e]at h;simp at h
   | some x=>
     rw[e]at h
     obtain⟨hi,e2⟩:=List.getElem?_eq_some_iff.1 e
     simp only[List.mem_cons]at h
     rcases h with h | h
     ·exact⟨i,hi,by rw[h,e2]⟩
     ·split at h
      ·simp at h
      ·exact ih h
theorem middle_mem {l:List W32}(h:l≠[]):middle32 l∈l:=by
 unfold middle32
 have hpos:=List.length_pos_iff.2 h
 have hl:l.length / 2< (sorted32 l).length:=by rw[sorted32_length];omega
 have:(sorted32 l).getD (l.length / 2) 0=(sorted32 l)[l.length / 2]:=by simp[hl]
 rw[this]
 exact(List.mergeSort_perm l _).mem_iff.1 (List.getElem_mem hl)
theorem fits_ok {r:Rl}{l:List Nd}{h:Hdr}{p:Nat}{now:Int}(hp:p<l.length)(h1:provedN h r.limit=0)(h2:(nd l p).failed=false)(h3:h.bits=nextM r l p)(h4:medianM l p<h.time)(h5:(h.time.toNat:Int)-7200≤now):fitsM r l h p now=0:=by
 have e1:¬((p:Int)<0∨(l.length:Int)≤p):=by omega
 have e2:¬h.time≤medianM l p:=BitVec.not_le.2 h4
 have e3:¬now< (h.time.toNat:Int)-7200:=by omega
 simp only[fitsM,e1,if_false,h1,ne_eq,not_true_eq_false,Int.toNat_natCast,h2,h3,e2,e3,Bool.false_eq_true]
def Uniq (l:List Nd):Prop:=∀(k:Nat) (h:k<l.length),findM l l[k].id=some k
theorem uniq_push {l:List Nd}(u:Uniq l){x:Nd}(h:findM l x.id=none):Uniq (l++[x]):=by
 intro k hk
 rw[findM_append]
 by_cases hkl:k<l.length
 ·rw[List.getElem_append_left hkl,if_neg (fun e=>findM_none h _ (List.getElem_mem hkl) e.symm),u k hkl]
 ·have:k=l.length:=by simp at hk;omega
  subst this
  rw[List.getElem_append_right (Nat.le_refl _)]
  simp
structure Fresh (l:List Nd):Prop where
 wf:Wf l
 ok: ∀(k:Nat) (h:k<l.length),l[k].failed=false
 uniq:Uniq l
theorem fresh_gen:Fresh [gen0]:=⟨newM_wf easyR,fun k h=>by
 have:k=0:=by simp at h;exact h
 subst this;rfl,fun k h=>by
 have:k=0:=by simp at h;exact h
 subst this
 simp[findM]⟩
theorem addM_uniq {r:Rl}{l:List Nd}(u:Uniq l)(h:Hdr)(now:Int):Uniq (addM r l h now).1:=by
 rcases addM_cases r l h now with⟨e,_⟩ | ⟨p,_,h1,_,_,e⟩
 ·rw[e];exact u
 ·rw[e];exact uniq_push u h1
theorem fresh_add {r:Rl}{l:List Nd}(hF:Fresh l)(hl:l.length≤16384)(h:Hdr)(now:Int):Fresh (addM r l h now).1∧(addM r l h now).1.length≤l.length+1∧l.length≤(addM r l h now).1.length:=by
 refine⟨⟨(addM_wf hF.wf hl h now).1,?_,addM_uniq hF.uniq h now⟩,?_⟩
 ·rcases addM_cases r l h now with⟨e,_⟩ | ⟨p,_,h1,_,_,e⟩
  ·rw[e];exact hF.ok
  ·rw[e]
   intro k hk
   by_cases hkl:k<l.length
   ·rw[List.getElem_append_left hkl];exact hF.ok k hkl
   ·have:k=l.length:=by simp at hk;omega
    subst this
    rw[List.getElem_append_right (Nat.le_refl _)]
    have e: ∀x:Nd,[x][l.length-l.length]'(by simp)=x:=fun x=>by simp
    rw[e];rfl
 ·rcases addM_cases r l h now with⟨e,_⟩ | ⟨p,_,h1,_,_,e⟩
  ·rw[e];omega
  ·rw[e];simp
theorem add_zero {l:List Nd}(now:Int): ∃i e,addM easyR l hdr0 now=(l,i,e)∧e≠0:=by
 cases h1:findM l (hId hdr0)with
 | some i=>exact⟨_,_,addM_twice h1,by simp⟩
 | none=>
   rcases addM_cases easyR l hdr0 now with⟨e,h⟩ | ⟨p,h2,_,h3,_,_⟩
   ·exact⟨_,_,Prod.ext e rfl,h⟩
   ·exfalso
    have hp:=findM_lt h2
    have hpr:provedN hdr0 easyR.limit=30:=by
     have:tgt hdr0.bits=none:=by decide+kernel
     simp[provedN,this]
    have e1:¬((p:Int)<0∨(l.length:Int)≤p):=by omega
    simp only[fitsM,e1,if_false,hpr]at h3
    simp at h3
def idG:Id:=⟨⟨[21,69,166,194,34,142,174,254,51,143,16,178,185,178,204,107,138,25,0,80,180,91,164,132,47,186,142,94,126,96,52,167]⟩,rfl⟩
def idA:Id:=⟨⟨[249,182,181,195,143,2,170,189,230,242,107,83,189,148,246,187,181,62,161,144,91,11,14,69,23,213,175,253,125,206,235,106]⟩,rfl⟩
def idB:Id:=⟨⟨[17,201,86,10,97,254,97,209,23,135,65,78,190,187,183,154,85,228,203,214,148,79,229,233,49,73,244,124,97,50,187,119]⟩,rfl⟩
def idC:Id:=⟨⟨[43,62,228,172,249,202,246,235,73,97,160,103,90,236,253,101,73,20,60,34,66,93,50,158,178,100,152,79,22,70,41,16]⟩,rfl⟩
def hdU (v:W32)(p:Id)(t:W32):Hdr:={hdr0 with ver:=v,prev:=p,time:=t,bits:=easyB}
def hdA:Hdr:={hdU 0#32 idG 1#32 with nonce:=2#32}
def hdB:Hdr:={hdU 1#32 idA 2#32 with nonce:=1#32}
def hdC:Hdr:={hdU 2#32 idA 2#32 with nonce:=0#32}
theorem gen_id:hId easyR.gen=idG:=by decide+kernel
theorem mineA:mineN (hdU 0#32 idG 1#32) easyB 1000=some hdA:=by decide+kernel
theorem hdA_id:hId hdA=idA:=by decide+kernel
theorem mineB:mineN (hdU 1#32 idA 2#32) easyB 1000=some hdB:=by decide+kernel
theorem hdB_id:hId hdB=idB:=by decide+kernel
theorem mineC:mineN (hdU 2#32 idA 2#32) easyB 1000=some hdC:=by decide+kernel
theorem hdC_id:hId hdC=idC:=by decide+kernel
theorem ids_apart:idA≠idG∧idB≠idG∧idB≠idA∧idC≠idG∧idC≠idA∧idC≠idB∧idA≠id0∧idB≠id0:=by decide+kernel
theorem ndOf_idn (l:List Nd)(h:Hdr)(p:Nat):(ndOf l h p).id=hId h:=by
 unfold ndOf
 generalize hId h=I
 rfl
theorem add_behind {l:List Nd}(hF:Fresh l)(hl:l.length≤1000){p:Nat}(hp:p<l.length){h:Hdr}(hprev:h.prev=(nd l p).id)(hnew:findM l (hId h)=none)(hpr:provedN h easyB=0)(hb:h.bits=(nd l p).hdr.bits)(ht:medianM l p<h.time)(ht2:(h.time.toNat:Int)-7200≤100000):
  addM easyR l h 100000=(l++[ndOf l h p],(l.length:Int),0):=by
 have h2:findM l h.prev=some p:=by rw[hprev,nd_at hp];exact hF.uniq p hp
 have hfail:(nd l p).failed=false:=by rw[nd_at hp];exact hF.ok p hp
 exact addM_ok hnew h2 (fits_ok hp hpr hfail (by rw[easy_next];exact hb) ht ht2) (by omega)
theorem growH1_eq {l:List Nd}{i:Nat}{p:Int}{q:Nat}(hq:clI l p=q){x:Nd}(hx:nd l q=x){v:W32}{I:Id}{T:W32}(hv:BitVec.ofInt 32 (i:Int)=v)(hid:x.id=I)(ht:x.hdr.time+1#32=T){h:Hdr}(hm:mineN (hdU v I T) easyB 1000=some h):growH1 l i p=h:=by
 have e:growU l i q=hdU v I T:=by
  unfold growU hdU
  rw[hx,hv,hid,ht]
 rw[growH1,hq,e,hm];rfl
structure Three (x1 x2 x3:Nd):Prop where
 grown:growM [0,1,1]=[gen0,x1,x2,x3]
 p1:x1.parent=0
 p2:x2.parent=1
 p3:x3.parent=1
 h1:x1.height=1
 h2:x2.height=2
 h3:x3.height=2
 i1:x1.id=idA
 i2:x2.id=idB
 i3:x3.id=idC
theorem three: ∃x1 x2 x3,Three x1 x2 x3:=by
 obtain⟨a1,a2,a3,a4,a5,a6,-,-⟩:=ids_apart
 have gid:gen0.id=idG:=gen_id
 have gp:gen0.parent=-1:=rfl
 have gt:gen0.hdr.time=0#32:=rfl
 have gb:gen0.hdr.bits=easyB:=rfl
 have F0:Fresh [gen0]:=fresh_gen
 have n0:nd [gen0] 0=gen0:=nd_at (by simp)
 have g1:growH1 [gen0] 0 0=hdA:=growH1_eq (q:=0) rfl n0 rfl gid (by rw[gt];rfl) mineA
 have t0:medianM [gen0] 0=0#32:=by rw[median_one rfl,n0,gt]
 obtain⟨-,m2,-,m4,m5,m6⟩:=mineN_some mineA
 have e1:=add_behind F0 (by simp) (p:=0) (h:=hdA) (by simp) (by rw[n0,gid];exact m2) (by rw[hdA_id];simp[findM,gid,a1.symm]) m6 (by rw[n0,gb];exact m5) (by rw[t0];decide) (by decide)
 obtain⟨x1,hx1⟩: ∃x1,x1=ndOf [gen0] hdA 0:=⟨_,rfl⟩
 rw[←hx1]at e1
 have f1h:x1.hdr=hdA:=by rw[hx1];rfl
 have f1p:x1.parent=0:=by rw[hx1];rfl
 have f1g:x1.height=1:=by
  have:x1.height=hgt [gen0] 0+1:=by rw[hx1];rfl
  rw[this,hgt_at (by simp)];rfl
 have f1i:x1.id=idA:=by rw[hx1,ndOf_idn,hdA_id]
 have F1:Fresh [gen0,x1]:=by
  have:=(fresh_add (r:=easyR) F0 (by simp) hdA 100000).1
  rw[e1]at this
  exact this
 have n1:nd [gen0,x1] 1=x1:=nd_at (by simp)
 have g2:growH1 [gen0,x1] 1 1=hdB:=growH1_eq (q:=1) rfl n1 rfl f1i (by rw[f1h];rfl) mineB
 have hmed: ∀l:List Nd,timesM l 11 1=[1#32,0#32]→medianM l 1<2#32:=fun l h=>by
  have hm:medianM l 1∈[1#32,0#32]:=by
   have:=middle_mem (l:=timesM l 11 1) (by rw[h];simp)
   rw[h]at this
   unfold medianM
   rw[h]
   exact this
  simp at hm
  rcases hm with hm | hm<;>rw[hm]<;>decide
 have t1:timesM [gen0,x1] 11 1=[1#32,0#32]:=by
  simp[timesM,f1p,f1h,gp,gt,hdA,hdU]
 obtain⟨-,m2,-,m4,m5,m6⟩:=mineN_some mineB
 have e2:=add_behind F1 (by simp) (p:=1) (h:=hdB) (by simp) (by rw[n1,f1i];exact m2) (by rw[hdB_id];simp[findM,gid,f1i,a2.symm,a3.symm]) m6 (by rw[n1,f1h];exact m5) (hmed _ t1) (by decide)
 obtain⟨x2,hx2⟩: ∃x2,x2=ndOf [gen0,x1] hdB 1:=⟨_,rfl⟩
 rw[←hx2]at e2
 have f2p:x2.parent=1:=by rw[hx2];rfl
 have f2g:x2.height=2:=by
  have:x2.height=hgt [gen0,x1] 1+1:=by rw[hx2];rfl
  rw[this,hgt_at (by simp)];simp[f1g]
 have f2i:x2.id=idB:=by rw[hx2,ndOf_idn,hdB_id]
 have F2:Fresh [gen0,x1,x2]:=by
  have:=(fresh_add (r:=easyR) F1 (by simp) hdB 100000).1
  rw[e2]at this
  exact this
 have n2:nd [gen0,x1,x2] 1=x1:=nd_at (by simp)
 have g3:growH1 [gen0,x1,x2] 2 1=hdC:=growH1_eq (q:=1) rfl n2 rfl f1i (by rw[f1h];rfl) mineC
 have t2:timesM [gen0,x1,x2] 11 1=[1#32,0#32]:=by
  simp[timesM,f1p,f1h,gp,gt,hdA,hdU]
 obtain⟨-,m2,-,m4,m5,m6⟩:=mineN_some mineC
 have e3:=add_behind F2 (by simp) (p:=1) (h:=hdC) (by simp) (by rw[n2,f1i];exact m2) (by rw[hdC_id];simp[findM,gid,f1i,f2i,a4.symm,a5.symm,a6.symm]) m6 (by rw[n2,f1h];exact m5) (hmed _ t2) (by decide)
 obtain⟨x3,hx3⟩: ∃x3,x3=ndOf [gen0,x1,x2] hdC 1:=⟨_,rfl⟩
 rw[←hx3]at e3
 have f3p:x3.parent=1:=by rw[hx3];rfl
 have f3g:x3.height=2:=by
  have:x3.height=hgt [gen0,x1,x2] 1+1:=by rw[hx3];rfl
  rw[this,hgt_at (by simp)];simp[f1g]
 have f3i:x3.id=idC:=by rw[hx3,ndOf_idn,hdC_id]
 refine⟨x1,x2,x3,⟨?_,f1p,f2p,f3p,f1g,f2g,f3g,f1i,f2i,f3i⟩⟩
 have l0:growL [0,1,1] 0=[gen0]:=rfl
 have l1:growL [0,1,1] 1=[gen0,x1]:=by
  rw[growL,l0,show([0,1,1]:List Int).getD 0 0=0 from rfl,g1,e1];rfl
 have l2:growL [0,1,1] 2=[gen0,x1,x2]:=by
  rw[growL,l1,show([0,1,1]:List Int).getD 1 0=1 from rfl,g2,e2];rfl
 have l3:growL [0,1,1] 3=[gen0,x1,x2,x3]:=by
  rw[growL,l2,show([0,1,1]:List Int).getD 2 0=1 from rfl,g3,e3];rfl
 exact l3
theorem wayM_get (l:List Nd)(a b:Nat){k:Nat}(h:k< (wayM l a b).length):(wayM l a b)[k]=((anc l b (hgt l a+1+k):Nat):Int):=by simp[wayM]
theorem anc_step_par {l:List Nd}(w:Wf l){b k:Nat}(hb:b<l.length)(hk:k+1≤hgt l b):par l (anc l b (k+1))=anc l b k∧0<anc l b (k+1):=by
 have hl:=w.anc_lt (h:=k+1) hb
 have hg:=w.anc_hgt hb hk
 have hp:=w.pos_of_hgt (i:=anc l b (k+1)) (by omega)
 have h1:=w.anc_par hl (h:=k) (by omega)
 have h2:=w.anc_anc hb (h:=k) (h':=k+1) (by omega) hk
 have h3:=w.hgt_par hp hl
 rw[h2]at h1
 refine⟨?_,hp⟩
 have e:hgt l (par l (anc l b (k+1)))=k:=by omega
 have h4:=anc_self (l:=l) (par l (anc l b (k+1)))
 rw[e]at h4
 rw[h1]
 exact h4.symm
structure ChW (c:Ch):Prop where
 wf:Wf c.l
 len:c.l.length≤16384
 one: ∀i b,lk i c.bs=some b→∃t,b.txs=[t]∧t.ok 100
 us: ∀e∈c.us,e.2=u00
 s1:-4611686018427387904≤c.r.subsidy
 s2:c.r.subsidy≤4611686018427387904
structure ChOk (c:Ch) (tp:Nat):Prop extends ChW c where
 tip:c.tip=tp
 lt:tp<c.l.length
 way: ∀k,On c.l k tp→hasM c k=true
def tx0:Tx1:=⟨.nil,[],.nil,[]⟩
def txOf (c:Ch)(i:Int):Tx1:=match lk i c.bs with | some b=>b.txs.headD tx0 | none=>tx0
theorem ChW.txOf {c:Ch}(h:ChW c){i:Int}(hh:hasM c i=true): ∃b,lk i c.bs=some b∧b.txs=[txOf c i]∧(txOf c i).ok 100:=by
 unfold hasM at hh
 cases hb:lk i c.bs with
 | none=>rw[hb]at hh;cases hh
 | some b=>
   obtain⟨t,h1,h2⟩:=h.one i b hb
   refine⟨b,rfl,?_⟩
   have:Ab.txOf c i=t:=by unfold Ab.txOf;rw[hb];simp[h1]
   rw[this]
   exact⟨h1,h2⟩
def dn (c:Ch):Ch:=downC c (txOf c c.tip)
def downN:Nat→Ch→Ch
 | 0,c=>c
 | n+1,c=>dn (downN n c)
def ups (c:Ch)(i:Int):Ch:=upC c i (txOf c i)
def fits1 (c:Ch)(i:Int):Bool:=decide ((upE c i (txOf c i)).1=0)
def upWay:Ch→List Int→Ch×Option Int
 | c,[]=>(c,none)
 | c,i::r=>if fits1 c i=true then upWay (ups c i) r else(c,some i)
def upAll:Ch→List Int→Ch
 | c,[]=>c
 | c,i::r=>upAll (ups c i) r
theorem ups_r (c:Ch)(i:Int):(ups c i).r=c.r∧(ups c i).l=c.l∧(ups c i).bs=c.bs:=by
 unfold ups upC
 split<;>exact⟨rfl,rfl,rfl⟩
theorem ups_tip {c:Ch}{i:Int}(h:fits1 c i=true):(ups c i).tip=i:=by
 unfold fits1 at h
 rw[decide_eq_true_eq]at h
 unfold ups upC
 rw[if_pos h]
theorem ups_not {c:Ch}{i:Int}(h:fits1 c i=false):ups c i=c:=by
 unfold fits1 at h
 rw[decide_eq_false_iff_not]at h
 unfold ups upC
 rw[if_neg h]
theorem mem_aSetI {A:Type}{i:Int}{v:A}{e:Int×A}: ∀{l:List (Int×A)},e∈aSet i v l→e=(i,v)∨e∈l
 | [],h=>.inl (List.mem_singleton.1 h)
 | p::l,h=>by
   rw[aSet]at h
   split at h
   ·rcases List.mem_cons.1 h with h | h
    ·exact .inl h
    ·exact .inr (List.mem_cons_of_mem _ h)
   ·rcases List.mem_cons.1 h with h | h
    ·exact .inr (h ▸List.mem_cons_self)
    ·rcases mem_aSetI h with h | h
     ·exact .inl h
     ·exact .inr (List.mem_cons_of_mem _ h)
theorem mem_aDelI {A:Type}{i:Int}{e:Int×A}: ∀{l:List (Int×A)},e∈aDel i l→e∈l
 | [],h=>h
 | p::l,h=>by
   rw[aDel]at h
   split at h
   ·exact List.mem_cons_of_mem _ h
   ·rcases List.mem_cons.1 h with h | h
    ·exact h ▸List.mem_cons_self
    ·exact List.mem_cons_of_mem _ (mem_aDelI h)
theorem lk_in {A:Type}{i:Int}{v:A}{l:List (Int×A)}(h:lk i l=some v):(i,v)∈l:=by
 unfold lk at h
 obtain⟨l1,l2,e,-⟩:=List.lookup_eq_some_iff.1 h
 rw[e]
 simp
theorem ChW.usAt {c:Ch}(h:ChW c){i:Int}{u:Undo1}(hu:lk i c.us=some u):u=u00:=h.us _ (lk_in hu)
theorem ChW.ups {c:Ch}(h:ChW c)(i:Int):ChW (ups c i):=by
 unfold Ab.ups upC
 split
 ·exact⟨h.wf,h.len,h.one,fun e he=>by
   rcases mem_aSetI he with rfl | he
   ·rfl
   ·exact h.us e he,h.s1,h.s2⟩
 ·exact h
theorem ChW.dn {c:Ch}(h:ChW c):ChW (dn c):=⟨h.wf,h.len,h.one,fun e he=>h.us e (mem_aDelI he),h.s1,h.s2⟩
theorem downN_W {c:Ch}(h:ChW c): ∀n,ChW (downN n c)
 | 0=>h
 | n+1=>(downN_W h n).dn
theorem downN_keep (c:Ch): ∀n,(downN n c).r=c.r∧(downN n c).l=c.l∧(downN n c).bs=c.bs
 | 0=>⟨rfl,rfl,rfl⟩
 | n+1=>downN_keep c n
theorem downN_tip {c:Ch}{tp:Nat}(w:Wf c.l)(ht:c.tip=tp)(hl:tp<c.l.length): ∀n,n≤hgt c.l tp→(downN n c).tip=(anc c.l tp (hgt c.l tp-n):Nat)
 | 0,_=>by rw[Nat.sub_zero,anc_self];exact ht
 | n+1,hn=>by
   have ih:=downN_tip w ht hl n (by omega)
   obtain⟨-,hkl,-⟩:=downN_keep c n
   show(nd (downN n c).l (inI (downN n c).l (downN n c).tip)).parent=_
   rw[hkl,ih]
   have hlt:=w.anc_lt (h:=hgt c.l tp-n) hl
   rw[inI_nat hlt]
   obtain⟨k,hk⟩: ∃k,hgt c.l tp-n=k+1:=⟨hgt c.l tp-n-1,by omega⟩
   obtain⟨h1,h2⟩:=anc_step_par w hl (k:=k) (by omega)
   rw[hk]at hlt⊢
   have hs:=w.succ _ _ h2 (List.getElem?_eq_getElem hlt)
   have hp:par c.l (anc c.l tp (k+1))=(nd c.l (anc c.l tp (k+1))).parent.toNat:=by
    simp only[par,List.getElem?_eq_getElem hlt,Option.map_some,Option.getD_some,nd_at hlt]
   rw[nd_at hlt]at hp⊢
   rw[show hgt c.l tp-(n+1)=k by omega,←h1,hp]
   omega
theorem failM_setF (l:List Nd)(i:Int): ∃f,(failM l i).1=setF f l:=by
 unfold failM
 split
 ·exact⟨_,setF_none.symm⟩
 ·exact⟨_,rfl⟩
theorem setF_wayM {f:Nat→Bool}{l:List Nd}(a b:Nat):wayM (setF f l) a b=wayM l a b:=by
 unfold wayM
 simp only[setF_hgt,setF_anc]
theorem setF_wayI {f:Nat→Bool}{l:List Nd}(a b:Int):wayI (setF f l) a b=wayI l a b:=by
 unfold wayI
 rw[setF_onB,setF_wayM]
def moveM (c:Ch)(tp to:Nat):Ch×Bool:=
 let m:=meetM c.l tp to
 match upWay (downN (hgt c.l tp-hgt c.l m) c) (wayM c.l m to)with
 | (c2,none)=>(c2,true)
 | (c2,some i)=>(upAll (downN (hgt c.l c2.tip.toNat-hgt c.l m) {c2 with l:=(failM c2.l i).1}) (wayM c.l m tp),false)
theorem wayI_on {l:List Nd}(w:Wf l){a b:Nat}(hb:b<l.length)(ha:a<l.length)(h:On l a b):wayI l a b=wayM l a b:=by
 unfold wayI
 rw[if_pos ((onB_on ha hb).2 h)]
 rfl
theorem wayM_at {l:List Nd}(w:Wf l){a b k:Nat}(hb:b<l.length)(hk:k< (wayM l a b).length):On l (anc l b (hgt l a+1+k)) b∧anc l b (hgt l a+1+k)<l.length∧hgt l a+1+k≤hgt l b:=by
 rw[wayM_len]at hk
 exact⟨On.of w hb (by omega),w.anc_lt hb,by omega⟩
theorem ChW.failed {c:Ch}(h:ChW c)(i:Int):ChW {c with l:=(failM c.l i).1}:=by
 obtain⟨f,hf⟩:=failM_setF c.l i
 refine⟨by rw[hf];exact setF_wf h.wf,by rw[hf,setF_length];exact h.len,h.one,h.us,h.s1,h.s2⟩
theorem upWay_keep: ∀(r:List Int) (c:Ch),((upWay c r).1.r=c.r∧(upWay c r).1.l=c.l∧(upWay c r).1.bs=c.bs)
 | [],c=>⟨rfl,rfl,rfl⟩
 | i::r,c=>by
   rw[upWay]
   split
   ·obtain⟨h1,h2,h3⟩:=ups_r c i
    obtain⟨k1,k2,k3⟩:=upWay_keep r (ups c i)
    exact⟨k1.trans h1,k2.trans h2,k3.trans h3⟩
   ·exact⟨rfl,rfl,rfl⟩
section
variable {P:Program} {F:Fn}
set_option maxHeartbeats 16000000 in
theorem spec276 (ok:OkChain P F)(hc:CloneC P (F 256)){st:St}{cid:Nat}{c:Ch}{L:List Asn}(S:Sep (ChA cid c::L) st){tp:Nat}(h:ChOk c tp)(to:Nat)(hto:to<c.l.length)(hr: ∀k,On c.l k to→hasM c k=true):
  ACalls P (F 276) [.ptr (some (cid,0)),.int .i64 (to:Int)] st fun v st'=>v=.bool (moveM c tp to).2∧Sep (ChA cid (moveM c tp to).1::L) st':=by
 have okl:=ok.toOkLocate
 have oki:=okl.toOkIndexZ.toOkIndex
 refine shows_call ok.mixed ok.h276 (by simp[k276]) ?_
 simp only[k276]
 have w:=h.wf
 have hl:=h.len
 have htl:=h.lt
 obtain⟨m,hm⟩: ∃m,m=meetM c.l tp to:=⟨_,rfl⟩
 have hM:=meet_spec w htl hto
 rw[←hm]at hM
 obtain⟨D,hD⟩: ∃D,D=hgt c.l tp-hgt c.l m:=⟨_,rfl⟩
 have hDm:hgt c.l m≤hgt c.l tp:=hM.on1.1
 have hmt:anc c.l tp (hgt c.l m)=m:=hM.on1.2
 obtain⟨mo,tid,bid,uid,R⟩:=chRead S
 have T:=R.tree w.neNil
 have o1:=R.top
 have cl1:clI c.l c.tip=tp:=by rw[h.tip];unfold clI;omega
 have cl2:clI c.l (to:Int)=to:=by unfold clI;omega
 simp[St.seg,o1,cseg0,cseg4]
 refine still_call _ _ _ _ (by simpa using spec228 okl T w hl c.tip to) ?_
 rw[cl1,cl2,←hm,h.tip]
 simp
 clear R T o1
 have hkeep:=downN_keep c
 have htipN:=downN_tip w h.tip htl
 have hWN:=downN_W h.toChW
 refine vc_joinB (M:=fun env' st'=>Sep (ChA cid (downN D c)::L) st') ?_ ?_
 ·refine vc_loopJ (fun n env' st'=>∃d:Nat,d≤D∧n=D-d∧Sep (ChA cid (downN d c)::L) st') D
    ⟨0,by omega,by omega,S⟩ ?_
  clear S
  rintro J hJ n env1 st1 hsame ⟨d,hd,rfl,S⟩
  have g0:=(hsame.get 0 rfl).trans (by simp:_=V.ptr (some (cid,0)))
  have g6:=(hsame.get 6 rfl).trans (by simp:_=V.int .i64 (m:Int))
  clear hsame
  obtain⟨mo,tid,bid,uid,R⟩:=chRead S
  have o1:=R.top
  have ht:=htipN d (by omega)
  by_cases hdD:d<D
  ·have hne:¬(((anc c.l tp (hgt c.l tp-d):Nat)):Int)=m:=fun e=>by
     have e:anc c.l tp (hgt c.l tp-d)=m:=by omega
     have g1:=w.anc_hgt htl (h:=hgt c.l tp-d) (by omega)
     rw[e]at g1
     omega
   have hneb:((((anc c.l tp (hgt c.l tp-d):Nat)):Int) != m)=true:=by simpa using hne
   obtain⟨k1,k2,k3⟩:=hkeep d
   have hhas:hasM (downN d c) (downN d c).tip=true:=by
    unfold hasM
    rw[k3,ht]
    exact h.way _ (On.of w htl (by omega))
   obtain⟨b,hb1,hb2,hb3⟩:=(hWN d).txOf hhas
   rw[ht]at o1
   simp[g0,g6,St.seg,o1,cseg4,hneb]
   refine(spec277 ok hc S (hWN d).wf b _ hb1 hb2 hb3 (fun u hu=>(hWN d).usAt hu)).mono ?_
   intro v st2 S
   simp
   exact Round.mk (D-(d+1)) _ (by omega) (sub_self _) (hJ _ _ _ ⟨d+1,by omega,rfl,S⟩)
  ·have:d=D:=by omega
   subst this
   have e:anc c.l tp (hgt c.l tp-d)=m:=by rw[show hgt c.l tp-d=hgt c.l m by omega,hmt]
   rw[ht,e]at o1
   simp[g0,g6,St.seg,o1,cseg4]
   exact S
 clear S
 rintro env1 st1 hsame S
 have g0:=(hsame.get 0 rfl).trans (by simp:_=V.ptr (some (cid,0)))
 have g1:=(hsame.get 1 rfl).trans (by simp:_=V.int .i64 (to:Int))
 have g5:=(hsame.get 5 rfl).trans (by simp:_=V.int .i64 (tp:Int))
 have g6:=(hsame.get 6 rfl).trans (by simp:_=V.int .i64 (m:Int))
 clear hsame
 obtain⟨c1,hc1⟩: ∃c1,c1=downN D c:=⟨_,rfl⟩
 obtain⟨k1,k2,k3⟩:=hkeep D
 have hW1:=hWN D
 have ht1:=htipN D (by omega)
 rw[←hc1]at k1 k2 k3 hW1 ht1 S
 rw[show hgt c.l tp-D=hgt c.l m by omega,hmt]at ht1
 obtain⟨way,hway⟩: ∃way,way=wayM c.l m to:=⟨_,rfl⟩
 have hwl:way.length=hgt c.l to-hgt c.l m:=by rw[hway,wayM_len]
 have hmto:hgt c.l m≤hgt c.l to:=hM.on2.1
 have hbound:hgt c.l to<16384:=Nat.lt_of_lt_of_le (w.hgt_le hto |>fun h=>by omega) hl
 obtain⟨mo,tid,bid,uid,R⟩:=chRead S
 have o1:=R.top
 have T:=R.tree (by rw[k2];exact w.neNil)
 rw[k2]at T
 simp[g0,g1,g6,St.seg,o1,cseg0]
 refine(spec229 okl T w hl m to).mono ?_
 intro vw st2 S1
 rw[wayI_on w hto hM.lt hM.on2,←hway]at S1
 have S:=S1.ov S
 clear S1 R T o1
 have hwr:=(Sep.rd e1_len S).len
 simp[hwr]
 have hgoal:moveM c tp to=(match upWay c1 way with
   | (c2,none)=>(c2,true)
   | (c2,some i)=>(upAll (downN (hgt c.l c2.tip.toNat-hgt c.l m) {c2 with l:=(failM c2.l i).1}) (wayM c.l m tp),false)):=by
  rw[moveM,←hm,←hD,←hc1,←hway]
 refine vc_joinB (M:=fun env' st'=>(moveM c tp to).2=true∧Sep (ChA cid (moveM c tp to).1::L) st') ?_ ?_
 ·refine vc_loopJ (fun n env' st'=>∃(j:Nat) (c2:Ch),j≤way.length∧n=way.length-j∧env' 41=.int .i64 (j:Nat)∧upWay c2 (way.drop j)=upWay c1 way∧ChW c2∧c2.l=c.l∧c2.bs=c.bs∧c2.tip=(anc c.l to (hgt c.l m+j):Nat)∧Sep (Sl 1 e1 vw way::ChA cid c2::L) st') way.length
    ⟨0,c1,by omega,by omega,by simp,rfl,hW1,k2,k3,by rw[Nat.add_zero,hM.on2.2];exact ht1,S⟩ ?_
  clear S
  rintro J hJ n env2 st3 hsame ⟨j,c2,hj,rfl,h41,hup,hW2,hl2,hb2,ht2,S⟩
  have g0:=(hsame.get 0 rfl).trans (by simp[g0]:_=V.ptr (some (cid,0)))
  have g5:=(hsame.get 5 rfl).trans (by simp[g5]:_=V.int .i64 (tp:Int))
  have g6:=(hsame.get 6 rfl).trans (by simp[g6]:_=V.int .i64 (m:Int))
  have g39:=(hsame.get 39 rfl).trans (by simp:_=vw)
  have g40:=(hsame.get 40 rfl).trans (by simp:_=V.int .i64 (way.length:Int))
  clear hsame
  by_cases hjl:j<way.length
  ·have w1:IntKind.i64.wrap ((j:Int)+1)=(j:Int)+1:=wrap64 (by omega) (by omega)
   obtain⟨r1,r2,r3,r4⟩:=(Sep.rd e1_len S).row e1_len hjl
   obtain⟨x,hx⟩: ∃x,x=way[j]:=⟨_,rfl⟩
   rw[←hx]at r3
   have hxv:x=(anc c.l to (hgt c.l m+(j+1)):Nat):=by
    rw[hx]
    subst hway
    rw[wayM_get,Nat.add_assoc,Nat.add_comm 1 j]
   have hjw:j< (wayM c.l m to).length:=hway ▸hjl
   obtain⟨a1,a2,a3⟩:=wayM_at w (a:=m) hto hjw
   rw[Nat.add_assoc,Nat.add_comm 1 j]at a1 a2
   have hhas:hasM c2 x=true:=by
    unfold hasM
    rw[hb2,hxv]
    exact hr _ a1
   obtain⟨b,hb1,hb2',hb3⟩:=hW2.txOf hhas
   rw[List.drop_eq_getElem_cons hjl,←hx,upWay]at hup
   simp[g0,g39,g40,h41,hjl,r1,r3,e1]
   refine(spec278 ok hc S.swap hW2.wf x b _ hb1 hb2' hb3 hW2.s1 hW2.s2).mono ?_
   clear S r1 r2 r3 r4
   rintro v st4 ⟨rfl,S⟩
   have hfit:decide ((upE c2 x (txOf c2 x)).1=0)=fits1 c2 x:=rfl
   rw[hfit]
   have S:Sep (ChA cid (ups c2 x)::Sl 1 e1 vw way::L) st4:=S
   cases hfx:fits1 c2 x with
   | true=>
     rw[hfx,if_pos rfl]at hup
     obtain⟨u1,u2,u3⟩:=ups_r c2 x
     simp[h41,w1]
     exact Round.mk (way.length-(j+1)) _ (by omega) (sub_self _) (hJ _ _ _ ⟨j+1,ups c2 x,by omega,rfl,by simp,hup,hW2.ups x,u2.trans hl2,u3.trans hb2,by rw[ups_tip hfx,hxv],S.swap⟩)
   | false=>
     rw[hfx,if_neg (by decide)]at hup
     rw[ups_not hfx]at S
     obtain⟨mo,tid,bid,uid,R,hgrow⟩:=chGrow (P:=P) S
     have o1:=R.top
     simp[g0,St.seg,o1,cseg0]
     refine(hgrow (F 170) [.ptr (some (tid,0)),.int .i64 x] (fun _=>True) (failM c2.l x).1 (fun hp hT=>(spec170 oki hT hW2.wf hW2.len x).mono fun v s hh=>⟨trivial,hh.2⟩)).mono ?_
     clear R o1 hgrow S
     rintro v st5 ⟨-,S⟩
     obtain⟨c3,hc3⟩: ∃c3:Ch,c3={c2 with l:=(failM c2.l x).1}:=⟨_,rfl⟩
     rw[←hc3]at S
     obtain⟨fl,hfl⟩:=failM_setF c2.l x
     rw[hl2]at hfl
     have hl3:c3.l=setF fl c.l:=by rw[hc3];show(failM c2.l x).1=_;rw[hl2,hfl]
     have hW3:ChW c3:=by rw[hc3];exact hW2.failed x
     have w3:Wf c3.l:=hW3.wf
     have hb3':c3.bs=c.bs:=by rw[hc3];exact hb2
     obtain⟨t2,ht2'⟩: ∃t2,t2=anc c.l to (hgt c.l m+j):=⟨_,rfl⟩
     rw[←ht2']at ht2
     have ht3:c3.tip=t2:=by rw[hc3];exact ht2
     have ht2l:t2<c.l.length:=by rw[ht2'];exact w.anc_lt hto
     have ht3l:t2<c3.l.length:=by rw[hl3,setF_length];exact ht2l
     have hg2:hgt c.l t2=hgt c.l m+j:=by rw[ht2'];exact w.anc_hgt hto (by omega)
     have hon2:On c.l t2 to:=by rw[ht2'];exact On.of w hto (by omega)
     have hm2:anc c.l t2 (hgt c.l m)=m:=by
      rw[ht2',w.anc_anc hto (by omega) (by omega)]
      exact hM.on2.2
     have hkeep3:=downN_keep c3
     have htip3:=downN_tip w3 ht3 ht3l
     have hWN3:=downN_W hW3
     have hgs:hgt c3.l t2=hgt c.l m+j:=by rw[hl3,setF_hgt];exact hg2
     have hres:moveM c tp to=(upAll (downN j c3) (wayM c.l m tp),false):=by
      rw[hgoal,←hup]
      show(upAll (downN (hgt c.l c2.tip.toNat-hgt c.l m) {c2 with l:=(failM c2.l x).1}) (wayM c.l m tp),false)=_
      rw[←hc3,ht2,Int.toNat_natCast,hg2,Nat.add_sub_cancel_left]
     simp
     refine vc_joinB (M:=fun env' st'=>Sep (ChA cid (downN j c3)::L) st') ?_ ?_
     ·refine vc_loopJ (fun n env' st'=>∃d:Nat,d≤j∧n=j-d∧Sep (ChA cid (downN d c3)::L) st') j
        ⟨0,by omega,by omega,S.tail fun r h=>h.drop⟩ ?_
      clear S
      rintro J2 hJ2 n env3 st6 hsame ⟨d,hd,rfl,S⟩
      have g0:=(hsame.get 0 rfl).trans (by simp[g0]:_=V.ptr (some (cid,0)))
      have g6:=(hsame.get 6 rfl).trans (by simp[g6]:_=V.int .i64 (m:Int))
      clear hsame
      obtain⟨mo,tid,bid,uid,R⟩:=chRead S
      have o1:=R.top
      have ht:=htip3 d (by omega)
      rw[hgs,hl3,setF_anc]at ht
      by_cases hdj:d<j
      ·have hne:¬(((anc c.l t2 (hgt c.l m+j-d):Nat)):Int)=m:=fun e=>by
         have e:anc c.l t2 (hgt c.l m+j-d)=m:=by omega
         have g1:=w.anc_hgt ht2l (h:=hgt c.l m+j-d) (by omega)
         rw[e]at g1
         omega
       have hneb:((((anc c.l t2 (hgt c.l m+j-d):Nat)):Int) != m)=true:=by simpa using hne
       obtain⟨q1,q2,q3⟩:=hkeep3 d
       have hhas:hasM (downN d c3) (downN d c3).tip=true:=by
        unfold hasM
        rw[q3,hb3',ht]
        exact hr _ (On.trans w hto (On.of w ht2l (by omega)) hon2)
       obtain⟨b,hb1,hb2,hb3⟩:=(hWN3 d).txOf hhas
       rw[ht]at o1
       simp[g0,g6,St.seg,o1,cseg4,hneb]
       refine(spec277 ok hc S (hWN3 d).wf b _ hb1 hb2 hb3 (fun u hu=>(hWN3 d).usAt hu)).mono ?_
       intro v st7 S
       simp
       exact Round.mk (j-(d+1)) _ (by omega) (sub_self _) (hJ2 _ _ _ ⟨d+1,by omega,rfl,S⟩)
      ·have:d=j:=by omega
       subst this
       have e:anc c.l t2 (hgt c.l m+d-d)=m:=by rw[Nat.add_sub_cancel,hm2]
       rw[ht,e]at o1
       simp[g0,g6,St.seg,o1,cseg4]
       exact S
     clear S
     rintro env3 st6 hsame S
     have g0:=(hsame.get 0 rfl).trans (by simp[g0]:_=V.ptr (some (cid,0)))
     have g5:=(hsame.get 5 rfl).trans (by simp[g5]:_=V.int .i64 (tp:Int))
     have g6:=(hsame.get 6 rfl).trans (by simp[g6]:_=V.int .i64 (m:Int))
     clear hsame
     obtain⟨c4,hc4⟩: ∃c4,c4=downN j c3:=⟨_,rfl⟩
     obtain⟨q1,q2,q3⟩:=hkeep3 j
     have hW4:=hWN3 j
     rw[←hc4]at q1 q2 q3 hW4 S hres
     obtain⟨mo,tid,bid,uid,R⟩:=chRead S
     have o1:=R.top
     have T:=R.tree hW4.wf.neNil
     simp[g0,g5,g6,St.seg,o1,cseg0]
     refine(spec229 okl T hW4.wf hW4.len m tp).mono ?_
     intro vk st7 S1
     have hwk:wayI c4.l (m:Int) (tp:Int)=wayM c.l m tp:=by
      rw[q2,hl3,setF_wayI,wayI_on w htl hM.lt hM.on1]
     rw[hwk]at S1
     have S:=S1.ov S
     clear S1 R T o1
     obtain⟨wk,hwkd⟩: ∃wk,wk=wayM c.l m tp:=⟨_,rfl⟩
     rw[←hwkd]at S hres
     have hkr:=(Sep.rd e1_len S).len
     have hwkl:wk.length≤16384:=by
      rw[hwkd,wayM_len]
      have:=w.hgt_le htl
      omega
     simp[hkr]
     refine vc_joinB (M:=fun env' st'=>Sep (ChA cid (upAll c4 wk)::L) st') ?_ ?_
     ·refine vc_loopJ (fun n env' st'=>∃(k:Nat) (c5:Ch),k≤wk.length∧n=wk.length-k∧env' 70=.int .i64 (k:Nat)∧upAll c5 (wk.drop k)=upAll c4 wk∧ChW c5∧c5.bs=c.bs∧Sep (Sl 1 e1 vk wk::ChA cid c5::L) st') wk.length
        ⟨0,c4,by omega,by omega,by simp,rfl,hW4,q3.trans hb3',S⟩ ?_
      clear S
      rintro J3 hJ3 n env4 st8 hsame ⟨k,c5,hk,rfl,h70,hall,hW5,hb5,S⟩
      have g0:=(hsame.get 0 rfl).trans (by simp[g0]:_=V.ptr (some (cid,0)))
      have g68:=(hsame.get 68 rfl).trans (by simp:_=vk)
      have g69:=(hsame.get 69 rfl).trans (by simp:_=V.int .i64 (wk.length:Int))
      clear hsame
      by_cases hkl:k<wk.length
      ·have w4:IntKind.i64.wrap ((k:Int)+1)=(k:Int)+1:=wrap64 (by omega) (by omega)
       obtain⟨r1,r2,r3,r4⟩:=(Sep.rd e1_len S).row e1_len hkl
       obtain⟨y,hy⟩: ∃y,y=wk[k]:=⟨_,rfl⟩
       rw[←hy]at r3
       have hkw:k< (wayM c.l m tp).length:=hwkd ▸hkl
       obtain⟨a1,a2,a3⟩:=wayM_at w (a:=m) htl hkw
       have hyv:y=(anc c.l tp (hgt c.l m+1+k):Nat):=by
        rw[hy]
        subst hwkd
        rw[wayM_get]
       have hhas:hasM c5 y=true:=by
        unfold hasM
        rw[hb5,hyv]
        exact h.way _ a1
       obtain⟨b,hb1,hb2,hb3⟩:=hW5.txOf hhas
       rw[List.drop_eq_getElem_cons hkl,←hy,upAll]at hall
       simp[g0,g68,g69,h70,hkl,r1,r3,e1]
       refine(spec278 ok hc S.swap hW5.wf y b _ hb1 hb2 hb3 hW5.s1 hW5.s2).mono ?_
       clear S r1 r2 r3 r4
       rintro v st9 ⟨rfl,S⟩
       have S:Sep (ChA cid (ups c5 y)::Sl 1 e1 vk wk::L) st9:=S
       obtain⟨u1,u2,u3⟩:=ups_r c5 y
       simp[h70,w4]
       exact Round.mk (wk.length-(k+1)) _ (by omega) (sub_self _) (hJ3 _ _ _ ⟨k+1,ups c5 y,by omega,rfl,by simp,hall,hW5.ups y,u3.trans hb5,S.swap⟩)
      ·have:k=wk.length:=by omega
       subst this
       rw[List.drop_length,upAll]at hall
       rw[←hall]
       simp[g69,h70]
       exact S.drop
     clear S
     rintro env4 st8 hsame S
     rw[hres]
     simp
     exact⟨st8,sub_self _,S⟩
  ·have:j=way.length:=by omega
   subst this
   rw[List.drop_length,upWay]at hup
   rw[hgoal,←hup]
   simp[g40,h41]
   exact S.drop
 clear S
 rintro env2 st3 hsame ⟨hv,S⟩
 simp[hv]
 exact⟨st3,sub_self _,S⟩
end
theorem setF_on {f:Nat→Bool}{l:List Nd}{i k:Nat}:On (setF f l) i k↔On l i k:=by
 unfold On
 rw[setF_hgt,setF_hgt,setF_anc]
theorem On.parOr {l:List Nd}(w:Wf l){k i:Nat}(hi:i<l.length)(h:On l k i):k=i∨(0<i∧On l k (Ab.par l i)):=by
 rcases Nat.eq_or_lt_of_le h.1 with e | e
 ·left
  have:=h.2
  rw[e,anc_self]at this
  exact this.symm
 ·right
  have h0:0<i:=w.pos_of_hgt (i:=i) (by omega)
  have hp:=w.hgt_par h0 hi
  refine⟨h0,by omega,?_⟩
  rw[←w.anc_par hi (by omega)]
  exact h.2
theorem par_nd {l:List Nd}(w:Wf l){i:Nat}(h0:0<i)(hi:i<l.length):(nd l i).parent=(par l i:Nat):=by
 have hs:=w.succ i l[i] h0 (List.getElem?_eq_getElem hi)
 have hp:par l i=(nd l i).parent.toNat:=by
  simp only[par,List.getElem?_eq_getElem hi,Option.map_some,Option.getD_some,nd_at hi]
 rw[nd_at hi]at hp⊢
 rw[hp]
 omega
theorem readyGo_all {c:Ch}{tp:Nat}(h:ChOk c tp): ∀(f i:Nat),i<c.l.length→i≤f→readyGo c (f+1) i=true→∀k,On c.l k i→hasM c k=true
 | f,i,hi,hf,hg,k,hk=>by
   rw[readyGo]at hg
   cases ho:onB c.l (i:Int) c.tip with
   | true=>
     rw[h.tip]at ho
     have:=(onB_on hi h.lt).1 ho
     exact h.way k (On.trans h.wf h.lt hk this)
   | false=>
     rw[ho,if_neg (by decide)]at hg
     cases hh:hasM c (i:Int)with
     | false=>rw[hh,if_neg (by decide)]at hg;cases hg
     | true=>
       rw[hh,if_pos rfl,inI_nat hi]at hg
       rcases On.parOr h.wf hi hk with rfl | ⟨h0,hp⟩
       ·exact hh
       ·rw[par_nd h.wf h0 hi]at hg
        have hlt:=h.wf.par_lt h0 hi
        obtain⟨f',rfl⟩: ∃f',f=f'+1:=⟨f-1,by omega⟩
        exact readyGo_all h f' (par c.l i) (by omega) (by omega) hg k hp
 termination_by f=>f
theorem readyM_all {c:Ch}{tp i:Nat}(h:ChOk c tp)(hi:i<c.l.length)(hg:readyM c i=true): ∀k,On c.l k i→hasM c k=true:=readyGo_all h i i hi (Nat.le_refl _) hg
theorem upWay_some: ∀{r:List Int} {c c2:Ch} {i:Int},upWay c r=(c2,some i)→i∈r
 | [],c,c2,i,h=>by simp[upWay]at h
 | x::r,c,c2,i,h=>by
   rw[upWay]at h
   split at h
   ·exact List.mem_cons_of_mem _ (upWay_some h)
   ·simp only[Prod.mk.injEq,Option.some.injEq]at h
    rw[h.2]
    exact List.mem_cons_self
theorem upWay_W: ∀(r:List Int) {c:Ch},ChW c→ChW (upWay c r).1
 | [],c,h=>h
 | x::r,c,h=>by
   rw[upWay]
   split
   ·exact upWay_W r (h.ups x)
   ·exact h
theorem upWay_tip: ∀(r:List Int) {c c2:Ch},upWay c r=(c2,none)→c2.tip=r.getLast?.getD c.tip
 | [],c,c2,h=>by
   simp only[upWay,Prod.mk.injEq,and_true]at h
   rw[←h];rfl
 | x::r,c,c2,h=>by
   rw[upWay]at h
   split at h
   ·rename_i hf
    have:=upWay_tip r h
    rw[this,ups_tip hf]
    cases r with
    | nil=>rfl
    | cons y r=>simp[List.getLast?_cons]
   ·simp at h
theorem upWay_in: ∀(r:List Int) (c:Ch),(upWay c r).1.tip=c.tip∨(upWay c r).1.tip∈r
 | [],c=>.inl rfl
 | x::r,c=>by
   rw[upWay]
   split
   ·rename_i hf
    rcases upWay_in r (ups c x)with h | h
    ·right
     rw[h,ups_tip hf]
     exact List.mem_cons_self
    ·exact .inr (List.mem_cons_of_mem _ h)
   ·exact .inl rfl
theorem upAll_W: ∀(r:List Int) {c:Ch},ChW c→ChW (upAll c r)
 | [],c,h=>h
 | x::r,c,h=>upAll_W r (h.ups x)
theorem upAll_keep: ∀(r:List Int) (c:Ch),(upAll c r).r=c.r∧(upAll c r).l=c.l∧(upAll c r).bs=c.bs
 | [],c=>⟨rfl,rfl,rfl⟩
 | x::r,c=>by
   obtain⟨h1,h2,h3⟩:=ups_r c x
   obtain⟨k1,k2,k3⟩:=upAll_keep r (ups c x)
   exact⟨k1.trans h1,k2.trans h2,k3.trans h3⟩
theorem upAll_tip: ∀(r:List Int) (c:Ch),(upAll c r).tip=c.tip∨(upAll c r).tip∈r
 | [],c=>.inl rfl
 | x::r,c=>by
   rcases upAll_tip r (ups c x)with h | h
   ·cases hf:fits1 c x with
    | true=>
      right
      rw[upAll,h,ups_tip hf]
      exact List.mem_cons_self
    | false=>
      left
      rw[upAll,h,ups_not hf]
   ·right
    exact List.mem_cons_of_mem _ h
theorem wayM_mem {l:List Nd}(w:Wf l){a b:Nat}(hb:b<l.length){x:Int}(h:x∈wayM l a b): ∃k:Nat,x=k∧On l k b∧k<l.length∧0<k:=by
 obtain⟨j,hj,rfl⟩:=List.mem_iff_getElem.1 h
 obtain⟨h1,h2,h3⟩:=wayM_at w hb hj
 rw[wayM_get]
 refine⟨_,rfl,h1,h2,?_⟩
 have:=w.anc_hgt hb h3
 exact w.pos_of_hgt (i:=anc l b (hgt l a+1+j)) (by omega)
theorem moveM_ok {c:Ch}{tp to:Nat}(h:ChOk c tp)(hto:to<c.l.length)(hr: ∀k,On c.l k to→hasM c k=true):
  (moveM c tp to).1.bs=c.bs∧(moveM c tp to).1.r=c.r∧
  (((moveM c tp to).2=true∧ChOk (moveM c tp to).1 to∧(moveM c tp to).1.l=c.l)∨
   ((moveM c tp to).2=false∧(∃x:Nat,On c.l x to∧0<x∧x<c.l.length∧(moveM c tp to).1.l=(failM c.l x).1)∧∃tp',ChOk (moveM c tp to).1 tp')):=by
 have w:=h.wf
 have htl:=h.lt
 obtain⟨m,hm⟩: ∃m,m=meetM c.l tp to:=⟨_,rfl⟩
 have hM:=meet_spec w htl hto
 rw[←hm]at hM
 have hDm:hgt c.l m≤hgt c.l tp:=hM.on1.1
 obtain⟨c1,hc1⟩: ∃c1,c1=downN (hgt c.l tp-hgt c.l m) c:=⟨_,rfl⟩
 obtain⟨k1,k2,k3⟩:=downN_keep c (hgt c.l tp-hgt c.l m)
 have hW1:=downN_W h.toChW (hgt c.l tp-hgt c.l m)
 have ht1:=downN_tip w h.tip htl (hgt c.l tp-hgt c.l m) (by omega)
 rw[←hc1]at k1 k2 k3 hW1 ht1
 rw[show hgt c.l tp-(hgt c.l tp-hgt c.l m)=hgt c.l m by omega,hM.on1.2]at ht1
 obtain⟨u1,u2,u3⟩:=upWay_keep (wayM c.l m to) c1
 have hWu:=upWay_W (wayM c.l m to) hW1
 have hmv:moveM c tp to=(match upWay c1 (wayM c.l m to)with
   | (c2,none)=>(c2,true)
   | (c2,some i)=>(upAll (downN (hgt c.l c2.tip.toNat-hgt c.l m) {c2 with l:=(failM c2.l i).1}) (wayM c.l m tp),false)):=by
  rw[moveM,←hm,←hc1]
  all_goals rfl
 cases hu:upWay c1 (wayM c.l m to)with
 | mk c2 o=>
   rw[hu]at hmv u1 u2 u3 hWu
   cases o with
   | none=>
     have hmv:moveM c tp to=(c2,true):=hmv
     rw[hmv]
     refine⟨u3.trans k3,u1.trans k1,.inl ⟨rfl,⟨hWu,?_,?_,?_⟩,u2.trans k2⟩⟩
     ·have ht:=upWay_tip _ hu
      rw[ht,ht1]
      by_cases hz:hgt c.l to=hgt c.l m
      ·have:(wayM c.l m to)=[]:=by
         apply List.eq_nil_of_length_eq_zero
         rw[wayM_len];omega
       rw[this]
       have e:=hM.on2.2
       rw[←hz,anc_self]at e
       rw[e];rfl
      ·have hlen:=wayM_len c.l m to
       have h2:=hM.on2.1
       rw[List.getLast?_eq_getElem?,List.getElem?_eq_getElem (by omega),Option.getD_some,wayM_get]
       have e:hgt c.l m+1+((wayM c.l m to).length-1)=hgt c.l to:=by omega
       rw[e,anc_self]
     ·show to<c2.l.length
      rw[u2,k2];exact hto
     ·intro k hk
      have hk:On c.l k to:=by
       have h2:c2.l=c.l:=u2.trans k2
       rw[h2]at hk
       exact hk
      have:=hr k hk
      unfold hasM at this⊢
      show(lk (k:Int) c2.bs).isSome=true
      rw[u3,k3]
      exact this
   | some i=>
     have hmv:moveM c tp to=(upAll (downN (hgt c.l c2.tip.toNat-hgt c.l m) {c2 with l:=(failM c2.l i).1}) (wayM c.l m tp),false):=hmv
     rw[hmv]
     obtain⟨c3,hc3⟩: ∃c3:Ch,c3={c2 with l:=(failM c2.l i).1}:=⟨_,rfl⟩
     rw[←hc3]
     have hW3:ChW c3:=by rw[hc3];exact hWu.failed i
     have hi:=upWay_some hu
     obtain⟨x,rfl,hx1,hx2,hx3⟩:=wayM_mem w hto hi
     have hl2:c2.l=c.l:=u2.trans k2
     have hb2:c2.bs=c.bs:=u3.trans k3
     have hr2:c2.r=c.r:=u1.trans k1
     have hl3:c3.l=(failM c.l x).1:=by rw[hc3];show(failM c2.l x).1=_;rw[hl2]
     have hb3:c3.bs=c.bs:=by rw[hc3];exact hb2
     have hr3:c3.r=c.r:=by rw[hc3];exact hr2
     obtain⟨c4,hc4⟩: ∃c4,c4=downN (hgt c.l c2.tip.toNat-hgt c.l m) c3:=⟨_,rfl⟩
     obtain⟨q1,q2,q3⟩:=downN_keep c3 (hgt c.l c2.tip.toNat-hgt c.l m)
     have hW4:=downN_W hW3 (hgt c.l c2.tip.toNat-hgt c.l m)
     rw[←hc4]at q1 q2 q3 hW4⊢
     obtain⟨a1,a2,a3⟩:=upAll_keep (wayM c.l m tp) c4
     have hW5:=upAll_W (wayM c.l m tp) hW4
     refine⟨by rw[a3,q3,hb3],by rw[a1,q1,hr3],.inr ⟨rfl,⟨x,hx1,hx3,hx2,by rw[a2,q2,hl3]⟩,?_⟩⟩
     obtain⟨fl,hfl⟩:=failM_setF c.l x
     have hl4:c4.l=setF fl c.l:=by rw[q2,hl3,hfl]
     have hl3':c3.l=setF fl c.l:=by rw[hl3,hfl]
     have ht2: ∃t2:Nat,c2.tip=t2∧t2<c.l.length∧hgt c.l m≤hgt c.l t2∧anc c.l t2 (hgt c.l m)=m:=by
      have hin:=upWay_in (wayM c.l m to) c1
      rw[hu]at hin
      rcases hin with e | e
      ·exact⟨m,by rw[←ht1];exact e,hM.lt,Nat.le_refl _,anc_self m⟩
      ·obtain⟨j,hj,e'⟩:=List.mem_iff_getElem.1 e
       obtain⟨y1,y2,y3⟩:=wayM_at w (a:=m) hto hj
       rw[wayM_get]at e'
       refine⟨_,e'.symm,y2,by rw[w.anc_hgt hto y3];omega,?_⟩
       rw[w.anc_anc hto (by omega) y3]
       exact hM.on2.2
     obtain⟨t2,hc2t,ht2l,hgm,ham⟩:=ht2
     have hc3t:c3.tip=t2:=by rw[hc3];exact hc2t
     have hd4:=downN_tip hW3.wf hc3t (by rw[hl3',setF_length];exact ht2l) (hgt c.l c2.tip.toNat-hgt c.l m) (by rw[hc2t,Int.toNat_natCast,hl3',setF_hgt];omega)
     rw[←hc4,hc2t,Int.toNat_natCast,hl3',setF_hgt,setF_anc,show hgt c.l t2-(hgt c.l t2-hgt c.l m)=hgt c.l m by omega,ham]at hd4
     have htip: ∃tp':Nat,(upAll c4 (wayM c.l m tp)).tip=tp'∧On c.l tp' tp∧tp'<c.l.length:=by
      rcases upAll_tip (wayM c.l m tp) c4 with e | e
      ·exact⟨m,by rw[e,hd4],hM.on1,hM.lt⟩
      ·obtain⟨k,hk1,hk2,hk3,hk4⟩:=wayM_mem w htl e
       exact⟨k,hk1,hk2,hk3⟩
     obtain⟨tp',p1,p2,p3⟩:=htip
     refine⟨tp',hW5,p1,by rw[a2,hl4,setF_length];exact p3,fun k hk=>?_⟩
     rw[a2,hl4,setF_on]at hk
     have:=h.way k (On.trans w htl hk p2)
     unfold hasM at this⊢
     rw[a3,q3,hb3]
     exact this
def pickGo (c:Ch):List Nat→Nat→Nat
 | [],b=>b
 | i::r,b=>pickGo c r (if(nd c.l i).failed=false∧0<cmpU (natU (nd c.l i).work) (natU (nd c.l b).work)∧readyM c i=true then i else b)
def pickM (c:Ch)(tp:Nat):Nat:=pickGo c (List.range' 0 c.l.length) tp
theorem pickGo_in (c:Ch): ∀(r:List Nat) (b:Nat),pickGo c r b=b∨(pickGo c r b∈r∧(nd c.l (pickGo c r b)).failed=false∧readyM c (pickGo c r b)=true)
 | [],b=>.inl rfl
 | i::r,b=>by
   rw[pickGo]
   by_cases h:(nd c.l i).failed=false∧0<cmpU (natU (nd c.l i).work) (natU (nd c.l b).work)∧readyM c i=true
   ·rw[if_pos h]
    rcases pickGo_in c r i with e | ⟨e1,e2⟩
    ·right
     rw[e]
     exact⟨List.mem_cons_self,h.1,h.2.2⟩
    ·exact .inr ⟨List.mem_cons_of_mem _ e1,e2⟩
   ·rw[if_neg h]
    rcases pickGo_in c r b with e | ⟨e1,e2⟩
    ·exact .inl e
    ·exact .inr ⟨List.mem_cons_of_mem _ e1,e2⟩
theorem pickM_in (c:Ch)(tp:Nat):pickM c tp=tp∨(pickM c tp<c.l.length∧(nd c.l (pickM c tp)).failed=false∧readyM c (pickM c tp)=true):=by
 rcases pickGo_in c (List.range' 0 c.l.length) tp with e | ⟨e1,e2⟩
 ·exact .inl e
 ·refine .inr ⟨?_,e2⟩
  have:=List.mem_range'_1.1 e1
  unfold pickM
  omega
def sound (l:List Nd):Nat:=(List.range l.length).countP fun k=>!(nd l k).failed
theorem countP_lt {p q:Nat→Bool}: ∀{l:List Nat} {b:Nat},b∈l→(∀a∈l,q a=true→p a=true)→p b=true→q b=false→l.countP q<l.countP p
 | x::l,b,hb,hpq,h1,h2=>by
   rw[List.countP_cons,List.countP_cons]
   have hle:l.countP q≤l.countP p:=List.countP_mono_left fun a ha=>hpq a (List.mem_cons_of_mem _ ha)
   rcases List.mem_cons.1 hb with rfl | hb
   ·rw[h1,h2]
    simp
    omega
   ·have:=countP_lt hb (fun a ha=>hpq a (List.mem_cons_of_mem _ ha)) h1 h2
    have hx:=hpq x List.mem_cons_self
    cases hq:q x with
    | false=>simp;split<;>omega
    | true=>rw[hx hq];simp;omega
theorem nd_setF {f:Nat→Bool}{l:List Nd}{k:Nat}(hk:k<l.length):(nd (setF f l) k).failed=((nd l k).failed||f k):=by
 rw[nd_at (by rw[setF_length];exact hk),setF_get hk,nd_at hk]
 cases hf:f k<;>simp
theorem sound_fail {l:List Nd}(w:Wf l){x b:Nat}(hx0:0<x)(hx:x<l.length)(hb:b<l.length)(ho:On l x b)(hs:(nd l b).failed=false):sound (failM l x).1<sound l:=by
 have hfm:(failM l x).1=setF (fun k=>onB l x k) l:=by
  unfold failM
  rw[if_neg (by omega)]
 rw[hfm]
 unfold sound
 rw[setF_length]
 refine countP_lt (b:=b) (List.mem_range.2 hb) (fun a ha hq=>?_) (by rw[hs];rfl) ?_
 ·rw[nd_setF (List.mem_range.1 ha)]at hq
  cases h:(nd l a).failed with
  | false=>rfl
  | true=>rw[h]at hq;simp at hq
 ·rw[nd_setF hb,(onB_on hx hb).2 ho]
  simp
def followN:Nat→Ch→Ch
 | 0,c=>c
 | n+1,c=>if pickM c c.tip.toNat=c.tip.toNat then c else if(moveM c c.tip.toNat (pickM c c.tip.toNat)).2=true then(moveM c c.tip.toNat (pickM c c.tip.toNat)).1 else followN n (moveM c c.tip.toNat (pickM c c.tip.toNat)).1
def followM (c:Ch):Ch:=followN (sound c.l+1) c
section
variable {P:Program} {F:Fn}
set_option maxHeartbeats 8000000 in
theorem spec274 (ok:OkChain P F)(hc:CloneC P (F 256)){st:St}{cid:Nat}{c:Ch}{L:List Asn}(S:Sep (ChA cid c::L) st){tp:Nat}(h:ChOk c tp):
  ACalls P (F 274) [.ptr (some (cid,0))] st fun v st'=>Sep (ChA cid (followM c)::L) st':=by
 have okl:=ok.toOkLocate
 have oki:=okl.toOkIndexZ.toOkIndex
 have okn:=oki.toOkHead.toOkNum
 refine shows_call ok.mixed ok.h274 (by simp[k274]) ?_
 simp only[k274]
 simp
 refine vc_loopJ (fun n env' st'=>∃(f:Nat) (c2:Ch) (tp2:Nat),n=sound c2.l∧sound c2.l≤f∧followN (f+1) c2=followM c∧ChOk c2 tp2∧Sep (ChA cid c2::L) st') (sound c.l)
  ⟨sound c.l,c,tp,rfl,Nat.le_refl _,rfl,h,S⟩ ?_
 clear S
 rintro J hJ n env1 st1 hsame ⟨f,c2,tp2,rfl,hf,hgo,h2,S⟩
 have g0:=(hsame.get 0 rfl).trans (by simp:_=V.ptr (some (cid,0)))
 clear hsame
 have w:=h2.wf
 have hl:=h2.len
 obtain⟨mo,tid,bid,uid,R⟩:=chRead S
 have o1:=R.top
 have T:=R.tree w.neNil
 rw[h2.tip]at o1
 simp[g0,St.seg,o1,cseg0,cseg4]
 refine(spec159 oki T).mono ?_
 rintro v st2 ⟨rfl,rfl⟩
 clear R T o1
 simp
 refine vc_joinB (M:=fun env' st'=>env' 2=.int .i64 (pickM c2 tp2:Nat)∧Sep (ChA cid c2::L) st') ?_ ?_
 ·refine vc_loopJ (fun n env' st'=>∃i b:Nat,i≤c2.l.length∧b<c2.l.length∧n=c2.l.length-i∧env' 14=.int .i64 (i:Nat)∧env' 2=.int .i64 (b:Nat)∧pickGo c2 (List.range' i (c2.l.length-i)) b=pickM c2 tp2∧Sep (ChA cid c2::L) st') c2.l.length
    ⟨0,tp2,by omega,h2.lt,by omega,by simp,by simp,rfl,S⟩ ?_
  clear S
  rintro J2 hJ2 n env2 st3 hsame ⟨i,b,hi,hb,rfl,h14,h3,hg,S⟩
  have g0:=(hsame.get 0 rfl).trans (by simp[g0]:_=V.ptr (some (cid,0)))
  have g13:=(hsame.get 13 rfl).trans (by simp:_=V.int .i64 (c2.l.length:Int))
  clear hsame
  by_cases hlt:i<c2.l.length
  ·rw[show c2.l.length-i=(c2.l.length-(i+1))+1 by omega,List.range'_succ,pickGo]at hg
   have w1:IntKind.i64.wrap ((i:Int)+1)=(i:Int)+1:=wrap64 (by omega) (by omega)
   obtain⟨mo,tid,bid,uid,R⟩:=chRead S
   have o1:=R.top
   have T:=R.tree w.neNil
   simp[g0,g13,h14,hlt,St.seg,o1,cseg0]
   refine(spec161 oki T w i).mono ?_
   rintro v st4 ⟨rfl,rfl⟩
   rw[inI_nat hlt]
   clear R T o1
   simp
   intro i4 h4
   have S:=S.new h4 (.cells z108_9b14)
   have hz:z108_9b14.length=108:=rfl
   have hst:=store_pt (sz:=108) (o:=0) S.get (v:=.agg (eNd (nd c2.l i))) (vs:=eNd (nd c2.l i)) rfl (eNd_len _) (by rw[hz];omega)
   rw[show spliceV z108_9b14 0 (eNd (nd c2.l i))=eNd (nd c2.l i) by simp[spliceV,eNd_len,hz]]at hst
   have S:=S.set (.cells (eNd (nd c2.l i)))
   simp[hst]at S⊢
   clear hst
   generalize st4.upd i4 _=st5 at S⊢
   have o4:=S.get
   have hfl7:=nseg107 (nd c2.l i)
   obtain⟨mo,tid,bid,uid,R⟩:=chRead S.drop
   have o1:=R.top
   have T:=R.tree w.neNil
   simp[St.seg,o4,hfl7]
   cases hfl:(nd c2.l i).failed with
   | true=>
     rw[if_neg (by rw[hfl];rintro⟨h,-⟩;cases h)]at hg
     simp[hfl,h14,w1]
     exact Round.mk (c2.l.length-(i+1)) _ (by omega) (sub_self _) (hJ2 _ _ _ ⟨i+1,b,by omega,hb,rfl,by simp,by simp[h3],hg,S.drop⟩)
   | false=>
     have hw:=osegWork (nd c2.l i)
     have hwb:=osegWork (nd c2.l b)
     have ew: ∀x,V.agg (eU x)=nU x:=fun x=>rfl
     simp[hfl,g0,h3,o1,cseg0,St.seg,o4,hw]
     refine still_call _ _ _ _ (by simpa using spec161 oki T w b) ?_
     rw[inI_nat hb]
     have hfw:fldV true 103 4 (V.agg (eNd (nd c2.l b)))=some (nU (natU (nd c2.l b).work)):=by
      show(segOf _ 103 4).bind (packV true)=_
      rw[hwb];rfl
     simp[hfw,ew]
     refine still_call _ _ _ _ (by simpa[ew]using spec106 okn st5 (natU (nd c2.l i).work) (natU (nd c2.l b).work)) ?_
     by_cases hcm:0<cmpU (natU (nd c2.l i).work) (natU (nd c2.l b).work)
     ·simp[hcm,g0]
      refine still_call _ _ _ _ (by simpa[g0]using spec275 ok R w h2.tip h2.lt i hlt) ?_
      cases hrd:readyM c2 i with
      | true=>
        rw[if_pos ⟨hfl,hcm,hrd⟩]at hg
        simp[h14,w1]
        exact Round.mk (c2.l.length-(i+1)) _ (by omega) (sub_self _) (hJ2 _ _ _ ⟨i+1,i,by omega,hlt,rfl,by simp,by simp,hg,S.drop⟩)
      | false=>
        rw[if_neg (by rw[hrd];rintro⟨-,-,h⟩;cases h)]at hg
        simp[h14,w1]
        exact Round.mk (c2.l.length-(i+1)) _ (by omega) (sub_self _) (hJ2 _ _ _ ⟨i+1,b,by omega,hb,rfl,by simp,by simp[h3],hg,S.drop⟩)
     ·rw[if_neg (fun h=>hcm h.2.1)]at hg
      simp[hcm,h14,w1]
      exact Round.mk (c2.l.length-(i+1)) _ (by omega) (sub_self _) (hJ2 _ _ _ ⟨i+1,b,by omega,hb,rfl,by simp,by simp[h3],hg,S.drop⟩)
  ·have:i=c2.l.length:=by omega
   subst this
   rw[Nat.sub_self]at hg
   have hg:b=pickM c2 tp2:=hg
   simp[g13,h14]
   exact⟨by rw[h3,hg],S⟩
 clear S
 rintro env2 st3 hsame ⟨h3,S⟩
 have g0:=(hsame.get 0 rfl).trans (by simp[g0]:_=V.ptr (some (cid,0)))
 clear hsame
 have ht2:c2.tip.toNat=tp2:=by rw[h2.tip];exact Int.toNat_natCast _
 rw[followN,ht2]at hgo
 obtain⟨mo,tid,bid,uid,R⟩:=chRead S
 have o1:=R.top
 rw[h2.tip]at o1
 by_cases hp:pickM c2 tp2=tp2
 ·rw[if_pos hp]at hgo
  rw[hp]at h3
  simp[g0,h3,St.seg,o1,cseg4]
  rw[←hgo]
  exact⟨st3,sub_self _,S⟩
 ·rw[if_neg hp]at hgo
  rcases pickM_in c2 tp2 with e | ⟨e1,e2,e3⟩
  ·exact absurd e hp
  have hra:=readyM_all h2 e1 e3
  have hpb:(((pickM c2 tp2:Nat):Int)==(tp2:Int))=false:=beq_eq_false_iff_ne.2 (by omega)
  simp[g0,h3,St.seg,o1,cseg4,hpb]
  refine(spec276 ok hc S h2 (pickM c2 tp2) e1 hra).mono ?_
  clear S R o1
  rintro v st4 ⟨rfl,S⟩
  obtain⟨m1,m2,m3⟩:=moveM_ok h2 e1 hra
  rcases m3 with⟨m3,m4,m5⟩ | ⟨m3,⟨x,x1,x2,x3,x4⟩,tp',m4⟩
  ·rw[if_pos m3]at hgo
   rw[m3]
   simp
   rw[←hgo]
   exact⟨st4,sub_self _,S⟩
  ·rw[if_neg (by rw[m3];decide)]at hgo
   rw[m3]
   simp
   have hlt:=sound_fail w x2 x3 e1 x1 e2
   rw[←x4]at hlt
   obtain⟨f',rfl⟩: ∃f',f=f'+1:=⟨f-1,by omega⟩
   exact Round.mk _ _ hlt (sub_self _) (hJ _ _ _ ⟨f',_,tp',rfl,by omega,hgo,m4,S⟩)
end
def bodyM (c:Ch)(b:Blk1):Ch×Int×Int:=
 match findM c.l (hId b.hdr)with
 | none=>(c,-1,4)
 | some i=>
   if(nd c.l i).hdr≠b.hdr then(c,-1,4)
   else if(nd c.l i).failed=true then(c,-1,101)
   else if hasM c i=true then(c,-1,5)
   else if rootE b≠0 then(c,-1,rootE b)
   else if blkE b≠0 then({c with l:=(failM c.l i).1},-1,blkE b)
   else(followM {c with bs:=aSet (i:Int) (cloneB b) c.bs},i,0)
theorem eqL_hdr2 (x y:Hdr):eqL (eHdr x) (eHdr y)=some (decide (x=y)):=by
 have e: ∀h:Hdr,eHdr h=[w32 h.ver]++(eId h.prev++(eId h.root++([w32 h.time]++([w32 h.bits]++[w32 h.nonce])))):=fun h=>rfl
 rw[e x,e y,eqL_app _ _ _ _ _ _ (eqL_w32 x.ver y.ver) (eqL_app _ _ _ _ _ _ (eqL_id x.prev y.prev) (eqL_app _ _ _ _ _ _ (eqL_id x.root y.root) (eqL_app _ _ _ _ _ _ (eqL_w32 x.time y.time) (eqL_app _ _ _ _ _ _ (eqL_w32 x.bits y.bits) (eqL_w32 x.nonce y.nonce)))))]
 congr 1
 rw[Bool.eq_iff_iff]
 simp only[Bool.and_eq_true,decide_eq_true_eq]
 constructor
 ·rintro⟨h1,h2,h3,h4,h5,h6⟩
  cases x
  cases y
  simp_all
 ·rintro rfl
  simp
theorem eqK_hdr2 (x y:Hdr):eqK (.agg 68) (.agg (eHdr x)) (.agg (eHdr y))=some (decide (x=y)):=by simp[eqK,eHdr_len,eqL_hdr2]
theorem cloneT_ok {t:Tx1}(h:t.ok 100):(cloneT t).ok 100:=by
 refine⟨by simpa[cloneT]using h.1,h.2.1,fun x hx=>?_⟩
 obtain⟨y,hy,rfl⟩:=List.mem_map.1 hx
 exact h.2.2 y hy
theorem ChOk.more {c:Ch}{tp:Nat}(h:ChOk c tp)(i:Int)(b:Blk1)(t:Tx1)(hb:b.txs=[t])(ht:t.ok 100):ChOk {c with bs:=aSet i (cloneB b) c.bs} tp:=by
 refine⟨⟨h.wf,h.len,fun j b' hj=>?_,h.us,h.s1,h.s2⟩,h.tip,h.lt,fun k hk=>?_⟩
 ·have hj:lk j (aSet i (cloneB b) c.bs)=some b':=hj
  rw[lk_aSet]at hj
  split at hj
  ·cases hj
   exact⟨cloneT t,by simp[cloneB,hb],cloneT_ok ht⟩
  ·exact h.one j b' hj
 ·have:=h.way k hk
  unfold hasM at this⊢
  show(lk (k:Int) (aSet i (cloneB b) c.bs)).isSome=true
  rw[lk_aSet]
  split
  ·rfl
  ·exact this
section
variable {P:Program} {F:Fn}
set_option maxHeartbeats 8000000 in
theorem spec273 (ok:OkChain P F)(hc:CloneC P (F 256)){st:St}{cid:Nat}{c:Ch}{L:List Asn}(S:Sep (ChA cid c::L) st){tp:Nat}(h:ChOk c tp)(b:Blk1)(t:Tx1)(hb:b.txs=[t])(ht:t.ok 100):
  ACalls P (F 273) [.ptr (some (cid,0)),.agg (eBlk b)] st fun v st'=>v=.tup [.int .i64 (bodyM c b).2.1,.int .i64 (bodyM c b).2.2]∧Sep (ChA cid (bodyM c b).1::L) st':=by
 have okl:=ok.toOkLocate
 have okz:=okl.toOkIndexZ
 have oki:=okz.toOkIndex
 have okh:=oki.toOkHead
 have okc2:=ok.toOkCoins.toOkCheck2
 refine shows_call ok.mixed ok.h273 (by simp[k273]) ?_
 simp only[k273]
 have w:=h.wf
 have hsH:=bsegH b
 have hsA:=bsegAll b
 have hfH: ∀x,fldV true 0 68 (V.agg (eNd x))=some (.agg (eHdr x.hdr)):=fun x=>by
  show(segOf _ 0 68).bind (packV true)=_
  rw[osegHdr];rfl
 have hfF: ∀x,fldV false 107 1 (V.agg (eNd x))=some (.bool x.failed):=fun x=>by
  show(segOf _ 107 1).bind (packV false)=_
  rw[nseg107];rfl
 simp
 intro i3 h3
 have S:=S.new h3 (.cells (eBlk b))
 generalize st.upd i3 _=st1 at S⊢
 have o3:=S.get
 obtain⟨mo,tid,bid,uid,R⟩:=chRead S.drop
 have o1:=R.top
 have T:=R.tree w.neNil
 simp[St.seg,o1,o3,cseg0,hsH]
 refine still_call _ _ _ _ (by simpa using spec141 okh st1 b.hdr) ?_
 simp
 refine still_call _ _ _ _ (by simpa using spec162 okz T (hId b.hdr)) ?_
 have hbm:bodyM c b=(match findM c.l (hId b.hdr)with
  | none=>(c,-1,4)
  | some i=>
    if(nd c.l i).hdr≠b.hdr then(c,-1,4)
    else if(nd c.l i).failed=true then(c,-1,101)
    else if hasM c i=true then(c,-1,5)
    else if rootE b≠0 then(c,-1,rootE b)
    else if blkE b≠0 then({c with l:=(failM c.l i).1},-1,blkE b)
    else(followM {c with bs:=aSet (i:Int) (cloneB b) c.bs},i,0)):=rfl
 cases hfi:findM c.l (hId b.hdr)with
 | none=>
   rw[hfi]at hbm
   simp only at hbm
   rw[hbm]
   simp
   exact⟨st1,sub_self _,S.drop⟩
 | some i=>
   have hil:=findM_lt hfi
   rw[hfi]at hbm
   simp only at hbm
   simp
   simp[St.seg,o1,cseg0]
   refine still_call _ _ _ _ (by simpa using spec161 oki T w i) ?_
   rw[inI_nat hil]
   simp[hfH,St.seg,o3,hsH]
   rw[eqK_hdr2]
   by_cases hh:(nd c.l i).hdr=b.hdr
   ·rw[if_neg (by simp[hh])]at hbm
    simp[hh,St.seg,o1,cseg0]
    refine(spec161 oki T w i).mono ?_
    rintro v st2 ⟨rfl,rfl⟩
    rw[inI_nat hil]
    cases hfl:(nd c.l i).failed with
    | true=>
      rw[if_pos hfl]at hbm
      rw[hbm]
      simp[hfF,hfl]
      exact⟨st2,sub_self _,S.drop⟩
    | false=>
      rw[if_neg (by rw[hfl];decide)]at hbm
      simp[hfF,hfl]
      refine(spec268 ok R i).mono ?_
      rintro v st3 ⟨rfl,rfl⟩
      cases hha:hasM c (i:Int)with
      | true=>
        rw[if_pos hha]at hbm
        rw[hbm]
        simp
        exact⟨st3,sub_self _,S.drop⟩
      | false=>
        rw[if_neg (by rw[hha];decide)]at hbm
        simp[St.seg,o3,hsA]
        refine(spec252 okc2 st3 b (by rw[hb];simp) (fun t' ht'=>by rw[hb]at ht';rw[List.mem_singleton.1 ht'];exact ht)).mono ?_
        rintro v st4 ⟨rfl,hsub⟩
        clear R T o1
        have S:=S.sub hsub
        have o3:=S.get
        by_cases hre:rootE b=0
        ·rw[if_neg (by rw[hre];simp)]at hbm
         simp[hre,St.seg,o3,hsA]
         refine(spec253 okc2 st4 b (by rw[hb];simp) (fun t' ht'=>by
          rw[hb]at ht'
          rw[List.mem_singleton.1 ht']
          exact⟨Nat.le_trans ht.1 (by decide),Nat.le_trans ht.2.1 (by decide),fun x hx=>Nat.le_trans (ht.2.2 x hx) (by decide)⟩)).mono ?_
         rintro v st5 ⟨rfl,hsub⟩
         have S:=S.sub hsub
         have o3:=S.get
         by_cases hbe:blkE b=0
         ·rw[if_neg (by rw[hbe];simp)]at hbm
          obtain⟨tid,bid,uid,W⟩:=chOpen S.drop
          obtain⟨mo,R⟩:=ChR.at W
          have o1:=R.top
          simp[hbe,St.seg,o1,o3,cseg2,hsA]
          refine still_call _ _ _ _ (by simpa using spec271 ok st5 b (by rw[hb];simp) (fun t' ht'=>by rw[hb]at ht';rw[List.mem_singleton.1 ht'];exact ht)) ?_
          have hms:=mset_enc keyed_int (ev:=vBlk) R.bod (i:Int) (cloneB b)
          simp only[kInt]at hms
          have W3:=SetS.setL (i:=bid) (x:=.mp (encM kInt vBlk c.bs)) (W.tail (L':=pt bid (.mp (encM kInt vBlk c.bs))::TreeS tid c.r c.l::pt uid (.mp (encM kInt vUndo c.us))::L) fun r h=>h.pull 1) (.mp (encM kInt vBlk (aSet (i:Int) (cloneB b) c.bs)))
          obtain⟨st6,hst6⟩: ∃s,s=st5.upd bid (.mp (encM kInt vBlk (aSet (i:Int) (cloneB b) c.bs))):=⟨_,rfl⟩
          rw[←hst6]at W3 hms
          have S6:Sep (ChA cid {c with bs:=aSet (i:Int) (cloneB b) c.bs}::L) st6:=chClose (c:={c with bs:=aSet (i:Int) (cloneB b) c.bs}) (W3.tail fun r h=>h.swap)
          simp[hms]
          refine(spec274 ok hc S6 (h.more i b t hb ht)).mono ?_
          intro v st7 S7
          rw[hbm]
          simp
          exact⟨st7,sub_self _,S7⟩
         ·rw[if_pos hbe]at hbm
          have hbb:(blkE b != 0)=true:=by simpa using hbe
          obtain⟨mo,tid,bid,uid,R,hgrow⟩:=chGrow (P:=P) S.drop
          have o1:=R.top
          simp[hbb,hbe,St.seg,o1,cseg0]
          refine(hgrow (F 170) [.ptr (some (tid,0)),.int .i64 (i:Int)] (fun _=>True) (failM c.l i).1 (fun hp hT=>(spec170 oki hT w h.len i).mono fun v s hh=>⟨trivial,hh.2⟩)).mono ?_
          rintro v st6 ⟨-,S6⟩
          rw[hbm]
          simp
          exact⟨st6,sub_self _,S6⟩
        ·rw[if_pos hre]at hbm
         have hrb:(rootE b != 0)=true:=by simpa using hre
         rw[hbm]
         simp[hrb,hre]
         exact⟨st4,sub_self _,S.drop⟩
   ·rw[if_pos hh]at hbm
    rw[hbm]
    simp[hh]
    exact⟨st1,sub_self _,S.drop⟩
end
theorem chainGo_all (r:Rl)(m:UInt8): ∀(n h:Nat) (out:List Blk1),out≠[]→
  ∃l:List Blk1,chainGo r m n h out=out++l∧l.length≤n∧∀k,k<l.length→∃p b:Blk1,(out++l)[out.length+k-1]? =some p∧(out++l)[out.length+k]? =some b∧b=growB r p.hdr (h+k) m []∧(growR r p.hdr (h+k) m []).2=true
 | 0,h,out,_=>⟨[],by simp[chainGo],by simp,fun k hk=>by cases hk⟩
 | n+1,h,out,ho=>by
   by_cases hg:(growR r (lastH out) h m []).2=true
   ·obtain⟨l,h1,h2,h3⟩:=chainGo_all r m n (h+1) (out++[growB r (lastH out) h m []]) (by simp)
    refine⟨growB r (lastH out) h m []::l,by rw[chainGo,if_pos hg,h1];simp,by simp;omega,fun k hk=>?_⟩
    have hpos:0<out.length:=List.length_pos_iff.2 ho
    cases k with
    | zero=>
      have hlast:=lastH_at (out:=out) (i:=out.length-1) (by omega) (by omega)
      refine⟨out[out.length-1],growB r (lastH out) h m [],?_,?_,?_,?_⟩
      ·rw[List.getElem?_append_left (by omega),List.getElem?_eq_getElem (by omega)];rfl
      ·rw[List.getElem?_append_right (by omega)];simp
      ·rw[hlast];rfl
      ·rw[hlast]at hg;exact hg
    | succ k=>
      obtain⟨p,b,q1,q2,q3,q4⟩:=h3 k (by rw[List.length_cons]at hk;omega)
      rw[List.append_assoc,List.length_append,List.length_singleton]at q1 q2
      refine⟨p,b,?_,?_,?_,?_⟩
      ·rw[←q1,List.singleton_append];congr 1;omega
      ·rw[←q2,List.singleton_append];congr 1;omega
      ·rw[q3];congr 1;omega
      ·rw[←q4];congr 2;omega
   ·exact⟨[],by rw[chainGo,if_neg hg];simp,by simp,fun k hk=>by cases hk⟩
structure HonB (work:Int) (m:UInt8) (n:Nat) (bs:List Blk1):Prop where
 le:bs.length≤n+1
 gen:bs[0]? =some genB
 next: ∀k,k+1<bs.length→∃p b:Blk1,bs[k]? =some p∧bs[k+1]? =some b∧b=growB (rulesM work) p.hdr (k+1) m []∧(growR (rulesM work) p.hdr (k+1) m []).2=true
theorem honB (n:Nat)(work:Int)(m:UInt8):HonB work m n (chainM (rulesM work) genB (n:Int) m):=by
 have hc:chainM (rulesM work) genB (n:Int) m=chainGo (rulesM work) m n 1 [genB]:=by rw[chainM,Int.toNat_natCast]
 obtain⟨l,k1,k2,k3⟩:=chainGo_all (rulesM work) m n 1 [genB] (by simp)
 refine⟨by rw[hc,k1];simp;omega,by rw[hc,k1];rfl,fun k hk=>?_⟩
 rw[hc,k1,List.length_append,List.length_singleton]at hk
 obtain⟨p,b,q1,q2,q3,q4⟩:=k3 k (by omega)
 rw[hc,k1]
 refine⟨p,b,?_,?_,?_,?_⟩
 ·rw[←q1];congr 1;simp
 ·rw[←q2];congr 1;simp;omega
 ·rw[q3,Nat.add_comm]
 ·rw[Nat.add_comm];exact q4
theorem growB_facts {r:Rl}{p:Hdr}{h:Nat}{m:UInt8}(hg:(growR r p h m []).2=true):(growB r p h m []).hdr.prev=hId p∧(growB r p h m []).hdr.root=(rootM (rowsIds [firstM r.subsidy h m])).1∧
  (growB r p h m []).hdr.time=p.time+BitVec.ofInt 32 r.spacing∧(growB r p h m []).hdr.bits=p.bits∧provedN (growB r p h m []).hdr r.limit=0∧(growB r p h m []).txs=[firstM r.subsidy h m]∧(growB r p h m []).tk=.full:=by
 unfold growR at hg
 cases hm:mineN (preM r p [firstM r.subsidy h m]) r.limit 4096 with
 | none=>rw[hm]at hg;cases hg
 | some x=>
   obtain⟨h1,h2,h3,h4,h5,h6⟩:=mineN_some hm
   have e:(growB r p h m []).hdr=x:=by
    show(growR r p h m []).1=x
    unfold growR
    rw[hm]
   rw[e]
   exact⟨h2,h3,h4,h5,h6,rfl,rfl⟩
theorem hon_root (h:Nat)(m:UInt8):rootM (rowsIds [firstM 50 h m])=(txIdM (firstM 50 h m),false):=by
 show rootM [txIdM (firstM 50 h m)]=_
 have:rootM [txIdM (firstM 50 h m)]=([txIdM (firstM 50 h m)].headD id0,false):=rootF_done _ _ _ (by simp)
 rw[this]
 rfl
theorem hon_txM (h:Nat)(m:UInt8):txM (firstM 50 h m) true=0:=by
 have h1:sumM [⟨50,sha [m]⟩]=(50,true):=by simp[sumM,sumGo]
 simp[txM,firstM,insGo,In1.pt,makerP,h1]
theorem hon_txlen (h:Nat)(m:UInt8):(txB (firstM 50 h m)).length=82:=by
 rw[txB_first]
 simp only[List.length_cons,List.length_append,List.length_replicate,outV_len]
 rfl
theorem hon_blk (x:Hdr)(h:Nat)(m:UInt8)(hr:x.root=txIdM (firstM 50 h m)):blkE ⟨x,.full,[firstM 50 h m]⟩=0∧rootE ⟨x,.full,[firstM 50 h m]⟩=0:=by
 have c1:(countB (BitVec.ofNat 64 1)).length=1:=by decide
 have ht:=hon_txlen h m
 have hro:=hon_root h m
 have hb:(blkB ⟨x,.full,[firstM 50 h m]⟩).length=163:=by simp[blkB,hBytes_len,c1,ht]
 have hre:rootE ⟨x,.full,[firstM 50 h m]⟩=0:=by
  rw[rootE,if_neg]
  rintro(⟨t,h1,h2⟩ | h1 | h1)
  ·rw[List.mem_singleton.1 h1,ht]at h2
   cases h2
  ·rw[hro]at h1;cases h1
  ·rw[hro]at h1;exact h1 hr.symm
 refine⟨?_,hre⟩
 unfold blkE
 rw[if_neg (by simp),if_neg (by simp[txsE,hon_txM]),if_neg (by rw[hb];decide),hre]
theorem honTgt:workN ((tgt 545259519#32).getD 0)=2:=by rw[easy_tgt];decide+kernel
structure HonT (bs:List Blk1) (k:Nat) (l:List Nd):Prop where
 wf:Wf l
 len:l.length=k+1
 at_: ∀(j:Nat) (hj:j<l.length),∃b:Blk1,bs[j]? =some b∧l[j].hdr=b.hdr∧l[j].id=hId b.hdr∧l[j].failed=false∧l[j].height=j∧l[j].parent=(j:Int)-1∧l[j].work=2*(j+1)∧b.hdr.bits=545259519#32∧b.hdr.time=BitVec.ofNat 32 (10*j)
theorem honT_gen {work:Int}{m:UInt8}{n:Nat}{bs:List Blk1}(H:HonB work m n bs):HonT bs 0 (newM (rulesM work)):=by
 refine⟨newM_wf _,rfl,fun j hj=>?_⟩
 have:j=0:=by have:j<1:=hj;omega
 subst this
 refine⟨genB,H.gen,rfl,rfl,rfl,rfl,rfl,?_,rfl,rfl⟩
 show workN ((tgt 545259519#32).getD 0)=2
 exact honTgt
theorem hon_next {work:Int}{m:UInt8}{n k:Nat}{bs:List Blk1}(H:HonB work m n bs)(hk:k+1<bs.length): ∃p b:Blk1,bs[k]? =some p∧bs[k+1]? =some b∧b=⟨b.hdr,.full,[firstM 50 (k+1) m]⟩∧
  b.hdr.root=txIdM (firstM 50 (k+1) m)∧provedN b.hdr 545259519#32=0∧b.hdr.prev=hId p.hdr∧b.hdr.bits=p.hdr.bits∧b.hdr.time=p.hdr.time+BitVec.ofInt 32 10:=by
 obtain⟨p,b,hp,hb,e,hg⟩:=H.next k hk
 obtain⟨g1,g2,g3,g4,g5,g6,g7⟩:=growB_facts hg
 rw[←e]at g1 g2 g3 g4 g5 g6 g7
 refine⟨p,b,hp,hb,?_,?_,g5,g1,g4,g3⟩
 ·cases b
  simp only at g6 g7
  rw[g6,g7]
  rfl
 ·rw[g2]
  show(rootM (rowsIds [firstM 50 (k+1) m])).1=_
  rw[hon_root]
theorem honT_add {work:Int}{m:UInt8}{n k:Nat}{bs:List Blk1}{l:List Nd}(H:HonB work m n bs)(T:HonT bs k l)(hk:k+1<bs.length)(hn:n≤40){b:Blk1}(hb:bs[k+1]? =some b)(hfind1:findM l (hId b.hdr)=none):
  addM (rulesM work) l b.hdr 1099511627776=(l++[ndOf l b.hdr k],((k+1:Nat):Int),0)∧HonT bs (k+1) (l++[ndOf l b.hdr k]):=by
 obtain⟨p,b',hp,hb',hbe,hro,g5,g1,g4,g3⟩:=hon_next H hk
 rw[hb]at hb'
 cases hb'
 have hkl:k<l.length:=by rw[T.len];omega
 obtain⟨p',a1,a2,a3,a4,a5,a6,a7,a8,a9⟩:=T.at_ k hkl
 rw[hp]at a1
 cases a1
 have hbits:b.hdr.bits=545259519#32:=by rw[g4];exact a8
 have htime:b.hdr.time=BitVec.ofNat 32 (10*(k+1)):=by
  have hle:=H.le
  rw[g3,a9]
  apply BitVec.eq_of_toNat_eq
  simp
  omega
 have hnd:nd l k=l[k]:=nd_at hkl
 have hle:=H.le
 have hfind2:findM l b.hdr.prev=some k:=by
  rw[g1,←a3,←hnd]
  exact findM_end (by rw[T.len])
 have hmed:medianM l k<b.hdr.time:=by
  have:=middle_mem (timesM_ne (n:=10) hkl)
  obtain⟨j,hj,e'⟩:=timesM_mem this
  obtain⟨q,b1,b2,b3,b4,b5,b6,b7,b8,b9⟩:=T.at_ j hj
  show middle32 (timesM l (10+1) k)<_
  rw[e',b2,b9,htime,BitVec.lt_def,BitVec.toNat_ofNat,BitVec.toNat_ofNat,Nat.mod_eq_of_lt (by rw[T.len]at hj;omega),Nat.mod_eq_of_lt (by omega)]
  rw[T.len]at hj
  omega
 have hfit:fitsM (rulesM work) l b.hdr k 1099511627776=0:=fits_ok hkl g5 (by rw[hnd];exact a4) (by
  rw[hbits]
  have:nextM (rulesM work) l (k:Nat)=(nd l k).hdr.bits:=by simp[nextM,rulesM]
  rw[this,hnd,a2,a8]) hmed (by rw[htime,BitVec.toNat_ofNat,Nat.mod_eq_of_lt (by omega)];omega)
 refine⟨?_,?_⟩
 ·rw[addM_ok hfind1 hfind2 hfit (by rw[T.len];omega),T.len]
 ·refine⟨ndOf_wf T.wf hkl,by simp[T.len],fun j hj=>?_⟩
  by_cases hjl:j<l.length
  ·rw[List.getElem_append_left hjl]
   exact T.at_ j hjl
  ·have:j=k+1:=by rw[List.length_append,List.length_singleton,T.len]at hj;rw[T.len]at hjl;omega
   subst this
   rw[List.getElem_append_right (by rw[T.len];exact Nat.le_refl _)]
   have e1: ∀(x:Nd) (h:k+1-l.length< [x].length),[x][k+1-l.length]'h=x:=fun x h=>by simp[T.len]
   rw[e1]
   refine⟨b,hb,rfl,rfl,rfl,?_,?_,?_,hbits,htime⟩
   ·show hgt l k+1=k+1
    rw[hgt_at hkl,a5]
   ·show((k:Nat):Int)=((k+1:Nat):Int)-1
    omega
   ·show workN ((tgt b.hdr.bits).getD 0)+(nd l k).work=_
    rw[hbits,honTgt,hnd,a7]
    omega
theorem txB_clone (t:Tx1):txB (cloneT t)=txB t:=by
 unfold txB cloneT
 simp only[List.length_map,List.flatMap_map]
 rfl
theorem txId_clone (t:Tx1):txIdM (cloneT t)=txIdM t:=by unfold txIdM;rw[txB_clone]
theorem pickGo_app (c:Ch): ∀(r s:List Nat) (b:Nat),pickGo c (r++s) b=pickGo c s (pickGo c r b)
 | [],s,b=>rfl
 | i::r,s,b=>pickGo_app c r s _
theorem pickGo_stay (c:Ch): ∀(r:List Nat) (b:Nat),(∀i∈r,¬((nd c.l i).failed=false∧0<cmpU (natU (nd c.l i).work) (natU (nd c.l b).work)∧readyM c i=true))→pickGo c r b=b
 | [],b,_=>rfl
 | i::r,b,h=>by
   rw[pickGo,if_neg (h i List.mem_cons_self)]
   exact pickGo_stay c r b fun j hj=>h j (List.mem_cons_of_mem _ hj)
theorem cmpU_small {a b:Nat}(ha:a<1000)(hb:b<1000):0<cmpU (natU a) (natU b)↔b<a:=by
 have h256:(1000:Nat)<2 ^ 256:=by decide+kernel
 have ea:(natU a).toNat=a:=natU_nat (Nat.lt_trans ha h256)
 have eb:(natU b).toNat=b:=natU_nat (Nat.lt_trans hb h256)
 unfold cmpU
 rw[ea,eb]
 by_cases h1:a<b
 ·rw[if_pos h1]
  omega
 ·rw[if_neg h1]
  by_cases h2:natU a=natU b
  ·rw[if_pos h2]
   have:a=b:=by rw[←ea,←eb,h2]
   omega
  ·rw[if_neg h2]
   have:a≠b:=fun e=>h2 (by rw[e])
   omega
def honId (m:UInt8)(j:Nat):Id:=if j=0 then txIdM (firstM 50 0 0)else txIdM (firstM 50 j m)
theorem honId_ne (m:UInt8){i j:Nat}(hi:i≤40)(hj:j≤40)(h:i<j):honId m i≠honId m j:=by
 have hp:=txs_all m
 rw[List.pairwise_cons]at hp
 have hj0:j≠0:=by omega
 unfold honId
 rw[if_neg hj0,txId_W j m]
 by_cases hi0:i=0
 ·subst hi0
  rw[if_pos rfl,txId_W 0 0]
  intro e
  refine hp.1 _ (List.mem_map.2 ⟨j,List.mem_range'_1.2 ⟨by omega,by omega⟩,rfl⟩) ?_
  exact idV_a e
 ·rw[if_neg hi0,txId_W i m]
  intro e
  have h2:=List.pairwise_iff_getElem.1 hp.2 (i-1) (j-1) (by simp;omega) (by simp;omega) (by omega)
  rw[List.getElem_map,List.getElem_map,List.getElem_range',List.getElem_range']at h2
  rw[show 1+1*(i-1)=i by omega,show 1+1*(j-1)=j by omega]at h2
  exact h2 (idV_a e)
structure HonC (work:Int) (m:UInt8) (bs:List Blk1) (k:Nat) (c:Ch):Prop where
 ok:ChOk c k
 r:c.r=rulesM work
 tree:HonT bs k c.l
 has: ∀j:Nat,hasM c j=true↔j≤k
 cm: ∀e∈c.cm,∃j,j≤k∧e.1=(honId m j,0#32)
theorem lk_noKey {K A:Type}[DecidableEq K]{k:K}: ∀{l:List (K×A)},(∀e∈l,e.1≠k)→lk k l=none
 | [],_=>rfl
 | p::l,h=>by
   unfold lk
   rw[List.lookup_cons]
   have:(k==p.1)=false:=by
    have:=h p List.mem_cons_self
    simpa using fun e=>this e.symm
   rw[this]
   exact lk_noKey fun e he=>h e (List.mem_cons_of_mem _ he)
theorem mem_aSet_any {K A:Type}[DecidableEq K]{i:K}{v:A}{e:K×A}: ∀{l:List (K×A)},e∈aSet i v l→e=(i,v)∨e∈l
 | [],h=>.inl (List.mem_singleton.1 h)
 | p::l,h=>by
   rw[aSet]at h
   split at h
   ·rcases List.mem_cons.1 h with h | h
    ·exact .inl h
    ·exact .inr (List.mem_cons_of_mem _ h)
   ·rcases List.mem_cons.1 h with h | h
    ·exact .inr (h ▸List.mem_cons_self)
    ·rcases mem_aSet_any h with h | h
     ·exact .inl h
     ·exact .inr (List.mem_cons_of_mem _ h)
theorem honId_at (m:UInt8){k:Nat}(hk:0<k):honId m k=txIdM (firstM 50 k m):=by
 unfold honId
 rw[if_neg (by omega)]
theorem HonT.nd {bs:List Blk1}{k:Nat}{l:List Nd}(T:HonT bs k l){j:Nat}(hj:j≤k): ∃b:Blk1,bs[j]? =some b∧(Ab.nd l j).hdr=b.hdr∧(Ab.nd l j).failed=false∧hgt l j=j∧(Ab.nd l j).work=2*(j+1):=by
 have hjl:j<l.length:=by rw[T.len];omega
 obtain⟨b,h1,h2,h3,h4,h5,h6,h7,h8,h9⟩:=T.at_ j hjl
 refine⟨b,h1,?_,?_,?_,?_⟩
 ·rw[nd_at hjl];exact h2
 ·rw[nd_at hjl];exact h4
 ·rw[hgt_at hjl];exact h5
 ·rw[nd_at hjl];exact h7
theorem HonT.lt {bs:List Blk1}{n:Nat}{l:List Nd}(T:HonT bs n l){i:Nat}(h:i≤n):i<l.length:=by rw[T.len];omega
theorem HonT.hgt {bs:List Blk1}{n:Nat}{l:List Nd}(T:HonT bs n l){i:Nat}(h:i≤n):hgt l i=i:=by
 obtain⟨b,-,-,-,h1,-⟩:=T.nd h
 exact h1
theorem HonT.par {bs:List Blk1}{n:Nat}{l:List Nd}(T:HonT bs n l){i:Nat}(h0:0<i)(h:i≤n):(Ab.nd l i).parent=((i-1:Nat):Int):=by
 obtain⟨b,h1,h2,h3,h4,h5,h6,h7,h8,h9⟩:=T.at_ i (T.lt h)
 rw[nd_at (T.lt h),h6]
 omega
theorem HonT.on {bs:List Blk1}{n:Nat}{l:List Nd}(T:HonT bs n l){i:Nat}: ∀{j:Nat},i≤j→j≤n→On l i j
 | 0,h,_=>by
   have:i=0:=by omega
   subst this
   exact On.refl' T.wf 0
 | j+1,h,hj=>by
   by_cases e:i=j+1
   ·subst e
    exact On.refl' T.wf _
   ·have hp:=T.par (i:=j+1) (by omega) hj
    have hp2:=par_nd T.wf (i:=j+1) (by omega) (T.lt hj)
    rw[hp]at hp2
    have e2:Ab.par l (j+1)=j:=by omega
    have hup:=On.up T.wf (k:=j+1) (by omega) (T.lt hj)
    rw[e2]at hup
    exact On.trans T.wf (T.lt hj) (T.on (j:=j) (by omega) (by omega)) hup
theorem HonT.anc {bs:List Blk1}{n:Nat}{l:List Nd}(T:HonT bs n l){i j:Nat}(h:i≤j)(hj:j≤n):anc l j i=i:=by
 have:=(T.on h hj).2
 rwa [T.hgt (by omega)]at this
theorem HonT.le {bs:List Blk1}{n:Nat}{l:List Nd}(T:HonT bs n l){i j:Nat}(hj:j≤n)(h:On l i j):i≤j:=On.le T.wf (T.lt hj) h
theorem HonT.way {bs:List Blk1}{n:Nat}{l:List Nd}(T:HonT bs n l){i j:Nat}(h:i≤j)(hj:j≤n):wayM l i j=(List.range' (i+1) (j-i)).map fun k:Nat=>(k:Int):=by
 unfold wayM
 rw[T.hgt (i:=i) (by omega),T.hgt (i:=j) hj,List.range'_eq_map_range,List.map_map]
 refine List.map_congr_left fun k hk=>?_
 have:=List.mem_range.1 hk
 show((Ab.anc l j (i+1+k):Nat):Int)=((i+1+k:Nat):Int)
 rw[T.anc (by omega) hj]
structure HonL (work:Int) (m:UInt8) (bs:List Blk1) (n tp:Nat) (c:Ch):Prop where
 ok:ChOk c tp
 r:c.r=rulesM work
 tree:HonT bs n c.l
 le:tp≤n
 tx: ∀j:Nat,0<j→hasM c (j:Int)=true→txOf c (j:Int)=cloneT (firstM 50 j m)
 cm: ∀e∈c.cm,∃j,j≤tp∧e.1=(honId m j,0#32)
theorem HonL.up {work:Int}{m:UInt8}{bs:List Blk1}{n tp:Nat}{c:Ch}(C:HonL work m bs n tp c)(hn:n≤40)(ht:tp<n)(hh:hasM c ((tp+1:Nat):Int)=true):
  fits1 c ((tp+1:Nat):Int)=true∧HonL work m bs n (tp+1) (ups c ((tp+1:Nat):Int)):=by
 have T:=C.tree
 have htxo:=C.tx (tp+1) (by omega) hh
 have hr2:c.r.subsidy=50:=by rw[C.r];rfl
 have hlk:lk (txIdM (firstM 50 (tp+1) m),BitVec.ofNat 32 0) c.cm=none:=lk_noKey fun e he=>by
  obtain⟨j,hj,e1⟩:=C.cm e he
  rw[e1]
  intro e2
  have e3:honId m j=txIdM (firstM 50 (tp+1) m):=(Prod.mk.inj e2).1
  rw[←honId_at m (k:=tp+1) (by omega)]at e3
  exact honId_ne m (by omega) (by omega) (by omega) e3
 obtain⟨hh',hhh⟩: ∃hh:Int,hh=((nd c.l (inI c.l ((tp+1:Nat):Int))).height:Int):=⟨_,rfl⟩
 have hup:upE c ((tp+1:Nat):Int) (cloneT (firstM 50 (tp+1) m))=(0,aSet (txIdM (firstM 50 (tp+1) m),BitVec.ofNat 32 0) (⟨50,sha [m]⟩,hh') c.cm):=by
  unfold upE
  rw[hr2,←hhh]
  have ho:(cloneT (firstM 50 (tp+1) m)).outs=[⟨50,sha [m]⟩]:=rfl
  have hs:sumM [⟨50,sha [m]⟩]=(50,true):=by simp[sumM,sumGo]
  unfold conn1
  rw[ho,hs,if_neg (by simp)]
  unfold layM
  rw[txId_clone,ho,if_neg]
  ·rfl
  ·simp[layHit,hlk]
 have hfits:fits1 c ((tp+1:Nat):Int)=true:=by
  unfold fits1
  rw[htxo,hup]
  rfl
 refine⟨hfits,?_⟩
 obtain⟨u1,u2,u3⟩:=ups_r c ((tp+1:Nat):Int)
 have hups:ups c ((tp+1:Nat):Int)={c with cm:=aSet (txIdM (firstM 50 (tp+1) m),BitVec.ofNat 32 0) (⟨50,sha [m]⟩,hh') c.cm,us:=aSet ((tp+1:Nat):Int) u00 c.us,tip:=((tp+1:Nat):Int)}:=by
  unfold ups upC
  rw[htxo,hup,if_pos rfl]
 have hhas: ∀i:Int,hasM (ups c ((tp+1:Nat):Int)) i=hasM c i:=fun i=>by unfold hasM;rw[u3]
 refine⟨⟨C.ok.toChW.ups _,ups_tip hfits,by rw[u2];exact T.lt (by omega),fun k hk=>?_⟩,u1.trans C.r,by rw[u2];exact T,by omega,fun j h0 hj=>?_,fun e he=>?_⟩
 ·rw[u2]at hk
  have hkl:=T.le (by omega) hk
  rw[hhas]
  by_cases e:k=tp+1
  ·subst e
   exact hh
  ·exact C.ok.way k (T.on (by omega) (by omega))
 ·rw[hhas]at hj
  have:=C.tx j h0 hj
  unfold txOf at this⊢
  rw[u3]
  exact this
 ·rw[hups]at he
  rcases mem_aSet_any he with rfl | he
  ·exact⟨tp+1,Nat.le_refl _,by rw[honId_at m (by omega)]⟩
  ·obtain⟨j,hj,e1⟩:=C.cm e he
   exact⟨j,by omega,e1⟩
theorem HonL.upN {work:Int}{m:UInt8}{bs:List Blk1}{n:Nat}(hn:n≤40): ∀(d:Nat) {tp:Nat} {c:Ch},HonL work m bs n tp c→tp+d≤n→(∀k:Nat,tp<k→k≤tp+d→hasM c (k:Int)=true)→
  ∃c2,upWay c ((List.range' (tp+1) d).map fun k:Nat=>(k:Int))=(c2,none)∧HonL work m bs n (tp+d) c2∧c2.bs=c.bs∧c2.l=c.l
 | 0,tp,c,C,_,_=>⟨c,rfl,C,rfl,rfl⟩
 | d+1,tp,c,C,hd,hh=>by
   obtain⟨h1,h2⟩:=C.up hn (by omega) (hh (tp+1) (by omega) (by omega))
   obtain⟨-,u2,u3⟩:=ups_r c ((tp+1:Nat):Int)
   obtain⟨c2,k1,k2,k3,k4⟩:=HonL.upN hn d h2 (by omega) fun k a b=>by
    have:=hh k (by omega) (by omega)
    unfold hasM at this⊢
    rw[u3]
    exact this
   refine⟨c2,?_,by rw[show tp+(d+1)=tp+1+d by omega];exact k2,k3.trans u3,k4.trans u2⟩
   rw[List.range'_succ,List.map_cons,upWay,if_pos h1]
   exact k1
theorem HonL.rdGo {work:Int}{m:UInt8}{bs:List Blk1}{n tp:Nat}{c:Ch}(C:HonL work m bs n tp c): ∀(f i:Nat),i≤n→i≤f→(readyGo c (f+1) i=true↔∀k:Nat,tp<k→k≤i→hasM c (k:Int)=true)
 | f,i,hi,hf=>by
   have T:=C.tree
   rw[Ab.readyGo,C.ok.tip]
   by_cases ht:i≤tp
   ·have ho:onB c.l (i:Int) (tp:Int)=true:=(onB_on (T.lt hi) (T.lt C.le)).2 (T.on ht C.le)
    rw[ho,if_pos rfl]
    exact⟨fun _ k h1 h2=>by omega,fun _=>rfl⟩
   ·have ho:onB c.l (i:Int) (tp:Int)=false:=by
      cases h:onB c.l (i:Int) (tp:Int)with
      | false=>rfl
      | true=>
        have:=T.le C.le ((onB_on (T.lt hi) (T.lt C.le)).1 h)
        omega
    rw[ho,if_neg (by decide)]
    cases hh:hasM c (i:Int)with
    | false=>
      rw[if_neg (by decide)]
      refine⟨fun h=>(by cases h),fun h=>?_⟩
      have:=h i (by omega) (Nat.le_refl _)
      rw[hh]at this
      cases this
    | true=>
      rw[if_pos rfl,inI_nat (T.lt hi),T.par (by omega) hi]
      obtain⟨f',rfl⟩: ∃f',f=f'+1:=⟨f-1,by omega⟩
      rw[HonL.rdGo C f' (i-1) (by omega) (by omega)]
      refine⟨fun h k h1 h2=>?_,fun h k h1 h2=>h k h1 (by omega)⟩
      by_cases e:k=i
      ·subst e;exact hh
      ·exact h k h1 (by omega)
theorem HonL.ready {work:Int}{m:UInt8}{bs:List Blk1}{n tp:Nat}{c:Ch}(C:HonL work m bs n tp c){i:Nat}(hi:i≤n):readyM c i=true↔∀k:Nat,tp<k→k≤i→hasM c (k:Int)=true:=C.rdGo i i hi (Nat.le_refl _)
theorem HonT.cmp {bs:List Blk1}{n:Nat}{l:List Nd}(T:HonT bs n l)(hn:n≤40){i j:Nat}(hi:i≤n)(hj:j≤n):0<cmpU (natU (Ab.nd l i).work) (natU (Ab.nd l j).work)↔j<i:=by
 obtain⟨-,-,-,-,-,w1⟩:=T.nd hi
 obtain⟨-,-,-,-,-,w2⟩:=T.nd hj
 rw[w1,w2,cmpU_small (by omega) (by omega)]
 omega
theorem HonT.sound {bs:List Blk1}{n:Nat}{l:List Nd}(T:HonT bs n l){i:Nat}(hi:i≤n):(Ab.nd l i).failed=false:=by
 obtain⟨-,-,-,h,-⟩:=T.nd hi
 exact h
theorem pickGo_run {bs:List Blk1}{n:Nat}{c:Ch}(T:HonT bs n c.l)(hn:n≤40): ∀(d b:Nat),b+d≤n→(∀k,b<k→k≤b+d→readyM c k=true)→pickGo c (List.range' (b+1) d) b=b+d
 | 0,b,_,_=>rfl
 | d+1,b,hd,h=>by
   rw[List.range'_succ,pickGo,if_pos ⟨T.sound (by omega),(T.cmp hn (by omega) (by omega)).2 (by omega),h _ (by omega) (by omega)⟩,pickGo_run T hn d (b+1) (by omega) fun k a b=>h k (by omega) (by omega)]
   omega
theorem HonL.pick {work:Int}{m:UInt8}{bs:List Blk1}{n tp:Nat}{c:Ch}(C:HonL work m bs n tp c)(hn:n≤40){j:Nat}(h1:tp≤j)(h2:j≤n)(h3: ∀k:Nat,tp<k→k≤j→hasM c (k:Int)=true)
  (h4:j=n∨hasM c ((j+1:Nat):Int)=false):pickM c tp=j:=by
 have T:=C.tree
 have e:List.range' 0 c.l.length=List.range' 0 (tp+1)++(List.range' (tp+1) (j-tp)++List.range' (j+1) (n-j)):=by
  have e1:=List.range'_append_1 (s:=tp+1) (m:=j-tp) (n:=n-j)
  have e2:=List.range'_append_1 (s:=0) (m:=tp+1) (n:=j-tp+(n-j))
  rw[show tp+1+(j-tp)=j+1 by omega]at e1
  rw[Nat.zero_add]at e2
  rw[e1,e2,T.len]
  congr 1
  omega
 unfold pickM
 rw[e,pickGo_app,pickGo_app,pickGo_stay c _ tp,pickGo_run T hn (j-tp) tp (by omega),show tp+(j-tp)=j by omega,pickGo_stay c _ j]
 ·intro i hi
  have hi:=List.mem_range'_1.1 hi
  rintro⟨-,-,hr⟩
  rcases h4 with h4 | h4
  ·omega
  ·have:=(C.ready (i:=i) (by omega)).1 hr (j+1) (by omega) (by omega)
   rw[h4]at this
   cases this
 ·intro k a b
  exact(C.ready (by omega)).2 fun k' a' b'=>h3 k' a' (by omega)
 ·intro i hi
  have hi:=List.mem_range'_1.1 hi
  rintro⟨-,hw,-⟩
  have:=(T.cmp hn (by omega) (by omega)).1 hw
  omega
theorem run_end (p:Nat→Bool)(n:Nat): ∀(d t:Nat),t+d=n→∃j,t≤j∧j≤n∧(∀k,t<k→k≤j→p k=true)∧(j=n∨p (j+1)=false)
 | 0,t,h=>⟨t,Nat.le_refl _,by omega,fun k a b=>by omega,.inl (by omega)⟩
 | d+1,t,h=>by
   cases hp:p (t+1)with
   | false=>exact⟨t,Nat.le_refl _,by omega,fun k a b=>by omega,.inr hp⟩
   | true=>
     obtain⟨j,h1,h2,h3,h4⟩:=run_end p n d (t+1) (by omega)
     refine⟨j,by omega,h2,fun k a b=>?_,h4⟩
     by_cases e:k=t+1
     ·subst e;exact hp
     ·exact h3 k (by omega) b
theorem sound_pos {bs:List Blk1}{n:Nat}{l:List Nd}(T:HonT bs n l): ∃s,sound l=s+1:=by
 have:0<sound l:=by
  unfold sound
  rw[List.countP_pos_iff]
  exact⟨0,List.mem_range.2 (T.lt (Nat.zero_le _)),by rw[T.sound (Nat.zero_le _)];rfl⟩
 exact⟨sound l-1,by omega⟩
set_option maxHeartbeats 1000000 in
theorem HonL.body {work:Int}{m:UInt8}{bs:List Blk1}{n tp i:Nat}{c:Ch}(C:HonL work m bs n tp c)(hn:n≤40)(h0:0<i)(hi:i≤n){b:Blk1}(hb:bs[i]? =some b)(htx:b.txs=[firstM 50 i m])(hblk:blkE b=0)(hroot:rootE b=0)
  (hf:findM c.l (hId b.hdr)=some i) (hno:hasM c (i:Int)=false):
  ∃(tp':Nat) (c2:Ch),bodyM c b=(c2,(i:Int),0)∧HonL work m bs n tp' c2∧c2.bs=aSet (i:Int) (cloneB b) c.bs∧c2.l=c.l∧(tp'=n∨hasM c2 ((tp'+1:Nat):Int)=false):=by
 have T:=C.tree
 obtain⟨b',hb',n1,n2,-⟩:=T.nd hi
 rw[hb]at hb'
 cases hb'
 obtain⟨c1,hc1⟩: ∃c1:Ch,c1={c with bs:=aSet (i:Int) (cloneB b) c.bs}:=⟨_,rfl⟩
 have hbody:bodyM c b=(followM c1,(i:Int),0):=by
  unfold bodyM
  rw[hf]
  simp only[n1,n2,ne_eq,not_true_eq_false,if_false,Bool.false_eq_true,hno,hroot,hblk]
  rw[hc1]
 have hok1:ChOk c1 tp:=by rw[hc1];exact C.ok.more _ b _ htx (firstM_ok 50 i m)
 have hlk: ∀j:Int,lk j c1.bs=if j=(i:Int)then some (cloneB b)else lk j c.bs:=fun j=>by rw[hc1];exact lk_aSet _ _ _ _
 have C1:HonL work m bs n tp c1:=by
  refine⟨hok1,by rw[hc1];exact C.r,by rw[hc1];exact T,C.le,fun j j0 hj=>?_,by rw[hc1];exact C.cm⟩
  unfold txOf
  rw[hlk]
  by_cases e:(j:Int)=(i:Int)
  ·have:j=i:=by omega
   subst this
   rw[if_pos rfl]
   show(b.txs.map cloneT).headD tx0=_
   rw[htx]
   rfl
  ·rw[if_neg e]
   have hh:hasM c (j:Int)=true:=by
    unfold hasM at hj⊢
    rw[hlk,if_neg e]at hj
    exact hj
   exact C.tx j j0 hh
 obtain⟨j,j1,j2,j3,j4⟩:=run_end (fun k=>hasM c1 ((k:Nat):Int)) n (n-tp) tp (by have:=C.le;omega)
 have hpick:=C1.pick hn j1 j2 j3 j4
 obtain⟨s,hs⟩:=sound_pos C1.tree
 have hbs1:c1.bs=aSet (i:Int) (cloneB b) c.bs:=by rw[hc1]
 by_cases he:j=tp
 ·subst he
  have hfollow:followM c1=c1:=by
   unfold followM
   rw[hs,followN,hok1.tip,Int.toNat_natCast,hpick,if_pos rfl]
  rw[hfollow]at hbody
  exact⟨j,c1,hbody,C1,hbs1,by rw[hc1],j4⟩
 ·obtain⟨c2,u1,u2,u3,u4⟩:=HonL.upN hn (j-tp) C1 (by omega) fun k a b=>j3 k a (by omega)
  have T1:=C1.tree
  have hmeet:meetM c1.l tp j=tp:=Meets.uniq T1.wf (meet_spec T1.wf (T1.lt C.le) (T1.lt j2)) ⟨T1.lt C.le,On.refl' T1.wf tp,T1.on j1 j2,fun i h1 _=>h1⟩
  have hmove:moveM c1 tp j=(c2,true):=by
   unfold moveM
   simp only[hmeet,Nat.sub_self,downN]
   rw[T1.way j1 j2,u1]
  have hfollow:followM c1=c2:=by
   unfold followM
   rw[hs,followN,hok1.tip,Int.toNat_natCast,hpick,if_neg he,hmove,if_pos rfl]
  rw[hfollow]at hbody
  rw[show tp+(j-tp)=j by omega]at u2
  refine⟨j,c2,hbody,u2,u3.trans hbs1,by rw[u4,hc1],?_⟩
  rcases j4 with j4 | j4
  ·exact .inl j4
  ·right
   unfold hasM at j4⊢
   rw[u3]
   exact j4
theorem erase_map {α β:Type}(f:α→β): ∀(l:List α) (i:Nat),(l.map f).eraseIdx i=(l.eraseIdx i).map f
 | [],_=>rfl
 | _::_,0=>rfl
 | x::l,i+1=>by simp[List.eraseIdx,erase_map f l i]
theorem getD_erase {α:Type}(l:List α)(i j:Nat)(d:α):(l.eraseIdx i).getD j d=if j<i then l.getD j d else l.getD (j+1) d:=by
 simp only[List.getD_eq_getElem?_getD,List.getElem?_eraseIdx]
 split<;>rfl
theorem Sep.gdel {m it i:Nat}{l:List ((V×V)×Bool)}{L:List Asn}{st:St}(h:Sep (Going m it l (some i)::L) st)(hi:i<l.length){kk:KK}{k:V}(hk:isKey kk k=true)(hf:mfindI kk k (l.map (·.1)) 0=some (some i)):
  ∃st',mdelS st kk (.map (some m)) k=some st'∧Sep (Going m it (l.eraseIdx i) none::L) st':=by
 obtain⟨a,r,k1,k2,⟨bs,clk,since,seen,stp,g1,g2,g3,g4,g5,g6,g7,g8,g9⟩,k4⟩:=h
 have e1:=k2 _ _ (add_some g1)
 have hne:m≠it:=fun e=>by rw[e,g2]at g1;cases g1
 refine⟨st.upd m (.mpi ((l.map (·.1)).eraseIdx i) (bs.eraseIdx i) clk),by simp[mdelS,hk,e1,hf],a.upd m (.mpi ((l.map (·.1)).eraseIdx i) (bs.eraseIdx i) clk),r,k1.upd (k1.some g1) _,fun j o e=>?_,⟨bs.eraseIdx i,clk,since,seen,stp,?_,?_,?_,?_,?_,g6,g7,?_,fun j e=>by cases e⟩,k4⟩
 ·rw[upd_add]at e
  by_cases ej:j=m
  ·simpa[ej]using e
  ·simp only[st_upd,ej,if_false]at e⊢
   exact k2 j o e
 ·rw[St.upd_same,erase_map]
 ·simp[St.upd,hne.symm,g2]
 ·rw[List.length_eraseIdx,List.length_eraseIdx,g3]
 ·exact g4.sublist (List.eraseIdx_sublist _ _)
 ·exact fun b hb=>g5 b (List.eraseIdx_subset hb)
 ·intro j hj
  have hj':j<l.length-1:=by
   rw[List.length_eraseIdx,if_pos hi]at hj
   exact hj
  rw[getD_erase,List.getElem_eraseIdx]
  by_cases hji:j<i
  ·rw[if_pos hji]
   simp only[hji,dif_pos]
   exact g8 j (by omega)
  ·rw[if_neg hji]
   simp only[hji,dif_neg,not_false_eq_true]
   exact g8 (j+1) (by omega)
theorem mfindI_at {K A:Type}[DecidableEq K]{ek:K→V}{ev:A→V}{kk:KK}(hk:Keyed ek kk): ∀(l:List (K×A)) (i n:Nat) (hi:i<l.length),(l.map (·.1)).Nodup→mfindI kk (ek l[i].1) (encM ek ev l) n=some (some (n+i))
 | [],i,n,hi,_=>by simp at hi
 | p::l,0,n,hi,_=>by simp[mfindI,encM,hk.eq]
 | p::l,i+1,n,hi,hn=>by
   rw[List.map_cons,List.nodup_cons]at hn
   have hlt:i<l.length:=by simpa using hi
   have ih:=mfindI_at hk (ev:=ev) l i (n+1) hlt hn.2
   have hne:l[i].1≠p.1:=fun e=>hn.1 (List.mem_map.2 ⟨l[i],List.getElem_mem _,e⟩)
   simp only[encM,List.map_cons,mfindI,hk.eq,List.getElem_cons_succ,hne,decide_false]at ih⊢
   rw[ih]
   congr 2
   omega
theorem unseen_erase (l:List ((V×V)×Bool))(i:Nat):unseen (l.eraseIdx i)≤unseen l:=(List.eraseIdx_sublist l i).countP_le
theorem encG_erase {K A:Type}[DecidableEq K](ek:K→V)(ev:A→V)(fl:List ((K×A)×Bool))(i:Nat):(encG ek ev fl).eraseIdx i=encG ek ev (fl.eraseIdx i):=erase_map _ fl i
structure Dropped (es:Fls) (p:Int) (fl:List ((Int×Fl)×Bool)) (R:List (Int×Fl)):Prop where
 left:fl.map (·.1)=es.filter fun e=>decide (e∉R)
 out: ∀e∈R,e∈es∧e.2.1=p
 nd:R.Nodup
 seen: ∀x∈fl,x.2=true→x.1.2.1≠p
theorem nodup_length {α:Type}[DecidableEq α]: ∀{l m:List α},l.Nodup→(∀e∈l,e∈m)→l.length≤m.length
 | [],_,_,_=>Nat.zero_le _
 | x::l,m,h,hs=>by
   rw[List.nodup_cons]at h
   have hx:=hs x (by simp)
   have:=nodup_length (m:=m.erase x) h.2 fun e he=>(List.mem_erase_of_ne (fun e':e=x=>h.1 (e' ▸he))).2 (hs e (by simp[he]))
   rw[List.length_erase_of_mem hx]at this
   have:=List.length_pos_of_mem hx
   simp only[List.length_cons]
   omega
theorem erase_filter {α:Type}[DecidableEq α]: ∀{l:List α},l.Nodup→∀(i:Nat) (hi:i<l.length),l.eraseIdx i=l.filter fun e=>decide (e≠l[i])
 | x::l,h,0,_=>by
   rw[List.nodup_cons]at h
   have:l.filter (fun e=>decide (e≠x))=l:=List.filter_eq_self.2 fun a ha=>decide_eq_true fun e=>h.1 (e ▸ha)
   simp only[List.eraseIdx_cons_zero,List.getElem_cons_zero,List.filter_cons]
   rw[this]
   simp
 | x::l,h,i+1,hi=>by
   rw[List.nodup_cons]at h
   have hlt:i<l.length:=by simpa using hi
   have hx:x≠l[i]:=fun e=>h.1 (e ▸List.getElem_mem hlt)
   rw[List.eraseIdx_cons_succ,erase_filter h.2 i hlt]
   simp[hx]
theorem nodup_unmap {α β:Type}(f:α→β): ∀{l:List α},(l.map f).Nodup→l.Nodup
 | [],_=>.nil
 | x::l,h=>by
   rw[List.map_cons,List.nodup_cons]at h
   exact List.nodup_cons.2 ⟨fun hm=>h.1 (List.mem_map.2 ⟨x,hm,rfl⟩),nodup_unmap f h.2⟩
theorem nodup_of_keys {es:Fls}(h:(es.map (·.1)).Nodup):es.Nodup:=nodup_unmap _ h
theorem Dropped.fin {es:Fls}{p:Int}{fl:List ((Int×Fl)×Bool)}{R:List (Int×Fl)}(h:Dropped es p fl R)(hn:(es.map (·.1)).Nodup)(hall: ∀x∈fl,x.2=true):
  fl.map (·.1)=es.filter (fun e=>e.2.1 != p)∧(R.map (·.1)).Perm ((es.filter fun e=>e.2.1==p).map (·.1)):=by
 have key: ∀e∈es,(e∈R↔e.2.1=p):=fun e he=>by
  refine⟨fun hr=>(h.out e hr).2,fun hp=>?_⟩
  apply Classical.byContradiction
  intro hr
  have:e∈fl.map (·.1):=by
   rw[h.left,List.mem_filter]
   exact⟨he,by simpa using hr⟩
  obtain⟨x,hx,rfl⟩:=List.mem_map.1 this
  exact h.seen x hx (hall x hx) hp
 refine⟨?_,List.Perm.map _ ((List.perm_ext_iff_of_nodup h.nd ((nodup_of_keys hn).filter _)).2 fun e=>?_)⟩
 ·rw[h.left]
  refine List.filter_congr fun e he=>?_
  rw[Bool.eq_iff_iff]
  simp[key e he]
 ·rw[List.mem_filter]
  refine⟨fun hr=>⟨(h.out e hr).1,by simpa using(h.out e hr).2⟩,fun⟨he,hp⟩=>(key e he).2 (by simpa using hp)⟩
section
variable {P:Program} {F:Fn}
set_option maxHeartbeats 4000000 in
theorem spec285 (ok:OkWindow P F)(oks:SortC P (F 286)){st:St}{t:Nat}{es:Fls}{sl:Int}{L:List Asn}(h:WinS t es sl L st)(hn:(es.map (·.1)).Nodup)(p:Int)(hl:es.length≤1000):
  ACalls P (F 285) [.ptr (some (t,0)),.int .i64 p] st fun v st'=>∃l,l.Perm ((es.filter fun e=>e.2.1==p).map (·.1))∧l.Pairwise (· ≤ ·)∧WinS t (es.filter fun e=>e.2.1 != p) sl (Slx 1 e1 v l::L) st':=by
 refine shows_call ok.mixed ok.h285 (by simp[k285]) ?_
 simp only[k285]
 obtain⟨mo,h0,S⟩:=h
 have hseg: ∀mv:V,segOf [mv,V.int .i64 sl] 0 1=some [mv]:=fun _=>rfl
 cases mo with
 | none=>
   have o:=S.get
   have he:es=[]:=h0 rfl
   subst he
   simp[St.seg,o,hseg,rngMapS]
   intro it hit
   have S:=S.new hit (.mit none 0 [] 0)
   generalize st.upd it _=st2 at S⊢
   refine vc_joinB (M:=fun env' st'=>env' 5=.sl .nil [] 0∧Sep (pt t (.cells [.map none,.int .i64 sl])::L) st') ?_ ?_
   ·refine vc_loopJ (fun c env' st'=>c=0∧env' 5=.sl .nil [] 0∧Sep (pt it (.mit none 0 [] 0)::pt t (.cells [.map none,.int .i64 sl])::L) st') 0 ⟨rfl,by simp,S⟩ ?_
    rintro J hJ c env' st3 hsame ⟨rfl,h5,S⟩
    have g12:=(hsame.get 12 rfl).trans (by simp:_=V.ptr (some (it,0)))
    clear hsame
    have oi:=S.get
    simp[g12,nextMapS,oi,h5]
    exact S.drop
   ·rintro env' st3 hsame ⟨h5,S⟩
    have g11:=(hsame.get 11 rfl).trans (by simp:_=V.map none)
    clear hsame
    refine frzP_one (v:=.map none) (st':=st3) (by rw[g11];rfl) ?_
    have S:Sep (Slx 1 e1 (.sl .nil [] 0) []::pt t (.cells [.map none,.int .i64 sl])::L) st3:=S.slxNil
    simp[h5]
    refine(oks.use S (fun _=>rfl) (by simp)).mono ?_
    rintro v st4 ⟨l',h1,h2,S⟩
    have:l'=[]:=List.perm_nil.1 h1
    subst this
    simp
    exact⟨st4,sub_self _,none,fun _=>rfl,by rw[h5];exact S.swap⟩
 | some m=>
   have o:=S.get
   simp[St.seg,o,hseg]
   refine Sep.rng S.swap ?_
   intro it st2 S
   rw[encG_start]at S
   simp
   refine vc_joinB (M:=fun env' st'=>∃fl last R,(∀x∈fl,x.2=true)∧Dropped es p fl R∧(R=[]→env' 5=.sl .nil [] 0)∧Sep (Going m it (encG kInt vFl fl) last::Slx 1 e1 (env' 5) (R.map (·.1))::pt t (.cells [.map (some m),.int .i64 sl])::L) st') ?_ ?_
   ·refine vc_loopJ (fun c env' st'=>∃fl last R,c=unseen (encG kInt vFl fl)∧Dropped es p fl R∧(R=[]→env' 5=.sl .nil [] 0)∧Sep (Going m it (encG kInt vFl fl) last::Slx 1 e1 (env' 5) (R.map (·.1))::pt t (.cells [.map (some m),.int .i64 sl])::L) st') (unseen (encG kInt vFl (es.map fun x=>(x,false))))
      ⟨_,none,[],rfl,⟨by rw[List.map_map];exact(List.map_id es).trans (List.filter_eq_self.2 (by simp)).symm,by simp,.nil,by simp⟩,by simp,by
       have S2:Sep (Going m it (encG kInt vFl (es.map fun x=>(x,false))) none::Slx 1 e1 (.sl .nil [] 0) []::pt t (.cells [.map (some m),.int .i64 sl])::L) st2:=S.tail fun r h=>h.slxNil
       simpa using S2⟩ ?_
    rintro J hJ c env' st3 hsame ⟨fl,last,R,rfl,hD,hn5,S⟩
    have g0:=(hsame.get 0 rfl).trans (by simp:_=V.ptr (some (t,0)))
    have g1:=(hsame.get 1 rfl).trans (by simp:_=V.int .i64 p)
    have g12:=(hsame.get 12 rfl).trans (by simp:_=V.ptr (some (it,0)))
    clear hsame
    simp[g12]
    refine Sep.next S ?_ ?_
    ·intro hall
     have:=encG_all kInt vFl hall
     simp
     exact⟨fl,fun a b c hm=>absurd (this _ hm) (by simp),last,R,hD,hn5,S⟩
    ·intro i hi hf st4 S
     have hi':i<fl.length:=by rw[←encG_len kInt vFl];exact hi
     rw[encG_set kInt vFl fl hi' hi]at S
     obtain⟨hi2,hent⟩:=S.ent
     have hfi:fl[i].2=false:=by simpa[encG]using hf
     obtain⟨x,hx⟩: ∃x,x=fl[i].1:=⟨_,rfl⟩
     simp[encG,←hx]at hent
     simp[g12,hent]
     intro i7 h7
     have key:storeS (st4.upd i7 (.cells [.int .i64 0,.int .i64 0])) 2 (.ptr (some (i7,0))) (vFl x.2)=some (st4.upd i7 (.cells (eFl x.2))):=by
      rw[store_pt (sz:=2) (o:=0) (vs:=eFl x.2) (St.upd_same _ _ _) rfl rfl (by simp)]
      simp[spliceV,eFl]
     have hf0:segOf (eFl x.2) 0 1=some [.int .i64 x.2.1]:=rfl
     have S:=S.new h7 (.cells (eFl x.2))
     have hun:=unseen_set hi hf ((encG kInt vFl fl)[i].1)
     rw[encG_set kInt vFl fl hi' hi]at hun
     simp[key]
     generalize st4.upd i7 _=st5 at S⊢
     have o7:=S.get
     have S:=S.drop
     obtain⟨fl2,hfl2⟩: ∃fl2,fl2=fl.set i (fl[i].1,true):=⟨_,rfl⟩
     rw[←hfl2]at S hun
     have hfst:fl2.map (·.1)=fl.map (·.1):=by rw[hfl2,fst_set hi']
     have hlen2:fl2.length=fl.length:=by rw[hfl2,List.length_set]
     have hget2: ∀h,fl2[i]'h=(x,true):=fun h=>by subst hfl2;rw[List.getElem_set_self,←hx]
     have hxmem:x∈fl.map (·.1):=List.mem_map.2 ⟨fl[i],List.getElem_mem _,hx.symm⟩
     have hxes:x∈es∧x∉R:=by
      rw[hD.left,List.mem_filter]at hxmem
      exact⟨hxmem.1,by simpa using hxmem.2⟩
     have hnfl:((fl.map (·.1)).map (·.1)).Nodup:=by
      rw[hD.left]
      exact(List.filter_sublist.map _).nodup hn
     have seen2: ∀y∈fl2,y.2=true→y.1≠x→y.1.2.1≠p:=fun y hy hyt hne=>by
      rw[hfl2]at hy
      rcases List.mem_or_eq_of_mem_set hy with h | h
      ·exact hD.seen y h hyt
      ·rw[h,←hx]at hne;exact absurd rfl hne
     by_cases hp:x.2.1=p
     ·have hel:elems st5 1 (.sl .full [.int .i64 x.1] 1)=some (rowsOf e1 [x.1],1):=by simp[elems,e1]
      have hfb:fillV (repV [V.int .i64 0] 1) [(0,1,V.int .i64 x.1)]=some [.int .i64 x.1]:=rfl
      have hRl:(R.map (·.1)).length≤1000:=by
       rw[List.length_map]
       exact Nat.le_trans (nodup_length hD.nd fun e he=>(hD.out e he).1) hl
      simp[g1,St.seg,o7,hf0,hp,kInt,hfb,hel]
      refine Sep.appx' (b:=8) e1_len (by omega) (S.pull 1) [x.1] (by simp) rfl (by simp only[List.length_singleton];omega) ?_
      intro s' st6 S
      have S:Sep (Going m it (encG kInt vFl fl2) (some i)::Slx 1 e1 s' ((R++[x]).map (·.1))::pt t (.cells [.map (some m),.int .i64 sl])::L) st6:=by
       have:=Sep.swap S
       rw[List.map_append]
       exact this
      have ot:=S.drop.drop.get
      have hmf:mfindI .int (V.int .i64 x.1) ((encG kInt vFl fl2).map (·.1)) 0=some (some i):=by
       rw[encG_map]
       have hi3:i< (fl2.map (·.1)).length:=by rw[List.length_map,hlen2];exact hi'
       have:=mfindI_at keyed_int (ev:=vFl) (fl2.map (·.1)) i 0 hi3 (by rw[hfst];exact hnfl)
       rw[List.getElem_map,hget2,Nat.zero_add]at this
       exact this
      obtain⟨st7,hdel,S⟩:=S.gdel (by rw[encG_len,hlen2];exact hi') (kk:=.int) (k:=V.int .i64 x.1) rfl hmf
      rw[encG_erase]at S
      simp[g0,St.seg,ot,hseg,hdel]
      refine Round.mk (unseen (encG kInt vFl (fl2.eraseIdx i))) _ ?_ (sub_self _) (hJ _ _ _ ⟨fl2.eraseIdx i,none,R++[x],rfl,⟨?_,?_,?_,?_⟩,by simp,by simpa using S⟩)
      ·have:=unseen_erase (encG kInt vFl fl2) i
       rw[encG_erase]at this
       omega
      ·rw[←erase_map,hfst]
       have hi3:i< (fl.map (·.1)).length:=by rw[List.length_map];exact hi'
       have hndl:(fl.map (·.1)).Nodup:=nodup_unmap _ hnfl
       rw[erase_filter hndl i hi3,List.getElem_map,←hx,hD.left,List.filter_filter]
       refine List.filter_congr fun e he=>?_
       rw[Bool.eq_iff_iff]
       simp
       constructor
       ·rintro⟨h1,h2⟩
        exact⟨h2,h1⟩
       ·rintro⟨h1,h2⟩
        exact⟨h2,h1⟩
      ·intro e he
       rcases List.mem_append.1 he with he | he
       ·exact hD.out e he
       ·rw[List.mem_singleton.1 he];exact⟨hxes.1,hp⟩
      ·rw[List.nodup_append]
       exact⟨hD.nd,by simp,fun a ha c hc e=>by rw[List.mem_singleton.1 hc]at e;exact hxes.2 (e ▸ha)⟩
      ·intro y hy hyt
       refine seen2 y (List.eraseIdx_subset hy) hyt fun e=>?_
       have hndl:(fl2.map (·.1)).Nodup:=by rw[hfst];exact nodup_unmap _ hnfl
       have hi3:i< (fl2.map (·.1)).length:=by rw[List.length_map,hlen2];exact hi'
       have hm:x∈(fl2.map (·.1)).eraseIdx i:=by
        rw[erase_map]
        exact List.mem_map.2 ⟨y,hy,e⟩
       rw[erase_filter hndl i hi3,List.getElem_map,hget2]at hm
       simp at hm
     ·have hpb:(x.2.1==p)=false:=beq_eq_false_iff_ne.2 hp
      simp[g1,St.seg,o7,hf0,hpb]
      refine Round.mk _ _ hun (sub_self _) (hJ _ _ _ ⟨fl2,some i,R,rfl,⟨by rw[hfst];exact hD.left,hD.out,hD.nd,?_⟩,by simpa using hn5,by simpa using S⟩)
      intro y hy hyt
      by_cases e:y.1=x
      ·rw[e];exact hp
      ·exact seen2 y hy hyt e
   ·rintro env' st3 hsame ⟨fl,last,R,hall,hD,hn5,S⟩
    have g11:=(hsame.get 11 rfl).trans (by simp:_=V.map (some m))
    clear hsame
    obtain⟨hfz,S⟩:=S.gone
    obtain⟨f1,f2⟩:=hD.fin hn hall
    refine frzP_one (by rw[g11];exact hfz) ?_
    rw[encG_map,f1]at S⊢
    generalize st3.upd m _=st4 at S⊢
    have S:=S.swap
    have hRl:(R.map (·.1)).length≤1000:=by
     rw[List.length_map]
     exact Nat.le_trans (nodup_length hD.nd fun e he=>(hD.out e he).1) hl
    simp
    refine(oks.use S (fun e=>hn5 (by simpa using e)) (by omega)).mono ?_
    rintro v st5 ⟨l',h1,h2,S⟩
    simp
    exact⟨st5,sub_self _,l',h1.trans f2,h2,some m,(fun e=>by cases e),(S.pull 2).tail fun r h=>h.swap⟩
end
abbrev Op4:=Int×Int×Int×Int
def e4 (o:Op4):List V:=[.int .i64 o.1,.int .i64 o.2.1,.int .i64 o.2.2.1,.int .i64 o.2.2.2]
theorem lk_mem: ∀{l:Fls},(l.map (·.1)).Nodup→∀{e:Int×Fl},e∈l→lk e.1 l=some e.2
 | a::l,h,e,he=>by
   rw[List.map_cons,List.nodup_cons]at h
   unfold lk
   rw[List.lookup_cons]
   rcases List.mem_cons.1 he with rfl | he
   ·simp
   ·have:(e.1==a.1)=false:=by
      refine beq_eq_false_iff_ne.2 fun h2=>h.1 (h2 ▸List.mem_map.2 ⟨e,he,rfl⟩)
    rw[this]
    exact lk_mem h.2 he
section
variable {l:List Nd}
theorem hgt_zero (w:Wf l):hgt l 0=0:=by
 have h:=w.zero (l[0]'w.ne) (List.getElem?_eq_getElem w.ne)
 rw[hgt_at w.ne]
 exact h.2
theorem wantGo_eq {c:Ch}{es:Fls}{top left:Int}: ∀(r out:List Int),(∀i∈r,((nd c.l (inI c.l i)).height:Int)≤top)→
  wantGo c es top left out r=out++(r.filter fun i=>!(lk i es).isSome&&!hasM c i).take (left-out.length).toNat
 | [],out,_=>by simp[wantGo]
 | i::r,out,h=>by
   rw[wantGo]
   have hi:=h i (by simp)
   have hr: ∀j∈r,((nd c.l (inI c.l j)).height:Int)≤top:=fun j hj=>h j (by simp[hj])
   by_cases hf:left≤(out.length:Int)
   ·rw[if_pos (.inl hf),show(left-out.length).toNat=0 by omega,List.take_zero,List.append_nil]
   ·rw[if_neg (by omega),List.filter_cons]
    by_cases hc:(lk i es).isSome=false∧hasM c i=false
    ·rw[if_pos hc,if_pos (by simp[hc.1,hc.2]),wantGo_eq r _ hr,show(left-out.length).toNat=(left-(out++[i]).length).toNat+1 by simp;omega,List.take_succ_cons]
     simp
    ·rw[if_neg hc,if_neg (by
      intro h
      rw[Bool.and_eq_true,Bool.not_eq_true',Bool.not_eq_true']at h
      exact hc h),wantGo_eq r _ hr]
end
def wantH (c:Ch)(es:Fls)(who:Int)(best:Nat):Nat→List Int
 | 0=>[]
 | h+1=>if(lk ((anc c.l best (h+1):Nat):Int) es).isSome=false∧hasM c (anc c.l best (h+1):Nat)=false∧(wantH c es who best h).length<16-countM es who∧(nd c.l best).failed=false
    then wantH c es who best h++[((anc c.l best (h+1):Nat):Int)]else wantH c es who best h
theorem wantH_bad {c:Ch}{es:Fls}{who:Int}{best:Nat}(hf:(nd c.l best).failed=true): ∀h,wantH c es who best h=[]
 | 0=>rfl
 | h+1=>by
   rw[wantH,if_neg (by rw[hf];rintro⟨-,-,-,h⟩;cases h)]
   exact wantH_bad hf h
theorem wantH_eq {c:Ch}{es:Fls}{who:Int}{best:Nat}(hf:(nd c.l best).failed=false): ∀h,
  wantH c es who best h=(((List.range h).map fun k=>((anc c.l best (k+1):Nat):Int)).filter fun i=>!(lk i es).isSome&&!hasM c i).take (16-countM es who)
 | 0=>by simp[wantH]
 | h+1=>by
   have ih:=wantH_eq (es:=es) (who:=who) hf h
   rw[wantH,List.range_succ,List.map_append,List.filter_append,List.take_append]
   generalize hF:(((List.range h).map fun k=>((anc c.l best (k+1):Nat):Int)).filter fun i=>!(lk i es).isSome&&!hasM c i)=F at ih⊢
   have hlen:(wantH c es who best h).length=min (16-countM es who) F.length:=by rw[ih,List.length_take]
   by_cases hp:(lk ((anc c.l best (h+1):Nat):Int) es).isSome=false∧hasM c (anc c.l best (h+1):Nat)=false
   ·have hfl:([h].map fun k=>((anc c.l best (k+1):Nat):Int)).filter (fun i=>!(lk i es).isSome&&!hasM c i)=[((anc c.l best (h+1):Nat):Int)]:=by
      have hn:=hp.1
      simp at hn
      simp[hn,hp.2]
    rw[hfl]
    by_cases hq:F.length<16-countM es who
    ·rw[if_pos ⟨hp.1,hp.2,by omega,hf⟩,ih,List.take_of_length_le (l:=[((anc c.l best (h+1):Nat):Int)]) (by simp;omega)]
    ·rw[if_neg (by rintro⟨-,-,h3,-⟩;omega),ih,show 16-countM es who-F.length=0 by omega,List.take_zero,List.append_nil]
   ·have hfl:([h].map fun k=>((anc c.l best (k+1):Nat):Int)).filter (fun i=>!(lk i es).isSome&&!hasM c i)=[]:=by
      rw[List.map_cons,List.map_nil,List.filter_cons]
      rw[if_neg]
      ·rfl
      ·intro h'
       rw[Bool.and_eq_true,Bool.not_eq_true',Bool.not_eq_true']at h'
       exact hp h'
    rw[if_neg (fun h=>hp ⟨h.1,h.2.1⟩),hfl,List.take_nil,List.append_nil,ih]
theorem wantM_eq {c:Ch}{tp:Nat}(h:ChOk c tp)(hl:c.l.length≤1000)(es:Fls)(who:Int){best:Nat}(hb:best<c.l.length):wantM c es who best=wantH c es who best (hgt c.l best):=by
 have w:=h.wf
 have hbi:inI c.l (best:Int)=best:=inI_nat hb
 unfold wantM
 cases hf:(nd c.l best).failed with
 | true=>rw[if_pos (.inr (.inr (by rw[hbi];exact hf))),wantH_bad hf]
 | false=>
   rw[if_neg (by rw[hbi,hf];rintro(h1 | h1 | h1)<;>first | omega | cases h1),wantH_eq hf]
   obtain⟨m,hm⟩: ∃m,m=meetM c.l tp best:=⟨_,rfl⟩
   have hM:=meet_spec w h.lt hb
   rw[←hm]at hM
   have cl1:clI c.l c.tip=tp:=by rw[h.tip];have:=h.lt;unfold clI;omega
   have cl2:clI c.l (best:Int)=best:=by unfold clI;omega
   rw[cl1,cl2,←hm,wayI_on w hb hM.lt hM.on2,wantGo_eq _ _ (fun i hi=>by
    obtain⟨k,rfl,k1,k2,k3⟩:=wayM_mem w hb hi
    rw[inI_nat k2,nd_hgt_eq k2]
    have:=w.hgt_le k2
    omega)]
   rw[List.nil_append,List.length_nil,show((16:Int)-(countM es who:Int)-((0:Nat):Int)).toNat=16-countM es who by omega]
   congr 1
   have hsplit:(List.range (hgt c.l best)).map (fun k=>((anc c.l best (k+1):Nat):Int))=((List.range (hgt c.l m)).map fun k=>((anc c.l best (k+1):Nat):Int))++wayM c.l m best:=by
    have hle:=hM.on2.1
    obtain⟨d,hd⟩:=Nat.exists_eq_add_of_le hle
    rw[hd,List.range_add,List.map_append,List.map_map]
    congr 1
    unfold wayM
    rw[hd,Nat.add_sub_cancel_left]
    refine List.map_congr_left fun k hk=>?_
    show((anc c.l best (hgt c.l m+k+1):Nat):Int)=_
    rw[show hgt c.l m+k+1=hgt c.l m+1+k by omega]
   rw[hsplit,List.filter_append]
   have hnone:((List.range (hgt c.l m)).map fun k=>((anc c.l best (k+1):Nat):Int)).filter (fun i=>!(lk i es).isSome&&!hasM c i)=[]:=by
    rw[List.filter_eq_nil_iff]
    intro i hi
    obtain⟨k,hk,rfl⟩:=List.mem_map.1 hi
    have hk:=List.mem_range.1 hk
    have hle:=hM.on2.1
    have ho:On c.l (anc c.l best (k+1)) m:=On.chain w hb (On.of w hb (by omega)) hM.on2 (by rw[w.anc_hgt hb (by omega)];omega)
    have:=h.way _ (On.trans w h.lt ho hM.on1)
    simp[this]
   rw[hnone,List.nil_append]
theorem bestGo_run {bs:List Blk1}{n:Nat}{l:List Nd}(T:HonT bs n l)(hn:n≤40): ∀(d b:Nat),b+d≤n→bestGo l (List.range' (b+1) d) b=b+d
 | 0,b,_=>rfl
 | d+1,b,hd=>by
   rw[List.range'_succ,bestGo,if_pos ⟨T.sound (by omega),(T.cmp hn (by omega) (by omega)).2 (by omega)⟩,bestGo_run T hn d (b+1) (by omega)]
   omega
theorem HonT.best {bs:List Blk1}{n:Nat}{l:List Nd}(T:HonT bs n l)(hn:n≤40):bestM l=n:=by
 unfold bestM
 rw[T.len,List.range'_succ,bestGo]
 have:=bestGo_run T hn n 0 (by omega)
 simp only[Nat.zero_add]at this⊢
 split<;>exact this
theorem HonL.want {work:Int}{m:UInt8}{bs:List Blk1}{n tp:Nat}{c:Ch}(C:HonL work m bs n tp c)(hn:n≤40)(es:Fls)(who:Int):
  wantM c es who (n:Int)=(((List.range n).map fun k=>((k+1:Nat):Int)).filter fun i=>!(lk i es).isSome&&!hasM c i).take (16-countM es who):=by
 have T:=C.tree
 rw[wantM_eq C.ok (by rw[T.len];omega) es who (T.lt (Nat.le_refl n)),T.hgt (Nat.le_refl n),wantH_eq (T.sound (Nat.le_refl n))]
 congr 2
 refine List.map_congr_left fun k hk=>?_
 have:=List.mem_range.1 hk
 rw[T.anc (i:=k+1) (by omega) (Nat.le_refl n)]
structure FetI (n:Nat) (c:Ch) (es:Fls) (op:List Int):Prop where
 perm:op.Perm (es.map (·.1))
 nodup:(es.map (·.1)).Nodup
 mem: ∀i∈op,∃j:Nat,i=(j:Int)∧0<j∧j≤n∧hasM c (j:Int)=false
 cnt: ∀p:Int,countM es p≤16
theorem pigeon: ∀(n:Nat) (l:List Int),l.Nodup→(∀i∈l,∃j:Nat,i=(j:Int)∧0<j∧j≤n)→l.length≤n
 | 0,l,_,h=>by
   cases l with
   | nil=>simp
   | cons a l=>
     obtain⟨j,-,h1,h2⟩:=h a List.mem_cons_self
     omega
 | n+1,l,hn,h=>by
   have h1:=pigeon n (l.erase ((n+1:Nat):Int)) (hn.erase _) fun i hi=>by
    obtain⟨j,e,h1,h2⟩:=h i (List.mem_of_mem_erase hi)
    refine⟨j,e,h1,?_⟩
    have:i≠((n+1:Nat):Int):=fun e'=>by
     rw[e']at hi
     exact hn.not_mem_erase hi
    omega
   have:=List.length_erase (a:=((n+1:Nat):Int)) (l:=l)
   split at this<;>omega
theorem FetI.opNodup {n:Nat}{c:Ch}{es:Fls}{op:List Int}(I:FetI n c es op):op.Nodup:=I.perm.nodup_iff.2 I.nodup
theorem FetI.len {n:Nat}{c:Ch}{es:Fls}{op:List Int}(I:FetI n c es op):es.length≤n∧op.length=es.length:=by
 have h1:=pigeon n op I.opNodup fun i hi=>by
  obtain⟨j,a,b,d,-⟩:=I.mem i hi
  exact⟨j,a,b,d⟩
 have h2:=I.perm.length_eq
 rw[List.length_map]at h2
 exact⟨by omega,h2⟩
theorem lk_isNone {i:Int}{es:Fls}:(lk i es).isSome=true↔i∈es.map (·.1):=by
 induction es with
 | nil=>simp[lk]
 | cons e es ih=>
   rw[lk_cons]
   by_cases h:i=e.1
   ·simp[h]
   ·rw[if_neg h,ih]
    simp[h]
theorem FetI.look {n:Nat}{c:Ch}{es:Fls}{op:List Int}(I:FetI n c es op)(i:Int):(lk i es).isSome=true↔i∈op:=lk_isNone.trans (I.perm.mem_iff).symm
theorem FetI.nil {n:Nat}{c:Ch}:FetI n c [] []:=⟨.refl _,.nil,fun i hi=>by(cases hi),fun p=>by simp[countM]⟩
theorem FetI.ask {n:Nat}{c:Ch}{es:Fls}{op:List Int}(I:FetI n c es op){i p now:Int}(hi:i∉op)(hj: ∃j:Nat,i=(j:Int)∧0<j∧j≤n∧hasM c (j:Int)=false)(hc:countM es p<16):
  askM es i p=0∧askT es i p now=es++[(i,p,now)]∧FetI n c (es++[(i,p,now)]) (op++[i])∧countM (es++[(i,p,now)]) p=countM es p+1:=by
 have hl:¬(lk i es).isSome=true:=fun h=>hi ((I.look i).1 h)
 have h0:askM es i p=0:=by
  unfold askM
  rw[if_neg hl,if_neg (by omega)]
 have hcc: ∀q:Int,countM (es++[(i,p,now)]) q=countM es q+if p=q then 1 else 0:=fun q=>by
  unfold countM
  rw[List.countP_append]
  by_cases e:p=q<;>simp[e]
 refine⟨h0,by unfold askT;rw[if_pos h0],⟨?_,?_,?_,fun q=>?_⟩,by rw[hcc,if_pos rfl]⟩
 ·rw[List.map_append]
  exact I.perm.append_right _
 ·rw[List.map_append,List.nodup_append]
  refine⟨I.nodup,by simp,fun a ha b hb e=>?_⟩
  simp at hb
  subst hb
  subst e
  exact hi ((I.perm.mem_iff).2 ha)
 ·intro a ha
  rcases List.mem_append.1 ha with ha | ha
  ·exact I.mem a ha
  ·rw[List.mem_singleton.1 ha]
   exact hj
 ·rw[hcc]
  have:=I.cnt q
  split
  ·rename_i e
   subst e
   omega
  ·omega
theorem FetI.drop {n:Nat}{c:Ch}{es:Fls}{op gone:List Int}(I:FetI n c es op){p:Int}(hg:gone.Perm ((es.filter fun e=>e.2.1==p).map (·.1))):
  FetI n c (es.filter fun e=>e.2.1 != p) (op.filter fun i=>!decide (i∈gone)):=by
 have hkey: ∀e∈es,(decide (e.1∈gone)=(e.2.1==p)):=fun e he=>by
  rw[Bool.eq_iff_iff,decide_eq_true_iff,hg.mem_iff,List.mem_map]
  constructor
  ·rintro⟨e',h1,h2⟩
   obtain⟨h3,h4⟩:=List.mem_filter.1 h1
   have:e'=e:=by
    have h5:=lk_mem I.nodup h3
    have h6:=lk_mem I.nodup he
    rw[h2,h6]at h5
    have h7:=Option.some.inj h5
    cases e;cases e'
    simp only at h2 h7
    rw[h2,h7]
   rw[←this]
   exact h4
  ·intro h
   exact⟨e,List.mem_filter.2 ⟨he,h⟩,rfl⟩
 refine⟨?_,I.nodup.sublist (List.filter_sublist.map _),fun i hi=>I.mem i (List.mem_filter.1 hi).1,fun q=>?_⟩
 ·have h1:=I.perm.filter fun i=>!decide (i∈gone)
  rw[List.filter_map]at h1
  have e:es.filter ((fun i=>!decide (i∈gone))∘fun e=>e.1)=es.filter fun e=>e.2.1 != p:=List.filter_congr fun e he=>by
   show(!decide (e.1∈gone))=(e.2.1 != p)
   rw[hkey e he]
   rfl
  rw[e]at h1
  exact h1
 ·have:=I.cnt q
  have h2:countM (es.filter fun e=>e.2.1 != p) q≤countM es q:=List.filter_sublist.countP_le
  omega
theorem aDel_map (k:Int): ∀l:Fls,(aDel k l).map (·.1)=(l.map (·.1)).erase k
 | []=>rfl
 | e::l=>by
   rw[aDel,List.map_cons,List.erase_cons]
   by_cases h:k=e.1
   ·rw[if_pos h,if_pos (by simp[h])]
   ·rw[if_neg h,if_neg (by simpa using fun e'=>h e'.symm),List.map_cons,aDel_map k l]
theorem aDel_sub (k:Int): ∀l:Fls,(aDel k l).Sublist l
 | []=>.slnil
 | e::l=>by
   rw[aDel]
   split
   ·exact List.sublist_cons_self _ _
   ·exact(aDel_sub k l).cons_cons _
theorem erase_at: ∀{l:List Int} {a:Nat} (ha:a<l.length),l.Nodup→l.erase l[a]=l.eraseIdx a
 | x::l,0,_,_=>by simp
 | x::l,a+1,ha,h=>by
   obtain⟨h1,h2⟩:=List.nodup_cons.1 h
   have hal:a<l.length:=by simpa using ha
   have hne:x≠l[a]:=fun e=>h1 (e ▸List.getElem_mem hal)
   show(x::l).erase l[a]=_
   rw[List.erase_cons_tail (by simpa using hne),erase_at hal h2]
   rfl
theorem FetI.got {n:Nat}{c c2:Ch}{es:Fls}{op:List Int}(I:FetI n c es op){a:Nat}(ha:a<op.length){i:Nat}(hi:op[a]=(i:Int))(hh: ∀j:Nat,hasM c2 (j:Int)=(hasM c (j:Int)||decide (j=i))):
  FetI n c2 (aDel (i:Int) es) (op.eraseIdx a):=by
 have hno:=I.opNodup
 have e1:op.erase (i:Int)=op.eraseIdx a:=by
  rw[←hi]
  exact erase_at ha hno
 have hp:(op.eraseIdx a).Perm ((aDel (i:Int) es).map (·.1)):=by
  rw[←e1,aDel_map]
  exact I.perm.erase _
 refine⟨hp,(I.nodup.sublist ((aDel_sub _ _).map _)),fun x hx=>?_,fun q=>?_⟩
 ·rw[←e1]at hx
  obtain⟨j,h1,h2,h3,h4⟩:=I.mem x (List.mem_of_mem_erase hx)
  refine⟨j,h1,h2,h3,?_⟩
  rw[hh,h4]
  have:j≠i:=fun e=>by
   rw[h1,e]at hx
   exact hno.not_mem_erase hx
  simp[this]
 ·have:=I.cnt q
  have h2:countM (aDel (i:Int) es) q≤countM es q:=(aDel_sub _ _).countP_le
  omega
def missM (c:Ch)(n:Nat):Nat:=(List.range (n+1)).countP fun j:Nat=>!hasM c (j:Int)
theorem countP_one {p:Nat→Bool}{i:Nat}: ∀{l:List Nat},l.Nodup→i∈l→p i=true→l.countP (fun j=>p j&&!decide (j=i))+1=l.countP p
 | x::l,hn,hi,hp=>by
   obtain⟨h1,h2⟩:=List.nodup_cons.1 hn
   rw[List.countP_cons,List.countP_cons]
   by_cases e:x=i
   ·subst e
    have:l.countP (fun j=>p j&&!decide (j=x))=l.countP p:=List.countP_congr fun j hj=>by
     have:j≠x:=fun e=>h1 (e ▸hj)
     simp[this]
    rw[this,hp]
    simp
   ·have hil:i∈l:=by
      rcases List.mem_cons.1 hi with h | h
      ·exact absurd h.symm e
      ·exact h
    have ih:=countP_one h2 hil hp
    simp[e]
    omega
theorem missM_one {c c2:Ch}{n i:Nat}(hi:i≤n)(h0:hasM c (i:Int)=false)(hh: ∀j:Nat,hasM c2 (j:Int)=(hasM c (j:Int)||decide (j=i))):missM c2 n+1=missM c n:=by
 have:=countP_one (p:=fun j:Nat=>!hasM c (j:Int)) (i:=i) (l:=List.range (n+1)) List.nodup_range (List.mem_range.2 (by omega)) (by simp[h0])
 unfold missM
 rw[←this]
 congr 1
 refine List.countP_congr fun j hj=>?_
 rw[hh]
 simp
theorem missM_zero {c:Ch}{n:Nat}(h: ∀j:Nat,j≤n→hasM c (j:Int)=true):missM c n=0:=by
 unfold missM
 rw[List.countP_eq_zero]
 intro j hj
 have:=List.mem_range.1 hj
 simp[h j (by omega)]
theorem hon_check {work:Int}(h0:0≤work)(h1:work≤1000):checkM (rulesM work)=0:=by
 unfold checkM
 rw[if_neg,if_neg]
 ·show¬((0:Int)<0∨(1000:Int)<0∨(10:Int)<1∨(1048576:Int)<10∨(50:Int)<0∨(1125899906842624:Int)<50∨work<0∨1000<work)
  omega
 ·rintro(h | h)
  ·have h:tgt 545259519#32=none:=h
   rw[easy_tgt]at h
   cases h
  ·exact h rfl
theorem hon_conn (m:UInt8):conn1 (firstM 50 0 m) 0 50 []=(0,[((txIdM (firstM 50 0 m),BitVec.ofNat 32 0),(⟨50,sha [m]⟩,0))]):=by
 have hs:sumM [⟨50,sha [m]⟩]=(50,true):=by simp[sumM,sumGo]
 unfold conn1
 rw[show(firstM 50 0 m).outs=[⟨50,sha [m]⟩]from rfl,hs,if_neg (by simp)]
 unfold layM
 rw[show(firstM 50 0 m).outs=[⟨50,sha [m]⟩]from rfl,if_neg (by simp[layHit,lk])]
 rfl
def hon0 (work:Int):Ch:=⟨rulesM work,newM (rulesM work),(conn1 (firstM 50 0 0) 0 50 []).2,[(0,genB)],[],0⟩
theorem hon0_C {work:Int}{m:UInt8}{n:Nat}{bs:List Blk1}(H:HonB work m n bs):HonC work m bs 0 (hon0 work):=by
 have T:=honT_gen H
 have w:=T.wf
 have hlk: ∀{i:Int} {b:Blk1},lk i [((0:Int),genB)]=some b→b=genB:=fun hb=>by
  have:=lk_in hb
  have:=List.mem_singleton.1 this
  exact(Prod.mk.inj this).2
 refine⟨⟨⟨w,by show(newM (rulesM work)).length≤16384;rw[T.len];omega,fun i b hb=>?_,fun e he=>(by cases he),(show(-4611686018427387904:Int)≤50 by decide),(show(50:Int)≤4611686018427387904 by decide)⟩,rfl,w.ne,fun k hk=>?_⟩,rfl,T,?_,?_⟩
 ·rw[hlk hb]
  exact⟨_,rfl,firstM_ok 50 0 0⟩
 ·have hl:k< (newM (rulesM work)).length:=by
    have:=On.le w w.ne hk
    have:=w.ne
    omega
  have h1:k≤0:=On.le w w.ne hk
  have:k=0:=by omega
  subst this
  rfl
 ·intro j
  show(lk (j:Int) [((0:Int),genB)]).isSome=true↔_
  rw[lk_cons]
  by_cases h:j=0
  ·subst h;simp
  ·have:¬(j:Int)=0:=by omega
   simp[h,this,lk]
 ·intro e he
  have he:e∈(conn1 (firstM 50 0 0) 0 50 []).2:=he
  rw[hon_conn]at he
  rw[List.mem_singleton.1 he]
  exact⟨0,by omega,rfl⟩
theorem Sep.cutAt {s:V}{op:List Int}{L:List Asn}{st:St}(h:Sep (Sl 1 e1 s op::L) st){a:Nat}(ha:a<op.length)(hb:op.length≤1000):
  ∃sid ys,s=.hsl sid 0 1 op.length∧elems st 1 (.hsl sid (a+1) 1 (op.length-(a+1)))=some (ys,op.length-(a+1))∧
   ∀K:V→St→Prop,(∀s' st',Sep (Sl 1 e1 s' (op.eraseIdx a)::L) st'→K s' st')→appS 1 8 (.hsl sid 0 1 a) (some (ys,op.length-(a+1))) st K:=by
 obtain⟨a0,r,h1,h2,h3,h4⟩:=h
 have hl:=rowsOf_length e1_len op
 rcases h3 with⟨hs,rfl⟩ | ⟨sid,spare,rfl,h5,h6⟩
 ·cases ha
 ·have hsid:st sid=some (.cells (rowsOf e1 op++spare)):=h2 _ _ (add_some h5)
  have hd:(rowsOf e1 op).drop (a+1)=rowsOf e1 (op.drop (a+1)):=by
   have:=rowsOf_drop e1_len (a+1) op
   rwa [Nat.mul_one]at this
  have ht:(rowsOf e1 op).take a=rowsOf e1 (op.take a):=by
   have:=rowsOf_take e1_len a op
   rwa [Nat.mul_one]at this
  have hly:(rowsOf e1 (op.drop (a+1))).length=op.length-(a+1):=by rw[rowsOf_length e1_len,List.length_drop,Nat.mul_one]
  refine⟨sid,rowsOf e1 (op.drop (a+1)),rfl,?_,fun K hK=>?_⟩
  ·have:st.seg sid (a+1) ((op.length-(a+1))*1)=some (rowsOf e1 (op.drop (a+1))):=by
     simp only[St.seg,hsid,segOf]
     rw[if_pos (by rw[List.length_append];omega),List.drop_append_of_le_length (by omega),hd,List.take_append_of_le_length (by omega),List.take_of_length_le (by omega)]
   simp only[elems,if_true,this,Option.map_some]
  ·refine app_room _ _ hsid (by omega) (by rw[List.length_append];omega) (hK _ _ ?_)
   have hsep:Sep (pt sid (.cells (rowsOf e1 op++spare))::L) st:=⟨a0,r,h1,h2,h5,h4⟩
   have hle:(op.eraseIdx a).length=a+(op.length-(a+1)):=by rw[List.length_eraseIdx_of_lt ha];omega
   refine(hsep.set _).head fun h hh=>.inr ⟨sid,(rowsOf e1 op++spare).drop (op.length-1),by rw[hle],hh.trans (congrArg (fun c=>some (AObj.cells c)) ?_),by simp⟩
   unfold spliceV
   rw[Nat.zero_add,Nat.mul_one,List.take_append_of_le_length (by omega),ht,hly,List.eraseIdx_eq_take_drop_succ,rowsOf_append,show a+(op.length-(a+1))=op.length-1 by omega]
theorem HonL.count {work:Int}{m:UInt8}{bs:List Blk1}{n tp:Nat}{c:Ch}(C:HonL work m bs n tp c):(missM c n=0→tp=n∨hasM c ((tp+1:Nat):Int)=false→tp=n)∧(tp=n→missM c n=0):=by
 refine⟨fun h0 h1=>?_,fun h=>?_⟩
 ·rcases h1 with h1 | h1
  ·exact h1
  ·by_cases e:tp=n
   ·exact e
   ·have hle:=C.le
    unfold missM at h0
    have:=List.countP_eq_zero.1 h0 (tp+1) (List.mem_range.2 (by omega))
    rw[h1]at this
    exact absurd rfl this
 ·refine missM_zero fun j hj=>?_
  exact C.ok.way j (C.tree.on (by omega) (by have:=C.le;omega))
theorem aSet_len {K A:Type}[DecidableEq K]{k:K}{v:A}: ∀{l:List (K×A)},lk k l=none→(aSet k v l).length=l.length+1
 | [],_=>rfl
 | p::l,h=>by
   rw[lk_cons]at h
   rw[aSet]
   split at h
   ·cases h
   ·rename_i hk
    rw[if_neg hk,List.length_cons,aSet_len h,List.length_cons]
structure HonA (work:Int) (m:UInt8) (bs:List Blk1) (k:Nat) (l:List Nd):Prop where
 tree:HonT bs k l
 find: ∀i:Nat,i≤k→∀b,bs[i]? =some b→findM l (hId b.hdr)=some i
theorem honA_gen {work:Int}{m:UInt8}{n:Nat}{bs:List Blk1}(H:HonB work m n bs):HonA work m bs 0 (newM (rulesM work)):=by
 refine⟨honT_gen H,fun i hi b hb=>?_⟩
 have:i=0:=by omega
 subst this
 rw[H.gen]at hb
 cases hb
 show(if hId genB.hdr=hId genB.hdr then some 0 else none)=some 0
 exact if_pos rfl
theorem HonA.add {work:Int}{m:UInt8}{n k:Nat}{bs:List Blk1}{l:List Nd}(A:HonA work m bs k l)(H:HonB work m n bs)(hk:k+1<bs.length)(hn:n≤40){b:Blk1}(hb:bs[k+1]? =some b):
  (∃y:Int,addM (rulesM work) l b.hdr 1099511627776=(l,y,5))∨∃l',addM (rulesM work) l b.hdr 1099511627776=(l',((k+1:Nat):Int),0)∧HonA work m bs (k+1) l':=by
 cases hf:findM l (hId b.hdr)with
 | some y=>exact .inl ⟨y,by unfold addM;rw[hf]⟩
 | none=>
   obtain⟨h1,h2⟩:=honT_add H A.tree hk hn hb hf
   refine .inr ⟨_,h1,h2,fun i hi b' hb'=>?_⟩
   rw[findM_append]
   by_cases e:i=k+1
   ·subst e
    rw[hb]at hb'
    cases hb'
    have:(ndOf l b.hdr k).id=hId b.hdr:=rfl
    rw[this,if_pos rfl,A.tree.len]
   ·have h3:=A.find i (by omega) b' hb'
    have hne:(ndOf l b.hdr k).id≠hId b'.hdr:=fun e'=>by
     have e':hId b.hdr=hId b'.hdr:=e'
     rw[e',h3]at hf
     cases hf
    rw[if_neg hne,h3]
theorem HonA.line {work:Int}{m:UInt8}{n N:Nat}{bs:List Blk1}{l:List Nd}(A:HonA work m bs n l)(H:HonB work m N bs)(hn:n≤40):
  HonL work m bs n 0 {hon0 work with l:=l}∧(n=0∨hasM {hon0 work with l:=l} ((0+1:Nat):Int)=false)∧({hon0 work with l:=l}:Ch).bs.length+missM {hon0 work with l:=l} n=n+1:=by
 have T:=A.tree
 have C0:=hon0_C H
 have hhas: ∀j:Nat,hasM {hon0 work with l:=l} (j:Int)=true↔j=0:=fun j=>by
  have:=C0.has j
  have e:hasM {hon0 work with l:=l} (j:Int)=hasM (hon0 work) (j:Int):=rfl
  rw[e,this]
  omega
 refine⟨⟨⟨⟨T.wf,by show l.length≤16384;rw[T.len];omega,C0.ok.one,C0.ok.us,C0.ok.s1,C0.ok.s2⟩,rfl,T.lt (Nat.zero_le _),fun k hk=>?_⟩,rfl,T,Nat.zero_le _,fun j h0 hj=>?_,C0.cm⟩,?_,?_⟩
 ·have:k≤0:=T.le (Nat.zero_le _) hk
  exact(hhas k).2 (by omega)
 ·have:=(hhas j).1 hj
  omega
 ·right
  cases h:hasM {hon0 work with l:=l} ((0+1:Nat):Int)with
  | false=>rfl
  | true=>have:=(hhas (0+1)).1 h;omega
 ·have h1:=countP_one (p:=fun _=>true) (i:=0) (l:=List.range (n+1)) List.nodup_range (List.mem_range.2 (by omega)) rfl
  have h2:missM {hon0 work with l:=l} n=(List.range (n+1)).countP fun j=>true&&!decide (j=0):=by
   unfold missM
   refine List.countP_congr fun j hj=>?_
   have:=hhas j
   by_cases e:j=0
   ·subst e
    rw[(hhas 0).2 rfl]
    simp
   ·have:hasM {hon0 work with l:=l} (j:Int)=false:=by
      cases h:hasM {hon0 work with l:=l} (j:Int)with
      | false=>rfl
      | true=>exact absurd ((hhas j).1 h) e
    rw[this]
    simp[e]
  rw[h2]
  have h3:(List.range (n+1)).countP (fun _=>true)=n+1:=by simp
  rw[h3]at h1
  show 1+_=_
  omega
section
variable {P:Program} {F:Fn} {cid tid bid uid:Nat} {c:Ch} {mo:Option Nat}
theorem spec269 (ok:OkChain P F){st:St}(h:ChR cid c st mo tid bid uid):ACalls P (F 269) [.ptr (some (cid,0))] st fun v st'=>v=.int .i64 (c.bs.length:Nat)∧st'=st:=by
 refine shows_call ok.mixed ok.h269 (by simp[k269]) ?_
 simp only[k269]
 have hl:lenMapV st (.map (some bid))=some (.int .i64 (c.bs.length:Nat)):=by simp[lenMapV,h.bod,encM]
 simp[St.seg,h.top,cseg2,hl]
end
end Go.Ab

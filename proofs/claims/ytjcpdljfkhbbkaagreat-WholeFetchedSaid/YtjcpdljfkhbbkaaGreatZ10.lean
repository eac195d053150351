import Derived.Test.YtjcpdljfkhbbkaaGreatZ9
import Derived.Test.YtjcpdljfkhbbkaaGreatZ5
import Derived.Test.YtjcpdljfkhbbkaaGreatZ8
set_option linter.unusedVariables false
set_option linter.unusedSimpArgs false
set_option linter.unusedSectionVars false
namespace Go.Ab
open Go Go.RowKit
set_option maxRecDepth 10000
section
variable {P:Program} {F:Fn}
structure FetR (bs:List Blk1) (n:Nat) (k:Nat) (c:Ch) (tp:Nat) (es:Fls) (op:List Int):Prop where
 line:HonL 1 3 bs n tp c
 find: ∀i:Nat,i≤n→∀b,bs[i]? =some b→findM c.l (hId b.hdr)=some i
 stop:tp=n∨hasM c ((tp+1:Nat):Int)=false
 cnt:c.bs.length+missM c n=n+1
 tim:missM c n+k≤n+min k 60
 tab:FetI n c es op
theorem rem_nat {a b:Int}(ha:0≤a)(hb:0<b):0≤a.tmod b∧a.tmod b<b:=⟨Int.tmod_nonneg b ha,Int.tmod_lt_of_pos a hb⟩
set_option maxHeartbeats 16000000 in
theorem spec301 (ok:OkTopF P F)(hc:CloneC P (F 256))(oks:SortC P (F 286))(st:St)(n peers:Int){s2:V}{picks:List Int}(hr2:Rd 1 e1 s2 picks st):ACalls P (F 301) [.int .i64 n,.int .i64 peers,s2] st fun v st'=>v=.bool true:=by
 have okh:=ok.toOkHonest
 have okw:=ok.toOkWindow
 have okc:=okw.toOkChain
 have oki:=okc.toOkLocate.toOkIndexZ.toOkIndex
 refine shows_call ok.mixed ok.h301 (by simp[k301]) ?_
 simp only[k301]
 have eqp: ∀c,eqK .ptr (V.ptr (some (c,0))) (V.ptr none)=some false:=fun _=>rfl
 have hfH: ∀x,fldV false 102 1 (V.agg (eNd x))=some (.int .i64 x.height):=fun x=>by
  show(segOf _ 102 1).bind (packV false)=_
  rw[osegHgt];rfl
 simp
 refine(spec190 okh st 1).mono ?_
 rintro v st2 ⟨rfl,rfl⟩
 obtain⟨r,hr⟩: ∃r,r=rulesM 1:=⟨_,rfl⟩
 rw[←hr]
 simp
 intro i7 h7
 have S:=(Sep.start st2).new h7 (.cells z74_2f53)
 have hst:=store_pt (sz:=74) (o:=0) S.get (v:=.agg (eRl r)) (vs:=eRl r) rfl (eRl_len r) (by simp)
 rw[show spliceV z74_2f53 0 (eRl r)=eRl r by simp[spliceV,eRl_len]]at hst
 have S:=S.set (.cells (eRl r))
 simp[hst]at S⊢
 generalize st2.upd i7 (.cells (eRl r))=st3 at S⊢
 have o7:=S.get
 have hsa:segOf (eRl r) 0 74=some (eRl r):=by simp[segOf,eRl_len,List.take_of_length_le]
 simp[St.seg,o7,hsa]
 have hg:=hon_blk genM 0 0 (by rfl)
 refine(spec265a okc hc st3 r genB (firstM 50 0 0) (by rw[hr];rfl) (by rw[hr];rfl) rfl (firstM_ok 50 0 0) (by rw[hr];exact hon_check (by omega) (by omega)) hg.1 (by rw[hr];show(conn1 (firstM 50 0 0) 0 50 []).1=0;rw[hon_conn])).mono ?_
 rintro v st4 ⟨cid,rfl,W⟩
 have hc0:(⟨r,newM r,(conn1 (firstM 50 0 0) 0 r.subsidy []).2,[(0,genB)],[],0⟩:Ch)={hon0 1 with l:=newM (rulesM 1)}:=by rw[hr];rfl
 rw[hc0]at W
 have S:Sep [ChA cid {hon0 1 with l:=newM (rulesM 1)},pt i7 (.cells (eRl r)),Was st2] st4:=W.asn.ov S
 clear W o7
 simp
 intro i10 h10
 have W:WinS i10 [] 0 [ChA cid {hon0 1 with l:=newM (rulesM 1)},pt i7 (.cells (eRl r)),Was st2] (st4.upd i10 (.cells [.map none,.int .i64 0])):=WinS.start (S.new h10 _)
 generalize st4.upd i10 _=st5 at W⊢
 clear S
 obtain⟨mv,o10⟩:=W.at
 have hlim:limM 0=20:=by decide
 simp[eqp]
 refine(spec279 okw o10 (by omega)).mono ?_
 rintro v st6 ⟨rfl,rfl⟩
 rw[hlim]
 have hlen2:=hr2.len
 simp
 by_cases h1:n<0
 ·simp[h1]
  exact⟨_,sub_self _⟩
 by_cases h2:40<n
 ·simp[h1,h2]
  exact⟨_,sub_self _⟩
 by_cases h3:peers<1
 ·simp[h1,h2,h3]
  exact⟨_,sub_self _⟩
 by_cases h4:4<peers
 ·simp[h1,h2,h3,h4]
  exact⟨_,sub_self _⟩
 by_cases h5:60<picks.length
 ·have h5':60< (picks.length:Int):=by omega
  simp[h1,h2,h3,h4,hlen2,h5',h5]
  exact⟨_,sub_self _⟩
 have h5':¬60< (picks.length:Int):=by omega
 obtain⟨N,rfl⟩: ∃N:Nat,n=N:=⟨n.toNat,by omega⟩
 have hN:N≤40:=by omega
 have o7:st6 i7=some (.cells (eRl r)):=W.rest.mem (by simp)
 simp[h1,h2,h3,h4,hlen2,h5',h5,St.seg,o7,hsa]
 refine(spec188 okh st6 r genB (by rw[hr];rfl) (by rw[hr];rfl) N (by omega) 3).mono ?_
 rintro v st7 ⟨⟨k,rfl⟩,rfl⟩
 have H:=honB N 1 3
 rw[←hr]at H
 obtain⟨bs,hbs⟩: ∃bs,bs=chainM r genB (N:Int) 3:=⟨_,rfl⟩
 rw[←hbs]at H⊢
 have w0:IntKind.i64.wrap ((N:Int)+1)=(N:Int)+1:=wrap64 (by omega) (by omega)
 have hlnb:lenSlV (V.sl k (rowsOf eBlk bs) bs.length)=some (.int .i64 (bs.length:Int)):=rfl
 by_cases hlen:bs.length≠N+1
 ·have hlen':¬(bs.length:Int)=(N:Int)+1:=by omega
  have hlb:((bs.length:Int) != (N:Int)+1)=true:=bne_iff_ne.2 hlen'
  simp[hlnb,w0,hlb]
  exact⟨_,sub_self _⟩
 have hlen:bs.length=N+1:=by omega
 rw[hlen]
 have hlnb:lenSlV (V.sl k (rowsOf eBlk bs) (N+1))=some (.int .i64 ((N:Int)+1)):=rfl
 have hsl1: ∀env:Env,slV env 69 (some (X.k (V.int .i64 1))) none none (.sl k (rowsOf eBlk bs) (N+1))=some (.sl (slK k true) (rowsOf eBlk (bs.drop 1)) N):=fun env=>by
  have hd:(rowsOf eBlk bs).drop 69=rowsOf eBlk (bs.drop 1):=by
   have:=rowsOf_drop eBlk_len 1 bs
   rwa [Nat.one_mul]at this
  have hl:=rowsOf_length eBlk_len (bs.drop 1)
  have hl2:=rowsOf_length eBlk_len bs
  rw[List.length_drop,hlen,Nat.add_sub_cancel]at hl
  simp[slV,bounds,boundOf,natOf,hlen,hl2,hd,-List.drop_one]
  rw[List.take_of_length_le (by omega)]
 have hln1:lenSlV (V.sl (slK k true) (rowsOf eBlk (bs.drop 1)) N)=some (.int .i64 (N:Int)):=rfl
 simp[hlnb,w0,hsl1,hln1,-List.drop_one]
 have hA:=honA_gen H
 refine vc_joinB (M:=fun env' st'=>∃l,HonA 1 3 bs N l∧WinS i10 [] 0 [ChA cid {hon0 1 with l:=l},pt i7 (.cells (eRl r)),Was st2] st') ?_ ?_
 ·refine vc_loopJ (fun d env' st'=>∃(i:Nat) (l:List Nd),i≤N∧d=N-i∧env' 79=.int .i64 (i:Nat)∧HonA 1 3 bs i l∧WinS i10 [] 0 [ChA cid {hon0 1 with l:=l},pt i7 (.cells (eRl r)),Was st2] st') N
    ⟨0,_,by omega,by omega,by simp,hA,W⟩ ?_
  clear W hA
  rintro J hJ d env1 st8 hsame ⟨i,l,hi,rfl,h79,A,W⟩
  have g8:=(hsame.get 8 rfl).trans (by simp:_=V.ptr (some (cid,0)))
  have g77:=(hsame.get 77 rfl).trans (by simp:_=V.sl (slK k true) (rowsOf eBlk (bs.drop 1)) N)
  have g78:=(hsame.get 78 rfl).trans (by simp:_=V.int .i64 (N:Int))
  clear hsame
  by_cases hlt:i<N
  ·have hlt':(i:Int)< (N:Int):=by omega
   have w1:IntKind.i64.wrap ((i:Int)+1)=(i:Int)+1:=wrap64 (by omega) (by omega)
   have hdl:(bs.drop 1).length=N:=by rw[List.length_drop];omega
   have rd:Rd 69 eBlk (.sl (slK k true) (rowsOf eBlk (bs.drop 1)) N) (bs.drop 1) st8:=.inl ⟨slK k true,by rw[hdl]⟩
   obtain⟨r1,r2,r3,r4⟩:=rd.row eBlk_len (i:=i) (by omega)
   obtain⟨b,hb⟩: ∃b,b=(bs.drop 1)[i]'(by omega):=⟨_,rfl⟩
   rw[←hb]at r3
   have hbi:bs[i+1]? =some b:=by
    rw[hb,List.getElem_drop,List.getElem?_eq_getElem (by omega)]
    congr 2
    omega
   simp[g77,g78,h79,hlt,r1,r3,-List.drop_one]
   intro i13 h13
   have W:=W.new h13 (.cells (eBlk b))
   have hst:storeS (st8.upd i13 (.cells z69_adc1)) 69 (.ptr (some (i13,0))) (.agg (eBlk b))=some (st8.upd i13 (.cells (eBlk b))):=by
    have hst:=store_pt (sz:=69) (o:=0) (St.upd_same st8 i13 (.cells z69_adc1)) (v:=.agg (eBlk b)) (vs:=eBlk b) rfl (eBlk_len b) (by simp)
    rw[show spliceV z69_adc1 0 (eBlk b)=eBlk b by simp[spliceV,eBlk_len]]at hst
    rw[hst]
    simp
   simp[hst,-List.drop_one]
   generalize st8.upd i13 (.cells (eBlk b))=st9 at W⊢
   have o13:=W.rest.get
   have W:WinS i10 [] 0 (ChA cid {hon0 1 with l:=l}::pt i13 (.cells (eBlk b))::pt i7 (.cells (eRl r))::[Was st2]) st9:=W.tail fun r h=>h.swap
   obtain⟨mo,hm0,S⟩:=W.front
   obtain⟨mo',tid,bid,uid,R,hgrow⟩:=chGrow (P:=P) S
   have ot:=R.top
   have hsH:=bsegH b
   have w:=A.tree.wf
   have hwl:l.length≤16384:=by rw[A.tree.len];omega
   have hck:checkM (rulesM 1)=0:=hon_check (by omega) (by omega)
   simp[g8,St.seg,ot,cseg0,o13,hsH]
   rcases A.add H (by omega:i+1<bs.length) hN hbi with⟨y,hadd⟩ | ⟨l',hadd,A'⟩
   ·refine(hgrow (F 169) _ (fun v=>v=.tup [.int .i64 y,.int .i64 5]) l (fun h hT=>by
      have:=spec169 oki hT w hwl hck b.hdr 1099511627776
      have e:({hon0 1 with l:=l}:Ch).r=rulesM 1:=rfl
      rw[e]at this⊢
      rw[hadd]at this
      exact this)).mono ?_
    rintro v st10 ⟨rfl,-⟩
    simp
    exact⟨_,sub_self _⟩
   ·refine(hgrow (F 169) _ (fun v=>v=.tup [.int .i64 ((i+1:Nat):Int),.int .i64 0]) l' (fun h hT=>by
      have:=spec169 oki hT w hwl hck b.hdr 1099511627776
      have e:({hon0 1 with l:=l}:Ch).r=rulesM 1:=rfl
      rw[e]at this⊢
      rw[hadd]at this
      exact this)).mono ?_
    rintro v st10 ⟨rfl,S⟩
    have W:=WinS.back hm0 S
    simp[h79,w1]
    exact Round.mk (N-(i+1)) _ (by omega) (sub_self _) (hJ _ _ _ ⟨i+1,l',by omega,rfl,by simp,A',W.tail fun r h=>h.tail fun r h=>h.drop⟩)
  ·have:i=N:=by omega
   subst this
   simp[g78,h79]
   exact⟨l,A,W⟩
 clear W hA
 rintro env1 st8 hsame ⟨l,A,W⟩
 have g0:=(hsame.get 0 rfl).trans (by simp:_=V.int .i64 (N:Int))
 have g1:=(hsame.get 1 rfl).trans (by simp:_=V.int .i64 peers)
 have g2:=(hsame.get 2 rfl).trans (by simp:_=s2)
 have g8:=(hsame.get 8 rfl).trans (by simp:_=V.ptr (some (cid,0)))
 have g10:=(hsame.get 10 rfl).trans (by simp:_=V.ptr (some (i10,0)))
 have g11:=(hsame.get 11 rfl).trans (by simp:_=V.sl k (rowsOf eBlk bs) (N+1))
 clear hsame
 obtain⟨PE,rfl⟩: ∃PE:Nat,peers=PE:=⟨peers.toNat,by omega⟩
 have hPE:1≤PE∧PE≤4:=by omega
 obtain⟨HL,hstop,hcnt⟩:=A.line H hN
 have FR0:FetR bs N 0 {hon0 1 with l:=l} 0 [] []:=⟨HL,A.find,hstop.imp Eq.symm fun h=>h,hcnt,by
  have:0< ({hon0 1 with l:=l}:Ch).bs.length:=by show 0<1;omega
  omega,FetI.nil⟩
 simp
 refine vc_joinB (M:=fun env' st'=>∃c:Ch,HonL 1 3 bs N N c∧c.bs.length=N+1∧Sep [ChA cid c,Was st2] st') ?_ ?_
 ·refine vc_loopJ (fun d env' st'=>∃(kk:Nat) (c:Ch) (tp:Nat) (es:Fls) (op:List Int),kk≤100∧d=101-kk∧env' 17=.int .i64 (kk:Nat)∧FetR bs N kk c tp es op∧
     WinS i10 es 0 (ChA cid c::Sl 1 e1 (env' 16) op::pt i7 (.cells (eRl r))::[Was st2]) st') 101
    ⟨0,_,0,[],[],by omega,by omega,by simp,FR0,by
     obtain⟨mo,hm0,S⟩:=W
     exact(WinS.back hm0 (Sep.slNil S)).tail fun r h=>by simpa using h.swap⟩ ?_
  clear W FR0 HL hstop hcnt A
  rintro J hJ d env2 st9 hsame ⟨kk,c,tp,es,op,hkk,rfl,h17,FR,W⟩
  have g0:=(hsame.get 0 rfl).trans (by simp[g0]:_=V.int .i64 (N:Int))
  have g1:=(hsame.get 1 rfl).trans (by simp[g1]:_=V.int .i64 (PE:Int))
  have g2:=(hsame.get 2 rfl).trans (by simp[g2]:_=s2)
  have g8:=(hsame.get 8 rfl).trans (by simp[g8]:_=V.ptr (some (cid,0)))
  have g10:=(hsame.get 10 rfl).trans (by simp[g10]:_=V.ptr (some (i10,0)))
  have g11:=(hsame.get 11 rfl).trans (by simp[g11]:_=V.sl k (rowsOf eBlk bs) (N+1))
  clear hsame
  have T:=FR.line.tree
  have w:=T.wf
  have hcl:c.l.length≤16384:=FR.line.ok.len
  have hct:c.tip=(tp:Int):=FR.line.ok.tip
  have htl:tp<c.l.length:=FR.line.ok.lt
  have hnh:(nd c.l (inI c.l (tp:Int))).height=tp:=by rw[inI_nat htl,nd_hgt_eq htl,T.hgt FR.line.le]
  have hk4:(kk:Int)<400:=by omega
  obtain⟨mo,tid,bid,uid,R⟩:=chRead W.rest
  have ot:=R.top
  have TR:=R.tree w.neNil
  simp[h17,hk4,g8,g0,St.seg,ot,cseg0]
  refine⟨_,spec266 okc R,?_⟩
  simp[hct,St.seg,ot,cseg0]
  refine⟨_,spec161 oki TR w tp,?_⟩
  have hle:=FR.line.le
  by_cases htN:tp=N
  ·subst htN
   simp[hfH,hnh]
   refine⟨c,FR.line,?_,W.rest.tail fun r h=>h.drop.drop⟩
   have:=FR.cnt
   rw[FR.line.count.2 rfl]at this
   omega
  have htlt:(tp:Int)< (N:Int):=by omega
  have htlt2:tp<N:=by omega
  simp[hfH,hnh,htlt,htlt2]
  clear ot TR
  have hbest:bestM c.l=N:=T.best hN
  refine vc_joinB (M:=fun env' st'=>∃(es:Fls) (op:List Int),FetI N c es op∧op≠[]∧WinS i10 es 0 (ChA cid c::Sl 1 e1 (env' 16) op::pt i7 (.cells (eRl r))::[Was st2]) st') ?_ ?_
  ·refine vc_loopJ (fun d env' st'=>∃(p:Nat) (es:Fls) (op:List Int),p≤PE∧d=PE-p∧env' 115=.int .i64 (p:Nat)∧FetI N c es op∧(0<p→op≠[])∧
      WinS i10 es 0 (ChA cid c::Sl 1 e1 (env' 16) op::pt i7 (.cells (eRl r))::[Was st2]) st') PE
     ⟨0,es,op,by omega,by omega,by simp,FR.tab,by omega,by simpa using W⟩ ?_
   clear W R
   rintro J2 hJ2 d env3 st10 hsame ⟨p,es,op,hp,rfl,h115,I,hop,W⟩
   have q8:=(hsame.get 8 rfl).trans (by simp[g8]:_=V.ptr (some (cid,0)))
   have q10:=(hsame.get 10 rfl).trans (by simp[g10]:_=V.ptr (some (i10,0)))
   have q17:=(hsame.get 17 rfl).trans (by simp[h17]:_=V.int .i64 (kk:Int))
   have q114:=(hsame.get 114 rfl).trans (by simp[g1]:_=V.int .i64 (PE:Int))
   clear hsame
   by_cases hpl:p<PE
   ·have w1:IntKind.i64.wrap ((p:Int)+1)=(p:Int)+1:=wrap64 (by omega) (by omega)
    obtain⟨mo,tid,bid,uid,R⟩:=chRead W.rest
    simp[h115,q114,hpl,q8,q10]
    refine(spec272 okc R w hcl).mono ?_
    rintro v st11 ⟨rfl,rfl⟩
    rw[hbest]
    clear R
    have hes:=I.len
    simp[q8,q10]
    refine(spec289 okw W w hcl (by omega) p N).mono ?_
    clear W
    intro v st12 W
    obtain⟨wl,hwl⟩: ∃wl,wl=wantM c es (p:Int) (N:Int):=⟨_,rfl⟩
    rw[←hwl]at W
    have hwe:=FR.line.want hN es (p:Int)
    rw[←hwl]at hwe
    have hwn:wl.Nodup:=by
     rw[hwe]
     refine(List.take_sublist _ _).nodup ((List.filter_sublist).nodup ?_)
     rw[List.nodup_iff_pairwise_ne,List.pairwise_map]
     refine List.nodup_range.imp fun{a b} h e=>h (by omega)
    have hwm: ∀i∈wl,i∉op∧∃j:Nat,i=(j:Int)∧0<j∧j≤N∧hasM c (j:Int)=false:=fun i hi=>by
     rw[hwe]at hi
     obtain⟨h1,h2⟩:=List.mem_filter.1 (List.mem_of_mem_take hi)
     obtain⟨x,hx,rfl⟩:=List.mem_map.1 h1
     have hx:=List.mem_range.1 hx
     rw[Bool.and_eq_true,Bool.not_eq_true',Bool.not_eq_true']at h2
     refine⟨fun h=>?_,x+1,rfl,by omega,by omega,h2.2⟩
     have:=(I.look _).2 h
     rw[h2.1]at this
     cases this
    have hwlen:countM es (p:Int)+wl.length≤16:=by
     have:=I.cnt (p:Int)
     rw[hwe,List.length_take]
     omega
    have hwne:op=[]→wl≠[]:=fun h0 h1=>by
     have he:es=[]:=by
      have:=hes.2
      rw[h0]at this
      exact List.eq_nil_of_length_eq_zero this.symm
     rw[hwe,he]at h1
     have hm:((tp+1:Nat):Int)∈((List.range N).map fun k=>((k+1:Nat):Int)).filter fun i=>!(lk i ([]:Fls)).isSome&&!hasM c i:=by
      rw[List.mem_filter]
      refine⟨List.mem_map.2 ⟨tp,List.mem_range.2 htlt2,rfl⟩,?_⟩
      rcases FR.stop with h | h
      ·omega
      ·rw[h];rfl
     have hz:countM ([]:Fls) (p:Int)=0:=rfl
     rw[hz]at h1
     have hl:=congrArg List.length h1
     have hpos:=List.length_pos_of_mem hm
     rw[List.length_take,List.length_nil]at hl
     omega
    have hlv:=(Sep.rd e1_len (W.rest.head fun h hh=>hh.sl)).len
    simp[hlv]
    refine vc_joinB (M:=fun env' st'=>∃(es:Fls) (op:List Int),FetI N c es op∧op≠[]∧WinS i10 es 0 (ChA cid c::Sl 1 e1 (env' 16) op::pt i7 (.cells (eRl r))::[Was st2]) st') ?_ ?_
    ·refine vc_loopJ (fun d env' st'=>∃(a:Nat) (es':Fls) (op':List Int),a≤wl.length∧d=wl.length-a∧env' 124=.int .i64 (a:Nat)∧FetI N c es' op'∧(∀i∈wl.drop a,i∉op')∧
        countM es' (p:Int)+(wl.length-a)≤16∧(op≠[]∨0<a→op'≠[])∧
        WinS i10 es' 0 (Slx 1 e1 v wl::ChA cid c::Sl 1 e1 (env' 16) op'::pt i7 (.cells (eRl r))::[Was st2]) st') wl.length
       ⟨0,es,op,by omega,by omega,by simp,I,fun i hi=>(hwm i hi).1,by omega,fun h=>h.elim (fun h=>h) fun h=>absurd h (by omega),by simpa using W⟩ ?_
     clear W
     rintro J3 hJ3 d env4 st13 hsame ⟨a,es',op',ha,rfl,h124,I',hfr,hct',hne',W⟩
     have t10:=(hsame.get 10 rfl).trans (by simp[q10]:_=V.ptr (some (i10,0)))
     have t17:=(hsame.get 17 rfl).trans (by simp[q17]:_=V.int .i64 (kk:Int))
     have t18:=(hsame.get 18 rfl).trans (by simp:_=V.int .i64 (p:Int))
     have t122:=(hsame.get 122 rfl).trans (by simp:_=v)
     have t123:=(hsame.get 123 rfl).trans (by simp:_=V.int .i64 (wl.length:Int))
     clear hsame
     by_cases hal:a<wl.length
     ·have w2:IntKind.i64.wrap ((a:Int)+1)=(a:Int)+1:=wrap64 (by omega) (by omega)
      obtain⟨r1,r2,r3,r4⟩:=(Sep.rd e1_len (W.rest.head fun h hh=>hh.sl)).row e1_len hal
      obtain⟨x,hx⟩: ∃x,x=wl[a]:=⟨_,rfl⟩
      rw[←hx]at r3
      have hxm:x∈wl:=hx ▸List.getElem_mem hal
      have hxn:x∉op':=hfr x (by rw[List.drop_eq_getElem_cons hal,←hx];exact List.mem_cons_self)
      obtain⟨e0,e1',I2,hc2⟩:=I'.ask (now:=(kk:Int)) hxn (hwm x hxm).2 (p:=(p:Int)) (by omega)
      have hes':=I'.len
      simp[t10,t17,t18,t122,t123,h124,hal,r1,r3,e1]
      refine(spec283 okw W x p kk (by omega)).mono ?_
      rintro v2 st14 ⟨rfl,W⟩
      rw[e0]
      rw[e1']at W
      have hfb1:fillV (repV [V.int .i64 0] 1) [(0,1,V.int .i64 x)]=some [.int .i64 x]:=rfl
      have hel:elems st14 1 (.sl .full [.int .i64 x] 1)=some (e1 x,1):=by simp[elems,e1]
      simp[hfb1,hel]
      obtain⟨mo,hm0,S⟩:=(W.tail fun r h=>h.pull 2).front
      refine Sep.app1 (b:=8) e1_len (by omega) S (a:=x) rfl (by omega) ?_
      intro s' st15 S
      have W:WinS i10 (es'++[(x,(p:Int),(kk:Int))]) 0 (Slx 1 e1 v wl::ChA cid c::Sl 1 e1 s' (op'++[x])::pt i7 (.cells (eRl r))::[Was st2]) st15:=(WinS.back hm0 S).tail fun r h=>h.swap.tail fun r h=>h.swap
      simp[h124,w2]
      refine Round.mk (wl.length-(a+1)) _ (by omega) (sub_self _) (hJ3 _ _ _ ⟨a+1,_,_,by omega,rfl,by simp,I2,fun i hi hm=>?_,by rw[hc2];omega,fun _=>by simp,by simpa using W⟩)
      rcases List.mem_append.1 hm with hm | hm
      ·exact hfr i (by rw[List.drop_eq_getElem_cons hal];exact List.mem_cons_of_mem _ hi) hm
      ·rw[List.mem_singleton.1 hm]at hi
       have h3:=hwn
       rw[←List.take_append_drop a wl,List.drop_eq_getElem_cons hal]at h3
       have h4:=(List.nodup_append.1 h3).2.1
       rw[←hx]at h4
       exact(List.nodup_cons.1 h4).1 hi
     ·have:a=wl.length:=by omega
      subst this
      simp[t123,h124]
      refine⟨es',op',I',hne' ?_,W.tail fun r h=>h.drop⟩
      by_cases h0:op=[]
      ·right
       exact List.length_pos_iff.2 (hwne h0)
      ·exact .inl h0
    clear W
    rintro env4 st13 hsame ⟨es',op',I',hne',W⟩
    have t10:=(hsame.get 10 rfl).trans (by simp[q10]:_=V.ptr (some (i10,0)))
    have t18:=(hsame.get 18 rfl).trans (by simp:_=V.int .i64 (p:Int))
    have t115:=(hsame.get 115 rfl).trans (by simp[h115]:_=V.int .i64 (p:Int))
    clear hsame
    have hes':=I'.len
    have hc16:=I'.cnt (p:Int)
    have hc16':¬16< (countM es' (p:Int):Int):=by omega
    simp[t10,t18]
    refine(spec281 okw W p (by omega)).mono ?_
    clear W
    rintro v2 st14 ⟨rfl,W⟩
    have hc16'':¬16<countM es' (p:Int):=by omega
    simp[hc16',hc16'',t115,w1]
    exact Round.mk (PE-(p+1)) _ (by omega) (sub_self _) (hJ2 _ _ _ ⟨p+1,es',op',by omega,rfl,by simp,I',fun _=>hne',by simpa using W⟩)
   ·have:p=PE:=by omega
    subst this
    simp[h115,q114]
    exact⟨es,op,I,hop (by omega),W⟩
  clear W R
  rintro env3 st10 hsame ⟨es,op,I,hop,W⟩
  have q1:=(hsame.get 1 rfl).trans (by simp[g1]:_=V.int .i64 (PE:Int))
  have q2:=(hsame.get 2 rfl).trans (by simp[g2]:_=s2)
  have q8:=(hsame.get 8 rfl).trans (by simp[g8]:_=V.ptr (some (cid,0)))
  have q10:=(hsame.get 10 rfl).trans (by simp[g10]:_=V.ptr (some (i10,0)))
  have q11:=(hsame.get 11 rfl).trans (by simp[g11]:_=V.sl k (rowsOf eBlk bs) (N+1))
  have q17:=(hsame.get 17 rfl).trans (by simp[h17]:_=V.int .i64 (kk:Int))
  clear hsame
  have hop0:op.length≠0:=fun h=>hop (List.eq_nil_of_length_eq_zero h)
  have hopl:=I.len
  have hop0':¬(op.length:Int)=0:=by omega
  have hopb:((op.length:Int)==0)=false:=beq_eq_false_iff_ne.2 hop0'
  have hlo:=(Sep.rd e1_len W.rest.drop).len
  simp[hlo,hopb,q17,q2,hlen2]
  clear hop
  obtain⟨nn,hnn⟩: ∃nn,nn=op.length:=⟨_,rfl⟩
  have hr9:=hr2.sub (W.rest.was' (st0:=st2) (by simp))
  refine condB_cut (M:=fun env' st'=>st'=st10∧(∃pk:Int,env' 21=.int .i64 pk∧(pk<0→kk<60))∧env' 1=.int .i64 (PE:Int)∧env' 8=.ptr (some (cid,0))∧env' 10=.ptr (some (i10,0))∧env' 11=.sl k (rowsOf eBlk bs) (N+1)∧env' 16=env3 16∧env' 17=.int .i64 (kk:Int)) ?_ ?_
  ·by_cases hkp:kk<picks.length
   ·obtain⟨r1,r2,r3,r4⟩:=hr9.row e1_len (i:=kk) hkp
    simp[hkp,q17,q2,r1,r3,e1,q1,q8,q10,q11]
    omega
   ·simp[hkp,q17,q1,q8,q10,q11]
  rintro env4 st11 ⟨rfl,⟨pk,p21,hpk⟩,p1,p8,p10,p11,p16,p17⟩
  by_cases hneg:pk<0
  ·have hk60:=hpk hneg
   have w5:IntKind.i64.wrap ((kk:Int)+PE)=(kk:Int)+PE:=wrap64 (by omega) (by omega)
   have hPE0:¬(PE:Int)=0:=by omega
   obtain⟨gp,hgp⟩: ∃gp,gp=((kk:Int)+PE).tmod PE:=⟨_,rfl⟩
   have hPE0':¬PE=0:=by omega
   simp[p21,hneg,p17,p1,p10,w5,hPE0']
   rw[←hgp]
   refine(spec285 okw oks W I.nodup gp (by omega)).mono ?_
   clear W
   rintro v st12 ⟨gone,hg,-,W⟩
   have I2:=I.drop hg
   obtain⟨es2,hes2⟩: ∃es2:Fls,es2=es.filter fun e=>e.2.1 != gp:=⟨_,rfl⟩
   rw[←hes2]at W I2
   have hlo2:=(Sep.rd e1_len W.rest.drop.drop).len
   obtain⟨s16,hs16⟩: ∃s16,s16=env3 16:=⟨_,rfl⟩
   rw[←hs16]at W hlo2 p16
   obtain⟨LF,hLF⟩: ∃LF:Nat→List Int,LF=fun a=>(op.take a).filter fun i=>!decide (i∈gone):=⟨_,rfl⟩
   have hLFl: ∀a,(LF a).length≤40:=fun a=>by
    rw[hLF]
    refine Nat.le_trans (List.length_filter_le _ _) ?_
    rw[List.length_take]
    omega
   have hLFs: ∀(a:Nat) (ha:a<op.length),LF (a+1)=if op[a]∈gone then LF a else LF a++[op[a]]:=fun a ha=>by
    rw[hLF]
    simp only
    rw[List.take_succ_eq_append_getElem ha,List.filter_append]
    by_cases h:op[a]∈gone
    ·simp[h]
    ·simp[h]
   simp[p16,hlo2]
   refine vc_joinB (M:=fun env' st'=>WinS i10 es2 0 (Sl 1 e1 (env' 23) (LF op.length)::Slx 1 e1 v gone::ChA cid c::Sl 1 e1 s16 op::pt i7 (.cells (eRl r))::[Was st2]) st') ?_ ?_
   ·refine vc_loopJ (fun d env' st'=>∃a:Nat,a≤op.length∧d=op.length-a∧env' 163=.int .i64 (a:Nat)∧WinS i10 es2 0 (Sl 1 e1 (env' 23) (LF a)::Slx 1 e1 v gone::ChA cid c::Sl 1 e1 s16 op::pt i7 (.cells (eRl r))::[Was st2]) st') op.length
      ⟨0,by omega,by omega,by simp,by
       have e:LF 0=[]:=by rw[hLF];simp
       rw[e]
       obtain⟨mo,hm0,S⟩:=W
       exact(WinS.back hm0 (Sep.slNil S)).tail fun r h=>by simpa using h⟩ ?_
    clear W
    rintro J2 hJ2 d env5 st13 hsame ⟨a,ha,rfl,h163,W⟩
    have t22:=(hsame.get 22 rfl).trans (by simp:_=v)
    have t161:=(hsame.get 161 rfl).trans (by simp[p16]:_=s16)
    have t162:=(hsame.get 162 rfl).trans (by simp:_=V.int .i64 (op.length:Int))
    clear hsame
    by_cases hal:a<op.length
    ·have w6:IntKind.i64.wrap ((a:Int)+1)=(a:Int)+1:=wrap64 (by omega) (by omega)
     obtain⟨r1,r2,r3,r4⟩:=(Sep.rd e1_len W.rest.drop.drop.drop).row e1_len hal
     have hls:=hLFs a hal
     obtain⟨x,hx⟩: ∃x,x=op[a]:=⟨_,rfl⟩
     rw[←hx]at r3 hls
     have hlg:=(Sep.rd e1_len (W.rest.drop.head fun h hh=>hh.sl)).len
     simp[t22,t161,t162,h163,hal,r1,r3,e1,hlg]
     refine vc_joinB (M:=fun env' st'=>st'=st13∧env' 26=.bool (decide (x∈gone))) ?_ ?_
     ·refine vc_loopJ (fun d env' st'=>∃b:Nat,b≤gone.length∧d=gone.length-b∧env' 169=.int .i64 (b:Nat)∧env' 26=.bool (decide (x∈gone.take b))∧st'=st13) gone.length
        ⟨0,by omega,by omega,by simp,by simp,rfl⟩ ?_
      rintro J3 hJ3 d env6 st14 hsame ⟨b,hb,rfl,h169,h26,rfl⟩
      have u25:=(hsame.get 25 rfl).trans (by simp:_=V.int .i64 x)
      have u167:=(hsame.get 167 rfl).trans (by simp[t22]:_=v)
      have u168:=(hsame.get 168 rfl).trans (by simp:_=V.int .i64 (gone.length:Int))
      clear hsame
      by_cases hbl:b<gone.length
      ·have w7:IntKind.i64.wrap ((b:Int)+1)=(b:Int)+1:=wrap64 (by omega) (by have:=hg.length_eq;rw[List.length_map]at this;have:=List.length_filter_le (fun e:Int×Fl=>e.2.1==gp) es;omega)
       obtain⟨k1,k2,k3,k4⟩:=(Sep.rd e1_len (W.rest.drop.head fun h hh=>hh.sl)).row e1_len hbl
       have hts:(x∈gone.take (b+1))↔(x∈gone.take b∨gone[b]=x):=by
        rw[List.take_succ_eq_append_getElem hbl,List.mem_append,List.mem_singleton,eq_comm (a:=x)]
       obtain⟨y,hy⟩: ∃y,y=gone[b]:=⟨_,rfl⟩
       rw[←hy]at k3 hts
       by_cases hin:x∈gone.take b
       ·have hin2:x∈gone.take (b+1):=hts.2 (.inl hin)
        simp[u25,u167,u168,h169,h26,hbl,k1,k3,e1,hin,w7]
        exact Round.mk (gone.length-(b+1)) _ (by omega) (sub_self _) (hJ3 _ _ _ ⟨b+1,by omega,rfl,by simp,by simp[hin2],rfl⟩)
       ·have hin2:decide (x∈gone.take (b+1))=(y==x):=by
          rw[Bool.eq_iff_iff]
          simp[hts,hin]
        simp[u25,u167,u168,h169,h26,hbl,k1,k3,e1,hin,w7]
        exact Round.mk (gone.length-(b+1)) _ (by omega) (sub_self _) (hJ3 _ _ _ ⟨b+1,by omega,rfl,by simp,by simp[hin2],rfl⟩)
      ·have:b=gone.length:=by omega
       subst this
       rw[List.take_length]at h26
       simp[u168,h169]
       exact h26
     rintro env6 st14 hsame ⟨rfl,h26⟩
     have u23:=(hsame.get 23 rfl).trans (by simp:_=env5 23)
     have u25:=(hsame.get 25 rfl).trans (by simp:_=V.int .i64 x)
     have u163:=(hsame.get 163 rfl).trans (by simp[h163]:_=V.int .i64 (a:Int))
     clear hsame
     by_cases hin:x∈gone
     ·rw[if_pos hin]at hls
      simp[h26,hin,u163,w6]
      exact Round.mk (op.length-(a+1)) _ (by omega) (sub_self _) (hJ2 _ _ _ ⟨a+1,by omega,rfl,by simp,by simpa[hls,u23]using W⟩)
     ·rw[if_neg hin]at hls
      have hfb1:fillV (repV [V.int .i64 0] 1) [(0,1,V.int .i64 x)]=some [.int .i64 x]:=rfl
      have hel:elems st14 1 (.sl .full [.int .i64 x] 1)=some (e1 x,1):=by simp[elems,e1]
      have hl40:=hLFl a
      simp[h26,hin,u23,u25,hfb1,hel]
      obtain⟨mo,hm0,S⟩:=W.front
      refine Sep.app1 (b:=8) e1_len (by omega) S (a:=x) rfl (by omega) ?_
      intro s' st15 S
      have W:=WinS.back hm0 S
      simp[u163,w6]
      exact Round.mk (op.length-(a+1)) _ (by omega) (sub_self _) (hJ2 _ _ _ ⟨a+1,by omega,rfl,by simp,by simpa[hls]using W⟩)
    ·have:a=op.length:=by omega
     subst this
     simp[t162,h163]
     exact W
   clear W
   rintro env5 st13 hsame W
   have u17:=(hsame.get 17 rfl).trans (by simp[p17]:_=V.int .i64 (kk:Int))
   clear hsame
   have hLFe:LF op.length=op.filter fun i=>!decide (i∈gone):=by rw[hLF];simp
   rw[hLFe]at W
   have w7:IntKind.i64.wrap ((kk:Int)+1)=(kk:Int)+1:=wrap64 (by omega) (by omega)
   have htim:=FR.tim
   simp[u17,w7]
   refine Round.mk (101-(kk+1)) _ (by omega) (sub_self _) (hJ _ _ _ ⟨kk+1,c,tp,es2,_,by omega,rfl,by simp,⟨FR.line,FR.find,FR.stop,FR.cnt,by omega,I2⟩,?_⟩)
   simpa using(W.tail fun r h=>by
    have h:=(h.tail fun r h=>h.drop)
    exact(h.swap.tail fun r h=>h.tail fun r h=>h.drop))
  have hopz:¬op=[]:=fun h=>hop0 (by rw[h];rfl)
  obtain⟨q1,q2⟩:=rem_nat (a:=pk) (b:=(op.length:Int)) (by omega) (by omega)
  obtain⟨a,ha⟩: ∃a:Nat,pk.tmod (op.length:Int)=(a:Int):=⟨(pk.tmod (op.length:Int)).toNat,by omega⟩
  have hal:a<op.length:=by omega
  have hlo:=(Sep.rd e1_len W.rest.drop).len
  obtain⟨s16,hs16⟩: ∃s16,s16=env3 16:=⟨_,rfl⟩
  rw[←hs16]at W hlo p16
  obtain⟨r1,r2,r3,r4⟩:=(Sep.rd e1_len W.rest.drop).row e1_len hal
  obtain⟨i,hi,h0i,hiN,hno⟩:=I.mem _ (List.getElem_mem hal)
  rw[hi]at r3
  obtain⟨mo,hm0,S⟩:=(W.tail fun r h=>h.swap).front
  obtain⟨sid,ys,hcs,hel,hK⟩:=Sep.cutAt S hal (by omega)
  have w8:IntKind.i64.wrap ((a:Int)+1)=(a:Int)+1:=wrap64 (by omega) (by omega)
  simp[p21,hneg,p16,hlo,hopz,ha,r1,r3,e1]
  have htn:((a:Int)+1).toNat=a+1:=by omega
  have hle1:a≤op.length:=by omega
  have hle2:a+1≤op.length:=by omega
  have h0a:(0:Int)≤(a:Int)+1:=by omega
  simp[p16,hcs,slV,bounds,boundOf,natOf,w8,htn,hle1,hle2,h0a,hel]
  refine hK _ fun s' st12 S2=>?_
  clear hK hel S W r1 r2 r3 r4 hlo
  have W:=WinS.back hm0 S2
  clear S2 hm0
  obtain⟨mo,tid,bid,uid,R⟩:=chRead W.rest.drop
  have ot:=R.top
  have TR:=R.tree w.neNil
  obtain⟨x,rfl⟩: ∃x,i=x+1:=⟨i-1,by omega⟩
  have hil:x+1<c.l.length:=T.lt hiN
  have hni:(nd c.l (inI c.l ((x+1:Nat):Int))).height=x+1:=by rw[inI_nat hil,nd_hgt_eq hil,T.hgt hiN]
  obtain⟨p,b,-,hb,hbe,hro,-⟩:=hon_next H (k:=x) (by omega)
  have hbg: ∀h,bs[x+1]'h=b:=fun h=>by rw[List.getElem?_eq_getElem h]at hb;exact Option.some.inj hb
  have htx:b.txs=[firstM 50 (x+1) 3]:=by rw[hbe]
  obtain⟨hb1,hb2⟩:=hon_blk b.hdr (x+1) 3 hro
  rw[←hbe]at hb1 hb2
  obtain⟨tp',c2,hbody,C2,hbs2,hl2,hst2⟩:=FR.line.body hN h0i hiN hb htx hb1 hb2 (FR.find _ hiN b hb) hno
  simp[p8,p11,St.seg,ot,cseg0]
  have h161:=spec161 oki TR w ((x+1:Nat):Int)
  rw[show((x+1:Nat):Int)=(x:Int)+1 by omega]at h161 hni
  refine h161.mono ?_
  rintro v st13 ⟨rfl,rfl⟩
  have rd:Rd 69 eBlk (.sl k (rowsOf eBlk bs) (N+1)) bs st13:=.inl ⟨k,by rw[hlen]⟩
  obtain⟨r1,r2,r3,r4⟩:=rd.row eBlk_len (i:=x+1) (by omega)
  rw[hbg]at r3
  rw[show((x+1:Nat):Int)=(x:Int)+1 by omega]at r1
  simp[hfH,hni,r1,r3]
  obtain⟨mo,hm0,S⟩:=(W.tail fun r h=>h.swap).front
  refine(spec273 okc hc S FR.line.ok b _ htx (firstM_ok 50 (x+1) 3)).mono ?_
  clear W S R ot TR
  rintro v st14 ⟨rfl,S⟩
  rw[hbody]at S⊢
  have W:=WinS.back hm0 S
  simp[p10]
  refine(spec284 okw W ((x:Int)+1) (by omega)).mono ?_
  clear W S
  intro v st15 W
  have hgt0:gotT es 0 ((x:Int)+1)=0:=by unfold gotT;split<;>rfl
  rw[hgt0]at W
  have w7:IntKind.i64.wrap ((kk:Int)+1)=(kk:Int)+1:=wrap64 (by omega) (by omega)
  simp[p17,w7]
  have hnone:lk ((x+1:Nat):Int) c.bs=none:=by
   unfold hasM at hno
   cases h:lk ((x+1:Nat):Int) c.bs with
   | none=>rfl
   | some _=>rw[h]at hno;cases hno
  have hh: ∀j:Nat,hasM c2 (j:Int)=(hasM c (j:Int)||decide (j=x+1)):=fun j=>by
   unfold hasM
   rw[hbs2,lk_aSet]
   by_cases e:j=x+1
   ·simp[e]
   ·have:¬(j:Int)=((x+1:Nat):Int):=by omega
    rw[if_neg this]
    simp[e]
  have hm1:=missM_one hiN hno hh
  have hc1:=FR.cnt
  have htim:=FR.tim
  have hlen2:c2.bs.length=c.bs.length+1:=by rw[hbs2];exact aSet_len hnone
  refine Round.mk (101-(kk+1)) _ (by omega) (sub_self _) (hJ _ _ _ ⟨kk+1,c2,tp',_,_,by omega,rfl,by simp,⟨C2,fun i hi b h=>by rw[hl2];exact FR.find i hi b h,hst2,by omega,by omega,I.got hal hi hh⟩,?_⟩)
  simpa using W
 clear W FR0 HL hstop hcnt A
 rintro env2 st9 hsame ⟨c,C,hbl,S⟩
 have g0:=(hsame.get 0 rfl).trans (by simp[g0]:_=V.int .i64 (N:Int))
 have g8:=(hsame.get 8 rfl).trans (by simp[g8]:_=V.ptr (some (cid,0)))
 clear hsame
 have T:=C.tree
 have w:=T.wf
 obtain⟨mo,tid,bid,uid,R⟩:=chRead S
 have ot:=R.top
 have TR:=R.tree w.neNil
 have hct:c.tip=(N:Int):=C.ok.tip
 have hNl:N<c.l.length:=C.ok.lt
 have hnh:(nd c.l (inI c.l (N:Int))).height=N:=by rw[inI_nat hNl,nd_hgt_eq hNl,T.hgt (Nat.le_refl N)]
 simp[g8,g0,St.seg,ot,cseg0]
 refine⟨_,spec266 okc R,?_⟩
 simp[hct,St.seg,ot,cseg0]
 refine⟨_,spec161 oki TR w N,?_⟩
 simp[hfH,hnh,g0,g8,w0]
 have h269:=spec269 okc R
 rw[hbl]at h269
 refine⟨_,h269,?_⟩
 simp
 exact⟨_,sub_self _⟩
end
end Go.Ab

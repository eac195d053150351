import Derived.Test.YtjcpdljfkhbbkaaGreatZ5
import Derived.Test.YtjcpdljfkhbbkaaGreatZ4
set_option linter.unusedVariables false
set_option linter.unusedSimpArgs false
set_option linter.unusedSectionVars false
namespace Go.Ab
open Go Go.RowKit
set_option maxRecDepth 10000
section
variable {P:Program} {F:Fn}
inductive Parts (st:St):List V→List (List UInt8)→Prop
 | nil:Parts st [] []
 | cons {s:V} {l:List UInt8} {ss:List V} {ls:List (List UInt8)} (h:Rd 1 e8 s l st) (t:Parts st ss ls):Parts st (s::ss) (l::ls)
theorem Parts.sub {st st':St}{ss:List V}{ls:List (List UInt8)}(h:Parts st ss ls)(hs:St.sub st st'):Parts st' ss ls:=by
 induction h with
 | nil=>exact .nil
 | cons h t ih=>exact .cons (h.sub hs) ih
theorem Parts.len {st:St}{ss:List V}{ls:List (List UInt8)}(h:Parts st ss ls):ss.length=ls.length:=by
 induction h with
 | nil=>rfl
 | cons h t ih=>simp[ih]
theorem Parts.get {st:St}{ss:List V}{ls:List (List UInt8)}(h:Parts st ss ls){i:Nat}(hi:i<ls.length):Rd 1 e8 (ss[i]'(by rw[h.len];exact hi)) ls[i] st:=by
 induction h generalizing i with
 | nil=>simp at hi
 | cons h t ih=>
   cases i with
   | zero=>exact h
   | succ i=>exact ih (by simpa using hi)
theorem cells8_len (v:V8):(cells8 v).length=8:=rfl
def s1 (s:V):List V:=[s]
theorem zR32_rep:zR32_w80=(List.replicate 32 (0:UInt8)).map w8:=rfl
theorem bytesOf_e8: ∀l:List UInt8,bytesOf (rowsOf e8 l)=some l
 | []=>rfl
 | b::l=>by
   have ih:=bytesOf_e8 l
   simp[rowsOf_cons,e8,bytesOf,ih]
theorem toStr_rd {s:V}{l:List UInt8}{st:St}(h:Rd 1 e8 s l st)(hs: ∀x,s≠.str x):toStrV st s=some (.str ⟨l.toArray⟩):=by
 have he:=h.elems e8_len
 unfold toStrV
 split
 ·rename_i x;exact absurd rfl (hs x)
 ·rw[he]
  simp[bytesOf_e8]
theorem set4 {α:Type}(p:List α)(z a b c d:α)(n:Nat):((((p++List.replicate (n+4) z).set p.length a).set (p.length+1) b).set (p.length+2) c).set (p.length+3) d=p++[a,b,c,d]++List.replicate n z:=by
 have e:List.replicate (n+4) z=z::z::z::z::List.replicate n z:=rfl
 rw[e,List.set_append_right _ _ (by omega),List.set_append_right _ _ (by omega),List.set_append_right _ _ (by omega),List.set_append_right _ _ (by omega)]
 simp
theorem str_beq (a b:ByteArray):(a==b)=(a.data==b.data):=rfl
theorem ext_mk (l:List UInt8)(a b:Nat):ByteArray.extract ⟨l.toArray⟩ a b=⟨((l.drop a).take (b-a)).toArray⟩:=by
 apply ByteArray.ext
 simp
theorem str_ne (l:List UInt8):((⟨l.toArray⟩:ByteArray) != ⟨⟨[]⟩⟩)=decide (l≠[]):=by
 unfold bne
 rw[str_beq]
 cases l<;>rfl
def tailB (n:Nat)(i:Nat):UInt8:=UInt8.ofBitVec (((BitVec.ofNat 64 n*8) >>> i).setWidth 8)
def tailL:List Nat:=[56,48,40,32,24,16,8,0]
theorem tail_at: ∀q:Fin 8,tailL.take (q.val+1)=tailL.take q.val++[56-8*q.val]:=by decide
theorem spec103 (ok:OkHash P F)(st:St){ss:List V}{ls:List (List UInt8)}(hp:Parts st ss ls)(k0:SK)(hl:ls.flatten.length≤100000000)(hls:ls.length≤1000000):ACalls P (F 103) [.sl k0 ss ss.length] st fun v st'=>v=.agg (eId (sha ls.flatten))∧st'=st:=by
 refine shows_call ok.mixed ok.h103 (by simp[k103]) ?_
 simp only[k103]
 simp
 intro rid hrid
 have S:=Sep.start st
 have S:=S.new hrid (.cells zR32_w80)
 generalize st.upd rid _=st1 at S⊢
 have S:Sep [Slx 1 e8 (.sl .nil [] 0) (ls.take 0).flatten,pt rid (.cells zR32_w80),Was st] st1:=Sep.slxNil S
 simp
 refine vc_loopJ (fun k env' st'=>∃i s,i≤ls.length∧k=ls.length-i∧env' 15=.int .i64 (i:Nat)∧env' 3=s∧Sep [Slx 1 e8 s (ls.take i).flatten,pt rid (.cells zR32_w80),Was st] st') ls.length
  ⟨0,_,by omega,by omega,rfl,rfl,S⟩ ?_
 clear S
 rintro J hJ k env' st2 hsame ⟨i,s,hi,rfl,h15,h3,S⟩
 have g2:env' 2=.ptr (some (rid,0)):=hsame.get 2 rfl
 have g13:env' 13=.sl k0 ss ss.length:=hsame.get 13 rfl
 have g14:env' 14=.int .i64 ss.length:=hsame.get 14 rfl
 clear hsame
 have hsl:=hp.len
 have w2:IntKind.i64.wrap ((i:Int)+1)=(i:Int)+1:=wrap64 (by omega) (by omega)
 by_cases hlt:i<ls.length
 ·have pr:=(hp.sub (S.was' (by simp))).get hlt
  have hlt':i<ss.length:=by omega
  have hsg:segOf (ss.drop i) 0 1=some [ss[i]]:=by
   unfold segOf
   rw[if_pos (by simp;omega),List.drop_zero,List.drop_eq_getElem_cons hlt']
   rfl
  have hel:=pr.elems e8_len
  simp[g2,g13,g14,h15,h3,hlt',hsg,hel]
  have hfl:(ls.take i).flatten.length+ls[i].length≤ls.flatten.length:=by
   have e:ls.flatten=(ls.take i).flatten++(ls[i]++(ls.drop (i+1)).flatten):=by
    rw[←List.flatten_cons,←List.drop_eq_getElem_cons hlt,←List.flatten_append,List.take_append_drop]
   rw[e,List.length_append,List.length_append]
   omega
  refine Sep.appx (b:=1) e8_len (by omega) S (m:=ls[i]) (by omega) ?_
  intro s' st3 S3
  simp[h15,w2]
  refine Round.mk (ls.length-(i+1)) _ (show ls.length-(i+1)<ls.length-i by omega) (sub_self _) (hJ _ _ _ ⟨i+1,s',by omega,rfl,by simp,by simp,?_⟩)
  rw[List.take_succ_eq_append_getElem hlt,List.flatten_append]
  simpa using S3
 ·have:i=ls.length:=by omega
  subst this
  rw[List.take_length]at S
  obtain⟨l,hll⟩: ∃l,l=ls.flatten:=⟨_,rfl⟩
  rw[←hll]at S hl⊢
  have hlt':¬((ls.length:Int)<ss.length):=by omega
  have S:Sep [Sl 1 e8 s l,pt rid (.cells zR32_w80),Was st] st2:=S.head fun h hh=>hh.sl
  have hsl2:=(Sep.rd e8_len S).len
  simp[g2,g13,g14,h15,h3,hlt',hsl2,fillV,repV,spliceV,elems]
  refine Sep.app1 e8_len (by omega) S (a:=0x80) rfl (by omega) ?_
  intro s1 st3 S
  simp
  obtain⟨Z,hZ⟩: ∃Z,Z=(119-l.length % 64) % 64:=⟨_,rfl⟩
  clear hJ J
  refine vc_loopJ (fun k env' st'=>∃z s,z≤Z∧k=Z-z∧env' 3=s∧Sep [Sl 1 e8 s (l++0x80::List.replicate z 0),pt rid (.cells zR32_w80),Was st] st') Z
   ⟨0,_,by omega,by omega,rfl,S⟩ ?_
  clear S
  rintro J hJ k env2 st4 hsame ⟨z,s2,hz,rfl,h3,S⟩
  have q2:env2 2=.ptr (some (rid,0)):=(hsame.get 2 rfl).trans g2
  have q6:env2 6=.int .i64 l.length:=hsame.get 6 rfl
  clear hsame
  have hln:=(Sep.rd e8_len S).len
  have hle:(l++0x80::List.replicate z (0:UInt8)).length=l.length+1+z:=by simp;omega
  rw[hle]at hln
  have htm:Int.tmod ((l.length+1+z:Nat):Int) 64=(((l.length+1+z) % 64:Nat):Int):=rfl
  obtain⟨m,hm⟩: ∃m,m=l.length+1+z:=⟨_,rfl⟩
  rw[←hm]at hln htm
  by_cases h56:m % 64=56
  ·have:z=Z:=by omega
   subst this
   have h56':((m:Int).tmod 64 != 56)=false:=by rw[htm,h56];rfl
   simp[h3,hln,h56']
   obtain⟨pre,hpre⟩: ∃pre,pre=l++0x80::List.replicate z (0:UInt8):=⟨_,rfl⟩
   rw[←hpre]at S hle
   clear hJ J
   refine vc_loopJ (fun k env' st'=>∃q s,q≤8∧k=8-q∧env' 7=.int .i64 (56-8*(q:Int))∧env' 3=s∧Sep [Sl 1 e8 s (pre++(tailL.take q).map (tailB l.length)),pt rid (.cells zR32_w80),Was st] st') 8
    ⟨0,_,by omega,by omega,rfl,h3,by simpa using S⟩ ?_
   clear S
   rintro J hJ k env3 st5 hsame ⟨q,s3,hq,rfl,h7,h3,S⟩
   have r2:env3 2=.ptr (some (rid,0)):=(hsame.get 2 rfl).trans q2
   have r6:env3 6=.int .i64 l.length:=(hsame.get 6 rfl).trans q6
   clear hsame
   have w8':IntKind.i64.wrap (56-8*(q:Int)-8)=56-8*((q+1:Nat):Int):=by rw[wrap64 (by omega) (by omega)];omega
   by_cases hlt8:q<8
   ·have hge:8*(q:Int)≤56:=by omega
    have hsh:=bin64_shr (BitVec.ofNat 64 l.length*8#64) .i64 (56-8*q)
    rw[show((56-8*q:Nat):Int)=56-8*(q:Int) by omega]at hsh
    have hlen:(pre++(tailL.take q).map (tailB l.length)).length≤100000200:=by
     rw[List.length_append,hle,List.length_map,List.length_take]
     omega
    simp[r2,r6,h7,h3,hge,hsh,fillV,repV,spliceV,elems]
    refine Sep.app1 (b:=1) e8_len (by omega) S (a:=tailB l.length (56-8*q)) ?_ (by omega) ?_
    ·rfl
    ·intro s4 st6 S
     simp[h7,w8']
     refine Round.mk (8-(q+1)) _ (show 8-(q+1)<8-q by omega) (sub_self _) (hJ _ _ _ ⟨q+1,s4,by omega,rfl,by simp[w8'],by simp,?_⟩)
     rw[tail_at ⟨q,hlt8⟩,List.map_append,←List.append_assoc]
     exact S
   ·have:q=8:=by omega
    subst this
    have hpad:pre++(tailL.take 8).map (tailB l.length)=padM l:=by
     rw[hpre,padM,←hZ]
     simp only[List.append_assoc,List.cons_append]
     rfl
    rw[hpad]at S
    have rd:=Sep.rd e8_len S
    have hns: ∀x,s3≠.str x:=by
     rintro x rfl
     rcases rd with⟨k,h⟩ | ⟨_,_,h,_⟩<;>cases h
    have hts:=toStr_rd rd hns
    simp[r2,r6,h7,h3,fillV,spliceV]
    intro vid hvid
    have S:=S.new hvid (.cells (cells8 iv))
    simp[storeS,spliceV]
    have hiv:[w32 1779033703#32,w32 3144134277#32,w32 1013904242#32,w32 2773480762#32,w32 1359893119#32,w32 2600822924#32,w32 528734635#32,w32 1541459225#32]=cells8 iv:=rfl
    rw[hiv]
    generalize st5.upd vid (.cells (cells8 iv))=st6 at S⊢
    have hts:=toStr_rd (Sep.rd e8_len S.swap) hns
    have S:Sep [pt vid (.cells (cells8 iv)),pt rid (.cells zR32_w80),Was st] st6:=Sep.tail (fun r hr=>hr.drop) S
    simp[h3,hts]
    have hpl:(padM l).length % 64=0:=by
     simp[padM]
     omega
    refine vc_loopJ (fun k env' st'=>∃hc rest,k=rest.length∧env' 9=.str ⟨rest.toArray⟩∧rest.length % 64=0∧blocksM (rest.length / 64) hc rest=blocksM ((padM l).length / 64) iv (padM l)∧Sep [pt vid (.cells (cells8 hc)),pt rid (.cells zR32_w80),Was st] st') (padM l).length
     ⟨_,_,rfl,rfl,hpl,rfl,S⟩ ?_
    clear S
    rintro J5 hJ5 k env5 st7 hsame ⟨hc,rest,rfl,h9,hr64,hbl,S⟩
    have t2:env5 2=.ptr (some (rid,0)):=(hsame.get 2 rfl).trans r2
    have t8:env5 8=.ptr (some (vid,0)):=hsame.get 8 rfl
    clear hsame
    have hne:=str_ne rest
    by_cases hnil:rest=[]
    ·subst hnil
     have hfin:hc=blocksM ((padM l).length / 64) iv (padM l):=hbl
     have ov:=S.get
     have hcc:cells8 hc=[w32 hc.a,w32 hc.b,w32 hc.c,w32 hc.d,w32 hc.e,w32 hc.f,w32 hc.g,w32 hc.h]:=rfl
     simp[t2,t8,h9,hne]
     intro oid hoid
     have S:=S.new hoid (.cells zR32_w80)
     generalize st7.upd oid (.cells zR32_w80)=st8 at S⊢
     have ov:=S.swap.get
     have sg8:segOf (cells8 hc) 0 8=some (cells8 hc):=rfl
     simp[t8,St.seg,ov,sg8]
     rw[zR32_rep]at S
     refine vc_loopJ (fun k env' st'=>∃i,i≤8∧k=8-i∧env' 60=.int .i64 (i:Nat)∧Sep [pt oid (.cells (((hc.list.take i).flatMap out4++List.replicate (4*(8-i)) (0:UInt8)).map w8)),pt vid (.cells (cells8 hc)),pt rid (.cells zR32_w80),Was st] st') 8
      ⟨0,by omega,by omega,rfl,S⟩ ?_
     clear S
     rintro J hJ k env6 st9 hsame ⟨i,hi,rfl,h60,S⟩
     have u2:env6 2=.ptr (some (rid,0)):=(hsame.get 2 rfl).trans t2
     have u10:env6 10=.ptr (some (oid,0)):=hsame.get 10 rfl
     have u59:env6 59=.agg (cells8 hc):=hsame.get 59 rfl
     clear hsame
     by_cases hlt:i<8
     ·have hlt2:i<hc.list.length:=hlt
      obtain⟨x,hx⟩: ∃x,x=hc.list[i]:=⟨_,rfl⟩
      have hix:idxV 8 false 1 (.agg (cells8 hc)) (.int .i64 (i:Int))=some (w32 x):=by
       rw[hx]
       have:i=0∨i=1∨i=2∨i=3∨i=4∨i=5∨i=6∨i=7:=by omega
       rcases this with rfl | rfl | rfl | rfl | rfl | rfl | rfl | rfl<;>rfl
      obtain⟨p,hp⟩: ∃p,p=(hc.list.take i).flatMap out4:=⟨_,rfl⟩
      have hpl:p.length=4*i:=by
       rw[hp]
       have:i=0∨i=1∨i=2∨i=3∨i=4∨i=5∨i=6∨i=7:=by omega
       rcases this with rfl | rfl | rfl | rfl | rfl | rfl | rfl | rfl<;>rfl
      have hpn:(hc.list.take (i+1)).flatMap out4=p++out4 x:=by
       rw[List.take_succ_eq_append_getElem hlt2,List.flatMap_append,←hp,←hx]
       simp
      obtain⟨ys,hys⟩: ∃ys,ys=p++List.replicate (4*(8-i)) (0:UInt8):=⟨_,rfl⟩
      have hyl:ys.length=32:=by rw[hys];simp;omega
      rw[←hp,←hys]at S
      have hset:=set4 p (0:UInt8) (UInt8.ofBitVec ((x >>> 24).setWidth 8)) (UInt8.ofBitVec ((x >>> 16).setWidth 8)) (UInt8.ofBitVec ((x >>> 8).setWidth 8)) (UInt8.ofBitVec (x.setWidth 8)) (4*(8-(i+1)))
      rw[show 4*(8-(i+1))+4=4*(8-i) by omega,←hys,hpl]at hset
      have w1:IntKind.i64.wrap ((i:Int)+1)=(i:Int)+1:=wrap64 (by omega) (by omega)
      have b0:IntKind.i64.wrap (4*(i:Int))=4*(i:Int):=wrap64 (by omega) (by omega)
      have b1:IntKind.i64.wrap (4*(i:Int)+1)=4*(i:Int)+1:=wrap64 (by omega) (by omega)
      have b2:IntKind.i64.wrap (4*(i:Int)+2)=4*(i:Int)+2:=wrap64 (by omega) (by omega)
      have b3:IntKind.i64.wrap (4*(i:Int)+3)=4*(i:Int)+3:=wrap64 (by omega) (by omega)
      have a0:=idxArr_ptr 32 oid (z:=4*(i:Int)) (j:=4*i) (by omega) (by omega)
      have a1:=idxArr_ptr 32 oid (z:=4*(i:Int)+1) (j:=4*i+1) (by omega) (by omega)
      have a2:=idxArr_ptr 32 oid (z:=4*(i:Int)+2) (j:=4*i+2) (by omega) (by omega)
      have a3:=idxArr_ptr 32 oid (z:=4*(i:Int)+3) (j:=4*i+3) (by omega) (by omega)
      have hlt':(i:Int)<8:=by omega
      obtain⟨c0,hc0⟩: ∃c,c=UInt8.ofBitVec ((x >>> 24).setWidth 8):=⟨_,rfl⟩
      obtain⟨c1,hc1⟩: ∃c,c=UInt8.ofBitVec ((x >>> 16).setWidth 8):=⟨_,rfl⟩
      obtain⟨c2,hc2⟩: ∃c,c=UInt8.ofBitVec ((x >>> 8).setWidth 8):=⟨_,rfl⟩
      obtain⟨c3,hc3⟩: ∃c,c=UInt8.ofBitVec (x.setWidth 8):=⟨_,rfl⟩
      have ho:out4 x=[c0,c1,c2,c3]:=by rw[hc0,hc1,hc2,hc3];rfl
      rw[←hc0,←hc1,←hc2,←hc3]at hset
      simp[u2,u10,u59,h60,hlt',hix,b0,b1,b2,b3,a0,a1,a2,a3,←hc0,←hc1,←hc2,←hc3]
      have k0:=arr_store (f:=w8) S.get (i:=4*i) (by omega) (x:=c0) (v:=w8 c0) rfl
      have S:=S.set (.cells ((ys.set (4*i) c0).map w8))
      rw[k0]
      have k1:=arr_store (f:=w8) S.get (i:=4*i+1) (by simp;omega) (x:=c1) (v:=w8 c1) rfl
      have S:=S.set (.cells (((ys.set (4*i) c0).set (4*i+1) c1).map w8))
      generalize st9.upd oid (.cells ((ys.set (4*i) c0).map w8))=st10 at k1 S⊢
      simp[-List.map_set,u10,a1,k1]
      have k2:=arr_store (f:=w8) S.get (i:=4*i+2) (by simp;omega) (x:=c2) (v:=w8 c2) rfl
      have S:=S.set (.cells ((((ys.set (4*i) c0).set (4*i+1) c1).set (4*i+2) c2).map w8))
      generalize st10.upd oid (.cells (((ys.set (4*i) c0).set (4*i+1) c1).map w8))=st11 at k2 S⊢
      simp[-List.map_set,u10,a2,k2]
      have k3:=arr_store (f:=w8) S.get (i:=4*i+3) (by simp;omega) (x:=c3) (v:=w8 c3) rfl
      have S:=S.set (.cells (((((ys.set (4*i) c0).set (4*i+1) c1).set (4*i+2) c2).set (4*i+3) c3).map w8))
      generalize st11.upd oid (.cells ((((ys.set (4*i) c0).set (4*i+1) c1).set (4*i+2) c2).map w8))=st12 at k3 S⊢
      simp[-List.map_set,u10,a3,k3,h60,w1]
      refine Round.mk (8-(i+1)) _ (show 8-(i+1)<8-i by omega) (sub_self _) (hJ _ _ _ ⟨i+1,by omega,rfl,by simp,?_⟩)
      rw[hpn,ho,←hset]
      exact S
     ·have:i=8:=by omega
      subst this
      have oo:=S.get
      have e:((hc.list.take 8).flatMap out4++List.replicate (4*(8-8)) (0:UInt8)).map w8=eId (sha l):=by
       have:eId (sha l)=(outV (blocksM ((padM l).length / 64) iv (padM l))).map w8:=rfl
       rw[this,←hfin]
       rfl
      rw[e]at oo
      have orr:=S.mem (i:=rid) (o:=.cells zR32_w80) (by simp)
      have hst:storeS st9 32 (.ptr (some (rid,0))) (.agg (eId (sha l)))=some (st9.upd rid (.cells (eId (sha l)))):=by
       rw[store_pt (st:=st9) (id:=rid) (o:=0) (sz:=32) (v:=.agg (eId (sha l))) (vs:=eId (sha l)) orr rfl (eId_len _) (by rw[zR32_w80_len];omega)]
       rfl
      have sgi:segOf (eId (sha l)) 0 32=some (eId (sha l)):=rfl
      simp[u2,u10,h60,St.seg,oo,sgi,hst]
      have T:=S.setAt (.cells (eId (sha l))) 2 rfl
      exact T.was' (by simp)
    ·have h64:64≤rest.length:=by
       have:0<rest.length:=List.length_pos_iff.2 hnil
       omega
     have ov:=S.get
     have hcc:cells8 hc=[w32 hc.a,w32 hc.b,w32 hc.c,w32 hc.d,w32 hc.e,w32 hc.f,w32 hc.g,w32 hc.h]:=rfl
     have sg8:segOf (cells8 hc) 0 8=some (cells8 hc):=rfl
     have hsz:ByteArray.size ⟨rest.toArray⟩=rest.length:=rfl
     have n64:natOf (.int .i64 64)=some 64:=rfl
     simp[t2,t8,h9,hne,hnil,slStrV,bounds,hsz,h64,St.seg,ov,sg8,ext_mk,opV,n64]
     refine(Sep.call (S.put (A:=fun _=>True) trivial) (fun h _=>spec101 ok h hc ⟨(rest.take 64).toArray⟩ (by rw[show strB ⟨(rest.take 64).toArray⟩=rest.take 64 from rfl];simp;omega))).mono ?_
     rintro v st8 S8
     obtain⟨_,_,rfl⟩:=S8.part
     have S:=S8.drop
     rw[show strB ⟨(rest.take 64).toArray⟩=rest.take 64 from rfl]at *
     have ov:=S.get
     have hst:storeS st8 8 (.ptr (some (vid,0))) (.agg (cells8 (blockM hc (rest.take 64))))=some (st8.upd vid (.cells (cells8 (blockM hc (rest.take 64))))):=by
      rw[store_pt (st:=st8) (id:=vid) (o:=0) (sz:=8) (v:=.agg (cells8 (blockM hc (rest.take 64)))) (vs:=cells8 (blockM hc (rest.take 64))) ov rfl rfl (by rw[cells8_len];omega)]
      rfl
     have htk:(rest.drop 64).take (rest.length-64)=rest.drop 64:=List.take_of_length_le (by simp)
     simp[t8,h9,hst,slStrV,bounds,hsz,h64,ext_mk,opV,n64,htk]
     refine Round.mk (rest.drop 64).length _ (by simp;omega) (sub_self _) (hJ5 _ _ _ ⟨blockM hc (rest.take 64),rest.drop 64,rfl,by simp,by simp;omega,?_,S.set _⟩)
     rw[←hbl,show rest.length / 64=(rest.drop 64).length / 64+1 by simp;omega]
     rfl
  ·have h56':((m:Int).tmod 64 != 56)=true:=by
     rw[htm]
     simp;omega
   simp[h3,hln,h56',fillV,repV,spliceV,elems]
   refine Sep.app1 e8_len (by omega) S (a:=0) rfl (by rw[hle];omega) ?_
   intro s3 st5 S
   simp
   refine Round.mk (Z-(z+1)) _ (show Z-(z+1)<Z-z by omega) (sub_self _) (hJ _ _ _ ⟨z+1,s3,by omega,rfl,by simp,?_⟩)
   rw[List.replicate_succ']
   simpa using S
end
section
variable {P:Program} {F:Fn}
theorem rows_e8: ∀l:List UInt8,rowsOf e8 l=l.map w8
 | []=>rfl
 | b::l=>by rw[rowsOf_cons,rows_e8 l];rfl
theorem eId_rows (x:Id):eId x=rowsOf e8 x.toList:=by rw[rows_e8];rfl
theorem sha_list (l:List UInt8):(sha l).toList=shaL l:=rfl
theorem store_z32 {st:St}{i:Nat}(h:st i=some (.cells zR32_w80))(x:Id):storeS st 32 (.ptr (some (i,0))) (.agg (eId x))=some (st.upd i (.cells (eId x))):=by
 rw[store_pt h (vs:=eId x) rfl (eId_len x) (by rw[zR32_w80_len];omega)]
 congr 3
 simp[spliceV,eId_len]
theorem segId0 (x:Id):segOf (eId x) 0 32=some (eId x):=by
 rw[segOf,if_pos (by rw[eId_len];omega),List.drop_zero,List.take_of_length_le (by rw[eId_len];omega)]
theorem spec104 (ok:OkHash P F)(st:St){ss:List V}{ls:List (List UInt8)}(hp:Parts st ss ls)(k0:SK)(hl:ls.flatten.length≤100000000)(hls:ls.length≤1000000):ACalls P (F 104) [.sl k0 ss ss.length] st fun v st'=>v=.agg (eId (sha2 ls.flatten))∧st'=st:=by
 refine shows_call ok.mixed ok.h104 (by simp[k104]) ?_
 simp only[k104]
 simp
 intro rid hrid
 have S:=(Sep.start st).new hrid (.cells zR32_w80)
 generalize st.upd rid _=st1 at S⊢
 have hp1:Parts st1 ss ls:=hp.sub (S.was' (by simp))
 simp
 refine(spec103 ok st1 hp1 k0 hl hls).mono ?_
 rintro v st1 ⟨rfl,rfl⟩
 simp
 intro iid hiid
 have S:=S.new hiid (.cells zR32_w80)
 obtain⟨x,hx⟩: ∃x,x=sha ls.flatten:=⟨_,rfl⟩
 rw[←hx]
 have S1:=S.set (.cells (eId x))
 have hst:=store_z32 S.get x
 generalize st1.upd iid (.cells zR32_w80)=st2 at S S1 hst⊢
 simp[hst]
 generalize st2.upd iid (.cells (eId x))=st3 at S1⊢
 have o:=S1.get
 have S2:=S1.set (.ro (eId x))
 simp[frzP,frzV,frzOb,o]
 generalize st3.upd iid (.ro (eId x))=st4 at S2⊢
 have hseg:=segId0 x
 simp[slArrV,bounds,hseg,fillV,spliceV,repV,eId_len,opV]
 have htk:List.take 32 (eId x)=rowsOf e8 x.toList:=by
  rw[←eId_rows,List.take_of_length_le (by rw[eId_len];omega)]
 have hp2:Parts st4 [.sl .full (List.take 32 (eId x)) 32] [x.toList]:=by
  refine .cons (.inl ⟨.full,?_⟩) .nil
  rw[htk]
  simp
 have hc:=spec103 ok st4 hp2 .full (by simp) (by simp)
 refine hc.mono ?_
 rintro v st4 ⟨rfl,rfl⟩
 have hr:st4 rid=some (.cells zR32_w80):=S2.mem (by simp)
 have hst:=store_z32 hr (sha x.toList)
 have T:=S2.setAt (.cells (eId (sha x.toList))) 1 rfl
 have hsg:=segId0 (sha x.toList)
 simp[hst,St.seg,hsg]
 refine⟨T.was' (by simp),?_⟩
 rw[hx,sha2,sha_list]
end
section
variable {P:Program} {F:Fn}
theorem spec105 (ok:OkNum P F)(st:St)(x:W):ACalls P (F 105) [w64 x] st fun v st'=>v=nU (x.setWidth 256)∧st'=st:=by
 refine shows_call ok.mixed ok.h105 (by simp[k105]) ?_
 have e:eU (x.setWidth 256)=[w64 x,w64 0,w64 0,w64 0]:=by
  have:x.setWidth 256=u4 x 0 0 0:=by
   apply BitVec.eq_of_toNat_eq
   have:=x.isLt
   rw[u4_nat,BitVec.toNat_setWidth,Nat.mod_eq_of_lt (by omega)]
   simp
  rw[this,eU_u4]
 simp[k105,fillV,spliceV,nU,e]
 intro id hid
 simp[fillV,storeS,spliceV,St.seg,segOf]
 exact sub_upd hid
def cmpU (a b:U):Int:=if a.toNat<b.toNat then-1 else if a=b then 0 else 1
theorem cmpU_d {a b c d a' b' c' d':W}(h:d≠d'):cmpU (u4 a b c d) (u4 a' b' c' d')=if d<d' then-1 else 1:=by
 have:=a.isLt;have:=b.isLt;have:=c.isLt;have:=a'.isLt;have:=b'.isLt;have:=c'.isLt
 have hne:u4 a b c d≠u4 a' b' c' d':=fun e=>h (u4_inj e).2.2.2
 have hn:d.toNat≠d'.toNat:=fun e=>h (BitVec.eq_of_toNat_eq e)
 simp only[cmpU,hne,if_false,u4_nat,BitVec.lt_def]
 split<;>split<;>first | rfl | omega
theorem cmpU_c {a b c d a' b' c':W}(h:c≠c'):cmpU (u4 a b c d) (u4 a' b' c' d)=if c<c' then-1 else 1:=by
 have:=a.isLt;have:=b.isLt;have:=a'.isLt;have:=b'.isLt
 have hne:u4 a b c d≠u4 a' b' c' d:=fun e=>h (u4_inj e).2.2.1
 have hn:c.toNat≠c'.toNat:=fun e=>h (BitVec.eq_of_toNat_eq e)
 simp only[cmpU,hne,if_false,u4_nat,BitVec.lt_def]
 split<;>split<;>first | rfl | omega
theorem cmpU_b {a b c d a' b':W}(h:b≠b'):cmpU (u4 a b c d) (u4 a' b' c d)=if b<b' then-1 else 1:=by
 have:=a.isLt;have:=a'.isLt
 have hne:u4 a b c d≠u4 a' b' c d:=fun e=>h (u4_inj e).2.1
 have hn:b.toNat≠b'.toNat:=fun e=>h (BitVec.eq_of_toNat_eq e)
 simp only[cmpU,hne,if_false,u4_nat,BitVec.lt_def]
 split<;>split<;>first | rfl | omega
theorem cmpU_a {a b c d a':W}(h:a≠a'):cmpU (u4 a b c d) (u4 a' b c d)=if a<a' then-1 else 1:=by
 have hne:u4 a b c d≠u4 a' b c d:=fun e=>h (u4_inj e).1
 have hn:a.toNat≠a'.toNat:=fun e=>h (BitVec.eq_of_toNat_eq e)
 simp only[cmpU,hne,if_false,u4_nat,BitVec.lt_def]
 split<;>split<;>first | rfl | omega
theorem sub_upd2 {st:St}{i j:Nat}{o p:AObj}(hi:st i=none)(hj:(st.upd i o) j=none):St.sub st ((st.upd i o).upd j p):=sub_trans (sub_upd hi) (sub_upd hj)
theorem ne_upd {st:St}{i j:Nat}{o:AObj}(hj:(st.upd i o) j=none):i≠j:=by
 rintro rfl
 simp at hj
theorem upd_none {st:St}{i k:Nat}{o:AObj}(h:(st.upd i o) k=none):i≠k∧st k=none:=by
 by_cases e:k=i
 ·subst e;simp at h
 ·exact⟨fun h=>e h.symm,by simpa[e]using h⟩
theorem spec106 (ok:OkNum P F)(st:St)(x y:U):ACalls P (F 106) [nU x,nU y] st fun v st'=>v=.int .i64 (cmpU x y)∧st'=st:=by
 refine shows_call ok.mixed ok.h106 (by simp[k106]) ?_
 obtain⟨a,b,c,d,rfl⟩:=exists_u4 x
 obtain⟨a',b',c',d',rfl⟩:=exists_u4 y
 simp only[k106,nU,eU_u4]
 simp
 intro i hi j hj
 have hij:=ne_upd hj
 have hsub:=sub_upd2 (p:=.cells [w64 a',w64 b',w64 c',w64 d']) hi hj
 refine vc_unroll 5 ?_
 simp[unr_succ,hij,idxArrV,St.seg,segOf]
 by_cases h:d=d'
 ·subst h
  simp[unr_succ,hij,idxArrV,St.seg,segOf]
  by_cases h:c=c'
  ·subst h
   simp[unr_succ,hij,idxArrV,St.seg,segOf]
   by_cases h:b=b'
   ·subst h
    simp[unr_succ,hij,idxArrV,St.seg,segOf]
    by_cases h:a=a'
    ·subst h
     simp[unr_succ,hij,idxArrV,St.seg,segOf,cmpU,hsub]
    ·have hb:(a != a')=true:=by simp[h]
     by_cases hlt:a<a'<;>simp[unr_succ,hij,idxArrV,St.seg,segOf,hb,cmpU_a h,hlt,hsub]
   ·have hb:(b != b')=true:=by simp[h]
    by_cases hlt:b<b'<;>simp[unr_succ,hij,idxArrV,St.seg,segOf,hb,cmpU_b h,hlt,hsub]
  ·have hb:(c != c')=true:=by simp[h]
   by_cases hlt:c<c'<;>simp[unr_succ,hij,idxArrV,St.seg,segOf,hb,cmpU_c h,hlt,hsub]
 ·have hb:(d != d')=true:=by simp[h]
  by_cases hlt:d<d'<;>simp[unr_succ,hij,idxArrV,St.seg,segOf,hb,cmpU_d h,hlt,hsub]
theorem eqL_u (x y:U):eqL (eU x) (eU y)=some (decide (x=y)):=by
 obtain⟨a,b,c,d,rfl⟩:=exists_u4 x
 obtain⟨a',b',c',d',rfl⟩:=exists_u4 y
 have key: ∀p q:W,((p.toNat:Int)==(q.toNat:Int))=decide (p=q):=fun p q=>by
  rw[Bool.eq_iff_iff]
  simp only[beq_iff_eq,decide_eq_true_eq]
  exact⟨fun h=>BitVec.eq_of_toNat_eq (by omega),fun h=>by rw[h]⟩
 simp only[eU_u4,w64,eqL,if_true,Option.map_some,key,Option.some.injEq]
 rw[Bool.eq_iff_iff]
 simp only[Bool.and_eq_true,decide_eq_true_eq]
 constructor
 ·rintro⟨h1,h2,h3,h4,_⟩
  rw[h1,h2,h3,h4]
 ·intro h
  obtain⟨h1,h2,h3,h4⟩:=u4_inj h
  exact⟨h1,h2,h3,h4,trivial⟩
theorem eU_zero:[w64 0#64,w64 0#64,w64 0#64,w64 0#64]=eU 0#256:=by
 rw[show(0#256:U)=u4 0#64 0#64 0#64 0#64 from rfl,eU_u4]
theorem segU (x:U):segOf (eU x) 0 4=some (eU x):=rfl
theorem spec107 (ok:OkNum P F)(st:St)(x:U):ACalls P (F 107) [nU x] st fun v st'=>v=.bool (decide (x=0))∧st'=st:=by
 refine shows_call ok.mixed ok.h107 (by simp[k107]) ?_
 simp only[k107,nU,eU_zero]
 simp
 intro i hi
 have hl:=eU_len x
 simp[St.seg,segU,fillV,eqK,hl,eU_zero,eqL_u]
 exact sub_upd hi
theorem not_u4 (a b c d:W): ~~~(u4 a b c d)=u4 (~~~a) (~~~b) (~~~c) (~~~d):=by
 apply BitVec.eq_of_toNat_eq
 have:=a.isLt;have:=b.isLt;have:=c.isLt;have:=d.isLt
 rw[BitVec.toNat_not,u4_nat,u4_nat,BitVec.toNat_not,BitVec.toNat_not,BitVec.toNat_not,BitVec.toNat_not]
 omega
theorem spec111 (ok:OkNum P F)(st:St)(x:U):ACalls P (F 111) [nU x] st fun v st'=>v=nU (~~~x)∧st'=st:=by
 refine shows_call ok.mixed ok.h111 (by simp[k111]) ?_
 obtain⟨a,b,c,d,rfl⟩:=exists_u4 x
 simp only[k111,nU,not_u4,eU_u4]
 simp
 intro i hi
 simp
 intro j hj
 have hij:=ne_upd hj
 have hsub:=sub_upd2 (p:=.cells [w64 0#64,w64 0#64,w64 0#64,w64 0#64]) hi hj
 simp[hij,idxArrV,St.seg,segOf,fillV,spliceV,storeS]
 exact sub_upd2 hi hj
theorem sub_u4 (a b c d a' b' c' d':W):
  u4 a b c d-u4 a' b' c' d'=u4 (dif64 a a' false) (dif64 b b' (bor64 a a' false)) (dif64 c c' (bor64 b b' (bor64 a a' false))) (dif64 d d' (bor64 c c' (bor64 b b' (bor64 a a' false))))∧
  bor64 d d' (bor64 c c' (bor64 b b' (bor64 a a' false)))=decide ((u4 a b c d).toNat< (u4 a' b' c' d').toNat):=by
 have:=a.isLt;have:=b.isLt;have:=c.isLt;have:=d.isLt
 have:=a'.isLt;have:=b'.isLt;have:=c'.isLt;have:=d'.isLt
 constructor
 ·apply BitVec.eq_of_toNat_eq
  rw[BitVec.toNat_sub,u4_nat,u4_nat,u4_nat,dif64_nat,dif64_nat,dif64_nat,dif64_nat]
  simp only[bor64,decide_eq_true_eq,Bool.false_eq_true,if_false]
  show(115792089237316195423570985008687907853269984665640564039457584007913129639936-_+_) % 115792089237316195423570985008687907853269984665640564039457584007913129639936=_
  split<;>split<;>split<;>omega
 ·rw[u4_nat,u4_nat]
  simp only[bor64,decide_eq_true_eq,Bool.false_eq_true,if_false]
  congr 1
  rw[eq_iff_iff]
  split<;>split<;>split<;>omega
@[simp high] theorem carry_sub (x y:W)(c:Bool):carryV true (w64 x) (w64 y) (w64 (b64 c))=some (.tup [w64 (dif64 x y c),w64 (b64 (bor64 x y c))]):=by
  have h1:=x.isLt
  have h2:=y.isLt
  have e1:=dif64_nat x y c
  have e2:(b64 (bor64 x y c)).toNat=if x.toNat<y.toNat+(if c then 1 else 0)then 1 else 0:=by
   rw[b64_nat]
   simp only[bor64,decide_eq_true_eq]
  have e3:=b64_nat c
  generalize dif64 x y c=d at *
  generalize b64 (bor64 x y c)=r at *
  generalize b64 c=q at *
  simp only[carryV,w64]
  rw[if_pos (by split at e3<;>omega)]
  simp only[Option.some.injEq,V.tup.injEq,List.cons.injEq,V.int.injEq,true_and,and_true,if_true,Int.toNat_natCast]
  rw[e1,e2,e3]
  cases c<;>simp<;>constructor<;>first | omega | (split<;>split<;>omega) | (split<;>omega)
@[simp high] theorem carry_add (x y:W)(c:Bool):carryV false (w64 x) (w64 y) (w64 (b64 c))=some (.tup [w64 (sum64 x y c),w64 (b64 (car64 x y c))]):=by
  have h1:=x.isLt
  have h2:=y.isLt
  have e1:=sum64_nat x y c
  have e2:(b64 (car64 x y c)).toNat=if 18446744073709551616≤x.toNat+y.toNat+(if c then 1 else 0)then 1 else 0:=by
   rw[b64_nat]
   simp only[car64,decide_eq_true_eq]
  have e3:=b64_nat c
  generalize sum64 x y c=d at *
  generalize b64 (car64 x y c)=r at *
  generalize b64 c=q at *
  simp only[carryV,w64]
  rw[if_pos (by split at e3<;>omega)]
  simp only[Option.some.injEq,V.tup.injEq,List.cons.injEq,V.int.injEq,true_and,and_true,Bool.false_eq_true,if_false]
  rw[e1,e2,e3]
  cases c<;>simp<;>first | omega | (split<;>omega)
theorem zero_b64:(0#64:W)=b64 false:=rfl
theorem b64_ne (c:Bool):(b64 c != b64 false)=c:=by cases c<;>rfl
theorem sub_ups {st s:St}{i:Nat}{o:AObj}(h:St.sub st s)(hi:st i=none):St.sub st (s.upd i o):=fun j x hj=>by
 have:j≠i:=fun e=>by rw[e,hi]at hj;cases hj
 simp[this,h j x hj]
theorem spec109 (ok:OkNum P F)(st:St)(x y:U):ACalls P (F 109) [nU x,nU y] st fun v st'=>v=.tup [nU (x-y),.bool (decide (x.toNat<y.toNat))]∧st'=st:=by
 refine shows_call ok.mixed ok.h109 (by simp[k109]) ?_
 obtain⟨a,b,c,d,rfl⟩:=exists_u4 x
 obtain⟨a',b',c',d',rfl⟩:=exists_u4 y
 obtain⟨e1,e2⟩:=sub_u4 a b c d a' b' c' d'
 rw[←e2,e1]
 simp only[k109,nU,eU_u4]
 simp
 intro i hi j hj
 have hij:=ne_upd hj
 have hji:=hij.symm
 simp
 intro k hk
 have hjk:=ne_upd hk
 have hik:=(upd_none (upd_none hk).2).1
 have hki:=hik.symm
 have hkj:=hjk.symm
 refine vc_unroll 5 ?_
 rw[zero_b64]
 simp[unr_succ,hij,hji,hjk,hkj,hik,hki,idxArrV,St.seg,segOf,storeS,spliceV,b64_ne]
 exact sub_ups (sub_ups (sub_ups (sub_ups (sub_ups (sub_self _) hi) (upd_none hj).2) (upd_none (upd_none hk).2).2) hi) (upd_none (upd_none hk).2).2
end
def byteAt (x:BitVec 64)(i:Nat):UInt8:=UInt8.ofBitVec ((x >>> (8*i)).setWidth 8)
def putB (size:Nat)(x:BitVec 64):List UInt8:=(List.range (min size 8)).map (byteAt x)
theorem putB_len (size:Nat)(x:BitVec 64):(putB size x).length=min size 8:=by simp[putB]
def countB (x:BitVec 64):List UInt8:=
 if x<253#64 then putB 1 x else if x<65536#64 then putB 1 253#64++putB 2 x else if x<4294967296#64 then putB 1 254#64++putB 4 x else putB 1 255#64++putB 8 x
theorem countB_len (x:BitVec 64):(countB x).length≤9:=by
 unfold countB
 split
 ·rw[putB_len];omega
 ·split
  ·rw[List.length_append,putB_len,putB_len];omega
  ·split<;>rw[List.length_append,putB_len,putB_len]<;>omega
def textB (l:List UInt8):List UInt8:=countB (BitVec.ofNat 64 l.length)++l
theorem of64_nat {n:Nat}(h:n<18446744073709551616):(BitVec.ofInt 64 (n:Int)).toNat=n:=by
 rw[BitVec.ofInt_natCast,BitVec.toNat_ofNat]
 exact Nat.mod_eq_of_lt h
abbrev Wr (wid:Nat)(s:V)(l:List UInt8)(L:List Asn)(st:St):Prop:=Sep (pt wid (.cells [s])::Slx 1 e8 s l::L) st
def WrR (wid:Nat)(l:List UInt8)(L:List Asn)(st:St):Prop:=∃s,Wr wid s l L st
theorem WrR.imp {wid:Nat}{l l':List UInt8}{L:List Asn}{st:St}(h:WrR wid l L st)(e:l=l'):WrR wid l' L st:=e ▸h
theorem slx_cells {s:V}{l:List UInt8}{h:St}(hs:Slx 1 e8 s l h):s.cells? =some [s]:=by
 rcases hs with⟨hs | hs,_⟩ | ⟨sid,rfl,_⟩
 ·rw[hs];rfl
 ·rw[hs];rfl
 ·rfl
theorem Sep.cells {s:V}{l:List UInt8}{L:List Asn}{st:St}(h:Sep (Slx 1 e8 s l::L) st):s.cells? =some [s]:=by
 obtain⟨h',h1,h2⟩:=h.part
 exact slx_cells h2
theorem Wr.app {wid:Nat}{s:V}{l:List UInt8}{L:List Asn}{st:St}(S:Wr wid s l L st)(m:List UInt8){ys:List V}{n:Nat}(hys:ys=rowsOf e8 m)(hn:n=m.length)(hb:l.length+n≤1000000){K:V→St→Prop}
  (hK: ∀s' st' st2,s'.cells? =some [s']→storeS st' 1 (.ptr (some (wid,0))) s'=some st2→WrR wid (l++m) L st2→K s' st'):appS 1 1 s (some (ys,n)) st K:=by
 refine Sep.appx' (b:=1) e8_len (by omega) S.swap m hys hn (by omega) ?_
 intro s' st' S'
 have hc:=S'.cells
 have o:=S'.swap.get
 refine hK s' st' (st'.upd wid (.cells [s'])) hc ?_ ⟨s',S'.swap.set _⟩
 simp[storeS,o,hc,spliceV]
section
variable {P:Program} {F:Fn}
set_option maxHeartbeats 1000000 in
theorem spec205 (ok:OkTx P F){st:St}{wid:Nat}{l:List UInt8}{L:List Asn}(S:WrR wid l L st)(hl:l.length≤900000)(size:Nat)(hs:size≤100)(x:BitVec 64):
  ACalls P (F 205) [.ptr (some (wid,0)),.int .i64 (size:Int),.sl .full [w64 x] 1] st fun v st'=>v=.tup []∧WrR wid (l++putB size x) L st':=by
 refine shows_call ok.mixed ok.h205 (by simp[k205]) ?_
 simp only[k205]
 have hsg:segOf [w64 x] 0 1=some [w64 x]:=rfl
 simp
 refine vc_unroll 2 ?_
 simp[unr_succ,hsg]
 refine vc_loopJ (fun c env' st'=>∃i,i≤min size 8∧c=min size 8-i∧env' 8=.int .i64 (i:Nat)∧WrR wid (l++(List.range i).map (byteAt x)) L st') (min size 8)
  ⟨0,by omega,by omega,by simp,S.imp (by simp)⟩ ?_
 rintro J hJ c env' st1 hsame ⟨i,hi,rfl,h8,s,S⟩
 have g0:=(hsame.get 0 rfl).trans (by simp:_=V.ptr (some (wid,0)))
 have g1:=(hsame.get 1 rfl).trans (by simp:_=V.int .i64 (size:Int))
 have g7:=(hsame.get 7 rfl).trans (by simp:_=w64 x)
 have g10:=(hsame.get 10 rfl).trans (by simp:_=V.int .i64 1)
 have g11:=(hsame.get 11 rfl).trans (by simp:_=V.int .i64 0)
 clear hsame
 by_cases hlt:i<min size 8
 ·have h1:(i:Int)< (size:Int):=by omega
  have h2:(i:Int)<8:=by omega
  have h1':i<size:=by omega
  have w1:IntKind.i64.wrap ((i:Int)+1)=(i:Int)+1:=wrap64 (by omega) (by omega)
  have w2:IntKind.i64.wrap (8*(i:Int))=((8*i:Nat):Int):=by rw[wrap64 (by omega) (by omega)];omega
  have w3:(BitVec.ofInt 64 ((8*i:Nat):Int)).toNat=8*i:=of64_nat (by omega)
  have o:=S.get
  have hc:=S.drop.cells
  have hsg0:segOf [s] 0 1=some [s]:=rfl
  obtain⟨Z,hZ⟩: ∃Z:Int,Z=((8*i:Nat):Int):=⟨_,rfl⟩
  rw[←hZ]at w2 w3
  have hby:UInt8.ofBitVec ((x >>> (8*i)).setWidth 8)=byteAt x i:=rfl
  have hf8:fillV (repV [w8 0] 1) [(0,1,w8 (byteAt x i))]=some (rowsOf e8 [byteAt x i]):=rfl
  have hel:elems st1 1 (.sl .full (e8 (byteAt x i)) 1)=some (e8 (byteAt x i),1):=rfl
  simp[unr_succ,g0,g1,g7,h8,h1',h2,St.seg,o,hsg0,w2,w3,hby,hf8,hel]
  refine Wr.app S [byteAt x i] (by simp) rfl (by simp;omega) ?_
  intro s' st2 st3 hc' hst S'
  simp[g0,hst,h8,w1]
  refine Round.mk (min size 8-(i+1)) _ (by omega) (sub_self _) (hJ _ _ _ ⟨i+1,by omega,rfl,by simp,S'.imp ?_⟩)
  rw[List.range_succ,List.map_append,List.append_assoc];rfl
 ·have:i=min size 8:=by omega
  subst this
  have fin:WrR wid (l++putB size x) L st1:=⟨s,S⟩
  by_cases h1:(size:Int)≤8
  ·have e:min size 8=size:=by omega
   have h8':env' 8=.int .i64 (size:Int):=by rw[h8,e]
   simp[unr_succ,g1,h8',g10,g11]
   exact⟨st1,sub_self _,fin⟩
  ·have e:min size 8=8:=by omega
   have h8':env' 8=.int .i64 8:=by rw[h8,e];rfl
   have h3:(8:Int)< (size:Int):=by omega
   have h3':8<size:=by omega
   simp[unr_succ,g1,h8',h3,h3',g10,g11]
   exact⟨st1,sub_self _,fin⟩
theorem w64_fill (x:BitVec 64):fillV (repV [w64 0#64] 1) [(0,1,w64 x)]=some [w64 x]:=rfl
theorem spec203 (ok:OkTx P F){st:St}{wid:Nat}{l:List UInt8}{L:List Asn}(S:WrR wid l L st)(hl:l.length≤800000)(x:BitVec 64):
  ACalls P (F 203) [.ptr (some (wid,0)),w64 x] st fun v st'=>v=.tup []∧WrR wid (l++countB x) L st':=by
 refine shows_call ok.mixed ok.h203 (by simp[k203]) ?_
 simp only[k203]
 by_cases c1:x<253#64
 ·have e:countB x=putB 1 x:=by rw[countB,if_pos c1]
  rw[e]
  simp[c1,w64_fill]
  refine(spec205 ok S (by omega) 1 (by omega) x).mono ?_
  rintro v st1 ⟨rfl,S⟩
  simp
  exact⟨st1,sub_self _,S⟩
 ·have two: ∀(a:BitVec 64) (n:Nat),n≤8→countB x=putB 1 a++putB n x→ACalls P (F 205) [.ptr (some (wid,0)),.int .i64 1,.sl .full [w64 a] 1] st fun v st'=>v=.tup []∧ACalls P (F 205) [.ptr (some (wid,0)),.int .i64 (n:Int),.sl .full [w64 x] 1] st' fun v st'=>v=.tup []∧WrR wid (l++countB x) L st':=fun a n hn e=>
    (spec205 ok S (by omega) 1 (by omega) a).mono fun v st1 hv=>⟨hv.1,(spec205 ok hv.2 (by rw[List.length_append,putB_len];omega) n (by omega) x).mono fun v st2 hv2=>
      ⟨hv2.1,hv2.2.imp (by rw[e,List.append_assoc])⟩⟩
  by_cases c2:x<65536#64
  ·have e:countB x=putB 1 253#64++putB 2 x:=by rw[countB,if_neg c1,if_pos c2]
   simp[c1,c2,w64_fill]
   refine(two 253#64 2 (by omega) e).mono ?_
   rintro v st1 ⟨rfl,h⟩
   simp[w64_fill]
   refine h.mono ?_
   rintro v st2 ⟨rfl,h⟩
   simp
   exact⟨st2,sub_self _,h⟩
  ·by_cases c3:x<4294967296#64
   ·have e:countB x=putB 1 254#64++putB 4 x:=by rw[countB,if_neg c1,if_neg c2,if_pos c3]
    simp[c1,c2,c3,w64_fill]
    refine(two 254#64 4 (by omega) e).mono ?_
    rintro v st1 ⟨rfl,h⟩
    simp[w64_fill]
    refine h.mono ?_
    rintro v st2 ⟨rfl,h⟩
    simp
    exact⟨st2,sub_self _,h⟩
   ·have e:countB x=putB 1 255#64++putB 8 x:=by rw[countB,if_neg c1,if_neg c2,if_neg c3]
    simp[c1,c2,c3,w64_fill]
    refine(two 255#64 8 (by omega) e).mono ?_
    rintro v st1 ⟨rfl,h⟩
    simp[w64_fill]
    refine h.mono ?_
    rintro v st2 ⟨rfl,h⟩
    simp
    exact⟨st2,sub_self _,h⟩
end
def keyV (k:SK)(m:List UInt8):V:=.sl k (rowsOf e8 m) m.length
section
variable {P:Program} {F:Fn}
set_option maxHeartbeats 1000000 in
theorem spec204 (ok:OkTx P F){st:St}{wid:Nat}{l:List UInt8}{L:List Asn}(S:WrR wid l L st)(k:SK)(m:List UInt8)(hl:l.length+m.length≤900000):
  ACalls P (F 204) [.ptr (some (wid,0)),.sl .full [keyV k m] 1] st fun v st'=>v=.tup []∧WrR wid (l++m) L st':=by
 refine shows_call ok.mixed ok.h204 (by simp[k204]) ?_
 simp only[k204]
 simp
 obtain⟨s,S⟩:=S
 have o:=S.get
 have hsg:segOf [keyV k m] 0 1=some [keyV k m]:=rfl
 have hsg0:segOf [s] 0 1=some [s]:=rfl
 have hel:elems st 1 (keyV k m)=some (rowsOf e8 m,m.length):=by simp[keyV,elems,rowsOf_length e8_len]
 refine vc_unroll 2 ?_
 simp[unr_succ,hsg,St.seg,o,hsg0,hel]
 refine Wr.app S m rfl rfl (by omega) ?_
 intro s' st2 st3 hc' hst S'
 simp[hst,unr_succ]
 exact⟨st3,sub_self _,S'⟩
set_option maxHeartbeats 1000000 in
theorem spec206 (ok:OkTx P F){st:St}{wid:Nat}{l:List UInt8}{L:List Asn}(S:WrR wid l L st)(k:SK)(m:List UInt8)(hl:l.length+m.length≤700000):
  ACalls P (F 206) [.ptr (some (wid,0)),keyV k m] st fun v st'=>v=.tup []∧WrR wid (l++textB m) L st':=by
 refine shows_call ok.mixed ok.h206 (by simp[k206]) ?_
 simp only[k206]
 have hln:lenSlV (keyV k m)=some (.int .i64 m.length):=rfl
 simp[hln]
 refine(spec203 ok S (by omega) (BitVec.ofNat 64 m.length)).mono ?_
 rintro v st1 ⟨rfl,S⟩
 have hf:fillV (repV [V.sl .nil [] 0] 1) [(0,1,keyV k m)]=some [keyV k m]:=rfl
 simp[hf]
 refine(spec204 ok S k m (by have:=countB_len (BitVec.ofNat 64 m.length);rw[List.length_append];omega)).mono ?_
 rintro v st2 ⟨rfl,S⟩
 simp
 exact⟨st2,sub_self _,S.imp (by rw[textB,List.append_assoc])⟩
set_option maxHeartbeats 1000000 in
theorem spec202 (ok:OkTx P F){st:St}{wid:Nat}{l:List UInt8}{L:List Asn}(S:WrR wid l L st)(hl:l.length≤900000):
  ACalls P (F 202) [.ptr (some (wid,0))] st fun v st'=>∃s,Sep (Slx 1 e8 v l::pt wid (.cells [s])::Slx 1 e8 s l::L) st':=by
 refine shows_call ok.mixed ok.h202 (by simp[k202]) ?_
 simp only[k202]
 obtain⟨s,S⟩:=S
 have o:=S.get
 have hsg0:segOf [s] 0 1=some [s]:=rfl
 have hel:=(Sep.rd e8_len (S.drop.head fun h hh=>hh.sl)).elems e8_len
 have hf:fillV (repV [w8 0] 0) []=some []:=rfl
 simp[St.seg,o,hsg0,hel,hf]
 refine Sep.appx' (b:=1) e8_len (by omega) S.slxFull l rfl rfl (by simp;omega) ?_
 intro s' st2 S
 simp
 exact⟨st2,sub_self _,s,by simpa using S⟩
end
section
variable {P:Program} {F:Fn}
def ovU (s:Nat):Bool:=decide (2 ^ 256≤s)
theorem add_u4 (a b c d a' b' c' d':W):
  (u4 (sum64 a a' false) (sum64 b b' (car64 a a' false)) (sum64 c c' (car64 b b' (car64 a a' false))) (sum64 d d' (car64 c c' (car64 b b' (car64 a a' false)))))=u4 a b c d+u4 a' b' c' d'∧
  car64 d d' (car64 c c' (car64 b b' (car64 a a' false)))=ovU ((u4 a b c d).toNat+(u4 a' b' c' d').toNat):=by
 have:=a.isLt;have:=b.isLt;have:=c.isLt;have:=d.isLt
 have:=a'.isLt;have:=b'.isLt;have:=c'.isLt;have:=d'.isLt
 constructor
 ·apply BitVec.eq_of_toNat_eq
  rw[BitVec.toNat_add,u4_nat,u4_nat,u4_nat,sum64_nat,sum64_nat,sum64_nat,sum64_nat]
  simp only[car64,decide_eq_true_eq,Bool.false_eq_true,if_false]
  show _=(_+_) % 115792089237316195423570985008687907853269984665640564039457584007913129639936
  split<;>split<;>split<;>omega
 ·rw[u4_nat,u4_nat,ovU]
  simp only[car64,decide_eq_true_eq,Bool.false_eq_true,if_false]
  congr 1
  rw[eq_iff_iff]
  show _↔115792089237316195423570985008687907853269984665640564039457584007913129639936≤_
  split<;>split<;>split<;>omega
def sumU (l:List U):Nat:=(l.map (·.toNat)).sum
theorem sumU_snoc (l:List U)(x:U):sumU (l++[x])=sumU l+x.toNat:=by simp[sumU]
theorem over_step (s:Nat)(x:U):(ovU s||ovU ((BitVec.ofNat 256 s).toNat+x.toNat))=ovU (s+x.toNat):=by
 unfold ovU
 rw[BitVec.toNat_ofNat,Bool.eq_iff_iff]
 simp only[Bool.or_eq_true,decide_eq_true_eq]
 show 115792089237316195423570985008687907853269984665640564039457584007913129639936≤s∨115792089237316195423570985008687907853269984665640564039457584007913129639936≤s % 115792089237316195423570985008687907853269984665640564039457584007913129639936+_↔115792089237316195423570985008687907853269984665640564039457584007913129639936≤_
 omega
set_option maxHeartbeats 1000000 in
theorem spec108 (ok:OkNum P F)(st:St){s:V}{l:List U}(hs:Rd 4 eU s l st)(hl:l.length≤1000):ACalls P (F 108) [s] st fun v st'=>v=.tup [nU (BitVec.ofNat 256 (sumU l)),.bool (ovU (sumU l))]∧st'=st:=by
 refine shows_call ok.mixed ok.h108 (by simp[k108]) ?_
 simp only[k108]
 simp
 intro rid hrid
 simp
 intro oid hoid
 obtain⟨hro,hoid⟩:=upd_none hoid
 have hlen:=hs.len
 simp[hlen]
 rw[eU_zero]
 refine vc_loopJ (fun k env' st'=>∃i,i≤l.length∧k=l.length-i∧env' 12=.int .i64 (i:Nat)∧env' 5=.bool (ovU (sumU (l.take i)))∧st'=(st.upd rid (.cells (eU 0#256))).upd oid (.cells (eU (BitVec.ofNat 256 (sumU (l.take i)))))) l.length
  ⟨0,by omega,by omega,rfl,by simp[sumU,ovU],by simp[sumU]⟩ ?_
 rintro J hJ k env' st' hsame ⟨i,hi,rfl,h12,h5,rfl⟩
 have g2:=hsame.get 2 rfl
 have g4:=hsame.get 4 rfl
 have g10:=hsame.get 10 rfl
 have g11:=hsame.get 11 rfl
 simp at g2 g4 g10 g11
 clear hsame
 have hsub:St.sub st ((st.upd rid (.cells (eU 0#256))).upd oid (.cells (eU (BitVec.ofNat 256 (sumU (l.take i)))))):=sub_ups (sub_ups (sub_self _) hrid) hoid
 have w1:IntKind.i64.wrap ((i:Int)+1)=(i:Int)+1:=wrap64 (by omega) (by omega)
 by_cases hlt:i<l.length
 ·obtain⟨p,hp1,hp2⟩:=(hs.sub hsub).idx eU_len hlt .i64
  simp[g2,g4,g10,g11,h12,h5,hlt,hp1,hp2]
  intro bid hbid
  obtain⟨hob,hbid⟩:=upd_none hbid
  obtain⟨hrb,hbid⟩:=upd_none hbid
  have hbo:=hob.symm
  have hbr:=hrb.symm
  obtain⟨a,b,c,d,hx⟩:=exists_u4 (BitVec.ofNat 256 (sumU (l.take i)))
  obtain⟨a',b',c',d',hy⟩:=exists_u4 l[i]
  obtain⟨e1,e2⟩:=add_u4 a b c d a' b' c' d'
  rw[hx,hy]
  simp[storeS,spliceV,eU_u4]
  rw[zero_b64]
  refine vc_unroll 5 ?_
  simp[unr_succ,g4,hob,hbo,idxArrV,St.seg,segOf,storeS,spliceV]
  have hov:(ovU (sumU (l.take i))||car64 d d' (car64 c c' (car64 b b' (car64 a a' false))))=ovU (sumU (l.take (i+1))):=by
   rw[e2,←hx,←hy,List.take_succ_eq_append_getElem hlt,sumU_snoc]
   exact over_step _ _
  have hst:(((((st.upd rid (.cells (eU 0#256))).upd oid (.cells [w64 a,w64 b,w64 c,w64 d])).upd bid (.cells [w64 a',w64 b',w64 c',w64 d'])).upd oid (.cells [w64 (sum64 a a' false),w64 (sum64 b b' (car64 a a' false)),w64 (sum64 c c' (car64 b b' (car64 a a' false))),w64 (sum64 d d' (car64 c c' (car64 b b' (car64 a a' false))))])))=((st.upd rid (.cells (eU 0#256))).upd oid (.cells (eU (BitVec.ofNat 256 (sumU (l.take (i+1))))))).upd bid (.cells [w64 a',w64 b',w64 c',w64 d']):=by
   have e3:BitVec.ofNat 256 (sumU (l.take (i+1)))=u4 a b c d+u4 a' b' c' d':=by
    rw[←hx,←hy,List.take_succ_eq_append_getElem hlt,sumU_snoc,BitVec.ofNat_add,BitVec.ofNat_toNat,BitVec.setWidth_eq]
   rw[e3,←e1,eU_u4]
   funext j
   by_cases h1:j=oid<;>by_cases h2:j=bid<;>simp[h1,h2,hob,hbo]
  have fin: ∀env'',env'' 12=.int .i64 ((i:Int)+1)→env'' 5=.bool (ovU (sumU (l.take (i+1))))→Round J (l.length-i) env'' (((((st.upd rid (.cells (eU 0#256))).upd oid (.cells [w64 a,w64 b,w64 c,w64 d])).upd bid (.cells [w64 a',w64 b',w64 c',w64 d'])).upd oid (.cells [w64 (sum64 a a' false),w64 (sum64 b b' (car64 a a' false)),w64 (sum64 c c' (car64 b b' (car64 a a' false))),w64 (sum64 d d' (car64 c c' (car64 b b' (car64 a a' false))))]))):=fun env'' q1 q2=>by
   rw[hst]
   refine Round.mk (l.length-(i+1)) _ (by omega) (sub_upd (by simp[hob.symm,hrb.symm,hbid])) (hJ _ _ _ ⟨i+1,by omega,rfl,by simpa using q1,q2,rfl⟩)
  obtain⟨t,ht⟩: ∃t,t=ovU (sumU (l.take i)):=⟨_,rfl⟩
  rw[←ht]at h5 hov
  cases t
  ·simp[h5,h12,w1,b64_ne]at hov⊢
   exact fin _ (by simp) (by simp[hov])
  ·simp[h5,h12,w1,b64_ne]at hov⊢
   exact fin _ (by simp) (by simp[←hov])
 ·have:i=l.length:=by omega
  subst this
  rw[List.take_length]at *
  have hl':¬((l.length:Int)<l.length):=by omega
  have hsp: ∀x y:U,spliceV (eU x) 0 (eU y)=eU y:=fun _ _=>rfl
  simp[g2,g4,g10,g11,h12,h5,St.seg,segU,storeS,hro,hro.symm,hsp,eU_len]
  exact⟨sub_ups (sub_ups (sub_ups (sub_self _) hrid) hoid) hrid,rfl⟩
theorem spec118 (ok:OkNum P F)(st:St)(x y:W):ACalls P (F 118) [w64 x,w64 y] st fun v st'=>v=.tup [w64 (mulhi x y),w64 (x*y)]∧st'=st:=by
 refine shows_call ok.mixed ok.h118 (by simp[k118]) ?_
 have h:=mul64_hi x y
 simp only[k118]
 simp
 rw[←h]
def mlo (x n c:W):W:=sum64 (x*n) c false
def mhi (x n c:W):W:=mulhi x n+b64 (car64 (x*n) c false)
theorem m_nat (x n c:W):(mlo x n c).toNat+(mhi x n c).toNat*18446744073709551616=x.toNat*n.toNat+c.toNat:=by
 have h1:=x.isLt
 have h2:=n.isLt
 have h3:=c.isLt
 have hb:x.toNat*n.toNat≤18446744073709551615*18446744073709551615:=Nat.mul_le_mul (by omega) (by omega)
 rw[mlo,mhi,sum64_nat,BitVec.toNat_add,b64_nat,mulhi,BitVec.toNat_ofNat,BitVec.toNat_mul]
 simp only[car64,decide_eq_true_eq,Bool.false_eq_true,if_false,BitVec.toNat_mul]
 generalize x.toNat*n.toNat=q at *
 show(q % 18446744073709551616+c.toNat+0) % 18446744073709551616+(q / 18446744073709551616 % 18446744073709551616+(if 18446744073709551616≤q % 18446744073709551616+c.toNat+0 then 1 else 0)) % 18446744073709551616*18446744073709551616=q+c.toNat
 split<;>omega
theorem mul_u4 (a b c d n:W):
  u4 (mlo a n 0) (mlo b n (mhi a n 0)) (mlo c n (mhi b n (mhi a n 0))) (mlo d n (mhi c n (mhi b n (mhi a n 0))))=BitVec.ofNat 256 ((u4 a b c d).toNat*n.toNat)∧
  ((mhi d n (mhi c n (mhi b n (mhi a n 0)))) != 0#64)=ovU ((u4 a b c d).toNat*n.toNat):=by
 have e0:=m_nat a n 0
 have e1:=m_nat b n (mhi a n 0)
 have e2:=m_nat c n (mhi b n (mhi a n 0))
 have e3:=m_nat d n (mhi c n (mhi b n (mhi a n 0)))
 generalize hC0:mhi a n 0=C0 at *
 generalize hC1:mhi b n C0=C1 at *
 generalize hC2:mhi c n C1=C2 at *
 generalize hC3:mhi d n C2=C3 at *
 generalize mlo a n 0=L0 at *
 generalize mlo b n C0=L1 at *
 generalize mlo c n C1=L2 at *
 generalize mlo d n C2=L3 at *
 have i0:=L0.isLt;have i1:=L1.isLt;have i2:=L2.isLt;have i3:=L3.isLt
 have e0':L0.toNat+C0.toNat*18446744073709551616=a.toNat*n.toNat:=by simpa using e0
 have key:(u4 a b c d).toNat*n.toNat=L0.toNat+L1.toNat*18446744073709551616+L2.toNat*340282366920938463463374607431768211456+L3.toNat*6277101735386680763835789423207666416102355444464034512896+C3.toNat*115792089237316195423570985008687907853269984665640564039457584007913129639936:=by
  rw[u4_nat,Nat.add_mul,Nat.add_mul,Nat.add_mul,Nat.mul_right_comm b.toNat,Nat.mul_right_comm c.toNat,Nat.mul_right_comm d.toNat]
  generalize a.toNat*n.toNat=qa at *
  generalize b.toNat*n.toNat=qb at *
  generalize c.toNat*n.toNat=qc at *
  generalize d.toNat*n.toNat=qd at *
  omega
 rw[key]
 constructor
 ·apply BitVec.eq_of_toNat_eq
  rw[u4_nat,BitVec.toNat_ofNat]
  show _=_ % 115792089237316195423570985008687907853269984665640564039457584007913129639936
  omega
 ·unfold ovU
  have hz:(C3 != 0#64)=decide (0<C3.toNat):=by
   rw[Bool.eq_iff_iff]
   simp only[bne_iff_ne,ne_eq,decide_eq_true_eq]
   constructor
   ·intro h
    have:C3.toNat≠0:=fun e=>h (BitVec.eq_of_toNat_eq e)
    omega
   ·rintro h rfl
    simp at h
  rw[hz]
  congr 1
  rw[eq_iff_iff]
  show _↔115792089237316195423570985008687907853269984665640564039457584007913129639936≤_
  omega
set_option maxHeartbeats 1000000 in
theorem spec110 (ok:OkNum P F)(st:St)(x:U)(n:W):ACalls P (F 110) [nU x,w64 n] st fun v st'=>v=.tup [nU (BitVec.ofNat 256 (x.toNat*n.toNat)),.bool (ovU (x.toNat*n.toNat))]∧st'=st:=by
 refine shows_call ok.mixed ok.h110 (by simp[k110]) ?_
 obtain⟨a,b,c,d,rfl⟩:=exists_u4 x
 obtain⟨e1,e2⟩:=mul_u4 a b c d n
 rw[←e1,←e2]
 simp only[k110,nU,eU_u4]
 simp
 intro i hi
 simp
 intro j hj
 obtain⟨hij,hj⟩:=upd_none hj
 have hji:=hij.symm
 have call: ∀(st:St) (y:W),ACalls P (F 118) [w64 y,w64 n] st fun v st'=>v=.tup [w64 (mulhi y n),w64 (y*n)]∧st'=st:=fun st y=>spec118 ok st y n
 simp[hij,St.seg,segOf]
 refine vc_unroll 5 ?_
 have i0:idxV 4 false 1 (.agg [w64 a,w64 b,w64 c,w64 d]) (.int .i64 0)=some (w64 a):=_root_.id rfl
 have i1:idxV 4 false 1 (.agg [w64 a,w64 b,w64 c,w64 d]) (.int .i64 1)=some (w64 b):=_root_.id rfl
 have i2:idxV 4 false 1 (.agg [w64 a,w64 b,w64 c,w64 d]) (.int .i64 2)=some (w64 c):=_root_.id rfl
 have i3:idxV 4 false 1 (.agg [w64 a,w64 b,w64 c,w64 d]) (.int .i64 3)=some (w64 d):=_root_.id rfl
 have z0:w64 0#64=w64 (b64 false):=rfl
 have cs: ∀p q:W,carryV false (w64 p) (w64 q) (w64 0#64)=some (.tup [w64 (sum64 p q false),w64 (b64 (car64 p q false))]):=fun p q=>carry_add p q false
 simp[unr_succ,i0]
 refine(call _ a).mono ?_
 rintro v s ⟨rfl,rfl⟩
 simp[unr_succ,i1,cs,idxArrV,hij,hji,storeS,spliceV]
 refine(call _ b).mono ?_
 rintro v s ⟨rfl,rfl⟩
 simp[unr_succ,i2,cs,idxArrV,hij,hji,storeS,spliceV]
 refine(call _ c).mono ?_
 rintro v s ⟨rfl,rfl⟩
 simp[unr_succ,i3,cs,idxArrV,hij,hji,storeS,spliceV]
 refine(call _ d).mono ?_
 rintro v s ⟨rfl,rfl⟩
 simp[unr_succ,cs,idxArrV,hij,hji,storeS,spliceV,St.seg,segOf]
 refine⟨sub_ups (sub_ups (sub_ups (sub_ups (sub_self _) hi) hj) hi) hj,?_⟩
 simp[mlo,mhi]
def len8L:List UInt8:=[0,1]++List.replicate 2 2++List.replicate 4 3++List.replicate 8 4++List.replicate 16 5++List.replicate 32 6++List.replicate 64 7++List.replicate 128 8
theorem len8_at: ∀i:Fin 256,(len8L.getD i.val 0).toNat=bitlen i.val:=by decide+kernel
theorem bitlen_shift {n k:Nat}(h:2 ^ k≤n):bitlen n=bitlen (n / 2 ^ k)+k:=by
 have hp:=Nat.two_pow_pos k
 have h1:0<n / 2 ^ k:=Nat.div_pos h hp
 apply Nat.le_antisymm
 ·rw[bitlen_le,Nat.pow_add]
  have:=lt_bitlen (n / 2 ^ k)
  exact(Nat.div_lt_iff_lt_mul hp).1 this
 ·have h2:0<bitlen (n / 2 ^ k):=bitlen_pos.2 h1
  have h3:2 ^ (bitlen (n / 2 ^ k)-1)≤n / 2 ^ k:=bitlen_lt.1 (by omega)
  have h4:2 ^ (bitlen (n / 2 ^ k)-1+k)≤n:=by
   rw[Nat.pow_add]
   exact(Nat.le_div_iff_mul_le hp).1 h3
  have:=bitlen_lt.2 h4
  omega
theorem spec115 (ok:OkNum P F)(st:St)(x:W):ACalls P (F 115) [w64 x] st fun v st'=>v=.int .i64 (bitlen x.toNat)∧st'=st:=by
 refine shows_call ok.mixed ok.h115 (by simp[k115]) ?_
 simp only[k115]
 generalize hs:ByteArray.mk _=tab
 have htab:strB tab=len8L:=by rw[←hs];rfl
 clear hs
 have at_: ∀y:W,y.toNat<256→idxStrV (.str tab) (w8 (UInt8.ofBitVec (y.setWidth 8)))=some (w8 (len8L.getD y.toNat 0)):=fun y hy=>by
  have e:(UInt8.ofBitVec (y.setWidth 8)).toNat=y.toNat:=by
   show(y.setWidth 8).toNat=_
   rw[BitVec.toNat_setWidth]
   exact Nat.mod_eq_of_lt hy
  have hl:y.toNat< (strB tab).length:=by rw[htab];exact hy
  have:=idxStr_w tab .u8 hl
  rw[w8,e,this]
  congr 2
  simp only[htab]
  rw[List.getD_eq_getElem?_getD,List.getElem?_eq_getElem (show y.toNat<len8L.length from hy),Option.getD_some]
 have last: ∀(y:W) (k:Nat),y.toNat<256→k≤100→idxStrV (.str tab) (w8 (UInt8.ofBitVec (y.setWidth 8)))=some (w8 (len8L.getD y.toNat 0))∧IntKind.i64.wrap ((k:Int)+((len8L.getD y.toNat 0).toNat:Int))=((bitlen y.toNat+k:Nat):Int):=fun y k hy hk=>by
  have h:=len8_at ⟨y.toNat,hy⟩
  simp only at h
  have h2:bitlen y.toNat≤8:=bitlen_le.2 hy
  refine⟨at_ y hy,?_⟩
  rw[h,wrap64 (by omega) (by omega)]
  omega
 have hshr: ∀(z:W) (k:Nat),(z >>> k).toNat=z.toNat / 2 ^ k:=fun z k=>by
  rw[BitVec.toNat_ushiftRight,Nat.shiftRight_eq_div_pow]
 have c32:(4294967296#64).toNat=2 ^ 32:=rfl
 have c16:(65536#64).toNat=2 ^ 16:=rfl
 have c8:(256#64).toNat=2 ^ 8:=rfl
 have hx:=x.isLt
 have step: ∀(z:W) (k:Nat),2 ^ k≤z.toNat→bitlen z.toNat=bitlen (z >>> k).toNat+k:=fun z k h=>by
  rw[hshr];exact bitlen_shift h
 simp
 by_cases h1:4294967296#64≤x
 ·have b1:=step x 32 (by rw[←c32];exact BitVec.le_def.1 h1)
  have l1:(x >>> 32).toNat<2 ^ 32:=by rw[hshr];omega
  simp[h1]
  generalize x >>> 32=y at *
  by_cases h2:65536#64≤y
  ·have b2:=step y 16 (by rw[←c16];exact BitVec.le_def.1 h2)
   have l2:(y >>> 16).toNat<2 ^ 16:=by rw[hshr];omega
   simp[h2]
   generalize y >>> 16=z at *
   by_cases h3:256#64≤z
   ·have b3:=step z 8 (by rw[←c8];exact BitVec.le_def.1 h3)
    have l3:(z >>> 8).toNat<2 ^ 8:=by rw[hshr];omega
    simp[h3]
    generalize z >>> 8=t at *
    obtain⟨q1,q2⟩:=last t 56 (by omega) (by omega)
    have q3:bitlen x.toNat=bitlen t.toNat+56:=by omega
    simp[q1,q3]at q2⊢
    exact q2
   ·have l3:z.toNat<2 ^ 8:=by
      have:=mt BitVec.le_def.2 h3
      rw[c8]at this
      omega
    simp[h3]
    obtain⟨q1,q2⟩:=last z 48 (by omega) (by omega)
    have q3:bitlen x.toNat=bitlen z.toNat+48:=by omega
    simp[q1,q3]at q2⊢
    exact q2
  ·have l2:y.toNat<2 ^ 16:=by
     have:=mt BitVec.le_def.2 h2
     rw[c16]at this
     omega
   simp[h2]
   by_cases h3:256#64≤y
   ·have b3:=step y 8 (by rw[←c8];exact BitVec.le_def.1 h3)
    have l3:(y >>> 8).toNat<2 ^ 8:=by rw[hshr];omega
    simp[h3]
    generalize y >>> 8=t at *
    obtain⟨q1,q2⟩:=last t 40 (by omega) (by omega)
    have q3:bitlen x.toNat=bitlen t.toNat+40:=by omega
    simp[q1,q3]at q2⊢
    exact q2
   ·have l3:y.toNat<2 ^ 8:=by
      have:=mt BitVec.le_def.2 h3
      rw[c8]at this
      omega
    simp[h3]
    obtain⟨q1,q2⟩:=last y 32 (by omega) (by omega)
    have q3:bitlen x.toNat=bitlen y.toNat+32:=by omega
    simp[q1,q3]at q2⊢
    exact q2
 ·have l1:x.toNat<2 ^ 32:=by
    have:=mt BitVec.le_def.2 h1
    rw[c32]at this
    omega
  simp[h1]
  by_cases h2:65536#64≤x
  ·have b2:=step x 16 (by rw[←c16];exact BitVec.le_def.1 h2)
   have l2:(x >>> 16).toNat<2 ^ 16:=by rw[hshr];omega
   simp[h2]
   generalize x >>> 16=z at *
   by_cases h3:256#64≤z
   ·have b3:=step z 8 (by rw[←c8];exact BitVec.le_def.1 h3)
    have l3:(z >>> 8).toNat<2 ^ 8:=by rw[hshr];omega
    simp[h3]
    generalize z >>> 8=t at *
    obtain⟨q1,q2⟩:=last t 24 (by omega) (by omega)
    have q3:bitlen x.toNat=bitlen t.toNat+24:=by omega
    simp[q1,q3]at q2⊢
    exact q2
   ·have l3:z.toNat<2 ^ 8:=by
      have:=mt BitVec.le_def.2 h3
      rw[c8]at this
      omega
    simp[h3]
    obtain⟨q1,q2⟩:=last z 16 (by omega) (by omega)
    have q3:bitlen x.toNat=bitlen z.toNat+16:=by omega
    simp[q1,q3]at q2⊢
    exact q2
  ·have l2:x.toNat<2 ^ 16:=by
     have:=mt BitVec.le_def.2 h2
     rw[c16]at this
     omega
   simp[h2]
   by_cases h3:256#64≤x
   ·have b3:=step x 8 (by rw[←c8];exact BitVec.le_def.1 h3)
    have l3:(x >>> 8).toNat<2 ^ 8:=by rw[hshr];omega
    simp[h3]
    generalize x >>> 8=t at *
    obtain⟨q1,q2⟩:=last t 8 (by omega) (by omega)
    have q3:bitlen x.toNat=bitlen t.toNat+8:=by omega
    simp[q1,q3]at q2⊢
    exact q2
   ·have l3:x.toNat<2 ^ 8:=by
      have:=mt BitVec.le_def.2 h3
      rw[c8]at this
      omega
    simp[h3]
    obtain⟨q1,q2⟩:=last x 0 (by omega) (by omega)
    simp at q2
    simp[q1,q2]
end
section
variable {P:Program} {F:Fn}
theorem bitlen_add {n k m:Nat}(hm:m<2 ^ k)(hn:0<n):bitlen (n*2 ^ k+m)=bitlen n+k:=by
 have h1:2 ^ k≤n*2 ^ k+m:=Nat.le_add_right_of_le (Nat.le_mul_of_pos_left _ hn)
 have h2:=bitlen_shift h1
 rw[h2,Nat.add_comm (n*2 ^ k),Nat.add_mul_div_right _ _ (Nat.two_pow_pos k),Nat.div_eq_of_lt hm,Nat.zero_add]
theorem u4_lo2 (a b:W):(u4 a b 0#64 0#64).toNat=b.toNat*2 ^ 64+a.toNat:=by
 have h: ∀c d:W,c.toNat=0→d.toNat=0→(u4 a b c d).toNat=b.toNat*18446744073709551616+a.toNat:=fun c d hc hd=>by
  rw[u4_nat];omega
 exact h _ _ rfl rfl
theorem u4_lo3 (a b c:W):(u4 a b c 0#64).toNat=c.toNat*2 ^ 128+(a.toNat+b.toNat*18446744073709551616):=by
 have h: ∀d:W,d.toNat=0→(u4 a b c d).toNat=c.toNat*340282366920938463463374607431768211456+(a.toNat+b.toNat*18446744073709551616):=fun d hd=>by
  rw[u4_nat];omega
 exact h _ rfl
theorem u4_hi (a b c d:W):(u4 a b c d).toNat=d.toNat*2 ^ 192+(a.toNat+b.toNat*18446744073709551616+c.toNat*340282366920938463463374607431768211456):=by
 rw[u4_nat,Nat.add_comm]
theorem w_pos {x:W}(h:x≠0#64):0<x.toNat:=by
 have:x.toNat≠0:=fun e=>h (BitVec.eq_of_toNat_eq e)
 omega
theorem spec114 (ok:OkNum P F)(st:St)(x:U):ACalls P (F 114) [nU x] st fun v st'=>v=.int .i64 (bitlen x.toNat)∧st'=st:=by
 refine shows_call ok.mixed ok.h114 (by simp[k114]) ?_
 obtain⟨a,b,c,d,rfl⟩:=exists_u4 x
 have ha:=a.isLt;have hb:=b.isLt;have hc:=c.isLt;have hd:=d.isLt
 have e:=u4_nat a b c d
 have bl: ∀y:W,bitlen y.toNat≤64:=fun y=>bitlen_le.2 y.isLt
 simp only[k114,nU,eU_u4]
 simp
 intro i hi
 have call: ∀(st:St) (y:W),ACalls P (F 115) [w64 y] st fun v st'=>v=.int .i64 (bitlen y.toNat)∧st'=st:=fun st y=>spec115 ok st y
 refine vc_unroll 5 ?_
 simp[unr_succ,idxArrV,St.seg,segOf]
 by_cases h:d=0#64
 ·subst h
  simp[unr_succ,idxArrV,St.seg,segOf]
  by_cases h:c=0#64
  ·subst h
   simp[unr_succ,idxArrV,St.seg,segOf]
   by_cases h:b=0#64
   ·subst h
    simp[unr_succ,idxArrV,St.seg,segOf]
    by_cases h:a=0#64
    ·subst h
     simp[unr_succ,idxArrV,St.seg,segOf,e,bitlen]
     exact sub_upd hi
    ·have hne:(a != 0#64)=true:=by simp[h]
     simp[unr_succ,idxArrV,St.seg,segOf,hne]
     refine(call _ a).mono ?_
     rintro v s ⟨rfl,rfl⟩
     have:=bl a
     have w:IntKind.i64.wrap (bitlen a.toNat:Int)=bitlen a.toNat:=wrap64 (by omega) (by omega)
     simp[w,e]
     exact sub_upd hi
   ·have hne:(b != 0#64)=true:=by simp[h]
    simp[unr_succ,idxArrV,St.seg,segOf,hne]
    refine(call _ b).mono ?_
    rintro v s ⟨rfl,rfl⟩
    have:=bl b
    have w:IntKind.i64.wrap (64+(bitlen b.toNat:Int))=64+bitlen b.toNat:=wrap64 (by omega) (by omega)
    have q:=bitlen_add (k:=64) ha (w_pos h)
    rw[u4_lo2,q]
    simp[w]
    exact⟨sub_upd hi,by omega⟩
  ·have hne:(c != 0#64)=true:=by simp[h]
   simp[unr_succ,idxArrV,St.seg,segOf,hne]
   refine(call _ c).mono ?_
   rintro v s ⟨rfl,rfl⟩
   have:=bl c
   have w:IntKind.i64.wrap (128+(bitlen c.toNat:Int))=128+bitlen c.toNat:=wrap64 (by omega) (by omega)
   have q:=bitlen_add (k:=128) (m:=a.toNat+b.toNat*18446744073709551616) (by show _<340282366920938463463374607431768211456;omega) (w_pos h)
   rw[u4_lo3,q]
   simp[w]
   exact⟨sub_upd hi,by omega⟩
 ·have hne:(d != 0#64)=true:=by simp[h]
  simp[unr_succ,idxArrV,St.seg,segOf,hne]
  refine(call _ d).mono ?_
  rintro v s ⟨rfl,rfl⟩
  have:=bl d
  have w:IntKind.i64.wrap (192+(bitlen d.toNat:Int))=192+bitlen d.toNat:=wrap64 (by omega) (by omega)
  have q:=bitlen_add (k:=192) (m:=a.toNat+b.toNat*18446744073709551616+c.toNat*340282366920938463463374607431768211456) (by show _<6277101735386680763835789423207666416102355444464034512896;omega) (w_pos h)
  rw[u4_hi,q]
  simp[w]
  exact⟨sub_upd hi,by omega⟩
end
section
variable {P:Program} {F:Fn}
def hl (x y:W)(s:Nat):W:=x <<< s ||| y >>> (64-s)
def hr (x y:W)(s:Nat):W:=x >>> s ||| y <<< (64-s)
theorem pow64 {s:Nat}(hs:s≤64):2 ^ s*2 ^ (64-s)=18446744073709551616:=by
 rw[←Nat.pow_add,show s+(64-s)=64 by omega]
theorem shl_nat (x:W)(s:Nat):(x <<< s).toNat=x.toNat*2 ^ s % 18446744073709551616:=by
 rw[BitVec.toNat_shiftLeft,Nat.shiftLeft_eq]
theorem shr_nat64 (x:W)(s:Nat):(x >>> s).toNat=x.toNat / 2 ^ s:=by
 rw[BitVec.toNat_ushiftRight,Nat.shiftRight_eq_div_pow]
theorem or_disj (x y:Nat)(s:Nat)(hy:y<2 ^ s):(x*2 ^ s ||| y)=x*2 ^ s+y:=by
 rw[←Nat.shiftLeft_eq,←Nat.shiftLeft_add_eq_or_of_lt hy,Nat.shiftLeft_eq]
theorem mul_mod_pow (x s:Nat)(hs:s≤64):x*2 ^ s % 18446744073709551616=x % 2 ^ (64-s)*2 ^ s:=by
 rw[←pow64 hs,Nat.mul_comm (2 ^ s),Nat.mul_mod_mul_right]
theorem mul_div_pow (x s:Nat)(hs:s≤64):x*2 ^ s / 18446744073709551616=x / 2 ^ (64-s):=by
 rw[←pow64 hs,Nat.mul_comm (2 ^ s),Nat.mul_div_mul_right _ _ (Nat.two_pow_pos s)]
theorem hl_nat (x y:W)(s:Nat)(hs:s≤64):(hl x y s).toNat=x.toNat*2 ^ s % 18446744073709551616+y.toNat*2 ^ s / 18446744073709551616:=by
 have hy:=y.isLt
 rw[hl,BitVec.toNat_or,shl_nat,shr_nat64,mul_mod_pow _ _ hs,mul_div_pow _ _ hs]
 refine or_disj _ _ _ ?_
 rw[Nat.div_lt_iff_lt_mul (Nat.two_pow_pos _),pow64 hs]
 exact hy
theorem hr_nat (x y:W)(s:Nat)(hs:s≤64):(hr x y s).toNat=y.toNat*2 ^ (64-s) % 18446744073709551616+x.toNat*2 ^ (64-s) / 18446744073709551616:=by
 have hx:=x.isLt
 have e:64-(64-s)=s:=by omega
 rw[hr,BitVec.or_comm,BitVec.toNat_or,shl_nat,shr_nat64,mul_mod_pow _ _ (by omega),mul_div_pow _ _ (by omega),e]
 refine or_disj _ _ _ ?_
 rw[Nat.div_lt_iff_lt_mul (Nat.two_pow_pos _),Nat.mul_comm,pow64 hs]
 exact hx
theorem shl_u4 (a b c d:W)(s:Nat)(hs:s≤64):u4 a b c d <<< s=u4 (a <<< s) (hl b a s) (hl c b s) (hl d c s):=by
 apply BitVec.eq_of_toNat_eq
 have b1:=(hl b a s).isLt
 have b2:=(hl c b s).isLt
 have b3:=(hl d c s).isLt
 rw[hl_nat _ _ _ hs]at b1 b2 b3
 rw[BitVec.toNat_shiftLeft,Nat.shiftLeft_eq,u4_nat,u4_nat,shl_nat,hl_nat _ _ _ hs,hl_nat _ _ _ hs,hl_nat _ _ _ hs,Nat.add_mul,Nat.add_mul,Nat.add_mul,Nat.mul_right_comm b.toNat,Nat.mul_right_comm c.toNat,Nat.mul_right_comm d.toNat]
 generalize a.toNat*2 ^ s=A at *
 generalize b.toNat*2 ^ s=B at *
 generalize c.toNat*2 ^ s=C at *
 generalize d.toNat*2 ^ s=D at *
 show _ % 115792089237316195423570985008687907853269984665640564039457584007913129639936=_
 omega
theorem shr_u4 (a b c d:W)(s:Nat)(hs:s≤64):u4 a b c d >>> s=u4 (hr a b s) (hr b c s) (hr c d s) (d >>> s):=by
 apply BitVec.eq_of_toNat_eq
 have hp:=Nat.two_pow_pos (64-s)
 have e:64-(64-s)=s:=by omega
 have hd:(d >>> s).toNat=d.toNat*2 ^ (64-s) / 18446744073709551616:=by
  rw[shr_nat64,mul_div_pow _ _ (by omega),e]
 rw[BitVec.toNat_ushiftRight,Nat.shiftRight_eq_div_pow,u4_nat,u4_nat,hd,hr_nat _ _ _ hs,hr_nat _ _ _ hs,hr_nat _ _ _ hs]
 rw[←Nat.mul_div_mul_right _ _ hp,pow64 hs,Nat.add_mul,Nat.add_mul,Nat.add_mul,Nat.mul_right_comm b.toNat,Nat.mul_right_comm c.toNat,Nat.mul_right_comm d.toNat]
 generalize a.toNat*2 ^ (64-s)=A
 generalize b.toNat*2 ^ (64-s)=B
 generalize c.toNat*2 ^ (64-s)=C
 generalize d.toNat*2 ^ (64-s)=D
 omega
theorem shl_word (a b c d:W):u4 a b c d <<< 64=u4 0#64 a b c:=by
 have h: ∀z:W,z.toNat=0→u4 a b c d <<< 64=u4 z a b c:=fun z hz=>by
  have:=a.isLt;have:=b.isLt;have:=c.isLt;have:=d.isLt
  apply BitVec.eq_of_toNat_eq
  rw[BitVec.toNat_shiftLeft,Nat.shiftLeft_eq,u4_nat,u4_nat]
  show _*18446744073709551616 % 115792089237316195423570985008687907853269984665640564039457584007913129639936=_
  omega
 exact h _ rfl
theorem shr_word (a b c d:W):u4 a b c d >>> 64=u4 b c d 0#64:=by
 have h: ∀z:W,z.toNat=0→u4 a b c d >>> 64=u4 b c d z:=fun z hz=>by
  have:=a.isLt;have:=b.isLt;have:=c.isLt;have:=d.isLt
  apply BitVec.eq_of_toNat_eq
  rw[BitVec.toNat_ushiftRight,Nat.shiftRight_eq_div_pow,u4_nat,u4_nat]
  show _ / 18446744073709551616=_
  omega
 exact h _ rfl
def shlU (x:U)(n:Int):U:=if n<0∨255<n then 0#256 else x <<< n.toNat
def shrU (x:U)(n:Int):U:=if n<0∨255<n then 0#256 else x >>> n.toNat
theorem hl0 (x y:W):hl x y 0=x:=by
 unfold hl
 rw[BitVec.shiftLeft_zero]
 have:y >>> (64-0)=0#64:=by
  apply BitVec.eq_of_toNat_eq
  rw[shr_nat64,Nat.div_eq_of_lt y.isLt];rfl
 rw[this,BitVec.or_zero]
theorem hr0 (x y:W):hr x y 0=x:=by
 unfold hr
 rw[BitVec.ushiftRight_zero]
 have:y <<< (64-0)=0#64:=by
  apply BitVec.eq_of_toNat_eq
  rw[shl_nat]
  exact Nat.mul_mod_left _ _
 rw[this,BitVec.or_zero]
set_option maxHeartbeats 2000000 in
theorem spec112 (ok:OkNum P F)(st:St)(x:U)(n:Int):ACalls P (F 112) [nU x,.int .i64 n] st fun v st'=>v=nU (shlU x n)∧st'=st:=by
 refine shows_call ok.mixed ok.h112 (by simp[k112]) ?_
 obtain⟨a,b,c,d,rfl⟩:=exists_u4 x
 simp only[k112,nU,eU_u4]
 simp
 intro i hi
 simp
 intro j hj
 obtain⟨hij,hj⟩:=upd_none hj
 have hji:=hij.symm
 by_cases h0:n<0
 ·have e:shlU (u4 a b c d) n=u4 0#64 0#64 0#64 0#64:=by simp[shlU,h0];rfl
  rw[e,eU_u4]
  simp[h0,fillV,storeS,spliceV,St.seg,segOf]
  repeat refine sub_ups ?_ (by assumption)
  exact St.sub_refl _
 by_cases h1:255<n
 ·have e:shlU (u4 a b c d) n=u4 0#64 0#64 0#64 0#64:=by simp[shlU,h1];rfl
  rw[e,eU_u4]
  simp[h0,h1,fillV,storeS,spliceV,St.seg,segOf]
  repeat refine sub_ups ?_ (by assumption)
  exact St.sub_refl _
 obtain⟨m,rfl⟩:=Int.eq_ofNat_of_zero_le (show 0≤n by omega)
 have hm:m≤255:=by omega
 obtain⟨w,s,hs,rfl⟩: ∃w s,s<64∧m=64*w+s:=⟨m / 64,m % 64,Nat.mod_lt _ (by omega),by omega⟩
 have hq:Int.tdiv ((64*w+s:Nat):Int) 64=(w:Int):=by
  rw[Int.tdiv_eq_ediv_of_nonneg (by omega)];omega
 have hr':Int.tmod ((64*w+s:Nat):Int) 64=(s:Int):=by
  rw[Int.tmod_eq_emod_of_nonneg (by omega)];omega
 have e:shlU (u4 a b c d) ((64*w+s:Nat):Int)=u4 a b c d <<< (64*w+s):=by
  rw[shlU,if_neg (by omega),Int.toNat_natCast]
 rw[e]
 obtain⟨S,hS⟩: ∃S:W,S=BitVec.ofInt 64 (s:Int):=⟨_,rfl⟩
 have hSn:S.toNat=s:=by
  rw[hS,BitVec.ofInt_natCast,BitVec.toNat_ofNat]
  exact Nat.mod_eq_of_lt (by omega)
 have hS2:(64#64-S).toNat=64-s:=by
  rw[BitVec.toNat_sub,hSn]
  show(18446744073709551616-s+64) % 18446744073709551616=64-s
  omega
 have hpos:decide (0#64<S)=decide (0<s):=by
  congr 1
  rw[BitVec.lt_def,hSn]
  rfl
 have hw:w≤3:=by omega
 have ww:IntKind.i64.wrap (w:Int)=w:=wrap64 (by omega) (by omega)
 have hcast:((64*w+s:Nat):Int)=64*(w:Int)+s:=by omega
 rw[hcast]at h0 h1 hq hr'⊢
 simp[h0,h1]
 intro k hk
 obtain⟨hjk,hk⟩:=upd_none hk
 obtain⟨hik,hk⟩:=upd_none hk
 have hkj:=hjk.symm
 have hki:=hik.symm
 have fin: ∀cs:List V,st.sub (((((st.upd i (AObj.cells [w64 a,w64 b,w64 c,w64 d])).upd j (AObj.cells [w64 0#64,w64 0#64,w64 0#64,w64 0#64])).upd k (AObj.cells [w64 0#64,w64 0#64,w64 0#64,w64 0#64])).upd k (AObj.cells cs)).upd j (AObj.cells cs)):=fun cs=>sub_ups (sub_ups (sub_ups (sub_ups (sub_ups (sub_self _) hi) hj) hk) hk) hj
 have hconv:convV .u64 (.int .i64 (s:Int))=some (w64 S):=by rw[hS,conv_i_64]
 simp[-conv_i_64,hq,hr',ww,hconv]
 clear hconv hS hq hr' hcast h0 h1 e ww
 refine vc_unroll 5 ?_
 have hw4:w=0∨w=1∨w=2∨w=3:=by omega
 by_cases hs0:s=0
 ·have hpos':decide (0#64<S)=false:=by rw[hpos];simp[hs0]
  rcases hw4 with rfl | rfl | rfl | rfl
  ·have r:u4 a b c d <<< (64*0+s)=u4 a b c d:=by simp[hs0]
   rw[r,eU_u4]
   simp[unr_succ,idxArrV,St.seg,segOf,hij,hji,hik,hki,hjk,hkj,storeS,spliceV,hSn,hpos',hs0]
   repeat refine sub_ups ?_ (by assumption)
   exact St.sub_refl _
  ·have r:u4 a b c d <<< (64*1+s)=u4 0#64 a b c:=by rw[hs0];exact shl_word a b c d
   rw[r,eU_u4]
   simp[unr_succ,idxArrV,St.seg,segOf,hij,hji,hik,hki,hjk,hkj,storeS,spliceV,hSn,hpos',hs0]
   repeat refine sub_ups ?_ (by assumption)
   exact St.sub_refl _
  ·have r:u4 a b c d <<< (64*2+s)=u4 0#64 0#64 a b:=by rw[hs0,show 64*2+0=64+64 from rfl,BitVec.shiftLeft_add,shl_word,shl_word]
   rw[r,eU_u4]
   simp[unr_succ,idxArrV,St.seg,segOf,hij,hji,hik,hki,hjk,hkj,storeS,spliceV,hSn,hpos',hs0]
   repeat refine sub_ups ?_ (by assumption)
   exact St.sub_refl _
  ·have r:u4 a b c d <<< (64*3+s)=u4 0#64 0#64 0#64 a:=by rw[hs0,show 64*3+0=64+64+64 from rfl,BitVec.shiftLeft_add,BitVec.shiftLeft_add,shl_word,shl_word,shl_word]
   rw[r,eU_u4]
   simp[unr_succ,idxArrV,St.seg,segOf,hij,hji,hik,hki,hjk,hkj,storeS,spliceV,hSn,hpos',hs0]
   repeat refine sub_ups ?_ (by assumption)
   exact St.sub_refl _
 ·have hpos':decide (0#64<S)=true:=by rw[hpos];simp;omega
  rcases hw4 with rfl | rfl | rfl | rfl
  ·have r:u4 a b c d <<< (64*0+s)=u4 (a <<< s) (hl b a s) (hl c b s) (hl d c s):=by
     rw[show 64*0+s=s by omega];exact shl_u4 a b c d s (by omega)
   rw[r,eU_u4]
   simp[unr_succ,idxArrV,St.seg,segOf,hij,hji,hik,hki,hjk,hkj,storeS,spliceV,hSn,hpos',hS2,hl,-BitVec.toNat_sub]
   repeat refine sub_ups ?_ (by assumption)
   exact St.sub_refl _
  ·have r:u4 a b c d <<< (64*1+s)=u4 0#64 (a <<< s) (hl b a s) (hl c b s):=by
     rw[show 64*1+s=s+64 by omega,BitVec.shiftLeft_add,shl_u4 a b c d s (by omega),shl_word]
   rw[r,eU_u4]
   simp[unr_succ,idxArrV,St.seg,segOf,hij,hji,hik,hki,hjk,hkj,storeS,spliceV,hSn,hpos',hS2,hl,-BitVec.toNat_sub]
   repeat refine sub_ups ?_ (by assumption)
   exact St.sub_refl _
  ·have r:u4 a b c d <<< (64*2+s)=u4 0#64 0#64 (a <<< s) (hl b a s):=by
     rw[show 64*2+s=s+64+64 by omega,BitVec.shiftLeft_add,BitVec.shiftLeft_add,shl_u4 a b c d s (by omega),shl_word,shl_word]
   rw[r,eU_u4]
   simp[unr_succ,idxArrV,St.seg,segOf,hij,hji,hik,hki,hjk,hkj,storeS,spliceV,hSn,hpos',hS2,hl,-BitVec.toNat_sub]
   repeat refine sub_ups ?_ (by assumption)
   exact St.sub_refl _
  ·have r:u4 a b c d <<< (64*3+s)=u4 0#64 0#64 0#64 (a <<< s):=by
     rw[show 64*3+s=s+64+64+64 by omega,BitVec.shiftLeft_add,BitVec.shiftLeft_add,BitVec.shiftLeft_add,shl_u4 a b c d s (by omega),shl_word,shl_word,shl_word]
   rw[r,eU_u4]
   simp[unr_succ,idxArrV,St.seg,segOf,hij,hji,hik,hki,hjk,hkj,storeS,spliceV,hSn,hpos',hS2,hl,-BitVec.toNat_sub]
   repeat refine sub_ups ?_ (by assumption)
   exact St.sub_refl _
set_option maxHeartbeats 2000000 in
theorem spec113 (ok:OkNum P F)(st:St)(x:U)(n:Int):ACalls P (F 113) [nU x,.int .i64 n] st fun v st'=>v=nU (shrU x n)∧st'=st:=by
 refine shows_call ok.mixed ok.h113 (by simp[k113]) ?_
 obtain⟨a,b,c,d,rfl⟩:=exists_u4 x
 simp only[k113,nU,eU_u4]
 simp
 intro i hi
 simp
 intro j hj
 obtain⟨hij,hj⟩:=upd_none hj
 have hji:=hij.symm
 by_cases h0:n<0
 ·have e:shrU (u4 a b c d) n=u4 0#64 0#64 0#64 0#64:=by simp[shrU,h0];rfl
  rw[e,eU_u4]
  simp[h0,fillV,storeS,spliceV,St.seg,segOf]
  repeat refine sub_ups ?_ (by assumption)
  exact St.sub_refl _
 by_cases h1:255<n
 ·have e:shrU (u4 a b c d) n=u4 0#64 0#64 0#64 0#64:=by simp[shrU,h1];rfl
  rw[e,eU_u4]
  simp[h0,h1,fillV,storeS,spliceV,St.seg,segOf]
  repeat refine sub_ups ?_ (by assumption)
  exact St.sub_refl _
 obtain⟨m,rfl⟩:=Int.eq_ofNat_of_zero_le (show 0≤n by omega)
 have hm:m≤255:=by omega
 obtain⟨w,s,hs,rfl⟩: ∃w s,s<64∧m=64*w+s:=⟨m / 64,m % 64,Nat.mod_lt _ (by omega),by omega⟩
 have hq:Int.tdiv ((64*w+s:Nat):Int) 64=(w:Int):=by
  rw[Int.tdiv_eq_ediv_of_nonneg (by omega)];omega
 have hr':Int.tmod ((64*w+s:Nat):Int) 64=(s:Int):=by
  rw[Int.tmod_eq_emod_of_nonneg (by omega)];omega
 have e:shrU (u4 a b c d) ((64*w+s:Nat):Int)=u4 a b c d >>> (64*w+s):=by
  rw[shrU,if_neg (by omega),Int.toNat_natCast]
 rw[e]
 obtain⟨S,hS⟩: ∃S:W,S=BitVec.ofInt 64 (s:Int):=⟨_,rfl⟩
 have hSn:S.toNat=s:=by
  rw[hS,BitVec.ofInt_natCast,BitVec.toNat_ofNat]
  exact Nat.mod_eq_of_lt (by omega)
 have hS2:(64#64-S).toNat=64-s:=by
  rw[BitVec.toNat_sub,hSn]
  show(18446744073709551616-s+64) % 18446744073709551616=64-s
  omega
 have hpos:decide (0#64<S)=decide (0<s):=by
  congr 1
  rw[BitVec.lt_def,hSn]
  rfl
 have hw:w≤3:=by omega
 have ww4:IntKind.i64.wrap (4-(w:Int))=4-w:=wrap64 (by omega) (by omega)
 have ww:IntKind.i64.wrap (w:Int)=w:=wrap64 (by omega) (by omega)
 have hcast:((64*w+s:Nat):Int)=64*(w:Int)+s:=by omega
 rw[hcast]at h0 h1 hq hr'⊢
 simp[h0,h1]
 intro k hk
 obtain⟨hjk,hk⟩:=upd_none hk
 obtain⟨hik,hk⟩:=upd_none hk
 have hkj:=hjk.symm
 have hki:=hik.symm
 have fin: ∀cs:List V,st.sub (((((st.upd i (AObj.cells [w64 a,w64 b,w64 c,w64 d])).upd j (AObj.cells [w64 0#64,w64 0#64,w64 0#64,w64 0#64])).upd k (AObj.cells [w64 0#64,w64 0#64,w64 0#64,w64 0#64])).upd k (AObj.cells cs)).upd j (AObj.cells cs)):=fun cs=>sub_ups (sub_ups (sub_ups (sub_ups (sub_ups (sub_self _) hi) hj) hk) hk) hj
 have hconv:convV .u64 (.int .i64 (s:Int))=some (w64 S):=by rw[hS,conv_i_64]
 simp[-conv_i_64,hq,hr',ww,hconv]
 clear hconv hS hq hr' hcast h0 h1 e ww
 refine vc_unroll 5 ?_
 have hw4:w=0∨w=1∨w=2∨w=3:=by omega
 by_cases hs0:s=0
 ·have hpos':decide (0#64<S)=false:=by rw[hpos];simp[hs0]
  rcases hw4 with rfl | rfl | rfl | rfl
  ·have r:u4 a b c d >>> (64*0+s)=u4 a b c d:=by simp[hs0]
   rw[r,eU_u4]
   simp[unr_succ,idxArrV,St.seg,segOf,hij,hji,hik,hki,hjk,hkj,storeS,spliceV,hSn,hpos',hs0]
   repeat refine sub_ups ?_ (by assumption)
   exact St.sub_refl _
  ·have r:u4 a b c d >>> (64*1+s)=u4 b c d 0#64:=by rw[hs0,show 64*1+0=64 from rfl,shr_word]
   rw[r,eU_u4]
   simp[unr_succ,idxArrV,St.seg,segOf,hij,hji,hik,hki,hjk,hkj,storeS,spliceV,hSn,hpos',hs0]
   repeat refine sub_ups ?_ (by assumption)
   exact St.sub_refl _
  ·have r:u4 a b c d >>> (64*2+s)=u4 c d 0#64 0#64:=by rw[hs0,show 64*2+0=64+64 from rfl,BitVec.shiftRight_add,shr_word,shr_word]
   rw[r,eU_u4]
   simp[unr_succ,idxArrV,St.seg,segOf,hij,hji,hik,hki,hjk,hkj,storeS,spliceV,hSn,hpos',hs0]
   repeat refine sub_ups ?_ (by assumption)
   exact St.sub_refl _
  ·have r:u4 a b c d >>> (64*3+s)=u4 d 0#64 0#64 0#64:=by rw[hs0,show 64*3+0=64+64+64 from rfl,BitVec.shiftRight_add,BitVec.shiftRight_add,shr_word,shr_word,shr_word]
   rw[r,eU_u4]
   simp[unr_succ,idxArrV,St.seg,segOf,hij,hji,hik,hki,hjk,hkj,storeS,spliceV,hSn,hpos',hs0]
   repeat refine sub_ups ?_ (by assumption)
   exact St.sub_refl _
 ·have hpos':decide (0#64<S)=true:=by rw[hpos];simp;omega
  rcases hw4 with rfl | rfl | rfl | rfl
  ·have r:u4 a b c d >>> (64*0+s)=u4 (hr a b s) (hr b c s) (hr c d s) (d >>> s):=by
     rw[show 64*0+s=s by omega,shr_u4 a b c d s (by omega)]
   rw[r,eU_u4]
   simp[unr_succ,idxArrV,St.seg,segOf,hij,hji,hik,hki,hjk,hkj,storeS,spliceV,hSn,hpos',hS2,hr,-BitVec.toNat_sub]
   repeat refine sub_ups ?_ (by assumption)
   exact St.sub_refl _
  ·have r:u4 a b c d >>> (64*1+s)=u4 (hr b c s) (hr c d s) (d >>> s) 0#64:=by
     rw[show 64*1+s=s+64 by omega,BitVec.shiftRight_add,shr_u4 a b c d s (by omega),shr_word]
   rw[r,eU_u4]
   simp[unr_succ,idxArrV,St.seg,segOf,hij,hji,hik,hki,hjk,hkj,storeS,spliceV,hSn,hpos',hS2,hr,-BitVec.toNat_sub]
   repeat refine sub_ups ?_ (by assumption)
   exact St.sub_refl _
  ·have r:u4 a b c d >>> (64*2+s)=u4 (hr c d s) (d >>> s) 0#64 0#64:=by
     rw[show 64*2+s=s+64+64 by omega,BitVec.shiftRight_add,BitVec.shiftRight_add,shr_u4 a b c d s (by omega),shr_word,shr_word]
   rw[r,eU_u4]
   simp[unr_succ,idxArrV,St.seg,segOf,hij,hji,hik,hki,hjk,hkj,storeS,spliceV,hSn,hpos',hS2,hr,-BitVec.toNat_sub]
   repeat refine sub_ups ?_ (by assumption)
   exact St.sub_refl _
  ·have r:u4 a b c d >>> (64*3+s)=u4 (d >>> s) 0#64 0#64 0#64:=by
     rw[show 64*3+s=s+64+64+64 by omega,BitVec.shiftRight_add,BitVec.shiftRight_add,BitVec.shiftRight_add,shr_u4 a b c d s (by omega),shr_word,shr_word,shr_word]
   rw[r,eU_u4]
   simp[unr_succ,idxArrV,St.seg,segOf,hij,hji,hik,hki,hjk,hkj,storeS,spliceV,hSn,hpos',hS2,hr,-BitVec.toNat_sub]
   repeat refine sub_ups ?_ (by assumption)
   exact St.sub_refl _
end
section
variable {P:Program} {F:Fn}
theorem limb_bit (x:U)(j i:Nat)(hi:i<64):(limb x j).getLsbD i=x.getLsbD (64*j+i):=by
 have e:(18446744073709551616:Nat) ^ j=2 ^ (64*j):=by
  rw[Nat.pow_mul]
 rw[limb,e,BitVec.getLsbD_ofNat,decide_eq_true hi,Bool.true_and,Nat.testBit_div_two_pow,BitVec.getLsbD,Nat.add_comm]
theorem limb_or (x y:U)(j:Nat):limb (x ||| y) j=limb x j ||| limb y j:=by
 apply BitVec.eq_of_getLsbD_eq
 intro i hi
 rw[BitVec.getLsbD_or,limb_bit _ _ _ hi,limb_bit _ _ _ hi,limb_bit _ _ _ hi,BitVec.getLsbD_or]
theorem splice_or (x y:U){j:Nat}(hj:j<4)(hy: ∀k,k<4→k≠j→limb y k=0#64):spliceV (eU x) j [w64 (limb x j ||| limb y j)]=eU (x ||| y):=by
 have e: ∀k,k<4→limb (x ||| y) k=if k=j then limb x j ||| limb y j else limb x k:=fun k hk=>by
  rw[limb_or]
  split
  ·rename_i h;rw[h]
  ·rename_i h;rw[hy k hk h,BitVec.or_zero]
 simp only[eU,e 0 (by omega),e 1 (by omega),e 2 (by omega),e 3 (by omega)]
 have:j=0∨j=1∨j=2∨j=3:=by omega
 rcases this with rfl | rfl | rfl | rfl<;>rfl
theorem seg_limb (x:U){j:Nat}(hj:j<4):segOf (eU x) j 1=some [w64 (limb x j)]:=by
 have:j=0∨j=1∨j=2∨j=3:=by omega
 rcases this with rfl | rfl | rfl | rfl<;>rfl
def putU (v:W)(i:Nat):U:=v.setWidth 256 <<< i
theorem limb_put (v:W)(q r k:Nat)(hr:r<64)(hk:k<4)(hv:v.toNat<2 ^ (64-r)):limb (putU v (64*q+r)) k=if k=q then v <<< r else 0#64:=by
 have zero: ∀t,64-r≤t→v.getLsbD t=false:=fun t ht=>by
  rw[BitVec.getLsbD]
  exact Nat.testBit_lt_two_pow (Nat.lt_of_lt_of_le hv (Nat.pow_le_pow_right (by omega) ht))
 apply BitVec.eq_of_getLsbD_eq
 intro t ht
 rw[limb_bit _ _ _ ht,putU,BitVec.getLsbD_shiftLeft,BitVec.getLsbD_setWidth]
 rw[decide_eq_true (show 64*k+t<256 by omega),Bool.true_and]
 split
 ·rename_i h
  subst h
  rw[BitVec.getLsbD_shiftLeft,decide_eq_true ht,Bool.true_and]
  by_cases h2:t<r
  ·simp[h2]
  ·rw[decide_eq_false (show¬64*k+t<64*k+r by omega),decide_eq_false h2,decide_eq_true (show 64*k+t-(64*k+r)<256 by omega),show 64*k+t-(64*k+r)=t-r by omega]
   simp
 ·rename_i h
  rcases Nat.lt_or_gt_of_ne h with h2 | h2
  ·rw[decide_eq_true (show 64*k+t<64*q+r by omega)]
   simp
  ·rw[zero _ (show 64-r≤64*k+t-(64*q+r) by omega)]
   simp
theorem put_nat (v:W)(i:Nat):(putU v i).toNat=v.toNat*2 ^ i % 2 ^ 256:=by
 have:=v.isLt
 rw[putU,BitVec.toNat_shiftLeft,Nat.shiftLeft_eq,BitVec.toNat_setWidth,Nat.mod_eq_of_lt (show v.toNat<2 ^ 256 from Nat.lt_of_lt_of_le this (Nat.pow_le_pow_right (by omega) (by omega)))]
theorem eU_zero0:[w64 0,w64 0,w64 0,w64 0]=eU 0#256:=eU_zero
theorem or_put {x:U}{v:W}{i:Nat}(hx:x.toNat<2 ^ i)(hs:v.toNat*2 ^ i<2 ^ 256):(x ||| putU v i).toNat=v.toNat*2 ^ i+x.toNat:=by
 rw[BitVec.toNat_or,put_nat,Nat.mod_eq_of_lt hs,Nat.or_comm]
 exact or_disj _ _ _ hx
theorem or_low {x:U}{i:Nat}(hx:x.toNat % 2 ^ (i+1)=0)(hi:i<256):(x ||| putU 1#64 i).toNat=x.toNat+2 ^ i:=by
 have h1:2 ^ i<2 ^ 256:=Nat.pow_lt_pow_right (by omega) hi
 have e1:(1#64:W).toNat=1:=rfl
 rw[BitVec.toNat_or,put_nat,e1,Nat.one_mul,Nat.mod_eq_of_lt h1]
 have e:x.toNat=x.toNat / 2 ^ (i+1)*2 ^ (i+1):=by
  have:=Nat.div_add_mod x.toNat (2 ^ (i+1))
  rw[hx,Nat.add_zero,Nat.mul_comm]at this
  exact this.symm
 rw[e]
 exact or_disj _ _ _ (Nat.pow_lt_pow_right (by omega) (by omega))
def divU (x y:U):U:=BitVec.ofNat 256 (x.toNat / y.toNat)
def modU (x y:U):U:=BitVec.ofNat 256 (x.toNat % y.toNat)
theorem bitlen_ge {n:Nat}(h:0<n):2 ^ (bitlen n-1)≤n:=by
 have:=bitlen_pos.2 h
 exact bitlen_lt.1 (by omega)
theorem div_start {x y:Nat}(hy:0<y)(h:bitlen y≤bitlen x):x<y*2 ^ (bitlen x-bitlen y+1):=by
 have h1:=lt_bitlen x
 have h2:=bitlen_ge hy
 have h3:=bitlen_pos.2 hy
 calc x<2 ^ bitlen x:=h1
  _=2 ^ (bitlen y-1)*2 ^ (bitlen x-bitlen y+1):=by rw[←Nat.pow_add];congr 1;omega
  _≤y*2 ^ (bitlen x-bitlen y+1):=Nat.mul_le_mul_right _ h2
theorem div_none {x y:Nat}(h:bitlen x<bitlen y):x<y:=by
 have h1:=lt_bitlen x
 have:2 ^ bitlen x≤y:=bitlen_lt.1 h
 omega
theorem div_fit {x y i:Nat}(hy:0<y)(hx:x<2 ^ 256)(h:i+bitlen y≤bitlen x):y*2 ^ i<2 ^ 256:=by
 have h1:=lt_bitlen y
 have h2:bitlen x≤256:=bitlen_le.2 hx
 calc y*2 ^ i<2 ^ bitlen y*2 ^ i:=Nat.mul_lt_mul_of_pos_right h1 (Nat.two_pow_pos i)
  _=2 ^ (bitlen y+i):=(Nat.pow_add _ _ _).symm
  _≤2 ^ 256:=Nat.pow_le_pow_right (by omega) (by omega)
set_option maxHeartbeats 2000000 in
theorem spec116 (ok:OkNum P F)(st:St)(x y:U):ACalls P (F 116) [nU x,nU y] st fun v st'=>v=(if y=0#256 then .tup [nU 0#256,nU 0#256,.int .i64 1]else .tup [nU (divU x y),nU (modU x y),.int .i64 0])∧st'=st:=by
 refine shows_call ok.mixed ok.h116 (by simp[k116]) ?_
 simp only[k116,nU,eU_zero0]
 simp
 intro i2 h2
 have S:=(Sep.start st).new h2 (.cells (eU x))
 generalize st.upd i2 _=st1 at S⊢
 intro i3 h3
 have S:=S.new h3 (.cells (eU y))
 generalize st1.upd i3 _=st2 at S⊢
 simp
 intro i4 h4
 have S:=S.new h4 (.cells (eU 0#256))
 generalize st2.upd i4 _=st3 at S⊢
 simp
 intro i5 h5
 have S:=S.new h5 (.cells (eU 0#256))
 generalize st3.upd i5 _=st4 at S⊢
 have o3:=S.mem (i:=i3) (o:=.cells (eU y)) (by simp)
 have o4:=S.mem (i:=i4) (o:=.cells (eU 0#256)) (by simp)
 have o5:=S.mem (i:=i5) (o:=.cells (eU 0#256)) (by simp)
 have n45:i5≠i4:=S.ne
 have hsp: ∀x y:U,spliceV (eU x) 0 (eU y)=eU y:=fun _ _=>rfl
 simp[St.seg,o3,segU]
 refine(spec107 ok st4 y).mono ?_
 rintro v s ⟨rfl,rfl⟩
 by_cases hy0:y=0#256
 ·have hz:fillV (eU 0#256) []=some (eU 0#256):=rfl
  simp[hy0,hz,storeS,o4,o5,n45,n45.symm,hsp,eU_len,St.seg,segU]
  have S:=(S.setAt (.cells (eU 0#256)) 1 rfl).setAt (.cells (eU 0#256)) 0 rfl
  exact S.was' (st0:=st) (by simp)
 ·have ypos:0<y.toNat:=by
    have:y.toNat≠0:=fun e=>hy0 (BitVec.eq_of_toNat_eq e)
    omega
  simp[hy0]
  intro i7 h7
  have S:=S.new h7 (.cells (eU 0#256))
  generalize s.upd i7 _=s2 at S⊢
  have o2:=S.mem (i:=i2) (o:=.cells (eU x)) (by simp)
  have o3:=S.mem (i:=i3) (o:=.cells (eU y)) (by simp)
  simp[St.seg,o2,o3,segU]
  refine⟨_,spec114 ok s2 x,?_⟩
  simp[St.seg,o2,o3,segU]
  refine⟨_,spec114 ok s2 y,?_⟩
  have bx:bitlen x.toNat≤256:=bitlen_le.2 x.isLt
  have hby:=bitlen_pos.2 ypos
  have by':bitlen y.toNat≤256:=bitlen_le.2 y.isLt
  have w1:IntKind.i64.wrap ((bitlen x.toNat:Int)-bitlen y.toNat)=(bitlen x.toNat:Int)-bitlen y.toNat:=wrap64 (by omega) (by omega)
  simp[w1]
  refine vc_loopJ (fun k env' st'=>∃a q:U,(∃j:Int,env' 8=.int .i64 j∧(j+1=(k:Int)∨j<0∧k=0))∧k≤256∧(k≠0→k+bitlen y.toNat≤bitlen x.toNat+1)∧a.toNat<y.toNat*2 ^ k∧q.toNat % 2 ^ k=0∧x.toNat=q.toNat*y.toNat+a.toNat∧
   Sep [pt i7 (.cells (eU q)),pt i5 (.cells (eU 0#256)),pt i4 (.cells (eU 0#256)),pt i3 (.cells (eU y)),pt i2 (.cells (eU a)),Was st] st') (bitlen x.toNat+1-bitlen y.toNat) ?_ ?_
  ·by_cases hb:bitlen y.toNat≤bitlen x.toNat
   ·refine⟨x,0#256,⟨_,rfl,by omega⟩,by omega,fun _=>by omega,?_,by simp,by simp,S⟩
    have:=div_start ypos hb
    rw[show bitlen x.toNat+1-bitlen y.toNat=bitlen x.toNat-bitlen y.toNat+1 by omega]
    exact this
   ·refine⟨x,0#256,⟨_,rfl,by omega⟩,by omega,fun _=>by omega,?_,by simp,by simp,S⟩
    rw[show bitlen x.toNat+1-bitlen y.toNat=0 by omega,Nat.pow_zero,Nat.mul_one]
    exact div_none (by omega)
  rintro J hJ k env' st5 hsame ⟨a,q,⟨j,h8,hj⟩,hk,hkl,ha,hq,hx,S⟩
  have g2:=hsame.get 2 rfl
  have g3:=hsame.get 3 rfl
  have g4:=hsame.get 4 rfl
  have g5:=hsame.get 5 rfl
  have g7:=hsame.get 7 rfl
  simp at g2 g3 g4 g5 g7
  clear hsame
  have o2:=S.mem (i:=i2) (o:=.cells (eU a)) (by simp)
  have o3:=S.mem (i:=i3) (o:=.cells (eU y)) (by simp)
  have o7:=S.mem (i:=i7) (o:=.cells (eU q)) (by simp)
  by_cases hk0:k=0
  ·subst hk0
   have hjn:¬0≤j:=by omega
   simp[h8,hjn]
   have n74:=S.neq (i:=i7) (j:=i4) 0 2 rfl rfl (by omega)
   have n75:=S.neq (i:=i7) (j:=i5) 0 1 rfl rfl (by omega)
   have n54:=S.neq (i:=i5) (j:=i4) 1 2 rfl rfl (by omega)
   have n42:=S.neq (i:=i4) (j:=i2) 2 4 rfl rfl (by omega)
   have n52:=S.neq (i:=i5) (j:=i2) 1 4 rfl rfl (by omega)
   have o4:=S.mem (i:=i4) (o:=.cells (eU 0#256)) (by simp)
   have o5:=S.mem (i:=i5) (o:=.cells (eU 0#256)) (by simp)
   rw[Nat.pow_zero,Nat.mul_one]at ha
   have eq1:q=divU x y:=by
    rw[divU,hx,Nat.add_comm,Nat.add_mul_div_right _ _ ypos,Nat.div_eq_of_lt ha,Nat.zero_add,BitVec.ofNat_toNat,BitVec.setWidth_eq]
   have eq2:a=modU x y:=by
    rw[modU,hx,Nat.add_comm,Nat.add_mul_mod_self_right,Nat.mod_eq_of_lt ha,BitVec.ofNat_toNat,BitVec.setWidth_eq]
   refine⟨?_,?_⟩
   ·intro p hp
    simp only[List.mem_cons,List.not_mem_nil,or_false]at hp
    rcases hp with rfl | rfl | rfl | rfl
    ·simpa[g7,g4,apartV]using n74
    ·simpa[g7,g5,apartV]using n75
    ·simpa[g2,g4,apartV]using n42.symm
    ·simpa[g2,g5,apartV]using n52.symm
   ·have T:=(S.setAt (.cells (eU q)) 2 rfl).setAt (.cells (eU a)) 1 rfl
    simp[g7,g2,g4,g5,St.seg,o7,o2,o4,o5,segU,storeS,eU_len,hsp,n54,n54.symm,n74,n74.symm,n75,n75.symm,n42,n42.symm,n52,n52.symm,←eq1,←eq2]
    exact T.was' (by simp)
  ·obtain⟨i,rfl⟩: ∃i,k=i+1:=⟨k-1,by omega⟩
   have hji:j=(i:Int):=by omega
   subst hji
   simp[h8,g2,g3,g4,g5,g7,St.seg,o3,segU]
   refine(spec112 ok st5 y i).mono ?_
   rintro v st5 ⟨rfl,rfl⟩
   simp
   intro i9 h9
   have n92:i9≠i2:=fun e=>by rw[e,o2]at h9;cases h9
   have n93:i9≠i3:=fun e=>by rw[e,o3]at h9;cases h9
   have n97:i9≠i7:=fun e=>by rw[e,o7]at h9;cases h9
   have n72:=S.neq (i:=i7) (j:=i2) 0 4 rfl rfl (by omega)
   have hfit:=div_fit ypos x.isLt (show i+bitlen y.toNat≤bitlen x.toNat by omega)
   have hsh:(shlU y i).toNat=y.toNat*2 ^ i:=by
    rw[shlU,if_neg (by omega),Int.toNat_natCast,BitVec.toNat_shiftLeft,Nat.shiftLeft_eq,Nat.mod_eq_of_lt hfit]
   have T:=S.new h9 (.cells (eU (shlU y i)))
   have hst9:storeS (st5.upd i9 (.cells (eU 0#256))) 4 (.ptr (some (i9,0))) (nU (shlU y i))=some (st5.upd i9 (.cells (eU (shlU y i)))):=by
    simp[storeS,nU,eU_len,hsp]
   simp[hst9,n92.symm,St.seg,segU,g2,o2]
   have hcmp:decide (cmpU (shlU y i) a≤0)=decide (y.toNat*2 ^ i≤a.toNat):=by
    congr 1
    rw[←hsh,eq_iff_iff]
    unfold cmpU
    constructor
    ·intro h
     split at h
     ·omega
     ·split at h
      ·rename_i e;rw[e];exact Nat.le_refl _
      ·omega
    ·intro h
     split
     ·omega
     ·rename_i h1
      have:shlU y i=a:=BitVec.eq_of_toNat_eq (by omega)
      rw[if_pos this]
      omega
   refine(spec106 ok (st5.upd i9 (.cells (eU (shlU y i)))) (shlU y i) a).mono ?_
   rintro v s ⟨rfl,rfl⟩
   simp[hcmp]
   by_cases hle:y.toNat*2 ^ i≤a.toNat
   ·simp[hle,g2,n92.symm,St.seg,segU,o2]
    refine(spec109 ok (st5.upd i9 (.cells (eU (shlU y i)))) a (shlU y i)).mono ?_
    rintro v s ⟨rfl,rfl⟩
    have hsub2: ∀z:U,storeS (st5.upd i9 (.cells (eU (shlU y i)))) 4 (.ptr (some (i2,0))) (nU z)=some ((st5.upd i9 (.cells (eU (shlU y i)))).upd i2 (.cells (eU z))):=fun z=>by
     simp[storeS,nU,eU_len,hsp,n92.symm,o2]
    obtain⟨qq,r,hr,hi⟩: ∃qq r,r<64∧i=64*qq+r:=⟨i / 64,i % 64,Nat.mod_lt _ (by omega),by omega⟩
    have hqq:qq<4:=by omega
    have e1:Int.tdiv (i:Int) 64=(qq:Int):=by rw[Int.tdiv_eq_ediv_of_nonneg (by omega)];omega
    have e2:Int.tmod (i:Int) 64=(r:Int):=by rw[Int.tmod_eq_emod_of_nonneg (by omega)];omega
    have wq:IntKind.i64.wrap (qq:Int)=qq:=wrap64 (by omega) (by omega)
    have hR:(BitVec.ofNat 64 r).toNat=r:=by rw[BitVec.toNat_ofNat];exact Nat.mod_eq_of_lt (by omega)
    have hconv:convV .u64 (.int .i64 (r:Int))=some (w64 (BitVec.ofNat 64 r)):=by rw[conv_i_64,BitVec.ofInt_natCast]
    have hidx:=idxArr_ptr 4 i7 (z:=(qq:Int)) (j:=qq) rfl hqq
    have hone:(1#64:W).toNat<2 ^ (64-r):=by
     show 1<2 ^ (64-r)
     exact Nat.one_lt_two_pow (by omega)
    have hput: ∀k,k<4→limb (putU 1#64 i) k=if k=qq then 1#64 <<< r else 0#64:=fun k hk=>by
     rw[hi];exact limb_put 1#64 qq r k hr hk hone
    have hspl:spliceV (eU q) qq [w64 (limb q qq ||| 1#64 <<< r)]=eU (q ||| putU 1#64 i):=by
     have:=splice_or q (putU 1#64 i) hqq (fun k hk hne=>by rw[hput k hk,if_neg hne])
     rwa [hput qq hqq,if_pos rfl]at this
    have wi:IntKind.i64.wrap ((i:Int)-1)=(i:Int)-1:=wrap64 (by omega) (by omega)
    have hql:qq+1≤4:=hqq
    have hst7: ∀s7:St,s7 i7=some (.cells (eU q))→storeS s7 1 (.ptr (some (i7,qq))) (w64 (limb q qq ||| 1#64 <<< r))=some (s7.upd i7 (.cells (eU (q ||| putU 1#64 i)))):=fun s7 h=>by
     simp[storeS,h,eU_len,hql,hspl]
    simp[hsub2,h8,e1,e2,wq,g2,g7,hidx,hst7,St.seg,n97.symm,n72,o7,seg_limb q hqq,hconv,-conv_i_64,hR,wi]
    have hk2:=or_low hq (show i<256 by omega)
    have hp2:y.toNat*2 ^ (i+1)=2*(y.toNat*2 ^ i):=by rw[Nat.pow_succ,←Nat.mul_assoc,Nat.mul_comm]
    have hYq:(q.toNat+2 ^ i)*y.toNat=q.toNat*y.toNat+y.toNat*2 ^ i:=by rw[Nat.add_mul,Nat.mul_comm (2 ^ i)]
    have hsubn:(a-shlU y i).toNat=a.toNat-y.toNat*2 ^ i:=by
     rw[BitVec.toNat_sub_of_le (by rw[BitVec.le_def,hsh];exact hle),hsh]
    have T2:=((T.setAt (.cells (eU (a-shlU y i))) 5 rfl).setAt (.cells (eU (q ||| putU 1#64 i))) 1 rfl).drop
    refine Round.mk i _ (Nat.lt_succ_self i) (sub_self _) (hJ _ _ _ ⟨a-shlU y i,q ||| putU 1#64 i,⟨(i:Int)-1,by simp,by omega⟩,by omega,fun h=>by omega,?_,?_,?_,T2⟩)
    ·rw[hsubn]
     rw[hp2]at ha
     generalize y.toNat*2 ^ i=Y at *
     omega
    ·rw[hk2,Nat.add_mod_right]
     exact Nat.mod_eq_zero_of_dvd (Nat.dvd_trans (Nat.pow_dvd_pow 2 (Nat.le_succ i)) (Nat.dvd_of_mod_eq_zero hq))
    ·rw[hk2,hsubn,hYq,hx]
     generalize y.toNat*2 ^ i=Y at *
     omega
   ·have wi:IntKind.i64.wrap ((i:Int)-1)=(i:Int)-1:=wrap64 (by omega) (by omega)
    simp[hle,h8,wi]
    refine Round.mk i _ (Nat.lt_succ_self i) (sub_self _) (hJ _ _ _ ⟨a,q,⟨(i:Int)-1,by simp,by omega⟩,by omega,fun h=>by omega,by omega,?_,hx,T.drop⟩)
    exact Nat.mod_eq_zero_of_dvd (Nat.dvd_trans (Nat.pow_dvd_pow 2 (Nat.le_succ i)) (Nat.dvd_of_mod_eq_zero hq))
theorem leN_append: ∀a b:List UInt8,leN (a++b)=leN a+256 ^ a.length*leN b
 | [],b=>by simp[leN]
 | x::a,b=>by
   have ih:=leN_append a b
   simp only[List.cons_append,leN,ih,List.length_cons,Nat.pow_succ]
   rw[Nat.mul_add,←Nat.mul_assoc,Nat.mul_comm 256 (256 ^ a.length)]
   omega
theorem idx_id (x:Id)(k:IntKind){i:Nat}(hi:i<32):idxV 32 false 1 (.agg (eId x)) (.int k (i:Int))=some (w8 (x.toList[i]'(by simpa using hi))):=by
 simp only[idxV]
 rw[if_pos (by omega),Int.toNat_natCast,Nat.mul_one,segOf,if_pos (by rw[eId_len];omega),List.drop_eq_getElem_cons (by rw[eId_len];exact hi)]
 simp[packV,eId,w8]
theorem segId (x:Id):segOf (eId x) 0 32=some (eId x):=by
 rw[segOf,if_pos (by rw[eId_len];omega),List.drop_zero,List.take_of_length_le (by rw[eId_len];omega)]
set_option maxHeartbeats 1000000 in
theorem spec117 (ok:OkNum P F)(st:St)(x:Id):ACalls P (F 117) [.agg (eId x)] st fun v st'=>v=nU (BitVec.ofNat 256 (idN x))∧st'=st:=by
 refine shows_call ok.mixed ok.h117 (by simp[k117]) ?_
 simp only[k117,nU,eU_zero0]
 simp
 intro i1 h1
 have S:=(Sep.start st).new h1 (.cells (eId x))
 generalize st.upd i1 _=st1 at S⊢
 simp
 intro i2 h2
 have S:=S.new h2 (.cells (eU 0#256))
 generalize st1.upd i2 _=st2 at S⊢
 simp
 intro i3 h3
 have S:=S.new h3 (.cells (eU 0#256))
 generalize st2.upd i3 _=st3 at S⊢
 have o1:=S.mem (i:=i1) (o:=.cells (eId x)) (by simp)
 simp[St.seg,o1,segId]
 refine vc_loopJ (fun k env' st'=>∃i,i≤32∧k=32-i∧env' 7=.int .i64 (i:Nat)∧Sep [pt i3 (.cells (eU (BitVec.ofNat 256 (leN (x.toList.take i))))),pt i2 (.cells (eU 0#256)),pt i1 (.cells (eId x)),Was st] st') 32
  ⟨0,by omega,by omega,rfl,S⟩ ?_
 clear S
 rintro J hJ k env' st4 hsame ⟨i,hi,rfl,h7,S⟩
 have g2:=hsame.get 2 rfl
 have g3:=hsame.get 3 rfl
 have g6:=hsame.get 6 rfl
 simp at g2 g3 g6
 clear hsame
 have hsp: ∀x y:U,spliceV (eU x) 0 (eU y)=eU y:=fun _ _=>rfl
 have hxl:x.toList.length=32:=by simp
 have n32:=S.neq (i:=i3) (j:=i2) 0 1 rfl rfl (by omega)
 by_cases hlt:i<32
 ·have hlt':(i:Int)<32:=by omega
  have hix:=idx_id x .i64 hlt
  obtain⟨b,hb⟩: ∃b,b=x.toList[i]:=⟨_,rfl⟩
  rw[←hb]at hix
  obtain⟨m,hm⟩: ∃m,m=leN (x.toList.take i):=⟨_,rfl⟩
  have hml:m<2 ^ (8*i):=by
   have:=leN_lt (x.toList.take i)
   rw[List.length_take,hxl,Nat.min_eq_left hi,←hm]at this
   rwa [Nat.pow_mul]
  have hnx:leN (x.toList.take (i+1))=b.toNat*2 ^ (8*i)+m:=by
   rw[List.take_succ_eq_append_getElem (by omega),leN_append,←hm,←hb,List.length_take,hxl,Nat.min_eq_left hi,leN,leN,Nat.pow_mul,Nat.mul_zero,Nat.add_zero,Nat.mul_comm,Nat.add_comm]
  rw[←hm]at S
  have o3:=S.get
  have hp256:2 ^ (8*i)≤2 ^ 248:=Nat.pow_le_pow_right (by omega) (by omega)
  have hbl:=b.toNat_lt
  obtain⟨q,hqq⟩: ∃q,q=i / 8:=⟨_,rfl⟩
  obtain⟨p,hpp⟩: ∃p,p=i % 8:=⟨_,rfl⟩
  obtain⟨r,hr⟩: ∃r,r=8*p:=⟨_,rfl⟩
  have e1:Int.tdiv (i:Int) 8=(q:Int):=by rw[Int.tdiv_eq_ediv_of_nonneg (by omega)];omega
  have e2:Int.tmod (i:Int) 8=(p:Int):=by rw[Int.tmod_eq_emod_of_nonneg (by omega)];omega
  have w1:IntKind.i64.wrap (q:Int)=(q:Int):=wrap64 (by omega) (by omega)
  have w2:IntKind.i64.wrap (8*(p:Int))=(r:Int):=by rw[wrap64 (by omega) (by omega)];omega
  have w3:IntKind.i64.wrap ((i:Int)+1)=(i:Int)+1:=wrap64 (by omega) (by omega)
  have hR:(BitVec.ofNat 64 r).toNat=r:=by rw[BitVec.toNat_ofNat];exact Nat.mod_eq_of_lt (by omega)
  have hconv:convV .u64 (.int .i64 ((r:Nat):Int))=some (w64 (BitVec.ofNat 64 r)):=by rw[conv_i_64,BitVec.ofInt_natCast]
  have hidx:=idxArr_ptr 4 i3 (z:=((q:Nat):Int)) (j:=q) rfl (by omega)
  have hv:(b.toBitVec.setWidth 64).toNat=b.toNat:=by
   rw[BitVec.toNat_setWidth]
   exact Nat.mod_eq_of_lt (Nat.lt_of_lt_of_le hbl (by decide))
  have hv2:(b.toBitVec.setWidth 64).toNat<2 ^ (64-r):=by
   rw[hv]
   calc b.toNat<2 ^ 8:=hbl
    _≤2 ^ (64-r):=Nat.pow_le_pow_right (by omega) (by omega)
  have hi8:8*i=64*q+r:=by omega
  have hput: ∀k,k<4→limb (putU (b.toBitVec.setWidth 64) (8*i)) k=if k=q then b.toBitVec.setWidth 64 <<< r else 0#64:=fun k hk=>by
   rw[hi8];exact limb_put _ q r k (by omega) hk hv2
  have hspl:spliceV (eU (BitVec.ofNat 256 m)) q [w64 (limb (BitVec.ofNat 256 m) q ||| b.toBitVec.setWidth 64 <<< r)]=eU (BitVec.ofNat 256 m ||| putU (b.toBitVec.setWidth 64) (8*i)):=by
   have:=splice_or (BitVec.ofNat 256 m) (putU (b.toBitVec.setWidth 64) (8*i)) (j:=q) (by omega) (fun k hk hne=>by rw[hput k hk,if_neg hne])
   rwa [hput q (by omega),if_pos rfl]at this
  have hM:(BitVec.ofNat 256 m).toNat=m:=by
   rw[BitVec.toNat_ofNat]
   exact Nat.mod_eq_of_lt (Nat.lt_of_lt_of_le hml (Nat.le_trans hp256 (Nat.pow_le_pow_right (by omega) (by omega))))
  have hnew:BitVec.ofNat 256 m ||| putU (b.toBitVec.setWidth 64) (8*i)=BitVec.ofNat 256 (leN (x.toList.take (i+1))):=by
   have hfit:b.toNat*2 ^ (8*i)<2 ^ 256:=by
    calc b.toNat*2 ^ (8*i)<2 ^ 8*2 ^ (8*i):=Nat.mul_lt_mul_of_pos_right hbl (Nat.two_pow_pos _)
     _=2 ^ (8+8*i):=(Nat.pow_add _ _ _).symm
     _≤2 ^ 256:=Nat.pow_le_pow_right (by omega) (by omega)
   have h:=or_put (x:=BitVec.ofNat 256 m) (v:=b.toBitVec.setWidth 64) (i:=8*i) (by rw[hM];exact hml) (by rw[hv];exact hfit)
   rw[hv,hM,←hnx]at h
   rw[←h,BitVec.ofNat_toNat,BitVec.setWidth_eq]
  have hst:storeS st4 1 (.ptr (some (i3,q))) (w64 (limb (BitVec.ofNat 256 m) q ||| b.toBitVec.setWidth 64 <<< r))=some (st4.upd i3 (.cells (eU (BitVec.ofNat 256 (leN (x.toList.take (i+1))))))):=by
   have:q+1≤4:=by omega
   simp only[storeS,o3,w64_cells,hspl,hnew]
   rw[if_pos ⟨rfl,by rw[eU_len];omega⟩]
  simp[-conv_i_64,h7,hlt',g3,g6,hix,e1,e2,w1,w2,w3,hconv,hR,hidx,St.seg,o3,seg_limb _ (show q<4 by omega),hst]
  refine Round.mk (32-(i+1)) _ (by omega) (sub_self _) (hJ _ _ _ ⟨i+1,by omega,rfl,by simp,S.set _⟩)
 ·have:i=32:=by omega
  subst this
  rw[List.take_of_length_le (by omega)]at S
  have o3:=S.get
  have o2:=S.mem (i:=i2) (o:=.cells (eU 0#256)) (by simp)
  have T:=S.setAt (.cells (eU (BitVec.ofNat 256 (leN x.toList)))) 1 rfl
  simp[h7,g2,g3,St.seg,o3,o2,segU,storeS,eU_len,hsp,n32,n32.symm]
  exact⟨T.was' (by simp),rfl⟩
end
section
variable {P:Program} {F:Fn}
def wF (V i j:Nat):Nat:=if 64*(j+1)≤i then 0 else V / 2 ^ (max i (64*j)) % 2 ^ (64*(j+1)-max i (64*j))
end
section
variable {P:Program} {F:Fn}
def tgtR (b:W32):V:=match tgt b with | some t=>.tup [nU (natU t),.bool true] | none=>.tup [nU 0#256,.bool false]
theorem and_word (b:W32):(b &&& 8388607#32).toNat=b.toNat % 8388608:=by
 rw[BitVec.toNat_and]
 exact Nat.and_two_pow_sub_one_eq_mod b.toNat 23
theorem and_bit (b:W32):((b &&& 8388608#32) != 0#32)=decide (8388608≤b.toNat % 16777216):=by
 have h2:b.getLsbD 23=decide (8388608≤b.toNat % 16777216):=by
  rw[BitVec.getLsbD,Nat.testBit_eq_decide_div_mod_eq]
  congr 1
  rw[eq_iff_iff]
  show b.toNat / 8388608 % 2=1↔_
  omega
 rw[show(8388608#32)=BitVec.twoPow 32 23 from rfl,BitVec.and_twoPow,←h2]
 cases b.getLsbD 23<;>rfl
set_option maxHeartbeats 2000000 in
theorem spec135 (ok:OkHead P F)(st:St)(b:W32):ACalls P (F 135) [w32 b] st fun v st'=>v=tgtR b∧st'=st:=by
 have okn:=ok.toOkNum
 have hb:=b.isLt
 refine shows_call ok.mixed ok.h135 (by simp[k135]) ?_
 simp only[k135,eU_zero0]
 simp
 intro rid hrid
 have S:=(Sep.start st).new hrid (.cells (eU 0#256))
 generalize st.upd rid _=st1 at S⊢
 have hsp: ∀x y:U,spliceV (eU x) 0 (eU y)=eU y:=fun _ _=>rfl
 have oR:=S.get
 have hz:fillV (eU 0#256) []=some (eU 0#256):=rfl
 have hst: ∀x:U,storeS st1 4 (.ptr (some (rid,0))) (nU x)=some (st1.upd rid (.cells (eU x))):=fun x=>by
  simp[storeS,oR,nU,eU_len,hsp]
 obtain⟨size,hsize⟩: ∃n,n=b.toNat / 16777216:=⟨_,rfl⟩
 obtain⟨word,hword⟩: ∃n,n=b.toNat % 16777216:=⟨_,rfl⟩
 have hsz:(b >>> 24).toNat=size:=by rw[BitVec.toNat_ushiftRight,Nat.shiftRight_eq_div_pow,hsize]
 have hw8:(b &&& 8388607#32).toNat=b.toNat % 8388608:=and_word b
 obtain⟨X,hX⟩: ∃X:W,X=(b &&& 8388607#32).setWidth 64:=⟨_,rfl⟩
 have hXn:X.toNat=b.toNat % 8388608:=by
  rw[hX,BitVec.toNat_setWidth,hw8]
  exact Nat.mod_eq_of_lt (by omega)
 have hX0:(X==0#64)=decide (b.toNat % 8388608=0):=by
  rw[Bool.eq_iff_iff,beq_iff_eq,decide_eq_true_eq]
  constructor
  ·intro h;rw[←hXn,h];rfl
  ·intro h;apply BitVec.eq_of_toNat_eq;rw[hXn,h];rfl
 have hbit:=and_bit b
 have hcv:convV .i64 (w32 (b >>> 24))=some (.int .i64 (size:Nat)):=by rw[conv_32_i,hsz]
 have w0:word % 8388608=b.toNat % 8388608:=by omega
 simp[-conv_32_i,hcv,←hX,hX0]
 by_cases h0:b.toNat % 8388608=0
 ·have e:tgtR b=.tup [nU 0#256,.bool false]:=by
    have:tgt b=none:=by
     unfold tgt
     rw[if_pos (by omega)]
    rw[tgtR,this]
  simp[h0,hz,storeS,oR,eU_len,hsp,St.seg,segU,e]
  exact⟨(S.set (.cells (eU 0#256))).was' (by simp),rfl⟩
 by_cases h1:8388608≤b.toNat % 16777216
 ·have e:tgtR b=.tup [nU 0#256,.bool false]:=by
    have:tgt b=none:=by
     unfold tgt
     rw[if_pos (by omega)]
    rw[tgtR,this]
  simp[h0,h1,hbit,hz,storeS,oR,eU_len,hsp,St.seg,segU,e]
  exact⟨(S.set (.cells (eU 0#256))).was' (by simp),rfl⟩
 have hwX:X.toNat=word:=by omega
 have htg:tgt b=if tgtV size word=0∨2 ^ 256≤tgtV size word then none else some (tgtV size word):=by
  unfold tgt
  rw[if_neg (by omega),←hsize,←hword]
 have hszl:size≤255:=by omega
 simp[h0,h1,hbit]
 refine(spec105 okn st1 X).mono ?_
 rintro v st1 ⟨rfl,rfl⟩
 simp
 intro nid hnid
 obtain⟨N,hN⟩: ∃N:U,N=X.setWidth 256:=⟨_,rfl⟩
 have hNn:N.toNat=word:=by
  rw[hN,BitVec.toNat_setWidth,hwX]
  exact Nat.mod_eq_of_lt (by omega)
 rw[←hN]
 have S:=S.new hnid (.cells (eU N))
 have hsn:storeS (st1.upd nid (.cells (eU 0#256))) 4 (.ptr (some (nid,0))) (nU N)=some (st1.upd nid (.cells (eU N))):=by
  simp[storeS,nU,eU_len,hsp]
 simp[hsn]
 generalize st1.upd nid _=st2 at S⊢
 have oN:=S.get
 have oR:=S.mem (i:=rid) (o:=.cells (eU 0#256)) (by simp)
 have n12:=S.neq (i:=nid) (j:=rid) 0 1 rfl rfl (by omega)
 by_cases h3:size≤3
 ·have h3':(size:Int)≤3:=by omega
  have w1:IntKind.i64.wrap (3-(size:Int))=((3-size:Nat):Int):=by rw[wrap64 (by omega) (by omega)];omega
  have w2:IntKind.i64.wrap (8*((3-size:Nat):Int))=((8*(3-size):Nat):Int):=by rw[wrap64 (by omega) (by omega)];omega
  obtain⟨m,hm⟩: ∃m,m=3-size:=⟨_,rfl⟩
  rw[←hm]at w1 w2
  simp[h3',w1,w2,St.seg,oN,segU]
  refine(spec113 okn st2 N (8*(m:Int))).mono ?_
  rintro v st2 ⟨rfl,rfl⟩
  obtain⟨R,hR⟩: ∃R,R=shrU N (8*(m:Int)):=⟨_,rfl⟩
  have hRn:R.toNat=tgtV size word:=by
   rw[hR,shrU,if_neg (by omega),BitVec.toNat_ushiftRight,Nat.shiftRight_eq_div_pow,hNn,tgtV,if_pos h3,show(8*(m:Int)).toNat=8*m by omega,hm]
  rw[←hR]
  have hs2:storeS st2 4 (.ptr (some (nid,0))) (nU R)=some (st2.upd nid (.cells (eU R))):=by
   simp[storeS,oN,nU,eU_len,hsp]
  have S:=S.set (.cells (eU R))
  simp[hs2]
  generalize st2.upd nid _=st3 at S⊢
  have oN:=S.get
  have oR:=S.mem (i:=rid) (o:=.cells (eU 0#256)) (by simp)
  simp[St.seg,oN,segU]
  refine⟨_,spec107 okn st3 R,?_⟩
  have T:=S.setAt (.cells (eU R)) 1 rfl
  simp[St.seg,oN,oR,segU,storeS,eU_len,hsp]
  refine⟨T.was' (by simp),?_⟩
  rw[tgtR,htg]
  by_cases hz0:tgtV size word=0
  ·have:R=0#256:=BitVec.eq_of_toNat_eq (by rw[hRn,hz0];rfl)
   rw[if_pos (.inl hz0),this]
   simp[nU]
  ·have h1:R≠0#256:=fun e=>hz0 (by rw[←hRn,e];rfl)
   have h2:R=natU (tgtV size word):=by rw[←hRn,natU,BitVec.ofNat_toNat,BitVec.setWidth_eq]
   have h3:¬2 ^ 256≤tgtV size word:=by rw[←hRn];exact Nat.not_le.2 R.isLt
   rw[if_neg (by rintro(h | h);exact hz0 h;exact h3 h)]
   simp only
   rw[←h2]
   simp[nU,h1]
 ·have h3':¬(size:Int)≤3:=by omega
  have w1:IntKind.i64.wrap ((size:Int)-3)=((size-3:Nat):Int):=by rw[wrap64 (by omega) (by omega)];omega
  have w2:IntKind.i64.wrap (8*((size-3:Nat):Int))=((8*(size-3):Nat):Int):=by rw[wrap64 (by omega) (by omega)];omega
  obtain⟨m,hm⟩: ∃m,m=size-3:=⟨_,rfl⟩
  rw[←hm]at w1 w2
  have hbl:bitlen word≤24:=bitlen_le.2 (by show word<16777216;omega)
  have w3:IntKind.i64.wrap ((bitlen word:Int)+8*(m:Int))=(bitlen word:Int)+8*(m:Int):=wrap64 (by omega) (by omega)
  have hw0:0<word:=by omega
  have htv:tgtV size word=word*2 ^ (8*m):=by rw[tgtV,if_neg h3,hm]
  have hfit:bitlen word+8*m≤256↔tgtV size word<2 ^ 256:=by
   have:bitlen (tgtV size word)=bitlen word+8*m:=by
    have:=bitlen_add (n:=word) (k:=8*m) (m:=0) (Nat.two_pow_pos _) hw0
    rwa [Nat.add_zero,←htv]at this
   rw[←this,bitlen_le]
  have hne:tgtV size word≠0:=by
   rw[htv]
   exact Nat.ne_of_gt (Nat.mul_pos hw0 (Nat.two_pow_pos _))
  simp[h3',w1,w2,St.seg,oN,segU]
  refine(spec114 okn st2 N).mono ?_
  rintro v st2 ⟨rfl,rfl⟩
  rw[hNn]
  by_cases hb:(256:Int)< (bitlen word:Int)+8*(m:Int)
  ·have hbig:2 ^ 256≤tgtV size word:=by
     have:=mt hfit.2 (by omega)
     omega
   have e:tgtR b=.tup [nU 0#256,.bool false]:=by
    rw[tgtR,htg,if_pos (.inr hbig)]
   have T:=S.setAt (.cells (eU 0#256)) 1 rfl
   simp[w1,w2,w3,hb,hz,storeS,oR,eU_len,hsp,St.seg,segU,e]
   exact⟨T.was' (by simp),rfl⟩
  ·simp[w1,w2,w3,hb,St.seg,oN,segU]
   refine(spec112 okn st2 N (8*(m:Int))).mono ?_
   rintro v st2 ⟨rfl,rfl⟩
   obtain⟨R,hR⟩: ∃R,R=shlU N (8*(m:Int)):=⟨_,rfl⟩
   have hlt:=hfit.1 (by omega)
   have hm31:8*m≤255:=by
    have:=bitlen_pos.2 hw0
    omega
   have hRn:R=natU (tgtV size word):=by
    apply BitVec.eq_of_toNat_eq
    rw[natU_nat hlt,hR,shlU,if_neg (by omega),BitVec.toNat_shiftLeft,Nat.shiftLeft_eq,hNn,show(8*(m:Int)).toNat=8*m by omega,htv]
    exact Nat.mod_eq_of_lt (by rw[←htv];exact hlt)
   rw[←hR]
   have T:=S.setAt (.cells (eU R)) 1 rfl
   have e:tgtR b=.tup [nU R,.bool true]:=by
    rw[tgtR,htg,if_neg (by omega),hRn]
   have hs2:storeS st2 4 (.ptr (some (rid,0))) (nU R)=some (st2.upd rid (.cells (eU R))):=by
    simp[storeS,oR,nU,eU_len,hsp]
   simp[hs2,St.seg,segU,e]
   exact⟨T.was' (by simp),rfl⟩
theorem rows2U (a b:U):fillV (repV (eU 0#256) 2) [(0,4,.agg (eU a)),(4,4,.agg (eU b))]=some (rowsOf eU [a,b]):=rfl
theorem sumU2 (a b:U):sumU [a,b]=a.toNat+b.toNat:=by simp[sumU]
theorem work_eq {t:Nat}(ht:t+1<2 ^ 256):(2 ^ 256-1-t) / (t+1)+1=workN t:=by
 rw[workN]
 have e:2 ^ 256=(2 ^ 256-1-t)+(t+1):=by omega
 calc (2 ^ 256-1-t) / (t+1)+1=((2 ^ 256-1-t)+(t+1)) / (t+1):=(Nat.add_div_right _ (Nat.succ_pos t)).symm
  _=2 ^ 256 / (t+1):=by rw[←e]
set_option maxHeartbeats 2000000 in
theorem spec137 (ok:OkHead P F)(st:St)(x:U):ACalls P (F 137) [nU x] st fun v st'=>v=nU (natU (workN x.toNat))∧st'=st:=by
 have okn:=ok.toOkNum
 refine shows_call ok.mixed ok.h137 (by simp[k137]) ?_
 have hxl:=x.isLt
 simp only[k137,nU]
 simp
 intro i1 h1
 have S:=(Sep.start st).new h1 (.cells (eU x))
 generalize st.upd i1 _=st1 at S⊢
 simp
 intro i2 h2
 have S:=S.new h2 (.cells (eU 0#256))
 rw[eU_zero]
 generalize st1.upd i2 _=st2 at S⊢
 have o1:=S.mem (i:=i1) (o:=.cells (eU x)) (by simp)
 simp[St.seg,o1,segU]
 refine⟨_,spec105 okn st2 1#64,?_⟩
 have hone:(BitVec.setWidth 256 1#64:U)=1#256:=rfl
 have hsp: ∀x y:U,spliceV (eU x) 0 (eU y)=eU y:=fun _ _=>rfl
 have call: ∀(st:St) (y:U),ACalls P (F 108) [.sl .full (rowsOf eU [y,1#256]) 2] st fun v st'=>v=.tup [nU (BitVec.ofNat 256 (y.toNat+1)),.bool (ovU (y.toNat+1))]∧st'=st:=fun st y=>by
  have:=spec108 okn st (l:=[y,1#256]) (.inl ⟨.full,rfl⟩) (by simp)
  rw[sumU2]at this
  exact this
 simp[rows2U,nU,hone]
 refine⟨_,call st2 x,?_⟩
 simp
 intro i3 h3
 have S:=S.new h3 (.cells (eU (BitVec.ofNat 256 (x.toNat+1))))
 have hs3: ∀y:U,storeS (st2.upd i3 (.cells (eU 0#256))) 4 (.ptr (some (i3,0))) (nU y)=some (st2.upd i3 (.cells (eU y))):=fun y=>by
  simp[storeS,nU,eU_len,hsp]
 simp[hs3]
 generalize st2.upd i3 _=st3 at S⊢
 have o2:=S.mem (i:=i2) (o:=.cells (eU 0#256)) (by simp)
 have o1:=S.mem (i:=i1) (o:=.cells (eU x)) (by simp)
 have o3:=S.get
 by_cases hov:2 ^ 256≤x.toNat+1
 ·have e1:ovU (x.toNat+1)=true:=decide_eq_true hov
  have e2:natU (workN x.toNat)=1#256:=by
   have:x.toNat+1=2 ^ 256:=by omega
   rw[natU,workN,this,Nat.div_self (Nat.two_pow_pos _)]
  simp[e1]
  refine(spec105 okn st3 1#64).mono ?_
  rintro v st3 ⟨rfl,rfl⟩
  have T:=S.setAt (.cells (eU 1#256)) 1 rfl
  have hs:storeS st3 4 (.ptr (some (i2,0))) (nU 1#256)=some (st3.upd i2 (.cells (eU 1#256))):=by
   simp[storeS,o2,nU,eU_len,hsp]
  simp[hone,hs,St.seg,segU,e2]
  exact T.was' (by simp)
 ·have e1:ovU (x.toNat+1)=false:=decide_eq_false hov
  have hlt:x.toNat+1<2 ^ 256:=by omega
  obtain⟨Y,hY⟩: ∃Y:U,Y=BitVec.ofNat 256 (x.toNat+1):=⟨_,rfl⟩
  have hYn:Y.toNat=x.toNat+1:=by rw[hY,BitVec.toNat_ofNat];exact Nat.mod_eq_of_lt hlt
  have hY0:Y≠0#256:=fun e=>by rw[e]at hYn;simp at hYn
  rw[←hY]at S o3⊢
  simp[e1,St.seg,o1,segU]
  refine⟨_,spec111 okn st3 x,?_⟩
  simp[St.seg,o3,segU]
  refine⟨_,spec116 okn st3 (~~~x) Y,?_⟩
  simp[hY0]
  intro i5 h5
  have S:=S.new h5 (.cells (eU 0#256))
  generalize st3.upd i5 _=st4 at S⊢
  simp
  intro i6 h6
  have S:=S.new h6 (.cells (eU 0#256))
  generalize st4.upd i6 _=st5 at S⊢
  have o5:=S.mem (i:=i5) (o:=.cells (eU 0#256)) (by simp)
  have n56:=S.neq (i:=i6) (j:=i5) 0 1 rfl rfl (by omega)
  have hs5: ∀y:U,storeS st5 4 (.ptr (some (i5,0))) (nU y)=some (st5.upd i5 (.cells (eU y))):=fun y=>by
   simp[storeS,nU,eU_len,hsp,o5]
  obtain⟨Q,hQ⟩: ∃Q,Q=divU (~~~x) Y:=⟨_,rfl⟩
  have hQn:Q.toNat+1=workN x.toNat:=by
   rw[←work_eq hlt,hQ,divU,BitVec.toNat_ofNat,hYn,BitVec.toNat_not,Nat.mod_eq_of_lt]
   exact Nat.lt_of_le_of_lt (Nat.div_le_self _ _) (by omega)
  rw[←hQ]
  have S:=S.setAt (.cells (eU Q)) 1 rfl
  have o6:=S.mem (i:=i6) (o:=.cells (eU 0#256)) (by simp)
  simp[hs5]
  generalize st5.upd i5 _=st6 at S o6⊢
  have hs6: ∀y:U,storeS st6 4 (.ptr (some (i6,0))) (nU y)=some (st6.upd i6 (.cells (eU y))):=fun y=>by
   simp[storeS,nU,eU_len,hsp,o6]
  have S:=S.setAt (.cells (eU (modU (~~~x) Y))) 0 rfl
  simp[hs6]
  generalize st6.upd i6 _=st7 at S⊢
  have o5:=S.mem (i:=i5) (o:=.cells (eU Q)) (by simp)
  simp[St.seg,o5,segU]
  refine⟨_,spec105 okn st7 1#64,?_⟩
  simp[rows2U,nU,hone]
  refine⟨_,call st7 Q,?_⟩
  have hs7: ∀y:U,storeS st7 4 (.ptr (some (i5,0))) (nU y)=some (st7.upd i5 (.cells (eU y))):=fun y=>by
   simp[storeS,nU,eU_len,hsp,o5]
  have S:=S.setAt (.cells (eU (BitVec.ofNat 256 (Q.toNat+1)))) 1 rfl
  simp[hs7]
  generalize st7.upd i5 _=st8 at S⊢
  have o5:=S.mem (i:=i5) (o:=.cells (eU (BitVec.ofNat 256 (Q.toNat+1)))) (by simp)
  have o2:=S.mem (i:=i2) (o:=.cells (eU 0#256)) (by simp)
  have T:=S.setAt (.cells (eU (BitVec.ofNat 256 (Q.toNat+1)))) 3 rfl
  simp[St.seg,o5,o2,segU,storeS,eU_len,hsp]
  refine⟨T.was' (by simp),?_⟩
  rw[hQn]
  rfl
end
section
variable {P:Program} {F:Fn}
def topW (t size:Nat):Nat:=if size≤3 then t*2 ^ (8*(3-size))else t / 2 ^ (8*(size-3))
theorem topW_lt {t size:Nat}(h:bitlen t≤8*size):topW t size<16777216:=by
 have ht:=bitlen_le.1 h
 unfold topW
 split
 ·rename_i h3
  calc t*2 ^ (8*(3-size))<2 ^ (8*size)*2 ^ (8*(3-size)):=Nat.mul_lt_mul_of_pos_right ht (Nat.two_pow_pos _)
   _=2 ^ 24:=by rw[←Nat.pow_add];congr 1;omega
 ·rename_i h3
  rw[Nat.div_lt_iff_lt_mul (Nat.two_pow_pos _)]
  calc t<2 ^ (8*size):=ht
   _=16777216*2 ^ (8*(size-3)):=by
    rw[show(16777216:Nat)=2 ^ 24 from rfl,←Nat.pow_add];congr 1;omega
theorem topW_succ (t size:Nat):topW t (size+1)=topW t size / 256:=by
 unfold topW
 by_cases h:size+1≤3
 ·rw[if_pos h,if_pos (by omega),show 8*(3-size)=8*(3-(size+1))+8 by omega,Nat.pow_add,←Nat.mul_assoc]
  exact(Nat.mul_div_cancel _ (by decide)).symm
 ·rw[if_neg h]
  by_cases h3:size≤3
  ·have:size=3:=by omega
   subst this
   simp
  ·rw[if_neg h3,Nat.div_div_eq_div_mul,show 8*(size+1-3)=8*(size-3)+8 by omega,Nat.pow_add]
theorem topW_big {t size:Nat}(ht:0<t)(h:bitlen t=8*size):8388608≤topW t size:=by
 have hp:=bitlen_pos.2 ht
 have hg:=bitlen_ge ht
 rw[h]at hg hp
 unfold topW
 split
 ·rename_i h3
  calc 8388608=2 ^ (8*size-1)*2 ^ (8*(3-size)):=by
         rw[←Nat.pow_add,show 8*size-1+8*(3-size)=23 by omega]
   _≤_:=Nat.mul_le_mul_right _ hg
 ·rename_i h3
  rw[Nat.le_div_iff_mul_le (Nat.two_pow_pos _)]
  calc 8388608*2 ^ (8*(size-3))=2 ^ (8*size-1):=by
         rw[show(8388608:Nat)=2 ^ 23 from rfl,←Nat.pow_add];congr 1;omega
   _≤t:=hg
theorem topW_small {t size:Nat}(h:bitlen t<8*size∨t=0):topW t size<8388608:=by
 rcases h with h | rfl
 ·have ht:t<2 ^ (8*size-1):=bitlen_le.1 (by omega)
  unfold topW
  split
  ·rename_i h3
   calc t*2 ^ (8*(3-size))<2 ^ (8*size-1)*2 ^ (8*(3-size)):=Nat.mul_lt_mul_of_pos_right ht (Nat.two_pow_pos _)
    _=2 ^ 23:=by rw[←Nat.pow_add];congr 1;omega
  ·rename_i h3
   rw[Nat.div_lt_iff_lt_mul (Nat.two_pow_pos _)]
   calc t<2 ^ (8*size-1):=ht
    _=8388608*2 ^ (8*(size-3)):=by
     rw[show(8388608:Nat)=2 ^ 23 from rfl,←Nat.pow_add];congr 1;omega
 ·unfold topW
  simp
theorem short_eq (t:Nat):sizeN t=(if 8388608≤topW t ((bitlen t+7) / 8)then(bitlen t+7) / 8+1 else(bitlen t+7) / 8)∧
  wordN t=(if 8388608≤topW t ((bitlen t+7) / 8)then topW t ((bitlen t+7) / 8) / 256 else topW t ((bitlen t+7) / 8)):=by
 have hw:wordN t=topW t (sizeN t):=rfl
 rw[hw]
 by_cases h:0<bitlen t∧bitlen t % 8=0
 ·have hs:sizeN t=(bitlen t+7) / 8+1:=by rw[sizeN,if_pos h]
  have hb:=topW_big (t:=t) (size:=(bitlen t+7) / 8) (bitlen_pos.1 h.1) (by omega)
  rw[if_pos hb,if_pos hb,hs,topW_succ]
  exact⟨rfl,rfl⟩
 ·have hs:sizeN t=(bitlen t+7) / 8:=by rw[sizeN,if_neg h];rfl
  have hb:=topW_small (t:=t) (size:=(bitlen t+7) / 8) (by
   by_cases h0:t=0
   ·exact .inr h0
   ·have:=bitlen_pos.2 (Nat.pos_of_ne_zero h0)
    exact .inl (by omega))
  rw[if_neg (by omega),if_neg (by omega),hs]
  exact⟨rfl,rfl⟩
theorem join32 {s w:Nat}(hs:s<256)(hw:w<16777216){a b:W32}(ha:a.toNat=s)(hb:b.toNat=w):a <<< 24 ||| b=BitVec.ofNat 32 (s*16777216+w):=by
 apply BitVec.eq_of_toNat_eq
 rw[BitVec.toNat_or,BitVec.toNat_shiftLeft,Nat.shiftLeft_eq,ha,hb,BitVec.toNat_ofNat]
 rw[Nat.mod_eq_of_lt (show s*2 ^ 24<2 ^ 32 by show s*16777216<4294967296;omega),Nat.mod_eq_of_lt (show s*16777216+w<2 ^ 32 by show _<4294967296;omega)]
 exact or_disj s w 24 hw
theorem and_bit64 (b:W)(hb:b.toNat<16777216):((b &&& 8388608#64) != 0#64)=decide (8388608≤b.toNat):=by
 have h2:b.getLsbD 23=decide (8388608≤b.toNat):=by
  rw[BitVec.getLsbD,Nat.testBit_eq_decide_div_mod_eq]
  congr 1
  rw[eq_iff_iff]
  show b.toNat / 8388608 % 2=1↔_
  omega
 rw[show(8388608#64)=BitVec.twoPow 64 23 from rfl,BitVec.and_twoPow,←h2]
 cases b.getLsbD 23<;>rfl
theorem limb_small {x:U}(h:x.toNat<18446744073709551616):(limb x 0).toNat=x.toNat:=by
 rw[limb_nat,Nat.pow_zero,Nat.div_one,Nat.mod_eq_of_lt h]
set_option maxHeartbeats 2000000 in
theorem spec136 (ok:OkHead P F)(st:St)(x:U):ACalls P (F 136) [nU x] st fun v st'=>v=w32 (shortN x.toNat)∧st'=st:=by
 have okn:=ok.toOkNum
 refine shows_call ok.mixed ok.h136 (by simp[k136]) ?_
 have hxl:=x.isLt
 obtain⟨t,ht⟩: ∃t,t=x.toNat:=⟨_,rfl⟩
 rw[←ht]
 obtain⟨e1,e2⟩:=short_eq t
 have hL:bitlen t≤256:=by rw[ht];exact bitlen_le.2 hxl
 obtain⟨size,hsize⟩: ∃s,s=(bitlen t+7) / 8:=⟨_,rfl⟩
 rw[←hsize]at e1 e2
 have hsz:size≤32:=by omega
 have htop:=topW_lt (t:=t) (size:=size) (by omega)
 have w1:IntKind.i64.wrap ((bitlen t:Int)+7)=(bitlen t:Int)+7:=wrap64 (by omega) (by omega)
 have d1:Int.tdiv ((bitlen t:Int)+7) 8=(size:Int):=by rw[Int.tdiv_eq_ediv_of_nonneg (by omega)];omega
 have w2:IntKind.i64.wrap (size:Int)=size:=wrap64 (by omega) (by omega)
 have w3:IntKind.i64.wrap ((size:Int)+1)=(size:Int)+1:=wrap64 (by omega) (by omega)
 have fin: ∀Wd:W,Wd.toNat=topW t size→(8388608≤topW t size→((Wd &&& 8388608#64) != 0#64)=true∧shortN t=BitVec.ofInt 32 ((size:Int)+1) <<< 24 ||| (Wd >>> 8).setWidth 32)∧
   (¬8388608≤topW t size→((Wd &&& 8388608#64) != 0#64)=false∧shortN t=BitVec.ofInt 32 (size:Int) <<< 24 ||| Wd.setWidth 32):=by
  intro Wd hW
  have hb:=and_bit64 Wd (by omega)
  have hs8:((BitVec.ofInt 32 (size:Int)):W32).toNat=size:=by
   rw[BitVec.ofInt_natCast,BitVec.toNat_ofNat];exact Nat.mod_eq_of_lt (by omega)
  have hs9:((BitVec.ofInt 32 ((size:Int)+1)):W32).toNat=size+1:=by
   rw[show((size:Int)+1)=((size+1:Nat):Int) by omega,BitVec.ofInt_natCast,BitVec.toNat_ofNat];exact Nat.mod_eq_of_lt (by omega)
  have hw8:(Wd.setWidth 32).toNat=topW t size:=by
   rw[BitVec.toNat_setWidth,hW];exact Nat.mod_eq_of_lt (by omega)
  have hw9:((Wd >>> 8).setWidth 32).toNat=topW t size / 256:=by
   rw[BitVec.toNat_setWidth,BitVec.toNat_ushiftRight,Nat.shiftRight_eq_div_pow,hW];exact Nat.mod_eq_of_lt (by omega)
  constructor
  ·intro hbig
   rw[if_pos hbig]at e1 e2
   rw[hW,decide_eq_true hbig]at hb
   exact⟨hb,by rw[shortN,e1,e2];exact(join32 (by omega) (by omega) hs9 hw9).symm⟩
  ·intro hbig
   rw[if_neg hbig]at e1 e2
   rw[hW,decide_eq_false hbig]at hb
   exact⟨hb,by rw[shortN,e1,e2];exact(join32 (by omega) (by omega) hs8 hw8).symm⟩
 simp only[k136]
 simp only[nU]
 simp
 intro i1 h1
 have S:=(Sep.start st).new h1 (.cells (eU x))
 generalize st.upd i1 _=st1 at S⊢
 have o1:=S.get
 simp[St.seg,o1,segU]
 refine(spec114 okn st1 x).mono ?_
 rintro v st1 ⟨rfl,rfl⟩
 rw[←ht]
 simp[w1,d1,w2]
 have sub1:St.sub st st1:=S.was' (by simp)
 by_cases h3:size≤3
 ·have h3':(size:Int)≤3:=by omega
  have w4:IntKind.i64.wrap (3-(size:Int))=((3-size:Nat):Int):=by rw[wrap64 (by omega) (by omega)];omega
  have w5:IntKind.i64.wrap (8*((3-size:Nat):Int))=((8*(3-size):Nat):Int):=by rw[wrap64 (by omega) (by omega)];omega
  obtain⟨m,hm⟩: ∃m,m=3-size:=⟨_,rfl⟩
  have w6:(8*(m:Int))=((8*m:Nat):Int):=by omega
  rw[←hm]at w4 w5
  rw[←w6]at w5
  have hR:(BitVec.ofNat 64 (8*m)).toNat=8*m:=by rw[BitVec.toNat_ofNat];exact Nat.mod_eq_of_lt (by omega)
  have hcv:convV .u64 (.int .i64 (8*(m:Int)))=some (w64 (BitVec.ofNat 64 (8*m))):=by rw[w6,conv_i_64,BitVec.ofInt_natCast]
  have ht24:t<16777216:=by
   have:=bitlen_le.1 (show bitlen t≤24 by omega)
   exact this
  have hWd:(limb x 0 <<< (8*m)).toNat=topW t size:=by
   rw[shl_nat,limb_small (by omega),←ht,topW,if_pos h3,←hm]
   apply Nat.mod_eq_of_lt
   have:2 ^ (8*m)≤2 ^ 24:=Nat.pow_le_pow_right (by omega) (by omega)
   calc t*2 ^ (8*m)≤16777216*2 ^ 24:=Nat.mul_le_mul (by omega) this
    _<18446744073709551616:=by decide
  obtain⟨f1,f2⟩:=fin _ hWd
  have hsg:segOf (eU x) 0 1=some [w64 (limb x 0)]:=rfl
  by_cases hbig:8388608≤topW t size
  ·obtain⟨q1,q2⟩:=f1 hbig
   rw[q2]
   simp[h3',w4,w5,w3,idxArrV,St.seg,o1,hsg,hcv,-conv_i_64,hR,q1]
   simp[sub1]
  ·obtain⟨q1,q2⟩:=f2 hbig
   rw[q2]
   simp[h3',w4,w5,w3,idxArrV,St.seg,o1,hsg,hcv,-conv_i_64,hR,q1]
   simp[sub1]
 ·have h3':¬(size:Int)≤3:=by omega
  have w4:IntKind.i64.wrap ((size:Int)-3)=((size-3:Nat):Int):=by rw[wrap64 (by omega) (by omega)];omega
  have w5:IntKind.i64.wrap (8*((size-3:Nat):Int))=((8*(size-3):Nat):Int):=by rw[wrap64 (by omega) (by omega)];omega
  obtain⟨m,hm⟩: ∃m,m=size-3:=⟨_,rfl⟩
  have w6:(8*(m:Int))=((8*m:Nat):Int):=by omega
  rw[←hm]at w4 w5
  rw[←w6]at w5
  simp[h3',w4,w5,St.seg,o1,segU]
  refine(spec113 okn st1 x (8*(m:Int))).mono ?_
  rintro v st1 ⟨rfl,rfl⟩
  obtain⟨R,hR⟩: ∃R,R=shrU x (8*(m:Int)):=⟨_,rfl⟩
  rw[←hR]
  have hRn:R.toNat=topW t size:=by
   rw[hR,shrU,if_neg (by omega),BitVec.toNat_ushiftRight,Nat.shiftRight_eq_div_pow,←ht,topW,if_neg h3,show(8*(m:Int)).toNat=8*m by omega,hm]
  have hWd:(limb R 0).toNat=topW t size:=by
   rw[limb_small (by omega),hRn]
  have hix:idxV 4 false 1 (nU R) (.int .i64 0)=some (w64 (limb R 0)):=rfl
  obtain⟨f1,f2⟩:=fin _ hWd
  by_cases hbig:8388608≤topW t size
  ·obtain⟨q1,q2⟩:=f1 hbig
   rw[q2]
   simp[hix,q1,w3]
   simp[sub1]
  ·obtain⟨q1,q2⟩:=f2 hbig
   rw[q2]
   simp[hix,q1,w3]
   simp[sub1]
end
section
variable {P:Program} {F:Fn}
theorem gtr_cmp (a b:U):decide (0<cmpU a b)=decide (b.toNat<a.toNat):=by
 congr 1
 rw[eq_iff_iff]
 unfold cmpU
 constructor
 ·intro h
  split at h
  ·omega
  ·split at h
   ·omega
   ·rename_i h1 h2
    have:a.toNat≠b.toNat:=fun e=>h2 (BitVec.eq_of_toNat_eq e)
    omega
 ·intro h
  rw[if_neg (by omega),if_neg (by rintro rfl;omega)]
  omega
def nextR (b:W32)(took should:Int)(limit:Nat):V:=match nextN b took should limit with | some x=>.tup [w32 x,.bool true] | none=>.tup [w32 0#32,.bool false]
theorem of64 {n:Nat}(h:n<18446744073709551616):(BitVec.ofInt 64 (n:Int)).toNat=n:=by
 rw[BitVec.ofInt_natCast,BitVec.toNat_ofNat];exact Nat.mod_eq_of_lt h
set_option maxHeartbeats 4000000 in
theorem spec138 (ok:OkHead P F)(st:St)(b:W32)(took should:Int)(limit:U)(hr:-9223372036854775808≤took∧took≤9223372036854775807):
  ACalls P (F 138) [w32 b,.int .i64 took,.int .i64 should,nU limit] st fun v st'=>v=nextR b took should limit.toNat∧st'=st:=by
 have okn:=ok.toOkNum
 refine shows_call ok.mixed ok.h138 (by simp[k138]) ?_
 simp only[k138,nU]
 simp
 intro i7 h7
 have S:=(Sep.start st).new h7 (.cells (eU limit))
 generalize st.upd i7 _=st1 at S⊢
 simp
 refine(spec135 ok st1 b).mono ?_
 rintro v st1 ⟨rfl,rfl⟩
 have hsp: ∀x y:U,spliceV (eU x) 0 (eU y)=eU y:=fun _ _=>rfl
 obtain⟨T0,t1,hT⟩: ∃(T0:U) (t1:Bool),tgtR b=.tup [nU T0,.bool t1]∧(t1=false→tgt b=none)∧(t1=true→tgt b=some T0.toNat):=by
  unfold tgtR
  cases h:tgt b with
  | none=>exact⟨0#256,false,rfl,fun _=>rfl,fun h=>by cases h⟩
  | some t=>exact⟨natU t,true,rfl,fun h=>(by cases h),fun _=>(by rw[natU_nat (tgt_lt h).2])⟩
 obtain⟨hT1,hT2,hT3⟩:=hT
 rw[hT1,eU_zero]
 simp
 intro i10 h10
 have S:=S.new h10 (.cells (eU T0))
 have hs10: ∀y:U,storeS (st1.upd i10 (.cells (eU 0#256))) 4 (.ptr (some (i10,0))) (nU y)=some (st1.upd i10 (.cells (eU y))):=fun y=>by
  simp[storeS,nU,eU_len,hsp]
 simp[hs10]
 generalize st1.upd i10 _=st2 at S⊢
 cases t1 with
 | false=>
   have:nextR b took should limit.toNat=.tup [w32 0#32,.bool false]:=by
    rw[nextR,nextN,hT2 rfl]
   simp[this]
   exact S.was' (by simp)
 | true=>
   have htg:=hT3 rfl
   by_cases hs1:should<1
   ·have:nextR b took should limit.toNat=.tup [w32 0#32,.bool false]:=by
      rw[nextR,nextN,htg];simp[hs1]
    simp[this,hs1]
    exact S.was' (by simp)
   by_cases hs2:1099511627776<should
   ·have:nextR b took should limit.toNat=.tup [w32 0#32,.bool false]:=by
      rw[nextR,nextN,htg];simp[hs1,hs2]
    simp[this,hs1,hs2]
    exact S.was' (by simp)
   have e:nextR b took should limit.toNat=.tup [w32 (shortN (nextT T0.toNat (clampT took should) should.toNat limit.toNat)),.bool true]:=by
    rw[nextR,nextN,htg];simp[hs1,hs2]
   rw[e]
   have hcl:=clampT_le (took:=took) (should:=should) (by omega) (by omega)
   obtain⟨tk,htk⟩: ∃tk,tk=clampT took should:=⟨_,rfl⟩
   rw[←htk]at hcl⊢
   obtain⟨sh,rfl⟩:=Int.eq_ofNat_of_zero_le (show 0≤should by omega)
   have hsh0:0<sh:=by omega
   have hshl:sh≤1099511627776:=by omega
   have w4:IntKind.i64.wrap (4*(sh:Int))=4*(sh:Int):=wrap64 (by omega) (by omega)
   have w0:IntKind.i64.wrap ((sh:Int) / 4)=(sh:Int) / 4:=wrap64 (by omega) (by omega)
   have hmn:foldV min2V (.int .i64 took) [.int .i64 (4*(sh:Int))]=some (.int .i64 (min took (4*(sh:Int)))):=by
    simp only[foldV,min2V,if_true,Option.bind_some]
    congr 2
    split<;>omega
   have hmx:foldV max2V (.int .i64 ((sh:Int) / 4)) [.int .i64 (min took (4*(sh:Int)))]=some (.int .i64 (tk:Int)):=by
    simp only[foldV,max2V,if_true,Option.bind_some]
    congr 2
    rw[htk,clampT,Int.tdiv_eq_ediv_of_nonneg (by omega)]
    split<;>omega
   rw[Int.toNat_natCast]
   obtain⟨TK,hTK⟩: ∃TK:W,TK=BitVec.ofInt 64 (tk:Int):=⟨_,rfl⟩
   have hTKn:TK.toNat=tk:=by rw[hTK];exact of64 (by omega)
   obtain⟨SH,hSH⟩: ∃SH:W,SH=BitVec.ofInt 64 (sh:Int):=⟨_,rfl⟩
   have hSHn:SH.toNat=sh:=by rw[hSH];exact of64 (by omega)
   have c1:convV .u64 (.int .i64 (tk:Int))=some (w64 TK):=by rw[hTK,conv_i_64]
   have c2:convV .u64 (.int .i64 (sh:Int))=some (w64 SH):=by rw[hSH,conv_i_64]
   have o10:=S.get
   have o7:=S.mem (i:=i7) (o:=.cells (eU limit)) (by simp)
   simp[hs1,hs2,w4,w0,hmn,hmx,c1,-conv_i_64,St.seg,o10,segU]
   refine(spec110 okn st2 T0 TK).mono ?_
   rintro v st2 ⟨rfl,rfl⟩
   rw[hTKn]
   simp
   intro i12 h12
   have hs12: ∀(s:St) (x y:U),s i12=some (.cells (eU x))→storeS s 4 (.ptr (some (i12,0))) (nU y)=some (s.upd i12 (.cells (eU y))):=fun s x y h=>by
    simp[storeS,nU,eU_len,hsp,h]
   have hs10': ∀(s:St) (x y:U),s i10=some (.cells (eU x))→storeS s 4 (.ptr (some (i10,0))) (nU y)=some (s.upd i10 (.cells (eU y))):=fun s x y h=>by
    simp[storeS,nU,eU_len,hsp,h]
   have S:=S.new h12 (.cells (eU (BitVec.ofNat 256 (T0.toNat*tk))))
   have hst:=hs12 (st2.upd i12 (.cells (eU 0#256))) 0#256 (BitVec.ofNat 256 (T0.toNat*tk)) (by simp)
   rw[upd_upd]at hst
   simp[hst]
   generalize st2.upd i12 _=st3 at S⊢
   by_cases hov:2 ^ 256≤T0.toNat*tk
   ·have e1:ovU (T0.toNat*tk)=true:=decide_eq_true hov
    have hge:¬T0.toNat*tk<2 ^ 256:=by omega
    have o10:=S.mem (i:=i10) (o:=.cells (eU T0)) (by simp)
    have o12:=S.get
    simp[e1,c1,c2,-conv_i_64,St.seg,o10,segU]
    refine⟨_,spec105 okn st3 SH,?_⟩
    have hShU:(SH.setWidth 256:U).toNat=sh:=by
     rw[BitVec.toNat_setWidth,hSHn];exact Nat.mod_eq_of_lt (by omega)
    have hSh0:(SH.setWidth 256:U)≠0#256:=fun e=>by rw[e]at hShU;simp at hShU;omega
    simp
    refine⟨_,spec116 okn st3 T0 (SH.setWidth 256),?_⟩
    obtain⟨D,hD⟩: ∃D,D=divU T0 (SH.setWidth 256):=⟨_,rfl⟩
    have hDn:D.toNat=T0.toNat / sh:=by
     rw[hD,divU,hShU]
     exact natU_nat (Nat.lt_of_le_of_lt (Nat.div_le_self _ _) T0.isLt)
    have hst:=hs12 st3 _ D o12
    simp[hSh0,←hD,hst]
    have S:=S.setAt (.cells (eU D)) 0 rfl
    generalize st3.upd i12 _=st4 at S⊢
    have o12:=S.get
    simp[c1,-conv_i_64,St.seg,o12,segU]
    refine(spec110 okn st4 D TK).mono ?_
    rintro v st4 ⟨rfl,rfl⟩
    rw[hTKn]
    obtain⟨Q,hQ⟩: ∃Q:U,Q=BitVec.ofNat 256 (D.toNat*tk):=⟨_,rfl⟩
    have hst:=hs12 st4 _ Q o12
    rw[←hQ]
    simp[hst]
    have S:=S.setAt (.cells (eU Q)) 0 rfl
    generalize st4.upd i12 _=st5 at S⊢
    have o12:=S.get
    have o7:=S.mem (i:=i7) (o:=.cells (eU limit)) (by simp)
    by_cases hov2:2 ^ 256≤D.toNat*tk
    ·have e2:ovU (D.toNat*tk)=true:=decide_eq_true hov2
     have hres:nextT T0.toNat tk sh limit.toNat=limit.toNat:=by
      rw[nextT,if_neg hge,←hDn,if_pos (.inl hov2)]
     simp[e2,St.seg,o7,segU]
     refine(spec136 ok st5 limit).mono ?_
     rintro v st5 ⟨rfl,rfl⟩
     rw[hres]
     simp
     exact S.was' (by simp)
    have e2:ovU (D.toNat*tk)=false:=decide_eq_false hov2
    have hQn:Q.toNat=D.toNat*tk:=by rw[hQ];exact natU_nat (by omega)
    have hQlt:¬2 ^ 256≤Q.toNat:=by rw[hQn];exact hov2
    have hres:nextT T0.toNat tk sh limit.toNat=if 2 ^ 256≤Q.toNat∨limit.toNat<Q.toNat then limit.toNat else Q.toNat:=by
     rw[nextT,if_neg hge,←hDn,←hQn]
    have hst:=hs10' st5 _ Q (S.mem (i:=i10) (o:=.cells (eU T0)) (by simp))
    simp only[nU]at hst
    have n710:=(S.neq (i:=i10) (j:=i7) 1 2 rfl rfl (by omega)).symm
    simp[e2,St.seg,o12,segU,hst,o7,n710]
    have S:=S.setAt (.cells (eU Q)) 1 rfl
    generalize st5.upd i10 _=st6 at S⊢
    have o10:=S.mem (i:=i10) (o:=.cells (eU Q)) (by simp)
    have o7:=S.mem (i:=i7) (o:=.cells (eU limit)) (by simp)
    try simp[St.seg,o10,o7,segU]
    refine(spec106 okn st6 Q limit).mono ?_
    rintro v st6 ⟨rfl,rfl⟩
    have hgt:=gtr_cmp Q limit
    by_cases hl:limit.toNat<Q.toNat
    ·rw[decide_eq_true hl]at hgt
     have hst:=hs10' st6 Q limit o10
     simp only[nU]at hst
     simp[hgt,St.seg,o7,segU,hst]
     have S:=S.setAt (.cells (eU limit)) 1 rfl
     generalize st6.upd i10 _=st9 at S⊢
     have o10:=S.mem (i:=i10) (o:=.cells (eU limit)) (by simp)
     try simp[St.seg,o10,segU]
     refine(spec136 ok st9 limit).mono ?_
     rintro v st9 ⟨rfl,rfl⟩
     rw[hres,if_pos (.inr hl)]
     simp
     exact S.was' (by simp)
    ·rw[decide_eq_false hl]at hgt
     simp[hgt,St.seg,o10,segU]
     refine(spec136 ok st6 Q).mono ?_
     rintro v st6 ⟨rfl,rfl⟩
     rw[hres,if_neg (by rintro(h | h);exact hQlt h;exact hl h)]
     simp
     exact S.was' (by simp)
   ·have e1:ovU (T0.toNat*tk)=false:=decide_eq_false hov
    have hlt:T0.toNat*tk<2 ^ 256:=by omega
    have hn:(BitVec.ofNat 256 (T0.toNat*tk)).toNat=T0.toNat*tk:=natU_nat hlt
    have o12:=S.get
    simp[e1,c2,-conv_i_64,St.seg,o12,segU]
    refine⟨_,spec105 okn st3 SH,?_⟩
    have hShU:(SH.setWidth 256:U).toNat=sh:=by
     rw[BitVec.toNat_setWidth,hSHn];exact Nat.mod_eq_of_lt (by omega)
    have hSh0:(SH.setWidth 256:U)≠0#256:=fun e=>by rw[e]at hShU;simp at hShU;omega
    simp
    refine⟨_,spec116 okn st3 (BitVec.ofNat 256 (T0.toNat*tk)) (SH.setWidth 256),?_⟩
    simp[hSh0]
    obtain⟨Q,hQ⟩: ∃Q,Q=divU (BitVec.ofNat 256 (T0.toNat*tk)) (SH.setWidth 256):=⟨_,rfl⟩
    have hQn:Q.toNat=T0.toNat*tk / sh:=by
     rw[hQ,divU,hn,hShU]
     exact natU_nat (Nat.lt_of_le_of_lt (Nat.div_le_self _ _) hlt)
    have hQlt:¬2 ^ 256≤Q.toNat:=Nat.not_le.2 Q.isLt
    have hres:nextT T0.toNat tk sh limit.toNat=if 2 ^ 256≤Q.toNat∨limit.toNat<Q.toNat then limit.toNat else Q.toNat:=by
     rw[nextT,if_pos hlt,←hQn]
    rw[←hQ]
    have hst:=hs10' st3 _ Q (S.mem (i:=i10) (o:=.cells (eU T0)) (by simp))
    simp[hst]
    have S:=S.setAt (.cells (eU Q)) 1 rfl
    generalize st3.upd i10 _=st6 at S⊢
    have o10:=S.mem (i:=i10) (o:=.cells (eU Q)) (by simp)
    have o7:=S.mem (i:=i7) (o:=.cells (eU limit)) (by simp)
    try simp[St.seg,o10,o7,segU]
    refine(spec106 okn st6 Q limit).mono ?_
    rintro v st6 ⟨rfl,rfl⟩
    have hgt:=gtr_cmp Q limit
    by_cases hl:limit.toNat<Q.toNat
    ·rw[decide_eq_true hl]at hgt
     have hst:=hs10' st6 Q limit o10
     simp only[nU]at hst
     simp[hgt,St.seg,o7,segU,hst]
     have S:=S.setAt (.cells (eU limit)) 1 rfl
     generalize st6.upd i10 _=st9 at S⊢
     have o10:=S.mem (i:=i10) (o:=.cells (eU limit)) (by simp)
     try simp[St.seg,o10,segU]
     refine(spec136 ok st9 limit).mono ?_
     rintro v st9 ⟨rfl,rfl⟩
     rw[hres,if_pos (.inr hl)]
     simp
     exact S.was' (by simp)
    ·rw[decide_eq_false hl]at hgt
     simp[hgt,St.seg,o10,segU]
     refine(spec136 ok st6 Q).mono ?_
     rintro v st6 ⟨rfl,rfl⟩
     rw[hres,if_neg (by rintro(h | h);exact hQlt h;exact hl h)]
     simp
     exact S.was' (by simp)
end
def sB (l:List UInt8):V:=.str ⟨l.toArray⟩
theorem toStr_sB {s:V}{l:List UInt8}{st:St}(h:Rd 1 e8 s l st)(hs: ∀x,s≠.str x):toStrV st s=some (sB l):=toStr_rd h hs
section
variable {P:Program} {F:Fn}
theorem hseg0 (h:Hdr):segOf (eHdr h) 0 1=some [w32 h.ver]:=by
 simp[segOf,eHdr,eId_len]
theorem hdrop1 (h:Hdr):(eHdr h).drop 1=eId h.prev++(eId h.root++[w32 h.time,w32 h.bits,w32 h.nonce]):=rfl
theorem hdrop33 (h:Hdr):(eHdr h).drop 33=eId h.root++[w32 h.time,w32 h.bits,w32 h.nonce]:=by
 rw[show 33=1+32 from rfl,←List.drop_drop,hdrop1,List.drop_left' (eId_len _)]
theorem hdrop65 (h:Hdr):(eHdr h).drop 65=[w32 h.time,w32 h.bits,w32 h.nonce]:=by
 rw[show 65=33+32 from rfl,←List.drop_drop,hdrop33,List.drop_left' (eId_len _)]
theorem hdrop66 (h:Hdr):(eHdr h).drop 66=[w32 h.bits,w32 h.nonce]:=by
 rw[show 66=65+1 from rfl,←List.drop_drop,hdrop65];rfl
theorem hdrop67 (h:Hdr):(eHdr h).drop 67=[w32 h.nonce]:=by
 rw[show 67=65+2 from rfl,←List.drop_drop,hdrop65];rfl
theorem seg_of_drop {cs:List V}{off sz:Nat}{ys zs:List V}(h:cs.drop off=ys++zs)(hl:ys.length=sz)(hp:0<sz):segOf cs off sz=some ys:=by
 have hlen:=congrArg List.length h
 rw[List.length_drop,List.length_append]at hlen
 rw[segOf,if_pos (by omega),h,←hl,List.take_left]
theorem hsegPrev (h:Hdr):segOf (eHdr h) 1 32=some (eId h.prev):=seg_of_drop (hdrop1 h) (eId_len _) (by omega)
theorem hsegRoot (h:Hdr):segOf (eHdr h) 33 32=some (eId h.root):=seg_of_drop (hdrop33 h) (eId_len _) (by omega)
theorem hsegTime (h:Hdr):segOf (eHdr h) 65 1=some [w32 h.time]:=seg_of_drop (zs:=[w32 h.bits,w32 h.nonce]) (hdrop65 h) rfl (by omega)
theorem hsegBits (h:Hdr):segOf (eHdr h) 66 1=some [w32 h.bits]:=seg_of_drop (zs:=[w32 h.nonce]) (hdrop66 h) rfl (by omega)
theorem hsegNonce (h:Hdr):segOf (eHdr h) 67 1=some [w32 h.nonce]:=seg_of_drop (zs:=[]) (hdrop67 h) rfl (by omega)
theorem hsegAll (h:Hdr):segOf (eHdr h) 0 68=some (eHdr h):=by
 rw[segOf,if_pos (by rw[eHdr_len];omega),List.drop_zero,List.take_of_length_le (by rw[eHdr_len];omega)]
theorem spec139 (ok:OkHead P F){st:St}{s:V}{l:List UInt8}{L:List Asn}(h:Sep (Slx 1 e8 s l::L) st)(hl:l.length≤1000)(x:W32):
  ACalls P (F 139) [s,w32 x] st fun v st'=>Sep (Slx 1 e8 v (l++le4 x)::L) st':=by
 refine shows_call ok.mixed ok.h139 (by simp[k139]) ?_
 simp only[k139]
 have hr:fillV (repV [w8 0] 4) [(0,1,w8 (UInt8.ofBitVec (x.setWidth 8))),(1,1,w8 (UInt8.ofBitVec ((x >>> 8).setWidth 8))),(2,1,w8 (UInt8.ofBitVec ((x >>> 16).setWidth 8))),(3,1,w8 (UInt8.ofBitVec ((x >>> 24).setWidth 8)))]=some (rowsOf e8 (le4 x)):=rfl
 simp[hr]
 have he:elems st 1 (.sl .full (rowsOf e8 (le4 x)) 4)=some (rowsOf e8 (le4 x),(le4 x).length):=rfl
 rw[he]
 refine Sep.appx (b:=1) e8_len (by omega) h (m:=le4 x) (by simp[le4];omega) ?_
 intro s' st' S'
 simp
 exact⟨st',sub_self _,S'⟩
set_option maxHeartbeats 1000000 in
theorem spec140 (ok:OkHead P F)(st:St)(h:Hdr):ACalls P (F 140) [.agg (eHdr h)] st fun v st'=>Sep [Slx 1 e8 v (hBytes h),Was st] st':=by
 refine shows_call ok.mixed ok.h140 (by simp[k140]) ?_
 simp only[k140]
 simp
 intro i1 h1
 have S:=(Sep.start st).new h1 (.cells (eHdr h))
 generalize st.upd i1 _=st1 at S⊢
 have o1:=S.get
 simp[Conf,St.seg,o1,hseg0,mkslS,mkNew,repV]
 intro i4 h4
 have S:=S.new h4 (.cells [])
 generalize st1.upd i4 _=st2 at S⊢
 have S:=S.head (A':=Slx 1 e8 (.hsl i4 0 1 0) []) fun g hg=>.inr ⟨i4,rfl,hg⟩
 refine(spec139 ok S (by simp) h.ver).mono ?_
 intro v st3 S
 simp
 have o1:=S.mem (i:=i1) (o:=.cells (eHdr h)) (by
  simp)
 have S:=S.setAt (.ro (eHdr h)) 1 rfl
 simp[frzP,frzV,frzOb,o1]
 generalize st3.upd i1 _=st4 at S⊢
 have p1:segOf (eHdr h).tail 0 32=some (eId h.prev):=seg_of_drop (by rw[List.drop_zero,←List.drop_one];exact hdrop1 h) (eId_len _) (by omega)
 have p2:segOf ((eHdr h).drop 33) 0 32=some (eId h.root):=seg_of_drop (by rw[List.drop_zero];exact hdrop33 h) (eId_len _) (by omega)
 have t1:List.take 32 (eId h.prev)=rowsOf e8 h.prev.toList:=by rw[←eId_rows,List.take_of_length_le (by rw[eId_len];omega)]
 have t2:List.take 32 (eId h.root)=rowsOf e8 h.root.toList:=by rw[←eId_rows,List.take_of_length_le (by rw[eId_len];omega)]
 have e1: ∀(s:St) (x:Id),elems s 1 (.sl .full (rowsOf e8 x.toList) 32)=some (rowsOf e8 x.toList,x.toList.length):=fun s x=>by
  have:(rowsOf e8 x.toList).length=32:=by rw[rowsOf_length e8_len];simp
  simp[elems,this]
 simp[Conf,slArrV,bounds,opV,p1,p2,t1,t2,e1]
 refine Sep.appx' (b:=1) e8_len (by omega) S h.prev.toList rfl (by simp) (by simp[le4]) ?_
 intro s5 st5 S
 simp[e1]
 refine Sep.appx' (b:=1) e8_len (by omega) S h.root.toList rfl (by simp) (by simp[le4]) ?_
 intro s6 st6 S
 have q1:segOf ((eHdr h).drop 65) 0 1=some [w32 h.time]:=seg_of_drop (zs:=[w32 h.bits,w32 h.nonce]) (by rw[List.drop_zero];exact hdrop65 h) rfl (by omega)
 have q2:segOf ((eHdr h).drop 66) 0 1=some [w32 h.bits]:=seg_of_drop (zs:=[w32 h.nonce]) (by rw[List.drop_zero];exact hdrop66 h) rfl (by omega)
 have q3:segOf ((eHdr h).drop 67) 0 1=some [w32 h.nonce]:=seg_of_drop (zs:=[]) (by rw[List.drop_zero];exact hdrop67 h) rfl (by omega)
 simp[q1,q2,q3]
 refine(spec139 ok S (by simp[le4]) h.time).mono ?_
 intro v7 st7 S
 simp
 refine(spec139 ok S (by simp[le4]) h.bits).mono ?_
 intro v8 st8 S
 simp
 refine(spec139 ok S (by simp[le4]) h.nonce).mono ?_
 intro v9 st9 S
 simp
 refine⟨_,sub_self _,?_⟩
 have hb:[]++le4 h.ver++h.prev.toList++h.root.toList++le4 h.time++le4 h.bits++le4 h.nonce=hBytes h:=by simp[hBytes]
 rw[hb]at S
 exact Sep.tail (fun r hr=>hr.drop) S
theorem spec141 (ok:OkHead P F)(st:St)(h:Hdr):ACalls P (F 141) [.agg (eHdr h)] st fun v st'=>v=.agg (eId (hId h))∧st'=st:=by
 have okh:=ok.toOkHash
 refine shows_call ok.mixed ok.h141 (by simp[k141]) ?_
 simp only[k141]
 simp
 intro i1 h1
 have S:=(Sep.start st).new h1 (.cells (eHdr h))
 generalize st.upd i1 _=st1 at S⊢
 simp
 intro i2 h2
 have S:=S.new h2 (.cells zR32_w80)
 generalize st1.upd i2 _=st2 at S⊢
 have o1:=S.mem (i:=i1) (o:=.cells (eHdr h)) (by simp)
 simp[St.seg,o1,hsegAll]
 refine(Sep.call (S.put (A:=Was fun _=>none) rfl) (fun g hg=>by rw[hg];exact spec140 ok _ h)).mono ?_
 intro v st3 S3
 have rd:Rd 1 e8 v (hBytes h) st3:=by
  obtain⟨g,k1,k2⟩:=S3.part
  exact(Sep.rd e8_len (k2.head fun h hh=>hh.sl)).sub k1
 have S:=S3.drop
 have hp:Parts st3 [v] [hBytes h]:=.cons rd .nil
 have hfl:fillV (repV [.sl .nil [] 0] 1) [(0,1,v)]=some [v]:=by
  rcases rd with⟨k,rfl⟩ | ⟨_,_,rfl,_⟩<;>rfl
 simp[hfl]
 have hc:=spec104 okh st3 hp .full (by simp[hBytes_len]) (by simp)
 refine hc.mono ?_
 rintro w st3 ⟨rfl,rfl⟩
 have o2:=S.mem (i:=i2) (o:=.cells zR32_w80) (by simp)
 have hst:=store_z32 o2 (sha2 ([hBytes h].flatten))
 have T:=S.setAt (.cells (eId (sha2 ([hBytes h].flatten)))) 0 rfl
 have hf:[hBytes h].flatten=hBytes h:=by simp
 rw[hf]at hst T⊢
 simp[hst,St.seg,segId0]
 exact⟨T.was' (by simp),rfl⟩
end
section
variable {P:Program} {F:Fn}
def h8 (b:UInt8)(q:Nat):UInt8:=UInt8.ofNat (b.toNat / 2 ^ q)
end
structure Nd where
 hdr:Hdr
 id:Id
 parent:Int
 skip:Nat
 height:Nat
 work:Nat
 failed:Bool
 deriving DecidableEq
def skipH (h:Nat):Nat:=if h<2 then 0 else if h % 2=1 then((h-1) &&& (h-2))+1 else h &&& (h-1)
theorem skipH_lt {h:Nat}(hp:0<h):skipH h<h:=by
 unfold skipH
 split
 ·omega
 ·split
  ·have:(h-1) &&& (h-2)≤h-2:=Nat.and_le_right
   omega
  ·have:h &&& (h-1)≤h-1:=Nat.and_le_right
   omega
def hgt (l:List Nd)(i:Nat):Nat:=((l[i]?).map (·.height)).getD 0
def par (l:List Nd)(i:Nat):Nat:=((l[i]?).map (·.parent.toNat)).getD 0
def upN (l:List Nd):Nat→Nat→Nat
 | 0,i=>i
 | n+1,i=>upN l n (par l i)
def anc (l:List Nd)(i h:Nat):Nat:=upN l (hgt l i-h) i
structure Wf (l:List Nd):Prop where
 ne:0<l.length
 zero: ∀x:Nd,l[0]? =some x→x.parent=-1∧x.height=0
 succ: ∀(i:Nat) (x:Nd),0<i→l[i]? =some x→0≤x.parent∧x.parent< (i:Int)∧x.height=hgt l x.parent.toNat+1
 skip: ∀(i:Nat) (x:Nd),0<i→l[i]? =some x→x.skip=anc l x.parent.toNat (skipH x.height)
section
variable {l:List Nd} (w:Wf l)
include w
theorem Wf.par_lt {i:Nat}(h0:0<i)(hi:i<l.length):par l i<i:=by
 have h:=w.succ i l[i] h0 (List.getElem?_eq_getElem hi)
 simp only[par,List.getElem?_eq_getElem hi,Option.map_some,Option.getD_some]
 omega
theorem Wf.hgt_par {i:Nat}(h0:0<i)(hi:i<l.length):hgt l i=hgt l (par l i)+1:=by
 have h:=w.succ i l[i] h0 (List.getElem?_eq_getElem hi)
 have e:par l i=l[i].parent.toNat:=by simp[par,hi]
 rw[e,←h.2.2]
 simp[hgt,hi]
theorem Wf.hgt_zero:hgt l 0=0:=by
 have e:=List.getElem?_eq_getElem w.ne
 have h:=w.zero _ e
 rw[hgt,e,Option.map_some,Option.getD_some,h.2]
theorem Wf.pos_of_hgt {i:Nat}(h:0<hgt l i):0<i:=by
 rcases Nat.eq_zero_or_pos i with e | e
 ·rw[e,w.hgt_zero]at h;omega
 ·exact e
theorem Wf.hgt_le {i:Nat}(hi:i<l.length):hgt l i≤i:=by
 induction i using Nat.strongRecOn with
 | _ i ih=>
   rcases Nat.eq_zero_or_pos i with e | e
   ·rw[e,w.hgt_zero];exact Nat.le_refl _
   ·have:=w.par_lt e hi
    rw[w.hgt_par e hi]
    have:=ih _ this (by omega)
    omega
theorem Wf.up {n i:Nat}(hi:i<l.length)(hn:n≤hgt l i):upN l n i<l.length∧hgt l (upN l n i)=hgt l i-n∧upN l n i≤i:=by
 induction n generalizing i with
 | zero=>exact⟨hi,rfl,Nat.le_refl _⟩
 | succ n ih=>
   have hp:=w.pos_of_hgt (i:=i) (by omega)
   have h1:=w.par_lt hp hi
   have h2:=w.hgt_par hp hi
   obtain⟨a,b,c⟩:=ih (i:=par l i) (by omega) (by omega)
   exact⟨a,by rw[upN,b];omega,by rw[upN];omega⟩
omit w in
theorem upN_add (n m i:Nat):upN l (n+m) i=upN l m (upN l n i):=by
 induction n generalizing i with
 | zero=>rw[Nat.zero_add];rfl
 | succ n ih=>rw[Nat.succ_add,upN,ih,upN]
theorem Wf.anc_lt {i h:Nat}(hi:i<l.length):anc l i h<l.length:=(w.up hi (Nat.sub_le _ _)).1
theorem Wf.anc_le {i h:Nat}(hi:i<l.length):anc l i h≤i:=(w.up hi (Nat.sub_le _ _)).2.2
theorem Wf.anc_hgt {i h:Nat}(hi:i<l.length)(hh:h≤hgt l i):hgt l (anc l i h)=h:=by
 have:=(w.up hi (Nat.sub_le (hgt l i) h)).2.1
 rw[anc,this];omega
omit w in
theorem anc_self (i:Nat):anc l i (hgt l i)=i:=by rw[anc,Nat.sub_self];rfl
theorem Wf.anc_par {i h:Nat}(hi:i<l.length)(hh:h<hgt l i):anc l i h=anc l (par l i) h:=by
 have hp:=w.pos_of_hgt (i:=i) (by omega)
 have h2:=w.hgt_par hp hi
 rw[anc,anc,show hgt l i-h=(hgt l (par l i)-h)+1 by omega]
 rfl
theorem Wf.anc_anc {i h h':Nat}(hi:i<l.length)(h1:h≤h')(h2:h'≤hgt l i):anc l (anc l i h') h=anc l i h:=by
 have e:=w.anc_hgt hi h2
 rw[anc,e,anc,anc,←upN_add,show hgt l i-h'+(h'-h)=hgt l i-h by omega]
end
theorem hgt_append {l:List Nd}{m:List Nd}{i:Nat}(hi:i<l.length):hgt (l++m) i=hgt l i:=by
 simp[hgt,List.getElem?_append_left hi]
theorem par_append {l:List Nd}{m:List Nd}{i:Nat}(hi:i<l.length):par (l++m) i=par l i:=by
 simp[par,List.getElem?_append_left hi]
theorem upN_append {l:List Nd}(w:Wf l){m:List Nd}{n i:Nat}(hi:i<l.length)(hn:n≤hgt l i):upN (l++m) n i=upN l n i:=by
 induction n generalizing i with
 | zero=>rfl
 | succ n ih=>
   have hp:=w.pos_of_hgt (i:=i) (by omega)
   have h1:=w.par_lt hp hi
   have h2:=w.hgt_par hp hi
   rw[upN,upN,par_append hi]
   exact ih (by omega) (by omega)
theorem anc_append {l:List Nd}(w:Wf l){m:List Nd}{i h:Nat}(hi:i<l.length):anc (l++m) i h=anc l i h:=by
 rw[anc,anc,hgt_append hi,upN_append w hi (Nat.sub_le _ _)]
theorem Wf.push {l:List Nd}(w:Wf l){x:Nd}{p:Nat}(hp:p<l.length)(h1:x.parent=p)(h2:x.height=hgt l p+1)(h3:x.skip=anc l p (skipH x.height)):Wf (l++[x]):=by
 refine⟨by simp,fun y hy=>?_,fun i y hi hy=>?_,fun i y hi hy=>?_⟩
 ·rw[List.getElem?_append_left w.ne]at hy
  exact w.zero y hy
 ·by_cases hl:i<l.length
  ·rw[List.getElem?_append_left hl]at hy
   have:=w.succ i y hi hy
   refine⟨this.1,this.2.1,?_⟩
   rw[this.2.2,hgt_append]
   omega
  ·have:i=l.length:=by
     have:=(List.getElem?_eq_some_iff.1 hy).1
     simp at this
     omega
   subst this
   rw[List.getElem?_append_right (Nat.le_refl _),Nat.sub_self]at hy
   cases hy
   refine⟨by omega,by omega,?_⟩
   rw[h1,h2,Int.toNat_natCast,hgt_append hp]
 ·by_cases hl:i<l.length
  ·rw[List.getElem?_append_left hl]at hy
   have:=w.succ i y hi hy
   rw[w.skip i y hi hy,anc_append w (by omega)]
  ·have:i=l.length:=by
     have:=(List.getElem?_eq_some_iff.1 hy).1
     simp at this
     omega
   subst this
   rw[List.getElem?_append_right (Nat.le_refl _),Nat.sub_self]at hy
   cases hy
   rw[h1,h3,Int.toNat_natCast,anc_append w hp]
def ancI (l:List Nd)(i h:Int):Int:=if i<0∨(l.length:Int)≤i∨h<0∨(hgt l i.toNat:Int)<h then-1 else(anc l i.toNat h.toNat:Nat)
def onB (l:List Nd)(i tip:Int):Bool:=decide (0≤i)&&decide (i<l.length)&&(ancI l tip (hgt l i.toNat)==i)
def findM:List Nd→Id→Option Nat
 | [],_=>none
 | x::l,id=>match findM l id with
   | some i=>some (i+1)
   | none=>if x.id=id then some 0 else none
theorem findM_append (l:List Nd)(x:Nd)(id:Id):findM (l++[x]) id=if x.id=id then some l.length else findM l id:=by
 induction l with
 | nil=>simp[findM]
 | cons y l ih=>
   simp only[List.cons_append,findM,ih]
   by_cases h:x.id=id
   ·simp[h]
   ·simp[h]
theorem findM_some {l:List Nd}{id:Id}{i:Nat}(h:findM l id=some i): ∃x,l[i]? =some x∧x.id=id:=by
 induction l generalizing i with
 | nil=>cases h
 | cons y l ih=>
   simp only[findM]at h
   split at h
   ·rename_i j hj
    cases h
    obtain⟨x,h1,h2⟩:=ih hj
    exact⟨x,by simpa using h1,h2⟩
   ·split at h
    ·cases h
     rename_i hy
     exact⟨y,rfl,hy⟩
    ·cases h
theorem findM_lt {l:List Nd}{id:Id}{i:Nat}(h:findM l id=some i):i<l.length:=by
 obtain⟨x,h1,_⟩:=findM_some h
 exact(List.getElem?_eq_some_iff.1 h1).1
theorem findM_none {l:List Nd}{id:Id}(h:findM l id=none): ∀x∈l,x.id≠id:=by
 induction l with
 | nil=>simp
 | cons y l ih=>
   simp only[findM]at h
   split at h
   ·cases h
   ·rename_i hj
    split at h
    ·cases h
    ·rename_i hy
     intro x hx
     rcases List.mem_cons.1 hx with rfl | hx
     ·exact hy
     ·exact ih hj x hx
def timesM (l:List Nd):Nat→Nat→List W32
 | 0,_=>[]
 | n+1,i=>match l[i]? with
   | some x=>x.hdr.time::(if x.parent<0 then[]else timesM l n x.parent.toNat)
   | none=>[]
def sorted32 (l:List W32):List W32:=l.mergeSort fun a b=>decide (a≤b)
def middle32 (l:List W32):W32:=(sorted32 l).getD (l.length / 2) 0
def medianM (l:List Nd)(i:Nat):W32:=middle32 (timesM l 11 i)
structure Rl where
 limit:W32
 every:Int
 spacing:Int
 subsidy:Int
 work:Int
 gen:Hdr
 txs:V
def nd (l:List Nd)(i:Nat):Nd:=(l[i]?).getD ⟨hdr0',id0',0,0,0,0,false⟩
where
 id0':Id:=⟨⟨List.replicate 32 0⟩,rfl⟩
 hdr0':Hdr:=⟨0,id0',id0',0,0,0⟩
def limitN (r:Rl):Nat:=(tgt r.limit).getD 0
def nextM (r:Rl)(l:List Nd)(i:Nat):W32:=
 let x:=nd l i
 if r.every=0∨((x.height:Int)+1).tmod r.every≠0 then x.hdr.bits
 else
  let first:=nd l (anc l i (max 0 ((x.height:Int)+1-r.every)).toNat)
  (nextN x.hdr.bits ((x.hdr.time.toNat:Int)-first.hdr.time.toNat) (r.every*r.spacing) (limitN r)).getD 0
def fitsM (r:Rl)(l:List Nd)(h:Hdr)(p:Int)(now:Int):Int:=
 if p<0∨(l.length:Int)≤p then 100
 else if provedN h r.limit≠0 then provedN h r.limit
 else if(nd l p.toNat).failed=true then 101
 else if h.bits≠nextM r l p.toNat then 30
 else if h.time≤medianM l p.toNat then 102
 else if now< (h.time.toNat:Int)-7200 then 103
 else 0
def ndOf (l:List Nd)(h:Hdr)(p:Nat):Nd:=⟨h,hId h,p,anc l p (skipH (hgt l p+1)),hgt l p+1,workN ((tgt h.bits).getD 0)+(nd l p).work,false⟩
def addM (r:Rl)(l:List Nd)(h:Hdr)(now:Int):List Nd×Int×Int:=
 match findM l (hId h)with
 | some i=>(l,i,5)
 | none=>match findM l h.prev with
   | none=>(l,-1,100)
   | some p=>
     if fitsM r l h p now≠0 then(l,-1,fitsM r l h p now)
     else if l.length=16384 then(l,-1,3)
     else(l++[ndOf l h p],l.length,0)
def checkM (r:Rl):Int:=
 if tgt r.limit=none∨r.gen.bits≠r.limit then 30
 else if r.every<0∨1000<r.every∨r.spacing<1∨1048576<r.spacing∨r.subsidy<0∨1125899906842624<r.subsidy∨r.work<0∨1000<r.work then 1 else 0
def newM (r:Rl):List Nd:=[⟨r.gen,hId r.gen,-1,0,0,workN ((tgt r.gen.bits).getD 0),false⟩]
section
variable {P:Program} {F:Fn}
theorem tgtR_cases (b:W32): ∃(T:U) (t:Bool),tgtR b=.tup [nU T,.bool t]∧(t=false→tgt b=none)∧(t=true→tgt b=some T.toNat):=by
 unfold tgtR
 cases h:tgt b with
 | none=>exact⟨0#256,false,rfl,fun _=>rfl,fun h=>by cases h⟩
 | some t=>exact⟨natU t,true,rfl,fun h=>(by cases h),fun _=>(by rw[natU_nat (tgt_lt h).2])⟩
set_option maxHeartbeats 2000000 in
theorem spec142 (ok:OkHead P F)(st:St)(h:Hdr)(limit:W32):ACalls P (F 142) [.agg (eHdr h),w32 limit] st fun v st'=>v=.int .i64 (provedN h limit)∧st'=st:=by
 have okn:=ok.toOkNum
 refine shows_call ok.mixed ok.h142 (by simp[k142]) ?_
 have hsp: ∀x y:U,spliceV (eU x) 0 (eU y)=eU y:=fun _ _=>rfl
 simp only[k142]
 simp
 intro i2 h2
 have S:=(Sep.start st).new h2 (.cells (eHdr h))
 generalize st.upd i2 _=st1 at S⊢
 have o2:=S.get
 simp[St.seg,o2,hsegBits]
 refine(spec135 ok st1 h.bits).mono ?_
 rintro v st1 ⟨rfl,rfl⟩
 obtain⟨A,a,hA1,hA2,hA3⟩:=tgtR_cases h.bits
 rw[hA1,eU_zero]
 simp
 intro i5 h5
 have S:=S.new h5 (.cells (eU A))
 have hs5:storeS (st1.upd i5 (.cells (eU 0#256))) 4 (.ptr (some (i5,0))) (nU A)=some (st1.upd i5 (.cells (eU A))):=by
  simp[storeS,nU,eU_len,hsp]
 simp[hs5]
 generalize st1.upd i5 _=st2 at S⊢
 refine(spec135 ok st2 limit).mono ?_
 rintro v st2 ⟨rfl,rfl⟩
 obtain⟨B,b,hB1,hB2,hB3⟩:=tgtR_cases limit
 rw[hB1]
 simp
 intro i7 h7
 have S:=S.new h7 (.cells (eU B))
 have hs7:storeS (st2.upd i7 (.cells (eU 0#256))) 4 (.ptr (some (i7,0))) (nU B)=some (st2.upd i7 (.cells (eU B))):=by
  simp[storeS,nU,eU_len,hsp]
 simp[hs7]
 generalize st2.upd i7 _=st3 at S⊢
 have sub:St.sub st st3:=S.was' (by simp)
 cases a with
 | false=>
   have e:provedN h limit=30:=by simp[provedN,hA2 rfl]
   simp[e,sub]
 | true=>
   cases b with
   | false=>
     have e:provedN h limit=30:=by simp[provedN,hB2 rfl,hA3 rfl]
     simp[e,sub]
   | true=>
     have e:provedN h limit=if B.toNat<A.toNat then 30 else if A.toNat<idN (hId h)then 50 else 0:=by
      simp[provedN,hA3 rfl,hB3 rfl]
     have o5:=S.mem (i:=i5) (o:=.cells (eU A)) (by simp)
     have o7:=S.mem (i:=i7) (o:=.cells (eU B)) (by simp)
     have o2:=S.mem (i:=i2) (o:=.cells (eHdr h)) (by simp)
     simp[St.seg,o5,o7,segU]
     refine(spec106 okn st3 A B).mono ?_
     rintro v st3 ⟨rfl,rfl⟩
     have hgt:=gtr_cmp A B
     by_cases hl:B.toNat<A.toNat
     ·rw[decide_eq_true hl]at hgt
      rw[e,if_pos hl]
      simp[hgt,sub]
     ·rw[decide_eq_false hl]at hgt
      rw[e,if_neg hl]
      simp[hgt,St.seg,o2,hsegAll]
      refine⟨_,spec141 ok st3 h,?_⟩
      simp
      refine⟨_,spec117 okn st3 (hId h),?_⟩
      simp[St.seg,o5,segU]
      refine⟨_,spec106 okn st3 (BitVec.ofNat 256 (idN (hId h))) A,?_⟩
      have hgt2:=gtr_cmp (BitVec.ofNat 256 (idN (hId h))) A
      have hid:(BitVec.ofNat 256 (idN (hId h))).toNat=idN (hId h):=natU_nat (idN_lt _)
      rw[hid]at hgt2
      by_cases hl2:A.toNat<idN (hId h)
      ·rw[decide_eq_true hl2]at hgt2
       simp[hgt2,sub,hl2]
      ·rw[decide_eq_false hl2]at hgt2
       simp[hgt2,sub,hl2]
def id0:Id:=⟨⟨List.replicate 32 0⟩,rfl⟩
def hdr0:Hdr:=⟨0,id0,id0,0,0,0⟩
theorem z68_eq:z68_39b1=eHdr hdr0:=rfl
def mineR (h:Hdr)(limit:W32)(n:Nat):V:=match mineN h limit n with | some x=>.tup [.agg (eHdr x),.bool true] | none=>.tup [.agg (eHdr hdr0),.bool false]
def eHpre (h:Hdr):List V:=w32 h.ver::(eId h.prev++(eId h.root++[w32 h.time,w32 h.bits]))
theorem eHpre_len (h:Hdr):(eHpre h).length=67:=by simp[eHpre,eId_len]
theorem eHdr_pre (h:Hdr):eHdr h=eHpre h++[w32 h.nonce]:=by simp[eHdr,eHpre]
theorem splice_nonce (h:Hdr)(n:W32):spliceV (eHdr h) 67 [w32 n]=eHdr {h with nonce:=n}:=by
 have hl:=eHpre_len h
 rw[eHdr_pre,eHdr_pre]
 show spliceV (eHpre h++[w32 h.nonce]) 67 [w32 n]=eHpre h++[w32 n]
 unfold spliceV
 rw[←hl,List.take_left]
 simp
theorem splice_hdr (a b:Hdr):spliceV (eHdr a) 0 (eHdr b)=eHdr b:=by
 simp[spliceV,eHdr_len]
set_option maxHeartbeats 1000000 in
theorem spec143 (ok:OkHead P F)(st:St)(h:Hdr)(limit:W32)(tries:Int):ACalls P (F 143) [.agg (eHdr h),w32 limit,.int .i64 tries] st fun v st'=>v=mineR h limit (max 0 (min tries 65536)).toNat∧st'=st:=by
 refine shows_call ok.mixed ok.h143 (by simp[k143]) ?_
 simp only[k143,z68_eq]
 simp
 intro i3 h3
 have S:=(Sep.start st).new h3 (.cells (eHdr h))
 generalize st.upd i3 _=st1 at S⊢
 simp
 intro i6 h6
 have S:=S.new h6 (.cells (eHdr hdr0))
 generalize st1.upd i6 _=st2 at S⊢
 obtain⟨n,hn⟩: ∃n,n=(max 0 (min tries 65536)).toNat:=⟨_,rfl⟩
 rw[←hn]
 have hn6:n≤65536:=by omega
 have hmn:foldV min2V (.int .i64 tries) [.int .i64 65536]=some (.int .i64 (min tries 65536)):=by
  simp only[foldV,min2V,if_true,Option.bind_some]
  congr 2
  split<;>omega
 have hmx:foldV max2V (.int .i64 0) [.int .i64 (min tries 65536)]=some (.int .i64 (n:Int)):=by
  simp only[foldV,max2V,if_true,Option.bind_some]
  congr 2
  split<;>omega
 simp[hmn,hmx]
 refine vc_loopJ (fun k env' st'=>∃(i:Nat) (g:Hdr),i≤n∧k=n-i∧env' 11=.int .i64 (i:Nat)∧mineN h limit n=mineN g limit (n-i)∧Sep [pt i6 (.cells (eHdr hdr0)),pt i3 (.cells (eHdr g)),Was st] st') n
  ⟨0,h,by omega,by omega,rfl,rfl,S⟩ ?_
 clear S
 rintro J hJ k env' st3 hsame ⟨i,g,hi,rfl,h11,hm,S⟩
 have g1:=hsame.get 1 rfl
 have g3:=hsame.get 3 rfl
 have g6:=hsame.get 6 rfl
 have g10:=hsame.get 10 rfl
 simp at g1 g3 g6 g10
 clear hsame
 have o3:=S.mem (i:=i3) (o:=.cells (eHdr g)) (by simp)
 have o6:=S.get
 have w1:IntKind.i64.wrap ((i:Int)+1)=(i:Int)+1:=wrap64 (by omega) (by omega)
 by_cases hlt:i<n
 ·rw[show n-i=(n-(i+1))+1 by omega,mineN]at hm
  simp[g1,g3,g6,g10,h11,hlt,St.seg,o3,hsegAll]
  refine(spec142 ok st3 g limit).mono ?_
  rintro v st3 ⟨rfl,rfl⟩
  by_cases hp:provedN g limit=0
  ·rw[if_pos hp]at hm
   have T:=S.setAt (.cells (eHdr g)) 0 rfl
   simp[hp,g3,g6,St.seg,o3,o6,hsegAll,storeS,eHdr_len,splice_hdr,mineR,hm]
   exact T.was' (by simp)
  ·have hp':(provedN g limit==0)=false:=by simpa using hp
   rw[if_neg hp]at hm
   have T:=S.setAt (.cells (eHdr {g with nonce:=g.nonce+1})) 1 rfl
   simp[hp',g3,St.seg,o3,hsegNonce,storeS,eHdr_len,splice_nonce,h11,w1]
   exact Round.mk (n-(i+1)) _ (by omega) (sub_self _) (hJ _ _ _ ⟨i+1,_,by omega,rfl,by simp,hm,T⟩)
 ·have:i=n:=by omega
  subst this
  rw[Nat.sub_self,mineN]at hm
  have hz:fillV (eHdr hdr0) []=some (eHdr hdr0):=rfl
  have T:=S.setAt (.cells (eHdr hdr0)) 0 rfl
  simp[g6,g10,h11,hz,storeS,o6,eHdr_len,splice_hdr,St.seg,hsegAll,mineR,hm]
  exact T.was' (by simp)
end
end Go.Ab

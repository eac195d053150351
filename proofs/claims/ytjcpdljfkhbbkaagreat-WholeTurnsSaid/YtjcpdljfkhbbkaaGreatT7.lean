import Derived.Test.YtjcpdljfkhbbkaaGreatT6
import Derived.Test.YtjcpdljfkhbbkaaGreatT4
import Derived.Test.YtjcpdljfkhbbkaaGreatT5
set_option linter.unusedVariables false
set_option linter.unusedSimpArgs false
set_option linter.unusedSectionVars false
namespace Go.Ab
open Go Go.RowKit
set_option maxRecDepth 10000
def clI (l:List Nd)(i:Int):Nat:=(max 0 (min i ((l.length:Int)-1))).toNat
theorem clI_lt {l:List Nd}(w:Wf l)(i:Int):clI l i<l.length:=by
 have:=w.ne
 unfold clI;omega
theorem clI_of {l:List Nd}{n:Nat}(h:n<l.length):clI l n=n:=by unfold clI;omega
def timesI (l:List Nd)(n:Nat)(i:Int):List W32:=if i<0 then[]else timesM l n i.toNat
theorem timesM_succ {l:List Nd}{n i:Nat}(hi:i<l.length):timesM l (n+1) i=l[i].hdr.time::timesI l n l[i].parent:=by
 simp[timesM,hi,timesI]
theorem timesM_ne {l:List Nd}{n i:Nat}(hi:i<l.length):timesM l (n+1) i≠[]:=by simp[timesM,hi]
section
variable {P:Program} {F:Fn}
theorem spec166 (ok:OkIndex P F){st:St}{tid:Nat}{r:Rl}{l:List Nd}(h:TreeR tid r l st)(w:Wf l)(hl:l.length≤16384)(i:Int):ACalls P (F 166) [.ptr (some (tid,0)),.int .i64 i] st fun v st'=>v=w32 (medianM l (clI l i))∧st'=st:=by
 obtain⟨sid,mid,spare,es,h⟩:=h
 refine shows_call ok.mixed ok.h166 (by simp[k166]) ?_
 simp only[k166]
 have o1:=h.top
 have hne:=w.ne
 obtain⟨n,hn⟩: ∃n,n=clI l i:=⟨_,rfl⟩
 have hnl:n<l.length:=hn ▸clI_lt w i
 rw[←hn]
 have hw:IntKind.i64.wrap ((l.length:Int)-1)=(l.length:Int)-1:=wrap64 (by omega) (by omega)
 have hmn:foldV min2V (.int .i64 i) [.int .i64 ((l.length:Int)-1)]=some (.int .i64 (min i ((l.length:Int)-1))):=by
  simp only[foldV,min2V,if_true,Option.bind_some]
  congr 2
  split<;>omega
 have hmx:foldV max2V (.int .i64 0) [.int .i64 (min i ((l.length:Int)-1))]=some (.int .i64 (n:Int)):=by
  simp only[foldV,max2V,if_true,Option.bind_some]
  unfold clI at hn
  congr 2
  split<;>omega
 simp[St.seg,o1,tree_seg74,hw,hmn,hmx]
 refine vc_loopJ (fun c env' st'=>∃(acc:List W32) (j:Int) (s:V),c=11-acc.length∧acc.length≤11∧acc++timesI l (11-acc.length) j=timesM l 11 n∧(0≤j→j<l.length)∧env' 1=.int .i64 j∧env' 5=s∧Sep [Sl 1 e32 s acc,Was st] st') 11
  ⟨[],n,.sl .nil [] 0,rfl,by simp,?_,by omega,by simp,by simp,(Sep.start st).slNil⟩ ?_
 ·simp[timesI];omega
 ·rintro J hJ c env' st2 hsame ⟨acc,j,s,rfl,hal,he,hj,g1,g5,S⟩
  have g0:=hsame.get 0 rfl
  simp at g0
  clear hsame
  have hsub:=S.was' (st0:=st) (by simp)
  have h2:=h.sub hsub
  have o1:=h2.top
  have o2:=h2.rows
  have hlen:=(Sep.rd e32_len S).len
  have hfin:acc=timesM l 11 n→ACalls P (F 164) [s] st2 fun v st'=>v=w32 (medianM l n)∧St.sub st st':=by
   intro e
   have hne2:acc≠[]:=by rw[e];exact timesM_ne hnl
   obtain⟨sid2,spare2,rfl,hs2,S⟩:=S.slObj hne2
   refine(spec164 ok S.get (by omega) hne2).mono ?_
   rintro v st3 ⟨rfl,rfl⟩
   have S:=S.setAt (.cells (rowsOf e32 (sorted32 acc)++spare2)) 0 rfl
   have hsub:=S.was' (st0:=st) (by simp)
   have em:middle32 acc=medianM l n:=by rw[e];rfl
   exact⟨by rw[em],hsub⟩
  by_cases hj0:0≤j
  ·by_cases ha:(acc.length:Int)<11
   ·obtain⟨q,rfl⟩: ∃q:Nat,j=q:=⟨j.toNat,by omega⟩
    have hq:q<l.length:=by have:=hj hj0;omega
    simp[g0,g1,g5,hlen,ha,St.seg,o1,o2,tree_seg74,hq,nd_time hq]
    have hfl:fillV (repV [w32 0#32] 1) [(0,1,w32 l[q].hdr.time)]=some (e32 l[q].hdr.time):=rfl
    simp[hfl]
    have hel:elems st2 1 (.sl .full (e32 l[q].hdr.time) 1)=some (e32 l[q].hdr.time,1):=rfl
    rw[hel]
    refine Sep.app1 e32_len (by omega) S rfl (by omega) ?_
    intro s' st3 S
    have h3:=h.sub (S.was' (st0:=st) (by simp))
    have o1:=h3.top
    have o2:=h3.rows
    simp[g0,g1,St.seg,o1,o2,tree_seg74,hq,nd_par hq]
    have e11:11-acc.length=(11-(acc.length+1))+1:=by omega
    refine Round.mk (11-(acc++[l[q].hdr.time]).length) _ (by simp;omega) (sub_self _) (hJ _ _ _ ⟨acc++[l[q].hdr.time],l[q].parent,s',rfl,by simp;omega,?_,?_,by simp,by simp,S⟩)
    ·rw[←he]
     have:timesI l (11-acc.length) (q:Int)=l[q].hdr.time::timesI l (11-(acc.length+1)) l[q].parent:=by
      rw[e11,←timesM_succ hq];simp[timesI];omega
     rw[this];simp
    ·intro hp
     rcases Nat.eq_zero_or_pos q with e | e
     ·subst e
      have:=(w.zero _ (List.getElem?_eq_getElem hq)).1
      omega
     ·have:=(w.succ q _ e (List.getElem?_eq_getElem hq)).2.1
      omega
   ·have e11:acc.length=11:=by omega
    have e:acc=timesM l 11 n:=by
     rw[e11]at he
     rw[←he]
     have:timesI l (11-11) j=[]:=by unfold timesI;split<;>rfl
     rw[this];simp
    simp[g0,g1,g5,hlen,ha,hj0]
    refine(hfin e).mono ?_
    rintro v st3 ⟨rfl,hs3⟩
    simp[hs3]
  ·have e:acc=timesM l 11 n:=by
     rw[←he]
     have:timesI l (11-acc.length) j=[]:=by unfold timesI;rw[if_pos (by omega)]
     rw[this];simp
   simp[g0,g1,g5,hj0]
   refine(hfin e).mono ?_
   rintro v st3 ⟨rfl,hs3⟩
   simp[hs3]
theorem checkM_ok {r:Rl}(h:checkM r=0):tgt r.limit≠none∧r.gen.bits=r.limit∧0≤r.every∧r.every≤1000∧1≤r.spacing∧r.spacing≤1048576∧0≤r.subsidy∧r.subsidy≤1125899906842624∧0≤r.work∧r.work≤1000:=by
 unfold checkM at h
 split at h
 ·cases h
 ·rename_i h1
  split at h
  ·cases h
  ·rename_i h2
   have:r.gen.bits=r.limit:=by
    by_cases e:r.gen.bits=r.limit
    ·exact e
    ·exact absurd (.inr e) h1
   exact⟨fun e=>h1 (.inl e),this,by omega,by omega,by omega,by omega,by omega,by omega,by omega,by omega⟩
set_option maxHeartbeats 1000000 in
theorem spec167 (ok:OkIndex P F){st:St}{tid:Nat}{r:Rl}{l:List Nd}(h:TreeR tid r l st)(w:Wf l)(hl:l.length≤16384)(hr:checkM r=0){i:Nat}(hi:i<l.length):ACalls P (F 167) [.ptr (some (tid,0)),.int .i64 (i:Nat)] st fun v st'=>v=w32 (nextM r l i)∧st'=st:=by
 have okh:=ok.toOkHead
 obtain⟨hr1,hr2,hr3,hr4,hr5,hr6,-,-⟩:=checkM_ok hr
 have hR:=h
 obtain⟨sid,mid,spare,es,h⟩:=h
 refine shows_call ok.mixed ok.h167 (by simp[k167]) ?_
 simp only[k167,z108_eq,eU_zero0]
 simp
 refine(spec161 ok hR w i).mono ?_
 rintro v st ⟨rfl,rfl⟩
 have hin:inI l i=i:=by unfold inI;rw[if_neg (by omega)];omega
 rw[hin]
 obtain⟨x,hx⟩: ∃x,x=nd l i:=⟨_,rfl⟩
 have hxh:x.height=hgt l i:=by rw[hx,nd_at hi,hgt_at hi]
 have hgl:=w.hgt_le hi
 rw[←hx]
 simp
 intro i5 h5
 have S:=(Sep.start st).new h5 (.cells (eNd nd0))
 have hsp: ∀x y,spliceV (eNd x) 0 (eNd y)=eNd y:=fun x y=>by simp[spliceV,eNd_len]
 simp[storeS,eNd_len,hsp]
 have S:=S.setAt (.cells (eNd x)) 0 rfl
 simp at S
 generalize st.upd i5 _=st1 at S⊢
 have hs1:=S.was' (st0:=st) (by simp)
 have ht:=h.sub hs1
 have o1:=ht.top
 have o5:=S.get
 obtain⟨E,hE⟩: ∃E:Nat,r.every=E:=⟨r.every.toNat,by omega⟩
 obtain⟨H,hH⟩: ∃H,H=x.height:=⟨_,rfl⟩
 have ohH:=osegHgt x
 rw[←hH]at ohH hxh
 have tev:=tree_every r (.hsl sid 0 108 l.length) (.map (some mid))
 rw[hE]at tev
 have hw1:IntKind.i64.wrap ((H:Int)+1)=(H:Int)+1:=wrap64 (by omega) (by omega)
 simp[St.seg,o1,tev]
 have hnx:nextM r l i=if E=0∨(H+1) % E≠0 then x.hdr.bits else(nextN x.hdr.bits ((x.hdr.time.toNat:Int)-(nd l (anc l i (H+1-E))).hdr.time.toNat) (r.every*r.spacing) (limitN r)).getD 0:=by
  unfold nextM
  simp only[←hx,←hH,hE]
  have e1:((H:Int)+1).tmod (E:Int)=(((H+1) % E:Nat):Int):=by
   rw[Int.tmod_eq_emod_of_nonneg (by omega)];push_cast;rfl
  have e2:(max 0 ((H:Int)+1-E)).toNat=H+1-E:=by omega
  rw[e1,e2]
  have e3:((E:Int)=0∨(((H+1) % E:Nat):Int)≠0)↔(E=0∨(H+1) % E≠0):=by omega
  by_cases c:(E=0∨(H+1) % E≠0)
  ·rw[if_pos c,if_pos (e3.2 c)]
  ·rw[if_neg c,if_neg (fun h=>c (e3.1 h))]
 by_cases hE0:E=0
 ·have:nextM r l i=x.hdr.bits:=by rw[hnx,if_pos (.inl hE0)]
  rw[this]
  have hE0':((E:Int)==0)=true:=by simp[hE0]
  simp[hE0,o5,osegBits,St.seg,hs1]
 ·have hem:((H:Int)+1).tmod (E:Int)=(((H+1) % E:Nat):Int):=by
    rw[Int.tmod_eq_emod_of_nonneg (by omega)];push_cast;rfl
  obtain⟨M,hM⟩: ∃M,M=(H+1) % E:=⟨_,rfl⟩
  have hMl:M<E:=hM ▸Nat.mod_lt _ (by omega)
  rw[←hM]at hem hnx
  have hem2:IntKind.i64.wrap ((((H:Int)+1)) % (E:Int))=(M:Int):=by
   rw[←Int.tmod_eq_emod_of_nonneg (by omega),hem];exact wrap64 (by omega) (by omega)
  have hem3:IntKind.i64.wrap ((((H:Int)+1)).tmod (E:Int))=(M:Int):=by
   rw[hem];exact wrap64 (by omega) (by omega)
  have hEb:((E:Int)==0)=false:=by simp;omega
  simp[hEb,hE0,o5,ohH,osegBits,St.seg,hw1,o1,tev,hem2,hem3]
  by_cases hM0:M=0
  ·rw[if_neg (by omega)]at hnx
   rw[hnx]
   have htb:(((H:Int)+1).tmod (E:Int) != 0)=false:=by rw[hem,hM0];rfl
   have hl0:=w.ne
   have hmn1:foldV min2V (.int .i64 (i:Nat)) [.int .i64 ((l.length:Int)-1)]=some (.int .i64 (i:Nat)):=by
    simp only[foldV,min2V,if_true,Option.bind_some]
    congr 2
    split<;>omega
   have hmx1:foldV max2V (.int .i64 0) [.int .i64 (i:Nat)]=some (.int .i64 (i:Nat)):=by
    simp only[foldV,max2V,if_true,Option.bind_some]
    congr 2
    split<;>omega
   obtain⟨K,hK⟩: ∃K,K=H+1-E:=⟨_,rfl⟩
   rw[←hK]
   have hmx2:foldV max2V (.int .i64 0) [.int .i64 ((H:Int)+1-(E:Int))]=some (.int .i64 (K:Nat)):=by
    simp only[foldV,max2V,if_true,Option.bind_some]
    congr 2
    split<;>omega
   have hw2:IntKind.i64.wrap ((l.length:Int)-1)=(l.length:Int)-1:=wrap64 (by omega) (by omega)
   have hw3:IntKind.i64.wrap ((H:Int)+1-(E:Int))=(H:Int)+1-(E:Int):=wrap64 (by omega) (by omega)
   have hKh:K≤hgt l i:=by omega
   have hal:=w.anc_lt (i:=i) (h:=K) hi
   obtain⟨A,hA⟩: ∃A,A=anc l i K:=⟨_,rfl⟩
   have ea:ancI l i K=(A:Nat):=by
    have h1:¬l.length≤i:=by omega
    have h2:¬hgt l i<K:=by omega
    have h3:¬((i:Int)<0):=by omega
    have h4:¬((K:Int)<0):=by omega
    simp[ancI,h1,h2,h3,h4,hA]
   rw[←hA]at hal⊢
   have TR1:TreeR tid r l st1:=⟨sid,mid,spare,es,ht⟩
   have o2:=ht.rows
   simp[htb,St.seg,o1,o5,tree_seg74,tev,ohH,hw1,hw2,hw3,hmn1,hmx1,hmx2]
   refine⟨_,spec158 ok TR1 w i K,?_⟩
   rw[ea]
   have hall:=nd_all (spare:=spare) hal
   rw[←nd_at hal]at hall
   simp[o2,hal,hall,St.seg]
   intro i6 h6
   have S:=S.new h6 (.cells (eNd nd0))
   simp[storeS,eNd_len,hsp]
   have S:=S.setAt (.cells (eNd (nd l A))) 0 rfl
   simp at S
   generalize st1.upd i6 _=st2 at S⊢
   have ht:=h.sub (S.was' (st0:=st) (by simp))
   have o1:=ht.top
   simp[St.seg,o1,tree_limit]
   refine(spec135 okh st2 r.limit).mono ?_
   rintro v st2 ⟨rfl,rfl⟩
   obtain⟨hA1,hA2⟩:=tgtR_get r.limit
   rw[hA1]
   have hlim:(natU ((tgt r.limit).getD 0)).toNat=limitN r:=hA2
   obtain⟨T,hT⟩: ∃T,T=natU ((tgt r.limit).getD 0):=⟨_,rfl⟩
   rw[←hT]at hlim⊢
   have hspU: ∀x y:U,spliceV (eU x) 0 (eU y)=eU y:=fun _ _=>rfl
   simp
   intro i7 h7
   have S:=S.new h7 (.cells (eU 0#256))
   simp[storeS,nU,eU_len,hspU]
   have S:=S.setAt (.cells (eU T)) 0 rfl
   simp at S
   generalize st2.upd i7 _=st3 at S⊢
   have hs3:=S.was' (st0:=st) (by simp)
   have ht:=h.sub hs3
   have o1:=ht.top
   have o7:=S.get
   have o6:=S.mem (i:=i6) (o:=.cells (eNd (nd l A))) (by simp)
   have o5:=S.mem (i:=i5) (o:=.cells (eNd x)) (by simp)
   have tsp:=tree_spacing r (.hsl sid 0 108 l.length) (.map (some mid))
   obtain⟨SP,hSP⟩: ∃n:Nat,r.spacing=n:=⟨r.spacing.toNat,by omega⟩
   rw[hSP]at tsp
   have hm:E*SP≤1000*1048576:=Nat.mul_le_mul (by omega) (by omega)
   obtain⟨Q,hQ⟩: ∃n:Int,n=(E:Int)*(SP:Int):=⟨_,rfl⟩
   have hQb:0≤Q∧Q≤1000*1048576:=by
    have:Q=((E*SP:Nat):Int):=by rw[hQ];push_cast;rfl
    omega
   have hw4:IntKind.i64.wrap Q=Q:=wrap64 (by omega) (by omega)
   have hx1:=x.hdr.time.isLt
   have hx2:=(nd l A).hdr.time.isLt
   have hw5:IntKind.i64.wrap ((x.hdr.time.toNat:Int)-((nd l A).hdr.time.toNat:Int))=(x.hdr.time.toNat:Int)-((nd l A).hdr.time.toNat:Int):=wrap64 (by omega) (by omega)
   simp[St.seg,o1,o5,o6,o7,osegBits,osegTime,tev,tsp,segU,hw5,←hQ,hw4]
   refine(spec138 okh st3 x.hdr.bits _ Q T (by omega)).mono ?_
   rintro v st3 ⟨rfl,rfl⟩
   rw[hE,hSP,←hQ,hlim]
   unfold nextR
   cases nextN x.hdr.bits ((x.hdr.time.toNat:Int)-((nd l A).hdr.time.toNat:Int)) Q (limitN r)<;>simp[hs3]
  ·rw[if_pos (.inr hM0)]at hnx
   rw[hnx]
   have htb:(((H:Int)+1).tmod (E:Int) != 0)=true:=by rw[hem];simp;omega
   simp[htb,o5,osegBits,St.seg,hs1]
set_option maxHeartbeats 1000000 in
theorem spec168 (ok:OkIndex P F){st:St}{tid:Nat}{r:Rl}{l:List Nd}(h:TreeR tid r l st)(w:Wf l)(hl:l.length≤16384)(hr:checkM r=0)(x:Hdr)(p now:Int):ACalls P (F 168) [.ptr (some (tid,0)),.agg (eHdr x),.int .i64 p,.int .i64 now] st fun v st'=>v=.int .i64 (fitsM r l x p now)∧st'=st:=by
 have okh:=ok.toOkHead
 obtain⟨sid,mid,spare,es,h⟩:=h
 refine shows_call ok.mixed ok.h168 (by simp[k168]) ?_
 simp only[k168]
 simp
 intro i5 h5
 have S:=(Sep.start st).new h5 (.cells (eHdr x))
 generalize st.upd i5 _=st1 at S⊢
 have hs1:=S.was' (st0:=st) (by simp)
 have ht:=h.sub hs1
 have o1:=ht.top
 have o2:=ht.rows
 have o5:=S.get
 have TR1:TreeR tid r l st1:=⟨sid,mid,spare,es,ht⟩
 by_cases h1:p<0
 ·have e:fitsM r l x p now=100:=by simp[fitsM,h1]
  simp[h1,e,hs1]
 ·by_cases h2:(l.length:Int)≤p
  ·have e:fitsM r l x p now=100:=by simp[fitsM,h2]
   simp[h1,h2,e,hs1,St.seg,o1,tree_seg74]
  ·obtain⟨n,rfl⟩: ∃n:Nat,p=n:=⟨p.toNat,by omega⟩
   have hn:n<l.length:=by omega
   have h2':¬l.length≤n:=by omega
   simp[h1,h2',St.seg,o1,o5,tree_seg74,hsegAll,tree_limit]
   refine(spec142 okh st1 x r.limit).mono ?_
   rintro v st1 ⟨rfl,rfl⟩
   obtain⟨pv,hpv⟩: ∃pv,pv=provedN x r.limit:=⟨_,rfl⟩
   rw[←hpv]
   by_cases hp:pv=0
   ·subst hp
    simp[St.seg,o1,o2,tree_seg74,hn,nd_fail hn]
    cases hf:l[n].failed with
    | true=>
      have e:fitsM r l x n now=101:=by
       simp[fitsM,h1,h2',←hpv,nd_at hn,hf]
      simp[e,hs1]
    | false=>
      simp[St.seg,o5,hsegBits]
      refine⟨_,spec167 ok TR1 w hl hr hn,?_⟩
      simp
      by_cases hb:x.bits=nextM r l n
      ·have hbb:(x.bits != nextM r l n)=false:=by simp[hb]
       simp[hbb,St.seg,o5,hsegTime]
       refine⟨_,spec166 ok TR1 w hl n,?_⟩
       rw[clI_of hn]
       simp
       by_cases hm:x.time≤medianM l n
       ·have e:fitsM r l x n now=102:=by
          simp[fitsM,h1,h2',←hpv,nd_at hn,hf,hb,hm]
        simp[hm,e,hs1]
       ·have htl:=x.time.isLt
        have hw:IntKind.i64.wrap ((x.time.toNat:Int)-7200)=(x.time.toNat:Int)-7200:=wrap64 (by omega) (by omega)
        by_cases hnw:now< (x.time.toNat:Int)-7200
        ·have e:fitsM r l x n now=103:=by
           simp[fitsM,h1,h2',←hpv,nd_at hn,hf,hb,hm,hnw]
         simp[hm,St.seg,o5,hsegTime,hw,hnw,e,hs1]
        ·have e:fitsM r l x n now=0:=by
           simp[fitsM,h1,h2',←hpv,nd_at hn,hf,hb,hm,hnw]
         simp[hm,St.seg,o5,hsegTime,hw,hnw,e,hs1]
      ·have hbb:(x.bits != nextM r l n)=true:=by simp[hb]
       have e:fitsM r l x n now=30:=by
        simp[fitsM,h1,h2',←hpv,nd_at hn,hf,hb]
       simp[hbb,e,hs1]
   ·have e:fitsM r l x n now=pv:=by
      simp[fitsM,h1,h2',←hpv,hp]
    have hpb:(pv != 0)=true:=by simp[hp]
    simp[hpb,e,hs1]
end
theorem Wf.neNil {l:List Nd}(w:Wf l):l≠[]:=by
 have:=w.ne
 rintro rfl
 simp at this
def setF (f:Nat→Bool)(l:List Nd):List Nd:=l.mapIdx fun j x=>if f j then{x with failed:=true}else x
section
variable {f:Nat→Bool} {l:List Nd}
@[simp] theorem setF_length:(setF f l).length=l.length:=by simp[setF]
theorem setF_get {i:Nat}(hi:i<l.length):(setF f l)[i]'(by simpa using hi)=if f i then{l[i]with failed:=true}else l[i]:=by simp[setF]
theorem setF_get? (i:Nat):(setF f l)[i]? =(l[i]?).map fun x=>if f i then{x with failed:=true}else x:=by simp[setF]
theorem setF_hgt (i:Nat):hgt (setF f l) i=hgt l i:=by
 unfold hgt
 rw[setF_get?]
 cases l[i]? with
 | none=>rfl
 | some x=>simp only[Option.map_some,Option.getD_some];split<;>rfl
theorem setF_par (i:Nat):par (setF f l) i=par l i:=by
 unfold par
 rw[setF_get?]
 cases l[i]? with
 | none=>rfl
 | some x=>simp only[Option.map_some,Option.getD_some];split<;>rfl
theorem setF_upN (n i:Nat):upN (setF f l) n i=upN l n i:=by
 induction n generalizing i with
 | zero=>rfl
 | succ n ih=>rw[upN,upN,setF_par,ih]
theorem setF_anc (i h:Nat):anc (setF f l) i h=anc l i h:=by rw[anc,anc,setF_hgt,setF_upN]
theorem setF_ancI (i h:Int):ancI (setF f l) i h=ancI l i h:=by simp[ancI,setF_hgt,setF_anc]
theorem setF_onB (i t:Int):onB (setF f l) i t=onB l i t:=by simp[onB,setF_hgt,setF_ancI]
theorem setF_wf (w:Wf l):Wf (setF f l):=by
 refine⟨by simpa using w.ne,fun x hx=>?_,fun i x hi hx=>?_,fun i x hi hx=>?_⟩
 ·rw[setF_get?]at hx
  cases h:l[0]? with
  | none=>rw[h]at hx;cases hx
  | some y=>
    rw[h]at hx
    have:=w.zero y h
    simp at hx
    rw[←hx]
    split<;>exact this
 ·rw[setF_get?]at hx
  cases h:l[i]? with
  | none=>rw[h]at hx;cases hx
  | some y=>
    rw[h]at hx
    have:=w.succ i y hi h
    simp at hx
    rw[←hx,setF_hgt]
    split<;>exact this
 ·rw[setF_get?]at hx
  cases h:l[i]? with
  | none=>rw[h]at hx;cases hx
  | some y=>
    rw[h]at hx
    have:=w.skip i y hi h
    simp at hx
    rw[←hx,setF_anc]
    split<;>exact this
theorem setF_find (id:Id):findM (setF f l) id=findM l id:=by
 have: ∀(l:List Nd) (f:Nat→Bool),findM (setF f l) id=findM l id:=by
  intro l
  induction l with
  | nil=>intro f;rfl
  | cons x l ih=>
    intro f
    have e:setF f (x::l)=(if f 0 then{x with failed:=true}else x)::setF (fun j=>f (j+1)) l:=by simp[setF,List.mapIdx_cons]
    rw[e,findM,findM,ih]
    split
    ·rfl
    ·split<;>rfl
 exact this l f
theorem setF_set {f:Nat→Bool}{l:List Nd}{k:Nat}(hk:k<l.length){g:Nat→Bool}(hg: ∀j,g j=(f j||(j==k))):(setF f l).set k {(setF f l)[k]'(by simpa using hk)with failed:=true}=setF g l:=by
 apply List.ext_getElem?
 intro i
 rw[List.getElem?_set,setF_get?,setF_get?]
 by_cases e:k=i
 ·subst e
  simp only[if_true,setF_length,hk,setF_get hk,hg,List.getElem?_eq_getElem hk,Option.map_some,beq_self_eq_true,Bool.or_true]
  split<;>rfl
 ·have:(i==k)=false:=by simp;omega
  simp[e,hg,this]
theorem setF_none:setF (fun _=>false) l=l:=by
 apply List.ext_getElem?
 intro i
 rw[setF_get?]
 cases l[i]?<;>rfl
end
def failM (l:List Nd)(i:Int):List Nd×Nat:=
 if i<1∨(l.length:Int)≤i then(l,0)
 else(setF (fun k=>onB l i k) l,((List.range l.length).filter fun(k:Nat)=>onB l i k&&!(nd l k).failed).length)
def failTo (l:List Nd)(i:Int)(k:Nat):List Nd:=setF (fun j=>decide (j<k)&&onB l i j) l
def failN (l:List Nd)(i:Int)(k:Nat):Nat:=((List.range k).filter fun(k:Nat)=>onB l i k&&!(nd l k).failed).length
theorem onB_self {l:List Nd}{i:Nat}(hi:i<l.length):onB l i i=true:=by
 have h1:¬l.length≤i:=by omega
 have h3:¬((i:Int)<0):=by omega
 have h4:¬((hgt l i:Int)<0):=by omega
 simp[onB,hi,ancI,h1,h3,h4,anc_self]
theorem onB_nat {l:List Nd}{i k:Nat}(hi:i<l.length)(hk:k<l.length):onB l i k=decide (hgt l i≤hgt l k∧anc l k (hgt l i)=i):=by
 have h1:¬l.length≤k:=by omega
 have h3:¬((k:Int)<0):=by omega
 have h4:¬((hgt l i:Int)<0):=by omega
 by_cases h:hgt l i≤hgt l k
 ·have h2:¬hgt l k<hgt l i:=by omega
  simp[onB,hi,ancI,h1,h2,h3,h4,h]
  rw[Bool.eq_iff_iff];simp;omega
 ·have h2:hgt l k<hgt l i:=by omega
  have:¬((-1:Int)=i):=by omega
  simp[onB,hi,ancI,h1,h2,h3,h4,h,this]
theorem onB_lt {l:List Nd}(w:Wf l){i k:Nat}(hi:i<l.length)(hk:k<i):onB l i k=false:=by
 rw[onB_nat hi (by omega)]
 have:=w.anc_le (i:=k) (h:=hgt l i) (by omega)
 simp;omega
theorem onB_par {l:List Nd}(w:Wf l){i k:Nat}(hi:i<k)(hk:k<l.length)(h:onB l i k=true):(i:Int)≤l[k].parent:=by
 rw[onB_nat (by omega) hk]at h
 simp at h
 have hp:=w.succ k _ (by omega) (List.getElem?_eq_getElem hk)
 by_cases e:hgt l i<hgt l k
 ·have h2:=w.anc_par hk e
  have:=w.anc_le (i:=par l k) (h:=hgt l i) (by have:=w.par_lt (i:=k) (by omega) hk;omega)
  have e2:=par_at hk
  omega
 ·have:hgt l i=hgt l k:=by omega
  rw[this,anc_self]at h
  omega
theorem failTo_start {l:List Nd}(w:Wf l){n:Nat}(hn:n<l.length):failTo l n n=l:=by
 unfold failTo
 have:(fun j=>decide (j<n)&&onB l n (j:Nat))=fun _=>false:=by
  funext j
  by_cases h:j<n
  ·simp[h,onB_lt w hn h]
  ·simp[h]
 rw[this,setF_none]
theorem failTo_get {l:List Nd}{n:Int}{k:Nat}(hk:k<l.length):(failTo l n k)[k]'(by simpa[failTo]using hk)=l[k]:=by
 simp[failTo,setF_get hk]
theorem failTo_length (l:List Nd)(n:Int)(k:Nat):(failTo l n k).length=l.length:=by simp[failTo]
theorem failTo_on {l:List Nd}{n k:Nat}(hk:k<l.length)(h:onB l n k=true):(failTo l n k).set k {l[k]with failed:=true}=failTo l n (k+1):=by
 have:=setF_set (f:=fun j=>decide (j<k)&&onB l n (j:Nat)) hk (g:=fun j=>decide (j<k+1)&&onB l n (j:Nat)) (fun j=>by
  by_cases e:j=k
  ·subst e;simp[h]
  ·by_cases e2:j<k
   ·simp[e2,e,show j<k+1 by omega]
   ·simp[e2,e,show¬j<k+1 by omega])
 have e:=failTo_get (n:=(n:Int)) hk
 unfold failTo at e⊢
 rw[e]at this
 exact this
theorem failTo_off {l:List Nd}{n k:Nat}(hk:k<l.length)(h:onB l n k=false∨l[k].failed=true):failTo l n (k+1)=failTo l n k:=by
 apply List.ext_getElem?
 intro j
 unfold failTo
 rw[setF_get?,setF_get?]
 by_cases e:j=k
 ·subst e
  rw[List.getElem?_eq_getElem hk]
  rcases h with h | h
  ·simp[h]
  ·simp only[Option.map_some]
   have:{l[j]with failed:=true}=l[j]:=by
    cases hx:l[j];rw[hx]at h;simp at h;rw[h]
   rw[this]
   simp
 ·have:decide (j<k+1)=decide (j<k):=by
    rw[decide_eq_decide];omega
  rw[this]
theorem failN_start {l:List Nd}(w:Wf l){n:Nat}(hn:n<l.length):failN l n n=0:=by
 unfold failN
 rw[List.length_eq_zero_iff,List.filter_eq_nil_iff]
 intro k hk
 simp at hk
 simp[onB_lt w hn hk]
theorem failN_succ {l:List Nd}{n k:Nat}(hk:k<l.length):failN l n (k+1)=failN l n k+if onB l n k=true∧l[k].failed=false then 1 else 0:=by
 unfold failN
 rw[List.range_succ,List.filter_append,List.length_append]
 congr 1
 have e:=nd_at hk
 by_cases h1:onB l n k=true
 ·cases h2:l[k].failed<;>simp[h1,h2,e]
 ·simp[h1]
theorem failN_le (l:List Nd)(n:Int)(k:Nat):failN l n k≤k:=by
 unfold failN
 have:=List.length_filter_le (fun(k:Nat)=>onB l n k&&!(nd l k).failed) (List.range k)
 simpa using this
section
variable {P:Program} {F:Fn}
set_option maxHeartbeats 1000000 in
theorem spec169 (ok:OkIndex P F){g:St}{tid:Nat}{r:Rl}{l:List Nd}(T:TreeS tid r l g)(w:Wf l)(hl:l.length≤16384)(hr:checkM r=0)(x:Hdr)(now:Int):
  ACalls P (F 169) [.ptr (some (tid,0)),.agg (eHdr x),.int .i64 now] g fun v st'=>v=.tup [.int .i64 (addM r l x now).2.1,.int .i64 (addM r l x now).2.2]∧TreeS tid r (addM r l x now).1 st':=by
 have okh:=ok.toOkHead
 refine shows_call ok.mixed ok.h169 (by simp[k169]) ?_
 simp only[k169]
 simp
 intro i4 h4
 have S:=(Sep.one T).new h4 (.cells (eHdr x))
 generalize g.upd i4 _=st1 at S⊢
 have TR:=S.swap.treeR w.neNil
 obtain⟨sid,mid,spare,es,ht⟩:=id TR
 have o1:=ht.top
 have o4:=S.get
 have hfin: ∃s,St.sub s st1∧TreeS tid r l s:=by
  obtain⟨h',k1,k2⟩:=S.swap.part
  exact⟨h',k1,k2⟩
 have hlk:=fun k=>lookup_lk keyed_id (ev:=kInt) ht.by_ (.int .i64 0) k
 simp only[ht.look,kId]at hlk
 simp[St.seg,o1,o4,tree_seg75,hsegAll]
 refine⟨_,spec141 okh st1 x,?_⟩
 simp[hlk]
 cases hf:findM l (hId x)with
 | some i=>
   have e:addM r l x now=(l,(i:Int),5):=by simp[addM,hf]
   simp[e,kInt,hfin]
 | none=>
   simp[St.seg,o1,o4,tree_seg75,hsegPrev,hlk,kInt]
   cases hf2:findM l x.prev with
   | none=>
     have e:addM r l x now=(l,-1,100):=by simp[addM,hf,hf2]
     simp[e,hfin]
   | some p=>
     have hp:=findM_lt hf2
     simp[St.seg,o4,hsegAll]
     refine(spec168 ok TR w hl hr x p now).mono ?_
     rintro v st1 ⟨rfl,rfl⟩
     obtain⟨fv,hfv⟩: ∃fv,fv=fitsM r l x p now:=⟨_,rfl⟩
     rw[←hfv]
     by_cases hz:fv=0
     ·subst hz
      simp[St.seg,o1,tree_seg74]
      by_cases hfull:l.length=16384
      ·have e:addM r l x now=(l,-1,3):=by simp[addM,hf,hf2,←hfv,hfull]
       have hb:((l.length:Int)==16384)=true:=by simp[hfull]
       simp[hb,e,hfin]
      ·have e:addM r l x now=(l++[ndOf l x p],(l.length:Int),0):=by simp[addM,hf,hf2,←hfv,hfull]
       have hb:((l.length:Int)==16384)=false:=by simp;omega
       simp[hb,e,St.seg,o4,hsegAll]
       have hpi:(p:Int)=-1∨(0≤(p:Int)∧(p:Int)<l.length):=by omega
       have hpm:putM l x p=ndOf l x p:=by simp[putM];omega
       refine(Sep.call S.swap (fun h hh=>spec156 ok hh (fun _=>w) hl x p hpi)).mono ?_
       intro v st2 S2
       obtain⟨h',k1,rfl,k2⟩:=S2.part
       rw[hpm]at k2
       simp
       exact⟨h',k1,k2⟩
     ·have e:addM r l x now=(l,-1,fv):=by simp[addM,hf,hf2,←hfv,hz]
      have hb:(fv != 0)=true:=by simp[hz]
      simp[hb,e,hfin]
set_option maxHeartbeats 1000000 in
theorem spec170 (ok:OkIndex P F){g:St}{tid:Nat}{r:Rl}{l:List Nd}(T:TreeS tid r l g)(w:Wf l)(hl:l.length≤16384)(i:Int):
  ACalls P (F 170) [.ptr (some (tid,0)),.int .i64 i] g fun v st'=>v=.int .i64 ((failM l i).2:Nat)∧TreeS tid r (failM l i).1 st':=by
 refine shows_call ok.mixed ok.h170 (by simp[k170]) ?_
 simp only[k170]
 have TR:=T.toR w.neNil
 obtain⟨sid0,mid0,spare0,es0,ht⟩:=id TR
 have o1:=ht.top
 have hfin: ∃s,St.sub s g∧TreeS tid r l s:=⟨g,sub_self _,T⟩
 by_cases h1:i<1
 ·have e:failM l i=(l,0):=by simp[failM,h1]
  simp[h1,e,hfin]
 ·by_cases h2:(l.length:Int)≤i
  ·have e:failM l i=(l,0):=by simp[failM,h2]
   simp[h1,h2,St.seg,o1,tree_seg74,e,hfin]
  ·obtain⟨n,rfl⟩: ∃n:Nat,i=n:=⟨i.toNat,by omega⟩
   have hn:n<l.length:=by omega
   have h2':¬l.length≤n:=by omega
   have e:failM l n=(failTo l n l.length,failN l n l.length):=by
    unfold failM failTo failN
    rw[if_neg (by omega)]
    congr 1
    apply List.ext_getElem?
    intro k
    rw[setF_get?,setF_get?]
    cases h:l[k]? with
    | none=>rfl
    | some x=>
      have:=(List.getElem?_eq_some_iff.1 h).1
      simp[this]
   rw[e]
   simp[h1,h2',St.seg,o1,tree_seg74]
   clear ht o1 e hfin TR
   obtain⟨s,mid,es,S,hlk⟩:=T
   obtain⟨sid,spare,rfl,hsp1,S⟩:=S.slObj w.neNil
   refine vc_loopJ (fun c env' st'=>∃k:Nat,n≤k∧k≤l.length∧c=l.length-k∧env' 6=.int .i64 (k:Nat)∧env' 5=.int .i64 (failN l n k:Nat)∧Sep [pt sid (.cells (rowsOf eNd (failTo l n k)++spare)),pt tid (.cells (eRl r++[.hsl sid 0 108 l.length,.map (some mid)])),pt mid (.mp (encM kId kInt es))] st') (l.length-n)
    ⟨n,Nat.le_refl _,by omega,rfl,by simp,by simp[failN_start w hn],by rw[failTo_start w hn];exact S⟩ ?_
   clear S
   rintro J hJ c env' st2 hsame ⟨k,hnk,hkl,rfl,g6,g5,S⟩
   have g0:=hsame.get 0 rfl
   have g1:=hsame.get 1 rfl
   simp at g0 g1
   clear hsame
   have o1:=S.mem (i:=tid) (o:=.cells (eRl r++[.hsl sid 0 108 l.length,.map (some mid)])) (by simp)
   have o2:=S.get
   have hfl:=failTo_length l n k
   have hlk': ∀id,lk id es=(findM (failTo l n k) id).map fun(i:Nat)=>(i:Int):=fun id=>by rw[hlk];unfold failTo;rw[setF_find]
   have TR:TreeR tid r (failTo l n k) st2:=⟨sid,mid,spare,es,by rw[hfl];exact o1,o2,S.mem (i:=mid) (by simp),hsp1,hlk'⟩
   have wk:Wf (failTo l n k):=setF_wf w
   by_cases hlt:k<l.length
   ·have hkf:k< (failTo l n k).length:=by rw[hfl];exact hlt
    have ek:=failTo_get (n:=(n:Int)) hlt
    have s1:=nd_fail (spare:=spare) hkf
    have s2:=nd_par (spare:=spare) hkf
    rw[ek]at s1 s2
    have hsucc:=failN_succ (n:=n) hlt
    have hle:=failN_le l n k
    have hw6:IntKind.i64.wrap ((k:Int)+1)=(k:Int)+1:=wrap64 (by omega) (by omega)
    have hw5:IntKind.i64.wrap ((failN l n k:Int)+1)=(failN l n k:Int)+1:=wrap64 (by omega) (by omega)
    have hoff:(onB l n k=false∨l[k].failed=true)→J (l.length-(k+1))=J (l.length-(k+1))∧failTo l n (k+1)=failTo l n k∧failN l n (k+1)=failN l n k:=by
     intro h
     refine⟨rfl,failTo_off hlt h,?_⟩
     rw[hsucc]
     rcases h with h | h<;>simp[h]
    have honB: ∀t:Int,onB (failTo l n k) (n:Nat) t=onB l n t:=fun t=>setF_onB _ _
    have hrows:=rowsOf_length eNd_len (failTo l n k)
    have p1:=rowsOf_splice eNd_len (failTo l n k) spare hkf (o:=107) (vs:=[.bool true]) (by simp) (a:={l[k]with failed:=true}) (by rw[ek,spl_fail])
    have hst:storeS st2 1 (.ptr (some (sid,k*108+107))) (.bool true)=some (st2.upd sid (.cells (rowsOf eNd ((failTo l n k).set k {l[k]with failed:=true})++spare))):=by
     simp only[storeS,o2,cells_bool]
     rw[if_pos (by rw[List.length_append,hrows,hfl];simp;omega),p1]
    cases hf:l[k].failed with
    | true=>
      obtain⟨-,e1,e2⟩:=hoff (.inr hf)
      rw[hf]at s1
      simp[g0,g1,g6,hlt,St.seg,o1,o2,tree_seg74,s1,hw6]
      exact Round.mk (l.length-(k+1)) _ (by omega) (sub_self _) (hJ _ _ _ ⟨k+1,by omega,by omega,rfl,by simp,by simp[e2,g5],by rw[e1];exact S⟩)
    | false=>
      rw[hf]at s1
      have hon:onB l n k=true→Sep [pt sid (.cells (rowsOf eNd (failTo l n (k+1))++spare)),pt tid (.cells (eRl r++[.hsl sid 0 108 l.length,.map (some mid)])),pt mid (.mp (encM kId kInt es))] (st2.upd sid (.cells (rowsOf eNd ((failTo l n k).set k {l[k]with failed:=true})++spare)))∧failN l n (k+1)=failN l n k+1:=by
       intro h
       refine⟨?_,by rw[hsucc];simp[h,hf]⟩
       rw[←failTo_on hlt h]
       exact S.set _
      by_cases hkn:k=n
      ·obtain⟨S2,e2⟩:=hon (by rw[hkn];exact onB_self hn)
       have hb:((k:Int)==(n:Int))=true:=by simp[hkn]
       simp[g0,g1,g6,hlt,St.seg,o1,o2,tree_seg74,s1,hw6,hb,hst,g5,hw5]
       exact Round.mk (l.length-(k+1)) _ (by omega) (sub_self _) (hJ _ _ _ ⟨k+1,by omega,by omega,rfl,by simp,by simp[e2],S2⟩)
      ·have hb:((k:Int)==(n:Int))=false:=by simp;omega
       by_cases hpar:(n:Int)≤l[k].parent
       ·simp[g0,g1,g6,hlt,St.seg,o1,o2,tree_seg74,s1,s2,hw6,hb,hpar]
        refine(spec163 ok TR wk n k).mono ?_
        rintro v st2 ⟨rfl,rfl⟩
        rw[honB]
        cases hbn:onB l n k with
        | true=>
          obtain⟨S2,e2⟩:=hon hbn
          simp[hst,g5,g6,hw5,hw6]
          exact Round.mk (l.length-(k+1)) _ (by omega) (sub_self _) (hJ _ _ _ ⟨k+1,by omega,by omega,rfl,by simp,by simp[e2],S2⟩)
        | false=>
          obtain⟨-,e1,e2⟩:=hoff (.inl hbn)
          simp[g6,hw6]
          exact Round.mk (l.length-(k+1)) _ (by omega) (sub_self _) (hJ _ _ _ ⟨k+1,by omega,by omega,rfl,by simp,by simp[e2,g5],by rw[e1];exact S⟩)
       ·have hbn:onB l n k=false:=by
          cases h:onB l n k with
          | false=>rfl
          | true=>exact absurd (onB_par w (by omega) hlt h) hpar
        obtain⟨-,e1,e2⟩:=hoff (.inl hbn)
        simp[g0,g1,g6,hlt,St.seg,o1,o2,tree_seg74,s1,s2,hw6,hb,hpar]
        exact Round.mk (l.length-(k+1)) _ (by omega) (sub_self _) (hJ _ _ _ ⟨k+1,by omega,by omega,rfl,by simp,by simp[e2,g5],by rw[e1];exact S⟩)
   ·have hkl':k=l.length:=by omega
    subst hkl'
    simp[g0,g6,g5,St.seg,o1,tree_seg74]
    have hS:=Sep.ofObj S hsp1
    rw[hfl]at hS
    refine⟨_,sub_self _,_,mid,es,hS,hlk'⟩
end
theorem eRl_drop5 (r:Rl):(eRl r).drop 5=eHdr r.gen++[r.txs]:=rfl
theorem rseg (r:Rl){o n:Nat}{ys:List V}(h:((eRl r).drop o).take n=ys)(hl:o+n≤74):segOf (eRl r) o n=some ys:=by
 unfold segOf
 rw[if_pos (by rw[eRl_len];exact hl),h]
theorem rsegLimit (r:Rl):segOf (eRl r) 0 1=some [w32 r.limit]:=rseg r rfl (by omega)
theorem rsegEvery (r:Rl):segOf (eRl r) 1 1=some [.int .i64 r.every]:=rseg r rfl (by omega)
theorem rsegSpacing (r:Rl):segOf (eRl r) 2 1=some [.int .i64 r.spacing]:=rseg r rfl (by omega)
theorem rsegSubsidy (r:Rl):segOf (eRl r) 3 1=some [.int .i64 r.subsidy]:=rseg r rfl (by omega)
theorem rsegWork (r:Rl):segOf (eRl r) 4 1=some [.int .i64 r.work]:=rseg r rfl (by omega)
theorem rsegBits (r:Rl):segOf (eRl r) 71 1=some [w32 r.gen.bits]:=rseg r (by
 rw[show 71=5+66 from rfl,←List.drop_drop,eRl_drop5,List.drop_append_of_le_length (by rw[eHdr_len];omega),hdrop66];rfl) (by omega)
theorem rsegGen (r:Rl):segOf (eRl r) 5 68=some (eHdr r.gen):=rseg r (by
 rw[eRl_drop5,←eHdr_len r.gen,List.take_left]) (by omega)
theorem rsegAll (r:Rl):segOf (eRl r) 0 74=some (eRl r):=rseg r (by rw[List.drop_zero,←eRl_len r,List.take_length]) (by omega)
section
variable {P:Program} {F:Fn}
set_option maxHeartbeats 1000000 in
theorem spec154 (ok:OkIndex P F)(st:St)(r:Rl):ACalls P (F 154) [.agg (eRl r)] st fun v st'=>v=.int .i64 (checkM r)∧st'=st:=by
 have okh:=ok.toOkHead
 refine shows_call ok.mixed ok.h154 (by simp[k154]) ?_
 simp only[k154,eU_zero0]
 simp
 intro i1 h1
 have S:=(Sep.start st).new h1 (.cells (eRl r))
 generalize st.upd i1 _=st1 at S⊢
 have o1:=S.get
 simp[St.seg,o1,rsegLimit]
 refine(spec135 okh st1 r.limit).mono ?_
 rintro v st1 ⟨rfl,rfl⟩
 obtain⟨hA1,hA2⟩:=tgtR_get r.limit
 rw[hA1]
 have hspU: ∀x y:U,spliceV (eU x) 0 (eU y)=eU y:=fun _ _=>rfl
 simp
 intro i3 h3
 have S:=S.new h3 (.cells (eU 0#256))
 simp[storeS,nU,eU_len,hspU]
 have S:=S.setAt (.cells (eU (natU ((tgt r.limit).getD 0)))) 0 rfl
 simp at S
 generalize st1.upd i3 _=st2 at S⊢
 have o1:=S.mem (i:=i1) (o:=.cells (eRl r)) (by simp)
 have hs:=S.was' (st0:=st) (by simp)
 cases ht:tgt r.limit with
 | none=>
   have e:checkM r=30:=by simp[checkM,ht]
   simp[e,hs]
 | some T=>
   by_cases hb:r.gen.bits=r.limit
   ·have hbb:(r.gen.bits != r.limit)=false:=by simp[hb]
    by_cases c0:r.every<0
    ·have e:checkM r=1:=by simp[checkM,ht,hb,c0]
     simp[hbb,e,c0,St.seg,o1,rsegLimit,rsegEvery,rsegSpacing,rsegSubsidy,rsegWork,rsegBits,hs]
    by_cases c1:1000<r.every
    ·have e:checkM r=1:=by simp[checkM,ht,hb,c1]
     simp[hbb,e,c0,c1,St.seg,o1,rsegLimit,rsegEvery,rsegSpacing,rsegSubsidy,rsegWork,rsegBits,hs]
    by_cases c2:r.spacing<1
    ·have e:checkM r=1:=by simp[checkM,ht,hb,c2]
     simp[hbb,e,c0,c1,c2,St.seg,o1,rsegLimit,rsegEvery,rsegSpacing,rsegSubsidy,rsegWork,rsegBits,hs]
    by_cases c3:1048576<r.spacing
    ·have e:checkM r=1:=by simp[checkM,ht,hb,c3]
     simp[hbb,e,c0,c1,c2,c3,St.seg,o1,rsegLimit,rsegEvery,rsegSpacing,rsegSubsidy,rsegWork,rsegBits,hs]
    by_cases c4:r.subsidy<0
    ·have e:checkM r=1:=by simp[checkM,ht,hb,c4]
     simp[hbb,e,c0,c1,c2,c3,c4,St.seg,o1,rsegLimit,rsegEvery,rsegSpacing,rsegSubsidy,rsegWork,rsegBits,hs]
    by_cases c5:1125899906842624<r.subsidy
    ·have e:checkM r=1:=by simp[checkM,ht,hb,c5]
     simp[hbb,e,c0,c1,c2,c3,c4,c5,St.seg,o1,rsegLimit,rsegEvery,rsegSpacing,rsegSubsidy,rsegWork,rsegBits,hs]
    by_cases c6:r.work<0
    ·have e:checkM r=1:=by simp[checkM,ht,hb,c6]
     simp[hbb,e,c0,c1,c2,c3,c4,c5,c6,St.seg,o1,rsegLimit,rsegEvery,rsegSpacing,rsegSubsidy,rsegWork,rsegBits,hs]
    by_cases c7:1000<r.work
    ·have e:checkM r=1:=by simp[checkM,ht,hb,c7]
     simp[hbb,e,c0,c1,c2,c3,c4,c5,c6,c7,St.seg,o1,rsegLimit,rsegEvery,rsegSpacing,rsegSubsidy,rsegWork,rsegBits,hs]
    have e:checkM r=0:=by simp[checkM,ht,hb,c0,c1,c2,c3,c4,c5,c6,c7]
    simp[hbb,e,c0,c1,c2,c3,c4,c5,c6,c7,St.seg,o1,rsegLimit,rsegEvery,rsegSpacing,rsegSubsidy,rsegWork,rsegBits,hs]
   ·have hbb:(r.gen.bits != r.limit)=true:=by simp[hb]
    have e:checkM r=30:=by simp[checkM,hb]
    simp[hbb,e,St.seg,o1,rsegLimit,rsegBits,hs]
set_option maxHeartbeats 1000000 in
theorem spec155 (ok:OkIndex P F)(st:St)(r:Rl):ACalls P (F 155) [.agg (eRl r)] st fun v st'=>
  if checkM r=0 then∃tid,v=.tup [.ptr (some (tid,0)),.int .i64 0]∧Sep [TreeS tid r (newM r),Was st] st' else v=.tup [.ptr none,.int .i64 (checkM r)]∧st'=st:=by
 have okh:=ok.toOkHead
 refine shows_call ok.mixed ok.h155 (by simp[k155]) ?_
 simp only[k155]
 simp
 intro i1 h1
 have S:=(Sep.start st).new h1 (.cells (eRl r))
 generalize st.upd i1 _=st1 at S⊢
 have o1:=S.get
 have hs:=S.was' (st0:=st) (by simp)
 simp[St.seg,o1,rsegAll]
 refine(spec154 ok st1 r).mono ?_
 rintro v st1 ⟨rfl,rfl⟩
 by_cases hc:checkM r=0
 ·simp[hc,St.seg,o1,rsegAll]
  intro i12 h12
  have S:=S.new h12 (.mp [])
  generalize st1.upd i12 _=st2 at S⊢
  have hfl:fillV z76_2d2c [(0,74,.agg (eRl r)),(75,1,.map (some i12))]=some (eRl r++[.sl .nil [] 0,.map (some i12)]):=by
   have hz:z76_2d2c=z76_2d2c.take 74++[.sl .nil [] 0,.map none]:=rfl
   have hl:(z76_2d2c.take 74).length=74:=rfl
   have e1:spliceV z76_2d2c 0 (eRl r)=eRl r++[.sl .nil [] 0,.map none]:=by
    unfold spliceV
    rw[List.take_zero,List.nil_append,Nat.zero_add,eRl_len];rfl
   have e2:spliceV (eRl r++[.sl .nil [] 0,.map none]) 75 [.map (some i12)]=eRl r++[.sl .nil [] 0,.map (some i12)]:=by
    rw[show 75=74+1 from rfl,splice_right (eRl_len r)];rfl
   have hz2:z76_2d2c.length=76:=rfl
   simp[fillV,eRl_len,hz2,e1,e2]
  simp[hfl]
  intro i14 h14
  have S:=S.new h14 (.cells (eRl r++[.sl .nil [] 0,.map (some i12)]))
  generalize st2.upd i14 _=st3 at S⊢
  have o1:=S.mem (i:=i1) (o:=.cells (eRl r)) (by simp)
  have S:=Sep.slNil (sz:=108) (f:=eNd) S
  have S:Sep [All [Sl 108 eNd (.sl .nil [] 0) [],pt i14 (.cells (eRl r++[.sl .nil [] 0,.map (some i12)])),pt i12 (.mp [])],pt i1 (.cells (eRl r)),Was st] st3:=Sep.all (L1:=[_,_,_]) S
  have S:Sep [TreeS i14 r [],pt i1 (.cells (eRl r)),Was st] st3:=S.head fun h hh=>⟨_,i12,[],hh,fun k=>rfl⟩
  simp[St.seg,o1,rsegGen]
  refine(Sep.call S (fun h hh=>spec156 ok hh (fun h=>absurd rfl h) (by simp) r.gen (-1) (.inl rfl))).mono ?_
  intro v st4 S
  have S:=S.head (A':=TreeS i14 r (newM r)) fun h hh=>hh.2
  simp
  exact⟨_,sub_self _,Sep.tail (fun r hr=>hr.drop) S⟩
 ·have hcb:(checkM r != 0)=true:=by simp[hc]
  simp[hc,hcb,hs]
end
def rowP (sz:Nat)(s:V)(i:Nat):V:=(idxSlV sz s (.int .i64 (i:Int))).getD .junk
def fldP (o:Nat)(p:V):V:=(fldAV o p).getD .junk
section
variable {α:Type} {f:α→List V} {sz:Nat}
theorem Rd.row (hf: ∀a,(f a).length=sz){s:V}{l:List α}{st:St}(h:Rd sz f s l st){i:Nat}(hi:i<l.length):
  idxSlV sz s (.int .i64 (i:Int))=some (rowP sz s i)∧fldAV 0 (rowP sz s i)=some (rowP sz s i)∧ldCells st sz (rowP sz s i)=some (f l[i])∧
   ∀o n,o+n≤sz→fldAV o (rowP sz s i)=some (fldP o (rowP sz s i))∧ldCells st n (fldP o (rowP sz s i))=some (((f l[i]).drop o).take n):=by
 have hli:=hf l[i]
 rcases h with⟨k,rfl⟩ | ⟨sid,off,rfl,hs⟩
 ·have e:idxSlV sz (.sl k (rowsOf f l) l.length) (.int .i64 (i:Int))=some (.eptr ((rowsOf f l).drop (i*sz))):=by simp[hi]
  have er:rowP sz (.sl k (rowsOf f l) l.length) i=.eptr ((rowsOf f l).drop (i*sz)):=by rw[rowP,e];rfl
  have hd:(rowsOf f l).drop (i*sz)=f l[i]++rowsOf f (l.drop (i+1)):=by
   rw[rowsOf_drop hf,List.drop_eq_getElem_cons hi,rowsOf_cons]
  rw[er]
  refine⟨e,by simp,?_,fun o n hon=>⟨by simp[fldP],?_⟩⟩
  ·rw[ld_eptr,rowsOf_eptr hf l hi]
  ·simp only[fldP,fldAV,Option.getD_some,ld_eptr]
   unfold segOf
   rw[hd,if_pos (by simp;omega),List.drop_zero,List.drop_append_of_le_length (by omega),List.take_append_of_le_length (by simp;omega)]
 ·have e:idxSlV sz (.hsl sid off sz l.length) (.int .i64 (i:Int))=some (.ptr (some (sid,off+i*sz))):=by simp[hi]
  have er:rowP sz (.hsl sid off sz l.length) i=.ptr (some (sid,off+i*sz)):=by rw[rowP,e];rfl
  have hrow:st.seg sid (off+i*sz) sz=some (f l[i]):=by
   rw[seg_at hs hi]
   have:=rowsOf_row hf l [] hi
   rw[List.append_nil]at this
   rw[this]
  rw[er]
  refine⟨e,by simp,by rw[ld_ptr,hrow],fun o n hon=>⟨by simp[fldP],?_⟩⟩
  simp only[fldP,fldAV,Option.getD_some,ld_ptr]
  unfold St.seg at hrow⊢
  have key: ∀cs:List V,segOf cs (off+i*sz) sz=some (f l[i])→segOf cs (off+i*sz+o) n=some (((f l[i]).drop o).take n):=fun cs hc=>by
   unfold segOf at hc⊢
   split at hc
   ·rename_i hle
    have hx:=Option.some.inj hc
    rw[if_pos (by omega),←hx,List.drop_take,List.drop_drop,List.take_take,Nat.min_eq_left (by omega)]
   ·cases hc
  split at hrow<;>first | exact key _ hrow | cases hrow
end
abbrev Rw:=Nd×SK×List Bool
structure In1 where
 tx:Id
 ix:W32
 kk:SK
 key:List UInt8
structure Out1 where
 amt:Int
 lock:Id
structure Tx1 where
 ik:SK
 ins:List In1
 uk:SK
 outs:List Out1
def eIn (x:In1):List V:=eId x.tx++[w32 x.ix,keyV x.kk x.key]
def eOut (x:Out1):List V:=.int .i64 x.amt::eId x.lock
theorem eIn_len (x:In1):(eIn x).length=34:=by simp[eIn,eId_len]
theorem eOut_len (x:Out1):(eOut x).length=33:=by simp[eOut,eId_len]
def insV (t:Tx1):V:=.sl t.ik (rowsOf eIn t.ins) t.ins.length
def outsV (t:Tx1):V:=.sl t.uk (rowsOf eOut t.outs) t.outs.length
def eTx (t:Tx1):List V:=[insV t,outsV t]
theorem eTx_len (t:Tx1):(eTx t).length=2:=rfl
def inB (x:In1):List UInt8:=x.tx.toList++(putB 4 (x.ix.setWidth 64)++textB x.key)
def outB (x:Out1):List UInt8:=putB 8 (BitVec.ofInt 64 x.amt)++x.lock.toList
def txB (t:Tx1):List UInt8:=countB (BitVec.ofNat 64 t.ins.length)++(t.ins.flatMap inB++(countB (BitVec.ofNat 64 t.outs.length)++t.outs.flatMap outB))
def txIdM (t:Tx1):Id:=sha2 (txB t)
theorem rd_ins (t:Tx1)(st:St):Rd 34 eIn (insV t) t.ins st:=.inl ⟨t.ik,rfl⟩
theorem rd_outs (t:Tx1)(st:St):Rd 33 eOut (outsV t) t.outs st:=.inl ⟨t.uk,rfl⟩
theorem textB_len (l:List UInt8):(textB l).length≤l.length+9:=by
 have:=countB_len (BitVec.ofNat 64 l.length)
 rw[textB,List.length_append];omega
def Tx1.ok (t:Tx1)(n:Nat):Prop:=t.ins.length≤n∧t.outs.length≤n∧∀x∈t.ins,x.key.length≤1000
theorem fm_len {α β:Type}(f:α→List β)(n:Nat)(l:List α)(h: ∀x∈l,(f x).length≤n):(l.flatMap f).length≤l.length*n:=by
 induction l with
 | nil=>simp
 | cons a l ih=>
   have h1:=h a (by simp)
   have h2:=ih fun x hx=>h x (by simp[hx])
   rw[List.flatMap_cons,List.length_append,List.length_cons,Nat.add_mul]
   omega
theorem inB_len (x:In1)(h:x.key.length≤1000):(inB x).length≤1045:=by
 have:=textB_len x.key
 simp[inB,putB_len]
 omega
theorem outB_len (x:Out1):(outB x).length=40:=by simp[outB,putB_len]
theorem insegTx (x:In1):segOf (eIn x) 0 32=some (eId x.tx):=seg_of_drop (zs:=[w32 x.ix,keyV x.kk x.key]) rfl (eId_len _) (by omega)
theorem indrop (x:In1):(eIn x).drop 32=[w32 x.ix,keyV x.kk x.key]:=by rw[eIn,List.drop_left' (eId_len _)]
theorem insegKey (x:In1):segOf (eIn x) 33 1=some [keyV x.kk x.key]:=seg_of_drop (zs:=[]) (by rw[show 33=32+1 from rfl,←List.drop_drop,indrop];rfl) rfl (by omega)
theorem indrop33 (x:In1):(eIn x).drop 33=[keyV x.kk x.key]:=by rw[show 33=32+1 from rfl,←List.drop_drop,indrop];rfl
theorem idFill (x:Id):fillV (repV [V.sl SK.nil [] 0] 1) [(0,1,V.sl SK.full (List.take 32 (eId x)) 32)]=some [keyV .full x.toList]:=by
 have e:x.toList.length=32:=by simp
 rw[List.take_of_length_le (by rw[eId_len];omega),eId_rows,keyV,e]
 rfl
theorem ousegAmt (x:Out1):segOf (eOut x) 0 1=some [.int .i64 x.amt]:=by simp[segOf,eOut,eId_len]
section
variable {P:Program} {F:Fn}
theorem WrR.new {wid:Nat}{l:List UInt8}{L:List Asn}{st:St}(h:WrR wid l L st){i:Nat}(hi:st i=none)(o:AObj):WrR wid l (pt i o::L) (st.upd i o):=by
 obtain⟨s,S⟩:=h
 exact⟨s,(S.new hi o).swap.tail fun r h=>h.swap⟩
theorem WrR.mem {wid:Nat}{l:List UInt8}{L:List Asn}{st:St}(h:WrR wid l L st){i:Nat}{o:AObj}(hm:pt i o∈L):st i=some o:=by
 obtain⟨s,S⟩:=h
 exact S.mem (by simp[hm])
theorem WrR.setAt {wid:Nat}{l:List UInt8}{L:List Asn}{st:St}(h:WrR wid l L st){i:Nat}{o:AObj}(o':AObj)(n:Nat)(hn:L[n]? =some (pt i o)):WrR wid l (L.set n (pt i o')) (st.upd i o'):=by
 obtain⟨s,S⟩:=h
 exact⟨s,S.setAt o' (n+2) hn⟩
theorem WrR.tail {wid:Nat}{l:List UInt8}{L L':List Asn}{st:St}(h:WrR wid l L st)(hL: ∀r,Sep L r→Sep L' r):WrR wid l L' st:=by
 obtain⟨s,S⟩:=h
 exact⟨s,S.tail fun r h=>h.tail hL⟩
set_option maxHeartbeats 4000000 in
theorem spec201 (ok:OkTx P F){st:St}{wid:Nat}{l:List UInt8}{L:List Asn}(S:WrR wid l L st)(t:Tx1)(ht:t.ok 100)(hl:l.length≤400000):
  ACalls P (F 201) [.ptr (some (wid,0)),.agg (eTx t)] st fun v st'=>v=.tup []∧WrR wid (l++txB t) L st':=by
 refine shows_call ok.mixed ok.h201 (by simp[k201]) ?_
 simp only[k201]
 simp
 intro bid hb
 have S:=S.new hb (.cells (eTx t))
 generalize st.upd bid _=st1 at S⊢
 have o:=S.mem (i:=bid) (o:=.cells (eTx t)) (by simp)
 have hs0:segOf (eTx t) 0 1=some [insV t]:=rfl
 have hs1:segOf (eTx t) 1 1=some [outsV t]:=rfl
 have hn0:lenSlV (insV t)=some (.int .i64 t.ins.length):=rfl
 have hn1:lenSlV (outsV t)=some (.int .i64 t.outs.length):=rfl
 simp[St.seg,o,hs0,hn0]
 obtain⟨hti,hto,htk⟩:=ht
 have hc1:=countB_len (BitVec.ofNat 64 t.ins.length)
 have hc2:=countB_len (BitVec.ofNat 64 t.outs.length)
 refine(spec203 ok S (by omega) (BitVec.ofNat 64 t.ins.length)).mono ?_
 rintro v st2 ⟨rfl,S⟩
 have o:=S.mem (i:=bid) (o:=.cells (eTx t)) (by simp)
 simp[St.seg,o,hs0,hn0]
 have hfl: ∀i,((t.ins.take i).flatMap inB).length≤104500:=fun i=>by
  have:=fm_len inB 1045 (t.ins.take i) fun x hx=>inB_len x (htk x (List.mem_of_mem_take hx))
  rw[List.length_take]at this
  omega
 have hfo: ∀i,((t.outs.take i).flatMap outB).length≤4000:=fun i=>by
  have:=fm_len outB 40 (t.outs.take i) fun x hx=>by rw[outB_len];omega
  rw[List.length_take]at this
  omega
 refine vc_loopJ (fun c env' st'=>∃i,i≤t.ins.length∧c=t.ins.length-i∧env' 17=.int .i64 (i:Nat)∧WrR wid (l++countB (BitVec.ofNat 64 t.ins.length)++(t.ins.take i).flatMap inB) (pt bid (.cells (eTx t))::L) st') t.ins.length
  ⟨0,by omega,by omega,by simp,S.imp (by simp)⟩ ?_
 rintro J hJ c env' st3 hsame ⟨i,hi,rfl,h17,S⟩
 have g0:=(hsame.get 0 rfl).trans (by simp:_=V.ptr (some (wid,0)))
 have g3:=(hsame.get 3 rfl).trans (by simp:_=V.ptr (some (bid,0)))
 have g15:=(hsame.get 15 rfl).trans (by simp:_=insV t)
 have g16:=(hsame.get 16 rfl).trans (by simp:_=V.int .i64 (t.ins.length:Int))
 clear hsame
 by_cases hlt:i<t.ins.length
 ·have w1:IntKind.i64.wrap ((i:Int)+1)=(i:Int)+1:=wrap64 (by omega) (by omega)
  obtain⟨r1,r2,r3,r4⟩:=(rd_ins t st3).row eIn_len hlt
  obtain⟨A,hA⟩: ∃A,A=l++countB (BitVec.ofNat 64 t.ins.length)++(t.ins.take i).flatMap inB:=⟨_,rfl⟩
  have hAl:A.length≤505000:=by rw[hA,List.length_append,List.length_append];have:=hfl i;omega
  rw[←hA]at S
  obtain⟨x,hx⟩: ∃x,x=t.ins[i]:=⟨_,rfl⟩
  have hxk:=htk t.ins[i] (List.getElem_mem hlt)
  rw[←hx]at r3 hxk
  simp[g0,g3,g15,g16,h17,hlt,r1,r3]
  intro iid hiid
  have S:=S.new hiid (.cells z34_1838)
  have hst:storeS (st3.upd iid (.cells z34_1838)) 34 (.ptr (some (iid,0))) (.agg (eIn x))=some ((st3.upd iid (.cells z34_1838)).upd iid (.cells (spliceV z34_1838 0 (eIn x)))):=store_pt (by simp) rfl (eIn_len x) (by simp)
  rw[show spliceV z34_1838 0 (eIn x)=eIn x by simp[spliceV,eIn_len]]at hst
  have S:=S.setAt (.cells (eIn x)) 0 rfl
  simp[hst]
  simp at S
  generalize st3.upd iid (.cells (eIn x))=st4 at S⊢
  have o5:=S.mem (i:=iid) (o:=.cells (eIn x)) (by simp)
  have S:=S.setAt (.ro (eIn x)) 0 rfl
  simp[frzP,frzV,frzOb,o5]
  simp at S
  generalize st4.upd iid (.ro (eIn x))=st5 at S⊢
  have o5:=S.mem (i:=iid) (o:=.ro (eIn x)) (by simp)
  simp[slArrV,bounds,o5,insegTx,St.seg,g0]
  simp[idFill]
  have hxl:x.tx.toList.length=32:=by simp
  refine(spec204 ok S .full x.tx.toList (by omega)).mono ?_
  rintro v st6 ⟨rfl,S⟩
  have hsx:segOf [w32 x.ix,keyV x.kk x.key] 0 1=some [w32 x.ix]:=rfl
  have hsk:segOf [keyV x.kk x.key] 0 1=some [keyV x.kk x.key]:=rfl
  simp[g0,indrop,indrop33,hsx,hsk,w64_fill]
  refine(spec205 ok S (by rw[List.length_append];omega) 4 (by omega) (x.ix.setWidth 64)).mono ?_
  rintro v st7 ⟨rfl,S⟩
  simp[g0,indrop33,hsk]
  refine(spec206 ok S x.kk x.key (by rw[List.length_append,List.length_append,putB_len];omega)).mono ?_
  rintro v st8 ⟨rfl,S⟩
  simp[h17,w1]
  refine Round.mk (t.ins.length-(i+1)) _ (by omega) (sub_self _) (hJ _ _ _ ⟨i+1,by omega,rfl,by simp,?_⟩)
  refine WrR.imp (S.tail fun r h=>h.drop) ?_
  rw[List.take_succ_eq_append_getElem hlt,List.flatMap_append,List.flatMap_singleton,←hx,hA]
  simp[inB]
 ·have:i=t.ins.length:=by omega
  subst this
  have hni:¬((t.ins.length:Int)< (t.ins.length:Int)):=by omega
  rw[List.take_length]at S
  have hf1:=hfl t.ins.length
  rw[List.take_length]at hf1
  obtain⟨A,hA⟩: ∃A,A=l++countB (BitVec.ofNat 64 t.ins.length)++t.ins.flatMap inB:=⟨_,rfl⟩
  have hAl:A.length≤505000:=by rw[hA,List.length_append,List.length_append];omega
  rw[←hA]at S
  have o:=S.mem (i:=bid) (o:=.cells (eTx t)) (by simp)
  simp[g0,g3,g15,g16,h17,St.seg,o,hs1,hn1]
  refine(spec203 ok S (by omega) (BitVec.ofNat 64 t.outs.length)).mono ?_
  rintro v st4 ⟨rfl,S⟩
  have o:=S.mem (i:=bid) (o:=.cells (eTx t)) (by simp)
  simp[g3,St.seg,o,hs1,hn1]
  clear hJ J
  refine vc_loopJ (fun c env' st'=>∃i,i≤t.outs.length∧c=t.outs.length-i∧env' 48=.int .i64 (i:Nat)∧WrR wid (A++countB (BitVec.ofNat 64 t.outs.length)++(t.outs.take i).flatMap outB) (pt bid (.cells (eTx t))::L) st') t.outs.length
   ⟨0,by omega,by omega,by simp,S.imp (by simp)⟩ ?_
  rintro J hJ c env2 st5 hsame ⟨i,hi,rfl,h48,S⟩
  have q0:=(hsame.get 0 rfl).trans (by simp[g0]:_=V.ptr (some (wid,0)))
  have q46:=(hsame.get 46 rfl).trans (by simp:_=outsV t)
  have q47:=(hsame.get 47 rfl).trans (by simp:_=V.int .i64 (t.outs.length:Int))
  clear hsame
  by_cases hlt:i<t.outs.length
  ·have w1:IntKind.i64.wrap ((i:Int)+1)=(i:Int)+1:=wrap64 (by omega) (by omega)
   obtain⟨r1,r2,r3,r4⟩:=(rd_outs t st5).row eOut_len hlt
   obtain⟨x,hx⟩: ∃x,x=t.outs[i]:=⟨_,rfl⟩
   rw[←hx]at r3
   obtain⟨B,hB⟩: ∃B,B=A++countB (BitVec.ofNat 64 t.outs.length)++(t.outs.take i).flatMap outB:=⟨_,rfl⟩
   have hBl:B.length≤510000:=by rw[hB,List.length_append,List.length_append];have:=hfo i;omega
   rw[←hB]at S
   simp[q0,q46,q47,h48,hlt,r1,r3]
   intro iid hiid
   have S:=S.new hiid (.cells z33_0be4)
   have hst:storeS (st5.upd iid (.cells z33_0be4)) 33 (.ptr (some (iid,0))) (.agg (eOut x))=some ((st5.upd iid (.cells z33_0be4)).upd iid (.cells (spliceV z33_0be4 0 (eOut x)))):=store_pt (by simp) rfl (eOut_len x) (by simp)
   rw[show spliceV z33_0be4 0 (eOut x)=eOut x by simp[spliceV,eOut_len]]at hst
   have S:=S.setAt (.cells (eOut x)) 0 rfl
   simp[hst]
   simp at S
   generalize st5.upd iid (.cells (eOut x))=st6 at S⊢
   have o7:=S.mem (i:=iid) (o:=.cells (eOut x)) (by simp)
   simp[St.seg,o7,ousegAmt,w64_fill,q0]
   refine(spec205 ok S (by omega) 8 (by omega) (BitVec.ofInt 64 x.amt)).mono ?_
   rintro v st7 ⟨rfl,S⟩
   have o7:=S.mem (i:=iid) (o:=.cells (eOut x)) (by simp)
   have S:=S.setAt (.ro (eOut x)) 0 rfl
   simp[frzP,frzV,frzOb,o7]
   simp only[List.set_cons_zero]at S
   generalize st7.upd iid (.ro (eOut x))=st8 at S⊢
   have o7:=S.mem (i:=iid) (o:=.ro (eOut x)) (by simp)
   have hd1:(eOut x).tail=eId x.lock:=rfl
   have hsi:=segId0 x.lock
   simp[slArrV,bounds,o7,hd1,hsi,q0,idFill]
   have hxl:x.lock.toList.length=32:=by simp
   refine(spec204 ok S .full x.lock.toList (by rw[List.length_append,putB_len];omega)).mono ?_
   rintro v st9 ⟨rfl,S⟩
   simp[h48,w1]
   refine Round.mk (t.outs.length-(i+1)) _ (by omega) (sub_self _) (hJ _ _ _ ⟨i+1,by omega,rfl,by simp,?_⟩)
   refine WrR.imp (S.tail fun r h=>h.drop) ?_
   rw[List.take_succ_eq_append_getElem hlt,List.flatMap_append,List.flatMap_singleton,←hx,hB]
   simp[outB]
  ·have:i=t.outs.length:=by omega
   subst this
   simp[q0,q46,q47,h48]
   rw[List.take_length]at S
   exact⟨st5,sub_self _,WrR.imp (S.tail fun r h=>h.drop) (by rw[hA,txB];simp)⟩
end
theorem txB_len (t:Tx1)(h:t.ok 100):(txB t).length≤200000:=by
 have hc1:=countB_len (BitVec.ofNat 64 t.ins.length)
 have hc2:=countB_len (BitVec.ofNat 64 t.outs.length)
 have h1:=fm_len inB 1045 t.ins fun x hx=>inB_len x (h.2.2 x hx)
 have h2:=fm_len outB 40 t.outs fun x hx=>by rw[outB_len];omega
 have h3:=h.1
 have h4:=h.2.1
 rw[txB,List.length_append,List.length_append,List.length_append]
 omega
theorem partFill {s:V}(h:s.cells? =some [s]):fillV (repV [V.sl SK.nil [] 0] 1) [(0,1,s)]=some [s]:=by
 simp[fillV,h,spliceV,repV]
theorem idFill2 (a b:Id):fillV (repV [V.sl SK.nil [] 0] 2) [(0,1,V.sl SK.full (List.take 32 (eId a)) 32),(1,1,V.sl SK.full (List.take 32 (eId b)) 32)]=some [keyV .full a.toList,keyV .full b.toList]:=by
 have e1:a.toList.length=32:=by simp
 have e2:b.toList.length=32:=by simp
 rw[List.take_of_length_le (by rw[eId_len];omega),List.take_of_length_le (by rw[eId_len];omega),eId_rows,eId_rows,keyV,keyV,e1,e2]
 rfl
theorem Sep.ov {A:Asn}{L:List Asn}{st st':St}(h:Sep [A,Was st] st')(S:Sep L st):Sep (A::L) st':=by
 obtain⟨a,r,h1,h2,h3,h4⟩:=h
 exact⟨a,r,h1,h2,h3,S.sub (Sep.was h4)⟩
section
variable {P:Program} {F:Fn}
set_option maxHeartbeats 1000000 in
theorem spec200 (ok:OkTx P F)(st:St)(t:Tx1)(ht:t.ok 100):ACalls P (F 200) [.agg (eTx t)] st fun v st'=>Sep [Slx 1 e8 v (txB t),Was st] st':=by
 refine shows_call ok.mixed ok.h200 (by simp[k200]) ?_
 simp only[k200]
 simp
 intro bid hb
 have S:=(Sep.start st).new hb (.cells (eTx t))
 generalize st.upd bid _=st1 at S⊢
 simp
 intro wid hw
 have S:=S.slxNil (sz:=1) (f:=e8)
 have S:=S.new hw (.cells [.sl .nil [] 0])
 generalize st1.upd wid _=st2 at S⊢
 have o:=S.mem (i:=bid) (o:=.cells (eTx t)) (by simp)
 have hsg:segOf (eTx t) 0 2=some (eTx t):=rfl
 simp[St.seg,o,hsg]
 refine(spec201 ok ⟨_,S⟩ t ht (by simp)).mono ?_
 rintro v st3 ⟨rfl,S⟩
 simp
 have hl:=txB_len t ht
 refine(spec202 ok S (by simp;omega)).mono ?_
 rintro v st4 ⟨s,S⟩
 simp
 refine⟨st4,sub_self _,?_⟩
 simp at S
 exact S.tail fun r h=>h.drop.drop.drop
set_option maxHeartbeats 1000000 in
theorem spec198 (ok:OkTx P F)(st:St)(t:Tx1)(ht:t.ok 100):ACalls P (F 198) [.agg (eTx t)] st fun v st'=>v=.agg (eId (txIdM t))∧st'=st:=by
 refine shows_call ok.mixed ok.h198 (by simp[k198]) ?_
 simp only[k198]
 simp
 intro bid hb
 have S:=(Sep.start st).new hb (.cells (eTx t))
 generalize st.upd bid _=st1 at S⊢
 simp
 intro rid hr
 have S:=S.new hr (.cells zR32_w80)
 generalize st1.upd rid _=st2 at S⊢
 have o:=S.mem (i:=bid) (o:=.cells (eTx t)) (by simp)
 have hsg:segOf (eTx t) 0 2=some (eTx t):=rfl
 simp[St.seg,o,hsg]
 refine(spec200 ok st2 t ht).mono ?_
 rintro v st3 S1
 have S:=S1.ov S
 have hf:=partFill S.cells
 simp[hf]
 have hp:Parts st3 [v] [txB t]:=.cons (Sep.rd e8_len (S.head fun h hh=>hh.sl)) .nil
 have hl:=txB_len t ht
 refine(spec104 ok.toOkHead.toOkHash st3 hp .full (by simp;omega) (by simp)).mono ?_
 rintro v st4 ⟨rfl,rfl⟩
 have S:=S.drop
 have hst:=store_z32 S.get (txIdM t)
 have e:sha2 [txB t].flatten=txIdM t:=by simp[txIdM]
 rw[e]
 have S:=S.set (.cells (eId (txIdM t)))
 have hsg:=segId0 (txIdM t)
 simp[hst,St.seg,hsg]
 exact S.was' (by simp)
set_option maxHeartbeats 1000000 in
theorem spec207 (ok:OkTx P F)(st:St)(a b:Id):ACalls P (F 207) [.agg (eId a),.agg (eId b)] st fun v st'=>v=.agg (eId (sha2 (a.toList++b.toList)))∧st'=st:=by
 refine shows_call ok.mixed ok.h207 (by simp[k207]) ?_
 simp only[k207]
 simp
 intro i2 h2
 have S:=(Sep.start st).new h2 (.cells (eId a))
 generalize st.upd i2 _=st1 at S⊢
 simp
 intro i3 h3
 have S:=S.new h3 (.cells (eId b))
 generalize st1.upd i3 _=st2 at S⊢
 simp
 intro i4 h4
 have S:=S.new h4 (.cells zR32_w80)
 generalize st2.upd i4 _=st3 at S⊢
 have o2:=S.mem (i:=i2) (o:=.cells (eId a)) (by simp)
 have o3:=S.mem (i:=i3) (o:=.cells (eId b)) (by simp)
 have n32:=S.neq 1 2 rfl rfl (by omega)
 have S:=S.setAt (.ro (eId a)) 2 rfl
 have S:=S.setAt (.ro (eId b)) 1 rfl
 simp[frzP,frzV,frzOb,o2,o3,n32]
 simp only[List.set_cons_succ,List.set_cons_zero]at S
 generalize(st3.upd i2 (.ro (eId a))).upd i3 (.ro (eId b))=st5 at S⊢
 have ha:(eId a).length=32:=eId_len a
 have hb:(eId b).length=32:=eId_len b
 have hsa:=segId0 a
 have hsb:=segId0 b
 simp[slArrV,bounds,hsa,hsb]
 simp[idFill2]
 have hp:Parts st5 [keyV .full a.toList,keyV .full b.toList] [a.toList,b.toList]:=.cons (.inl ⟨.full,rfl⟩) (.cons (.inl ⟨.full,rfl⟩) .nil)
 refine(spec104 ok.toOkHead.toOkHash st5 hp .full (by simp) (by simp)).mono ?_
 rintro v st6 ⟨rfl,rfl⟩
 have e:[a.toList,b.toList].flatten=a.toList++b.toList:=by simp
 rw[e]
 obtain⟨x,hx⟩: ∃x,x=sha2 (a.toList++b.toList):=⟨_,rfl⟩
 rw[←hx]
 have hst:=store_z32 S.get x
 have S:=S.set (.cells (eId x))
 have hsg:=segId0 x
 simp[hst,St.seg,hsg]
 exact S.was' (by simp)
end
def pairM (a b:Id):Id:=sha2 (a.toList++b.toList)
def upM:List Id→List Id
 | a::b::r=>pairM a b::upM r
 | [a]=>[pairM a a]
 | []=>[]
def twinM:List Id→Bool
 | a::b::r=>decide (a=b)||twinM r
 | _=>false
theorem upM_len (l:List Id):(upM l).length=(l.length+1) / 2:=by
 fun_induction upM l with
 | case1 a b r ih=>simp[ih];omega
 | case2 a=>simp
 | case3=>simp
def rootF:Nat→List Id→Bool→Id×Bool
 | 0,l,tw=>(l.headD id0,tw)
 | n+1,l,tw=>if l.length≤1 then(l.headD id0,tw)else rootF n (upM l) (tw||twinM l)
theorem rootF_done (n:Nat)(l:List Id)(tw:Bool)(h:l.length≤1):rootF n l tw=(l.headD id0,tw):=by
 cases n with
 | zero=>rfl
 | succ n=>rw[rootF,if_pos h]
theorem rootF_more: ∀(n m:Nat) (l:List Id) (tw:Bool),l.length≤n+1→l.length≤m+1→rootF n l tw=rootF m l tw
 | 0,m,l,tw,h,_=>by rw[rootF_done _ _ _ (by omega),rootF_done _ _ _ (by omega)]
 | n+1,0,l,tw,_,h=>by rw[rootF_done _ _ _ (by omega),rootF_done _ _ _ (by omega)]
 | n+1,m+1,l,tw,h1,h2=>by
   rw[rootF,rootF]
   split
   ·rfl
   ·have:=upM_len l
    exact rootF_more n m _ _ (by omega) (by omega)
def rootM (l:List Id):Id×Bool:=rootF l.length l false
theorem rootF_step {n:Nat}{l:List Id}{tw:Bool}(h:1<l.length)(hn:l.length≤n+1):rootF n l tw=rootF n (upM l) (tw||twinM l):=by
 cases n with
 | zero=>omega
 | succ n=>
   have:=upM_len l
   rw[rootF,if_neg (by omega)]
   exact rootF_more _ _ _ _ (by omega) (by omega)
theorem splIdT (x:Id):spliceV zR32_w80 0 (eId x)=eId x:=by
 unfold spliceV
 rw[List.take_zero,List.nil_append,Nat.zero_add,eId_len,←zR32_w80_len,List.drop_length,List.append_nil]
theorem fillIdT (x:Id):fillV (repV zR32_w80 1) [(0,32,.agg (eId x))]=some (eId x):=by
 have h0:repV zR32_w80 1=zR32_w80:=by simp[repV]
 rw[h0]
 have hc:(V.agg (eId x)).cells? =some (eId x):=rfl
 simp only[fillV,hc]
 rw[if_pos ⟨eId_len x,by rw[zR32_w80_len];omega⟩,splIdT]
theorem fillNoT:fillV zR32_w80 []=some (eId id0):=rfl
section
variable {P:Program} {F:Fn}
set_option maxHeartbeats 4000000 in
theorem spec199 (ok:OkTx P F)(st:St){s:V}{l:List Id}(hr:Rd 32 eId s l st)(hl:l.length≤1000):ACalls P (F 199) [s] st fun v st'=>v=.tup [.agg (eId (rootM l).1),.bool (rootM l).2]∧st'=st:=by
 refine shows_call ok.mixed ok.h199 (by simp[k199]) ?_
 simp only[k199]
 have hlen:=hr.len
 simp
 intro rid hrid
 have S:=(Sep.start st).new hrid (.cells zR32_w80)
 generalize st.upd rid _=st1 at S⊢
 by_cases h0:l.length=0
 ·have hl0:l=[]:=List.length_eq_zero_iff.1 h0
  subst hl0
  simp[hlen,fillNoT]
  have hst:=store_z32 S.get id0
  have S:=S.set (.cells (eId id0))
  have hsg:=segId0 id0
  simp[hst,St.seg,hsg]
  exact⟨S.was' (by simp),rfl,rfl⟩
 ·have h0':((l.length:Int)==0)=false:=by rw[beq_eq_false_iff_ne];omega
  simp[hlen,h0']
  have hel:=(hr.sub (S.was' (st0:=st) (by simp))).elems eId_len
  have hf0:fillV (repV zR32_w80 0) []=some []:=rfl
  simp[hf0,hel]
  refine Sep.appx' (b:=32) eId_len (by omega) S.slxFull l rfl rfl (by simp;omega) ?_
  intro s1 st2 S
  rw[List.nil_append]at S
  simp
  refine vc_loopJ (fun c env' st'=>∃s5 row tw,c=row.length∧row≠[]∧row.length≤1000∧env' 5=s5∧env' 4=.bool tw∧rootF row.length row tw=rootM l∧Sep [Slx 32 eId s5 row,pt rid (.cells zR32_w80),Was st] st') l.length
   ⟨s1,l,false,rfl,fun e=>h0 (by rw[e];rfl),hl,by simp,by simp,rfl,S⟩ ?_
  rintro J hJ c env' st3 hsame ⟨s5,row,tw,rfl,hne,hrl,h5,h4,hrt,S⟩
  have g2:=(hsame.get 2 rfl).trans (by simp:_=V.ptr (some (rid,0)))
  clear hsame
  have rd5:=Sep.rd eId_len (S.head fun h hh=>hh.sl)
  have hln:=rd5.len
  by_cases h1:1<row.length
  ·have h1':(1:Int)<row.length:=by omega
   simp[h5,hln,h1']
   have hul:=upM_len row
   refine vc_loopJ (fun c env2 st'=>∃i s6 up tw',i≤row.length∧c=row.length-i∧env2 7=.int .i64 (i:Nat)∧env2 6=s6∧env2 4=.bool tw'∧up++upM (row.drop i)=upM row∧up.length≤1000∧(tw'||twinM (row.drop i))=(tw||twinM row)∧Sep [Slx 32 eId s6 up,Slx 32 eId s5 row,pt rid (.cells zR32_w80),Was st] st') row.length
    ⟨0,_,[],tw,by omega,by omega,by simp,by simp,by simp[h4],by simp,by simp,by simp,S.slxNil⟩ ?_
   clear S
   rintro J2 hJ2 c env2 st4 hsame ⟨i,s6,up,tw',hi,rfl,h7,h6,h4',hup,hupl,htw,S⟩
   have q2:=(hsame.get 2 rfl).trans (by simp[g2]:_=V.ptr (some (rid,0)))
   have q5:=(hsame.get 5 rfl).trans (by simp[h5]:_=s5)
   clear hsame
   have rd5:=Sep.rd eId_len (S.drop.head fun h hh=>hh.sl)
   have w1:IntKind.i64.wrap ((i:Int)+1)=(i:Int)+1:=wrap64 (by omega) (by omega)
   have w2:IntKind.i64.wrap ((i:Int)+2)=(i:Int)+2:=wrap64 (by omega) (by omega)
   by_cases hlt:i<row.length
   ·obtain⟨r1,r2,r3,r4⟩:=rd5.row eId_len hlt
    have hpa: ∀x y:Id,sha2 (x.toList++y.toList)=pairM x y:=fun _ _=>rfl
    by_cases hlast:i+1=row.length
    ·have hd:row.drop i=[row[i]]:=by rw[List.drop_eq_getElem_cons hlt,hlast,List.drop_length]
     rw[hd]at hup htw
     have he:((i:Int)+1==(row.length:Int))=true:=by rw[beq_iff_eq];omega
     simp[h7,q5,hln,hlt,w1,he,h6,r1,r3]
     refine(spec207 ok st4 row[i] row[i]).mono ?_
     rintro v st4 ⟨rfl,rfl⟩
     rw[hpa]
     have hel1:elems st4 32 (.sl .full (eId (pairM row[i] row[i])) 1)=some (rowsOf eId [pairM row[i] row[i]],1):=by simp[elems,eId_len]
     simp[fillIdT,hel1]
     refine Sep.appx' (b:=32) eId_len (by omega) S [pairM row[i] row[i]] (by simp) rfl (by rw[List.length_singleton];omega) ?_
     intro s7 st5 S
     simp
     have e:up++[pairM row[i] row[i]]=upM row:=by rw[←hup];rfl
     have et:tw'=(tw||twinM row):=by rw[←htw];simp[twinM]
     rw[e]at S
     refine Round.mk (upM row).length _ (by omega) (sub_self _) (hJ _ _ _ ⟨s7,upM row,tw',rfl,fun e=>by rw[e]at hul;simp at hul;omega,by omega,by simp,by simp[h4'],?_,S.tail fun r h=>h.drop⟩)
     rw[←hrt,et,rootF_step h1 (by omega)]
     exact rootF_more _ _ _ _ (by omega) (by omega)
    ·have hlt2:i+1<row.length:=by omega
     have hd:row.drop i=row[i]::row[i+1]::row.drop (i+2):=by rw[List.drop_eq_getElem_cons hlt,List.drop_eq_getElem_cons hlt2]
     rw[hd]at hup htw
     obtain⟨p1,p2,p3,p4⟩:=rd5.row eId_len hlt2
     rw[Int.natCast_add,Int.natCast_one]at p1
     have he:((i:Int)+1==(row.length:Int))=false:=by rw[beq_eq_false_iff_ne];omega
     have htw2:((tw'||decide (row[i]=row[i+1]))||twinM (row.drop (i+2)))=(tw||twinM row):=by
      rw[←htw,twinM,Bool.or_assoc]
     have hup2:(up++[pairM row[i] row[i+1]])++upM (row.drop (i+2))=upM row:=by rw[←hup,List.append_assoc];rfl
     have hul2:(up++[pairM row[i] row[i+1]]).length≤1000:=by
      have:=congrArg List.length hup2
      rw[List.length_append]at this
      omega
     have hel1:elems st4 32 (.sl .full (eId (pairM row[i] row[i+1])) 1)=some (rowsOf eId [pairM row[i] row[i+1]],1):=by simp[elems,eId_len]
     have hq:eqK (.agg 32) (.agg (eId row[i])) (.agg (eId row[i+1]))=some (decide (row[i]=row[i+1])):=by simp[eqK,eId_len,eqL_id]
     cases tw' with
     | true=>
       simp[h7,q5,hln,hlt,w1,he,h6,h4',r1,r3,p1,p3]
       refine(spec207 ok st4 row[i] row[i+1]).mono ?_
       rintro v st4 ⟨rfl,rfl⟩
       rw[hpa]
       simp[fillIdT,hel1]
       refine Sep.appx' (b:=32) eId_len (by omega) S [pairM row[i] row[i+1]] (by simp) rfl (by rw[List.length_singleton];omega) ?_
       intro s7 st5 S
       simp[h7,w2]
       exact Round.mk (row.length-(i+2)) _ (by omega) (sub_self _) (hJ2 _ _ _ ⟨i+2,s7,_,true,by omega,rfl,by simp,by simp,by simp[h4'],hup2,hul2,by simpa using htw2,S⟩)
     | false=>
       simp[h7,q5,hln,hlt,w1,he,h6,h4',r1,r3,p1,p3,hq]
       refine(spec207 ok st4 row[i] row[i+1]).mono ?_
       rintro v st4 ⟨rfl,rfl⟩
       rw[hpa]
       simp[fillIdT,hel1]
       refine Sep.appx' (b:=32) eId_len (by omega) S [pairM row[i] row[i+1]] (by simp) rfl (by rw[List.length_singleton];omega) ?_
       intro s7 st5 S
       simp[h7,w2]
       exact Round.mk (row.length-(i+2)) _ (by omega) (sub_self _) (hJ2 _ _ _ ⟨i+2,s7,_,decide (row[i]=row[i+1]),by omega,rfl,by simp,by simp,by simp,hup2,hul2,by simpa using htw2,S⟩)
   ·have:i=row.length:=by omega
    subst this
    rw[List.drop_length]at hup htw
    have e:up=upM row:=by rw[←hup];simp[upM]
    have et:tw'=(tw||twinM row):=by rw[←htw];simp[twinM]
    simp[h7,q5,hln,h6]
    rw[e]at S
    refine Round.mk (upM row).length _ (by omega) (sub_self _) (hJ _ _ _ ⟨s6,upM row,tw',rfl,fun e=>by rw[e]at hul;simp at hul;omega,by omega,by simp[h6],by simp[h4'],?_,S.tail fun r h=>h.drop⟩)
    rw[←hrt,et,rootF_step h1 (by omega)]
    exact rootF_more _ _ _ _ (by omega) (by omega)
  ·have h1':¬(1:Int)<row.length:=by omega
   have h0l:0<row.length:=List.length_pos_iff.2 hne
   obtain⟨r1,r2,r3,r4⟩:=rd5.row eId_len h0l
   have r1':idxSlV 32 s5 (.int .i64 0)=some (rowP 32 s5 0):=r1
   simp[h5,hln,h1',h4,g2,r1',r3]
   have hrm:rootM l=(row[0],tw):=by
    rw[←hrt,rootF_done _ _ _ (by omega)]
    congr 1
    cases row with
    | nil=>exact absurd rfl hne
    | cons a r=>rfl
   obtain⟨x,hx⟩: ∃x,x=row[0]:=⟨_,rfl⟩
   rw[hrm,←hx]
   have S:=S.drop
   have hst:=store_z32 S.get x
   have S:=S.set (.cells (eId x))
   have hsg:=segId0 x
   simp[hst,St.seg,hsg,g2]
   exact S.was' (st0:=st) (by simp)
theorem spec197 (ok:OkTx P F)(st:St):ACalls P (F 197) [] st fun v st'=>v=.agg (eId id0++[w32 4294967295#32])∧st'=st:=by
 refine shows_call ok.mixed ok.h197 (by simp[k197]) ?_
 simp only[k197]
 simp
 intro rid hrid
 have S:=(Sep.start st).new hrid (.cells z33_1371)
 generalize st.upd rid _=st1 at S⊢
 have hf:fillV z33_1371 [(32,1,w32 4294967295#32)]=some (eId id0++[w32 4294967295#32]):=rfl
 obtain⟨c,hc⟩: ∃c,c=eId id0++[w32 4294967295#32]:=⟨_,rfl⟩
 have hl:c.length=33:=by rw[hc,List.length_append,eId_len];rfl
 rw[←hc]at hf⊢
 have hst:=store_pt (sz:=33) (o:=0) S.get (v:=.agg c) (vs:=c) rfl hl (by simp)
 rw[show spliceV z33_1371 0 c=c by simp[spliceV,hl]]at hst
 have S:=S.set (.cells c)
 have hsg:segOf c 0 33=some c:=by simp[segOf,hl,List.take_of_length_le]
 simp[hf,hst,St.seg,hsg]
 exact S.was' (by simp)
end
section
variable {P:Program} {F:Fn}
def rowsIds (l:List Tx1):List Id:=l.map txIdM
set_option maxHeartbeats 4000000 in
theorem spec192 (ok:OkTx P F)(st:St){s:V}{l:List Tx1}(hr:Rd 2 eTx s l st)(hl:l.length≤1000)(ht: ∀t∈l,t.ok 100):ACalls P (F 192) [s] st fun v st'=>v=.tup [.agg (eId (rootM (rowsIds l)).1),.bool (rootM (rowsIds l)).2]∧st'=st:=by
 refine shows_call ok.mixed ok.h192 (by simp[k192]) ?_
 simp only[k192]
 have hlen:=hr.len
 simp
 intro rid hrid
 have S:=(Sep.start st).new hrid (.cells zR32_w80)
 generalize st.upd rid _=st1 at S⊢
 simp[hlen]
 refine vc_loopJ (fun c env' st'=>∃i s4,i≤l.length∧c=l.length-i∧env' 9=.int .i64 (i:Nat)∧env' 4=s4∧Sep [Slx 32 eId s4 (rowsIds (l.take i)),pt rid (.cells zR32_w80),Was st] st') l.length
  ⟨0,_,by omega,by omega,by simp,by simp,S.slxNil⟩ ?_
 rintro J hJ c env' st2 hsame ⟨i,s4,hi,rfl,h9,h4,S⟩
 have g2:=(hsame.get 2 rfl).trans (by simp:_=V.ptr (some (rid,0)))
 have g7:=(hsame.get 7 rfl).trans (by simp:_=s)
 have g8:=(hsame.get 8 rfl).trans (by simp:_=V.int .i64 (l.length:Int))
 clear hsame
 by_cases hlt:i<l.length
 ·have w1:IntKind.i64.wrap ((i:Int)+1)=(i:Int)+1:=wrap64 (by omega) (by omega)
  obtain⟨r1,r2,r3,r4⟩:=(hr.sub (S.was' (st0:=st) (by simp))).row eTx_len hlt
  have htx:=ht l[i] (List.getElem_mem hlt)
  have hmp:rowsIds (l.take (i+1))=rowsIds (l.take i)++[txIdM l[i]]:=by rw[rowsIds,List.take_succ_eq_append_getElem hlt,List.map_append];rfl
  have hml:(rowsIds (l.take i)).length=i:=by rw[rowsIds,List.length_map,List.length_take];omega
  obtain⟨x,hx⟩: ∃x,x=l[i]:=⟨_,rfl⟩
  rw[←hx]at r3 htx hmp
  simp[g7,g8,h9,hlt,r1,r3]
  intro iid hiid
  have S:=S.new hiid (.cells [.sl .nil [] 0,.sl .nil [] 0])
  have hst:=store_pt (id:=iid) (o:=0) (sz:=2) (v:=.agg (eTx x)) (vs:=eTx x) (S.mem (i:=iid) (o:=.cells [.sl .nil [] 0,.sl .nil [] 0]) (by simp)) rfl rfl (by simp)
  rw[show spliceV [V.sl .nil [] 0,V.sl .nil [] 0] 0 (eTx x)=eTx x from rfl]at hst
  have S:=S.setAt (.cells (eTx x)) 0 rfl
  simp[hst]at S⊢
  generalize st2.upd iid (.cells (eTx x))=st3 at S⊢
  have o6:=S.mem (i:=iid) (o:=.cells (eTx x)) (by simp)
  have hsg:segOf (eTx x) 0 2=some (eTx x):=rfl
  simp[h4,St.seg,o6,hsg]
  refine(spec198 ok st3 x htx).mono ?_
  rintro v st3 ⟨rfl,rfl⟩
  have hel1:elems st3 32 (.sl .full (eId (txIdM x)) 1)=some (rowsOf eId [txIdM x],1):=by simp[elems,eId_len]
  simp[fillIdT,hel1]
  refine Sep.appx' (b:=32) eId_len (by omega) S.drop [txIdM x] (by simp) rfl (by rw[hml,List.length_singleton];omega) ?_
  intro s7 st5 S
  rw[←hmp]at S
  simp[h9,w1]
  exact Round.mk (l.length-(i+1)) _ (by omega) (sub_self _) (hJ _ _ _ ⟨i+1,s7,by omega,rfl,by simp,by simp,S⟩)
 ·have:i=l.length:=by omega
  subst this
  rw[List.take_length]at S
  simp[g7,g8,h9,h4]
  have rd:=Sep.rd eId_len (S.head fun h hh=>hh.sl)
  refine(spec199 ok st2 rd (by rw[rowsIds,List.length_map];omega)).mono ?_
  rintro v st2 ⟨rfl,rfl⟩
  obtain⟨x,hx⟩: ∃x,x=(rootM (rowsIds l)).1:=⟨_,rfl⟩
  obtain⟨b,hb⟩: ∃b,b=(rootM (rowsIds l)).2:=⟨_,rfl⟩
  rw[←hx,←hb]
  have S:=S.drop
  have hst:=store_z32 S.get x
  have S:=S.set (.cells (eId x))
  have hsg:=segId0 x
  simp[hst,St.seg,hsg,g2]
  exact S.was' (st0:=st) (by simp)
end
def firstM (sub:Int)(h:Nat)(mark:UInt8):Tx1:=
 ⟨.full,[⟨id0,4294967295#32,.full,[UInt8.ofNat h,UInt8.ofNat (h / 256),mark]⟩],.full,[⟨sub,sha [mark]⟩]⟩
theorem firstM_ok (sub:Int)(h:Nat)(mark:UInt8):(firstM sub h mark).ok 100:=by
 refine⟨by simp[firstM],by simp[firstM],?_⟩
 intro x hx
 simp[firstM]at hx
 rw[hx]
 simp
section
variable {P:Program} {F:Fn}
set_option maxHeartbeats 1000000 in
theorem spec191 (ok:OkHonest P F)(st:St)(r:Rl)(h:Nat)(hh:h≤100000)(mark:UInt8):ACalls P (F 191) [.agg (eRl r),.int .i64 (h:Int),w8 mark] st fun v st'=>v=.agg (eTx (firstM r.subsidy h mark))∧st'=st:=by
 refine shows_call ok.mixed ok.h191 (by simp[k191]) ?_
 simp only[k191]
 simp
 intro bid hb
 have S:=(Sep.start st).new hb (.cells (eRl r))
 generalize st.upd bid _=st1 at S⊢
 simp
 intro rid hr
 have S:=S.new hr (.cells [.sl .nil [] 0,.sl .nil [] 0])
 generalize st1.upd rid _=st2 at S⊢
 obtain⟨H2,hH2⟩: ∃H2,H2=h / 256:=⟨_,rfl⟩
 have hs:binV .shr (V.int .i64 (h:Int)) (w64 8#64)=some (.int .i64 (H2:Int)):=by
  show binV .shr (V.int .i64 (h:Int)) (.int .u64 (8:Int))=_
  rw[binV_int]
  have e:(h:Int).fdiv (2 ^ 8)=(H2:Int):=by
   rw[shr_nat,Nat.shiftRight_eq_div_pow,hH2]
  have e1:Nat.min (8:Int).toNat IntKind.i64.bits=8:=rfl
  simp only[e1,e]
  rfl
 obtain⟨K3,hK3⟩: ∃K3,K3=[(OfNat.ofNat h:UInt8),(OfNat.ofNat H2:UInt8),mark]:=⟨_,rfl⟩
 obtain⟨K1,hK1⟩: ∃K1,K1=[mark]:=⟨_,rfl⟩
 have hl3:K3.length=3:=by rw[hK3];rfl
 have hl1:K1.length=1:=by rw[hK1];rfl
 have hf3:fillV (repV [w8 0] 3) [(0,1,w8 (OfNat.ofNat h)),(1,1,w8 (OfNat.ofNat H2)),(2,1,w8 mark)]=some (rowsOf e8 K3):=by rw[hK3];rfl
 have hf1:fillV (repV [w8 0] 1) [(0,1,w8 mark)]=some (rowsOf e8 K1):=by rw[hK1];rfl
 have hfs:fillV (repV [V.sl SK.nil [] 0] 1) [(0,1,V.sl .full (rowsOf e8 K1) 1)]=some [.sl .full (rowsOf e8 K1) 1]:=rfl
 simp[hs,hf3,hf1,hfs]
 refine⟨_,spec197 ok.toOkTx st2,?_⟩
 obtain⟨x,hx⟩: ∃x:In1,x=⟨id0,4294967295#32,.full,K3⟩:=⟨_,rfl⟩
 have hfi:fillV z34_1838 [(0,33,.agg (eId id0++[w32 4294967295#32])),(33,1,.sl .full (rowsOf e8 K3) 3)]=some (eIn x):=by
  rw[hx,←hl3];rfl
 have hfi2:fillV (repV z34_1838 1) [(0,34,.agg (eIn x))]=some (eIn x):=by
  rw[show repV z34_1838 1=z34_1838 by simp[repV]]
  simp[fillV,eIn_len,spliceV]
 have o:=S.mem (i:=bid) (o:=.cells (eRl r)) (by simp)
 have hp:Parts st2 [.sl .full (rowsOf e8 K1) 1] [K1]:=.cons (.inl ⟨.full,by rw[hl1]⟩) .nil
 simp[hfi,hfi2,St.seg,o,rsegSubsidy]
 have hsp:=spec103 ok.toOkTx.toOkHead.toOkHash st2 hp .full (by simp[hl1]) (by simp)
 rw[show [K1].flatten=K1 by simp]at hsp
 refine⟨_,hsp,?_⟩
 obtain⟨y,hy⟩: ∃y:Out1,y=⟨r.subsidy,sha K1⟩:=⟨_,rfl⟩
 have hfo:fillV z33_0be4 [(0,1,.int .i64 r.subsidy),(1,32,.agg (eId (sha K1)))]=some (eOut y):=by
  rw[hy];rfl
 have hfo2:fillV (repV z33_0be4 1) [(0,33,.agg (eOut y))]=some (eOut y):=by
  rw[show repV z33_0be4 1=z33_0be4 by simp[repV]]
  simp[fillV,eOut_len,spliceV]
 simp[hfo,hfo2]
 obtain⟨t,ht⟩: ∃t,t=firstM r.subsidy h mark:=⟨_,rfl⟩
 have ei:V.sl .full (eIn x) 1=insV t:=by
  have:t.ins=[x]:=by rw[ht,hx,hK3,hH2];rfl
  have h2:t.ik=.full:=by rw[ht];rfl
  rw[insV,this,h2]
  simp
 have eo:V.sl .full (eOut y) 1=outsV t:=by
  have:t.outs=[y]:=by rw[ht,hy,hK1];rfl
  have h2:t.uk=.full:=by rw[ht];rfl
  rw[outsV,this,h2]
  simp
 rw[ei,eo,←ht]
 have hft:fillV [V.sl SK.nil [] 0,V.sl SK.nil [] 0] [(0,1,insV t),(1,1,outsV t)]=some (eTx t):=rfl
 have hst:=store_pt (sz:=2) (o:=0) S.get (v:=.agg (eTx t)) (vs:=eTx t) rfl rfl (by simp)
 rw[show spliceV [V.sl SK.nil [] 0,V.sl SK.nil [] 0] 0 (eTx t)=eTx t from rfl]at hst
 have S:=S.set (.cells (eTx t))
 have hsg:segOf (eTx t) 0 2=some (eTx t):=rfl
 simp[hft,hst,St.seg,hsg]
 exact S.was' (st0:=st) (by simp)
structure Blk1 where
 hdr:Hdr
 tk:SK
 txs:List Tx1
def txsV (k:SK)(l:List Tx1):V:=.sl k (rowsOf eTx l) l.length
def eBlk (b:Blk1):List V:=eHdr b.hdr++[txsV b.tk b.txs]
theorem eBlk_len (b:Blk1):(eBlk b).length=69:=by simp[eBlk,eHdr_len]
theorem bsegH (b:Blk1):segOf (eBlk b) 0 68=some (eHdr b.hdr):=seg_of_drop (zs:=[txsV b.tk b.txs]) rfl (eHdr_len _) (by omega)
theorem bdrop68 (b:Blk1):(eBlk b).drop 68=[txsV b.tk b.txs]:=by rw[eBlk,List.drop_left' (eHdr_len _)]
theorem bsegT (b:Blk1):segOf (eBlk b) 68 1=some [txsV b.tk b.txs]:=seg_of_drop (zs:=[]) (bdrop68 b) rfl (by omega)
theorem bsegAll (b:Blk1):segOf (eBlk b) 0 69=some (eBlk b):=by simp[segOf,eBlk_len,List.take_of_length_le]
theorem bsplH (b:Blk1)(h:Hdr):spliceV (eBlk b) 0 (eHdr h)=eBlk {b with hdr:=h}:=by
 rw[spliceV,List.take_zero,List.nil_append,Nat.zero_add,eHdr_len,bdrop68]
 rfl
theorem splRoot (h:Hdr)(x:Id)(zs:List V):spliceV (eHdr h++zs) 33 (eId x)=eHdr {h with root:=x}++zs:=by
 have e:eHdr h++zs=(w32 h.ver::eId h.prev)++(eId h.root++([w32 h.time,w32 h.bits,w32 h.nonce]++zs)):=by simp[eHdr]
 have hl:(w32 h.ver::eId h.prev).length=33:=by simp[eId_len]
 have e2:33+(eId x).length=(w32 h.ver::eId h.prev).length+32:=by rw[eId_len,hl]
 rw[spliceV,e2,e,←List.drop_drop,List.drop_left,List.drop_left' (eId_len _),←hl,List.take_left]
 simp[eHdr]
theorem bsplRoot (b:Blk1)(x:Id):spliceV (eBlk b) 33 (eId x)=eBlk {b with hdr:={b.hdr with root:=x}}:=splRoot b.hdr x _
theorem blkFill (h:Hdr)(k:SK)(l:List Tx1):fillV z69_adc1 [(0,68,.agg (eHdr h)),(68,1,txsV k l)]=some (eBlk ⟨h,k,l⟩):=by
 have e1:z69_adc1=eBlk ⟨hdr0,.nil,[]⟩:=rfl
 have hc1:(V.agg (eHdr h)).cells? =some (eHdr h):=rfl
 have hc2:(txsV k l).cells? =some [txsV k l]:=rfl
 simp only[fillV,hc1,hc2]
 rw[if_pos ⟨eHdr_len h,by rw[z69_adc1_len];omega⟩,e1,bsplH]
 rw[if_pos ⟨rfl,by rw[eBlk_len];omega⟩]
 congr 1
 rw[spliceV,eBlk,List.take_left' (eHdr_len _),show 68+[txsV k l].length=69 from rfl,List.drop_of_length_le (by simp[eHdr_len])]
 simp[eBlk]
theorem rsplGen (r:Rl)(b:Blk1):spliceV (eRl r) 5 (eBlk b)=eRl {r with gen:=b.hdr,txs:=txsV b.tk b.txs}:=by
 rw[spliceV,eBlk_len,List.drop_of_length_le (by rw[eRl_len];omega)]
 simp[eRl,eBlk]
def genM:Hdr:={hdr0 with bits:=545259519#32,root:=txIdM (firstM 50 0 0)}
def rulesM (work:Int):Rl:=⟨545259519#32,0,10,50,work,genM,txsV .full [firstM 50 0 0]⟩
set_option maxHeartbeats 1000000 in
theorem spec190 (ok:OkHonest P F)(st:St)(work:Int):ACalls P (F 190) [.int .i64 work] st fun v st'=>v=.agg (eRl (rulesM work))∧st'=st:=by
 refine shows_call ok.mixed ok.h190 (by simp[k190]) ?_
 simp only[k190]
 simp
 intro rid hr
 have S:=(Sep.start st).new hr (.cells z74_2f53)
 generalize st.upd rid _=st1 at S⊢
 obtain⟨r0,hr0⟩: ∃r0:Rl,r0=⟨545259519#32,0,10,50,work,hdr0,.sl .nil [] 0⟩:=⟨_,rfl⟩
 have hf0:fillV z74_2f53 [(0,1,w32 545259519#32),(2,1,V.int .i64 10),(3,1,V.int .i64 50),(4,1,V.int .i64 work)]=some (eRl r0):=by rw[hr0];rfl
 simp[hf0]
 intro i3 h3
 have S:=S.new h3 (.cells z74_2f53)
 have hst:=store_pt (sz:=74) (o:=0) S.get (v:=.agg (eRl r0)) (vs:=eRl r0) rfl (eRl_len r0) (by simp)
 rw[show spliceV z74_2f53 0 (eRl r0)=eRl r0 by simp[spliceV,eRl_len]]at hst
 have S:=S.set (.cells (eRl r0))
 simp[hst]at S⊢
 generalize st1.upd i3 (.cells (eRl r0))=st2 at S⊢
 have o3:=S.get
 have hsg:segOf (eRl r0) 0 74=some (eRl r0):=by simp[segOf,eRl_len,List.take_of_length_le]
 obtain⟨g0,hg0⟩: ∃g0:Hdr,g0={hdr0 with bits:=545259519#32}:=⟨_,rfl⟩
 have hfg:fillV z68_39b1 [(66,1,w32 545259519#32)]=some (eHdr g0):=by rw[hg0];rfl
 simp[hfg,St.seg,o3,hsg]
 refine(spec191 ok st2 r0 0 (by omega) 0).mono ?_
 rintro v st2 ⟨rfl,rfl⟩
 obtain⟨t,ht⟩: ∃t,t=firstM 50 0 0:=⟨_,rfl⟩
 have ht0:firstM r0.subsidy 0 0=t:=by rw[hr0,ht]
 rw[ht0]
 have hft:fillV (repV [V.sl SK.nil [] 0,V.sl SK.nil [] 0] 1) [(0,2,.agg (eTx t))]=some (eTx t):=rfl
 obtain⟨b0,hb0⟩: ∃b0:Blk1,b0=⟨g0,.full,[t]⟩:=⟨_,rfl⟩
 have etx:V.sl .full (eTx t) 1=txsV .full [t]:=by simp[txsV]
 have hfb:=blkFill g0 .full [t]
 rw[←hb0]at hfb
 simp[hft,etx,hfb]
 intro i4 h4
 have S:=S.new h4 (.cells z69_adc1)
 have hst:=store_pt (sz:=69) (o:=0) S.get (v:=.agg (eBlk b0)) (vs:=eBlk b0) rfl (eBlk_len b0) (by simp)
 rw[show spliceV z69_adc1 0 (eBlk b0)=eBlk b0 by simp[spliceV,eBlk_len]]at hst
 have S:=S.set (.cells (eBlk b0))
 simp[hst]at S⊢
 generalize st2.upd i4 (.cells (eBlk b0))=st3 at S⊢
 have o4:=S.get
 have hsx:=bsegT b0
 have e0t:txsV b0.tk b0.txs=txsV .full [t]:=by rw[hb0]
 rw[e0t]at hsx
 simp[St.seg,o4,hsx]
 have htk:t.ok 100:=by rw[ht];exact firstM_ok _ _ _
 refine(spec192 ok.toOkTx st3 (s:=txsV .full [t]) (l:=[t]) (.inl ⟨.full,rfl⟩) (by simp) (by simpa using htk)).mono ?_
 rintro v st3 ⟨rfl,rfl⟩
 have hrt:rootM (rowsIds [t])=(txIdM t,false):=rfl
 rw[hrt]
 obtain⟨b1,hb1⟩: ∃b1:Blk1,b1={b0 with hdr:={b0.hdr with root:=txIdM t}}:=⟨_,rfl⟩
 have hst:=store_pt (sz:=32) (o:=33) S.get (v:=.agg (eId (txIdM t))) (vs:=eId (txIdM t)) rfl (eId_len _) (by simp[eBlk_len])
 rw[bsplRoot,←hb1]at hst
 have S:=S.set (.cells (eBlk b1))
 simp[hst]
 generalize st3.upd i4 (.cells (eBlk b1))=st4 at S⊢
 have o4:=S.get
 obtain⟨r1,hr1⟩: ∃r1:Rl,r1={r0 with gen:=b1.hdr,txs:=txsV b1.tk b1.txs}:=⟨_,rfl⟩
 have hst:=store_pt (sz:=69) (o:=5) (S.mem (i:=i3) (o:=.cells (eRl r0)) (by simp)) (v:=.agg (eBlk b1)) (vs:=eBlk b1) rfl (eBlk_len b1) (by simp[eRl_len])
 rw[rsplGen,←hr1]at hst
 have S:=S.setAt (.cells (eRl r1)) 1 rfl
 simp only[List.set_cons_succ,List.set_cons_zero]at S
 simp[St.seg,o4,bsegAll,hst]
 generalize st4.upd i3 (.cells (eRl r1))=st5 at S⊢
 have o3:=S.mem (i:=i3) (o:=.cells (eRl r1)) (by simp)
 have hsg1:segOf (eRl r1) 0 74=some (eRl r1):=by simp[segOf,eRl_len,List.take_of_length_le]
 have hst:=store_pt (sz:=74) (o:=0) (S.mem (i:=rid) (o:=.cells z74_2f53) (by simp)) (v:=.agg (eRl r1)) (vs:=eRl r1) rfl (eRl_len r1) (by simp)
 rw[show spliceV z74_2f53 0 (eRl r1)=eRl r1 by simp[spliceV,eRl_len]]at hst
 have S:=S.setAt (.cells (eRl r1)) 2 rfl
 have hr2:r1=rulesM work:=by rw[hr1,hb1,hb0,hr0,hg0,ht];rfl
 simp[St.seg,o3,hsg1,hst]
 exact⟨S.was' (st0:=st) (by simp),by rw[hr2]⟩
end
end Go.Ab
namespace Go.Ab
def mix (x y:BitVec 32):BitVec 32:=x <<< 16 ||| y >>> 16
theorem mix_be (a b:BitVec 32):be4 (UInt8.ofBitVec ((a >>> 8).setWidth 8)) (UInt8.ofBitVec (a.setWidth 8)) (UInt8.ofBitVec ((b >>> 24).setWidth 8)) (UInt8.ofBitVec ((b >>> 16).setWidth 8))=mix a b:=by
 unfold be4 mix
 apply BitVec.eq_of_getLsbD_eq
 intro j hj
 simp only[BitVec.getLsbD_or,BitVec.getLsbD_shiftLeft,BitVec.getLsbD_setWidth,BitVec.getLsbD_ushiftRight]
 by_cases h8:j<8
 ·simp[show j-8<32 by omega,show j-16<32 by omega,show j-24<32 by omega,h8,hj,show j<16 by omega,show j<24 by omega]
 ·by_cases h16:j<16
  ·simp[show j-8<32 by omega,show j-16<32 by omega,show j-24<32 by omega,h8,hj,h16,show j<24 by omega,show j-8<8 by omega,show 24+(j-8)=16+j by omega]
  ·by_cases h24:j<24
   ·simp[show j-8<32 by omega,show j-16<32 by omega,show j-24<32 by omega,BitVec.getLsbD_of_ge b (16+j) (by omega),h8,hj,h16,h24,show¬j-8<8 by omega,show j-16<8 by omega,show¬16+j<32 by omega]
   ·simp[show j-8<32 by omega,show j-16<32 by omega,show j-24<32 by omega,BitVec.getLsbD_of_ge b (16+j) (by omega),h8,hj,h16,h24,show¬j-8<8 by omega,show¬j-16<8 by omega,show j-24<8 by omega,show 8+(j-24)=j-16 by omega,show¬16+j<32 by omega]
theorem blksW_one (v:V8)(w:List (BitVec 32))(h:w.length=16):blksW 1 v w=blkW v w:=by
 rw[blksW,blksW,List.take_of_length_le (by omega)]
def lockW (mark:UInt8):V8:=blkW iv [be4 mark 128 0 0,0,0,0,0,0,0,0,0,0,0,0,0,0,0,8]
theorem lock_W (mark:UInt8):sha [mark]=idV (lockW mark):=by
 have e:padM [mark]=mark::128::(List.replicate 54 0++[0,0,0,0,0,0,0,8]):=by
  unfold padM
  rw[show [mark].length=1 from rfl]
  rfl
 have hl:(mark::128::(List.replicate 54 (0:UInt8)++[0,0,0,0,0,0,0,8])).length / 64=1:=by
  simp only[List.length_cons,List.length_append,List.length_replicate,List.length_nil]
 have hw:words (mark::128::(List.replicate 54 (0:UInt8)++[0,0,0,0,0,0,0,8]))=[be4 mark 128 0 0,0,0,0,0,0,0,0,0,0,0,0,0,0,0,8]:=rfl
 rw[sha_W,e,hl,hw,blksW_one _ _ rfl]
 rfl
def txW (lo hi mark:UInt8):V8:=
 let L:=lockW mark
 secW (blkW (blkW iv [0x01000000,0,0,0,0,0,0,0,0x00ffffff,be4 255 3 lo hi,be4 mark 1 50 0,0,mix 0 L.a,mix L.a L.b,mix L.b L.c,mix L.c L.d])
  [mix L.d L.e,mix L.e L.f,mix L.f L.g,mix L.g L.h,mix L.h 0x80000000,0,0,0,0,0,0,0,0,0,0,656])
theorem txB_first (h:Nat)(mark:UInt8):txB (firstM 50 h mark)=1::(List.replicate 32 0++([255,255,255,255,3,UInt8.ofNat h,UInt8.ofNat (h / 256),mark,1,50,0,0,0,0,0,0,0]++outV (lockW mark))):=by
 have e:(sha [mark]).toList=outV (lockW mark):=by rw[lock_W];rfl
 have h1:txB (firstM 50 h mark)=1::(List.replicate 32 0++([255,255,255,255,3,UInt8.ofNat h,UInt8.ofNat (h / 256),mark,1,50,0,0,0,0,0,0,0]++(sha [mark]).toList)):=by
  obtain⟨l,hl⟩: ∃l,l=sha [mark]:=⟨_,rfl⟩
  unfold firstM
  rw[←hl]
  simp[txB,inB,outB,textB,countB,putB,byteAt,List.range_succ,id0]
 rw[h1,e]
theorem words_mix (p q:UInt8)(a:BitVec 32)(r:List UInt8):words (p::q::(out4 a++r))=be4 p q (UInt8.ofBitVec ((a >>> 24).setWidth 8)) (UInt8.ofBitVec ((a >>> 16).setWidth 8))::words (UInt8.ofBitVec ((a >>> 8).setWidth 8)::UInt8.ofBitVec (a.setWidth 8)::r):=rfl
theorem words_mixs (a b:BitVec 32)(r:List UInt8):words (UInt8.ofBitVec ((a >>> 8).setWidth 8)::UInt8.ofBitVec (a.setWidth 8)::(out4 b++r))=mix a b::words (UInt8.ofBitVec ((b >>> 8).setWidth 8)::UInt8.ofBitVec (b.setWidth 8)::r):=by
 rw[words_mix,mix_be]
theorem words_mixV (v:V8)(r:List UInt8):words (0::0::(outV v++(128::0::r)))=mix 0 v.a::mix v.a v.b::mix v.b v.c::mix v.c v.d::mix v.d v.e::mix v.e v.f::mix v.f v.g::mix v.g v.h::mix v.h 0x80000000::words r:=by
 have e:outV v++(128::0::r)=out4 v.a++(out4 v.b++(out4 v.c++(out4 v.d++(out4 v.e++(out4 v.f++(out4 v.g++(out4 v.h++(128::0::r)))))))):=by simp[outV,V8.list]
 have z:(0:UInt8)::0::(out4 v.a++(out4 v.b++(out4 v.c++(out4 v.d++(out4 v.e++(out4 v.f++(out4 v.g++(out4 v.h++(128::0::r)))))))))=UInt8.ofBitVec (((0:BitVec 32) >>> 8).setWidth 8)::UInt8.ofBitVec ((0:BitVec 32).setWidth 8)::(out4 v.a++(out4 v.b++(out4 v.c++(out4 v.d++(out4 v.e++(out4 v.f++(out4 v.g++(out4 v.h++(128::0::r))))))))):=rfl
 rw[e,z,words_mixs,words_mixs,words_mixs,words_mixs,words_mixs,words_mixs,words_mixs,words_mixs]
 have l:words (UInt8.ofBitVec ((v.h >>> 8).setWidth 8)::UInt8.ofBitVec (v.h.setWidth 8)::128::0::r)=mix v.h 0x80000000::words r:=by
  rw[words,←mix_be]
  rfl
 rw[l]
theorem txId_W (h:Nat)(mark:UInt8):txIdM (firstM 50 h mark)=idV (txW (UInt8.ofNat h) (UInt8.ofNat (h / 256)) mark):=by
 have hl:(txB (firstM 50 h mark)).length=82:=by
  rw[txB_first]
  simp only[List.length_cons,List.length_append,List.length_replicate,outV_len]
  rfl
 have e:padM (txB (firstM 50 h mark))=1::(List.replicate 32 0++([255,255,255,255,3,UInt8.ofNat h,UInt8.ofNat (h / 256),mark,1,50,0,0,0,0,0]++(0::0::(outV (lockW mark)++(128::0::(List.replicate 36 0++[0,0,0,0,0,0,2,144])))))):=by
  unfold padM
  rw[hl,txB_first]
  simp only[List.append_assoc,List.cons_append,List.nil_append]
  rfl
 have hp:(padM (txB (firstM 50 h mark))).length=128:=by
  rw[e]
  simp only[List.length_cons,List.length_append,List.length_replicate,outV_len]
  rfl
 have ew:words (padM (txB (firstM 50 h mark)))=[0x01000000,0,0,0,0,0,0,0,0x00ffffff,be4 255 3 (UInt8.ofNat h) (UInt8.ofNat (h / 256)),be4 mark 1 50 0,0]++words (0::0::(outV (lockW mark)++(128::0::(List.replicate 36 0++[0,0,0,0,0,0,2,144])))):=by
  rw[e]
  rfl
 rw[txIdM,sha2_W,hp,ew,words_mixV]
 rfl
theorem packL_ln (n:Nat): ∀k,k+n≤1000000→∀i,i<n→ln (packL n k) i=k+i:=by
 induction n with
 | zero=>intro k _ i hi;omega
 | succ n ih=>
   intro k hk i hi
   rw[packL]
   cases i with
   | zero=>rw[ln_zero];omega
   | succ i=>
     rw[ln_succ,show(k+18446744073709551616*packL n (k+1)) / 2 ^ 64=packL n (k+1) by omega,ih (k+1) (by omega) i (by omega)]
     omega
theorem RL.const (k:Nat)(hk:k<4294967296):RL (k*oneL) fun _=>BitVec.ofNat 32 k:=(mulL k (by omega)).to fun i _=>by
 rw[BitVec.toNat_ofNat,Nat.mod_eq_of_lt (by omega)]
theorem RL.mix {X Y:Nat}{x y:Nat→BitVec 32}(hX:RL X x)(hY:RL Y y):RL (lmix maskL X Y) fun i=>mix (x i) (y i):=RL.masked fun i j hi hj=>by
 have h1:(X <<< 16).testBit (64*i+j)=(x i <<< 16).getLsbD j:=by
  rw[Nat.testBit_shiftLeft,BitVec.getLsbD_shiftLeft,decide_eq_true hj,Bool.true_and]
  by_cases hjr:j<16
  ·rw[decide_eq_true hjr]
   by_cases hge:64*i+j≥16
   ·obtain⟨k,rfl⟩: ∃k,i=k+1:=⟨i-1,by omega⟩
    rw[show 64*(k+1)+j-16=64*k+(48+j) by omega,hX.bit (by omega) (by omega),BitVec.getLsbD_of_ge _ _ (by omega)]
    simp
   ·rw[decide_eq_false hge];rfl
  ·rw[decide_eq_false hjr,decide_eq_true (show 64*i+j≥16 by omega),show 64*i+j-16=64*i+(j-16) by omega,hX.bit hi (by omega)]
   rfl
 rw[Nat.testBit_or,h1,lshr_bit hY hi hj (by omega),Ab.mix,BitVec.getLsbD_or]
theorem QL.mul {X:Nat}{f:Nat→Nat}(hX:QL X f): ∀k:Nat,(∀i,i<256→k*f i<2 ^ 64)→QL (k*X) fun i=>k*f i
 | 0,_=>fun i hi=>by
   show ln (0*X) i=0*f i
   rw[Nat.zero_mul,Nat.zero_mul,ln];simp
 | k+1,h=>by
   have ih:=QL.mul hX k fun i hi=>by
    have:=h i hi
    rw[Nat.add_mul]at this
    omega
   rw[Nat.add_mul,Nat.one_mul]
   refine(ih.add hX fun i hi=>?_).to fun i hi=>?_
   ·have:=h i hi
    rwa [Nat.add_mul,Nat.one_mul]at this
   ·rw[Nat.add_mul,Nat.one_mul]
theorem RS.to {s:LS}{v w:Nat→V8}(h:RS s v)(e: ∀i,v i=w i):RS s w:=by
 have:v=w:=funext e
 rwa [←this]
theorem lblk_to {s:LS}{v:Nat→V8}{r:List Nat}{w:List (Nat→BitVec 32)}(m:Nat→List (BitVec 32))(hs:RS s v)(hr:RW r w)(hl:16≤w.length)(e: ∀i,(w.map fun x=>x i).reverse=m i):
 RS (lblk maskL oneL s r) fun i=>blkW (v i) (m i):=(lblk_ok hs hr hl).to fun i=>by rw[e i]
theorem lIV_ok:RS (lIV oneL) fun _=>iv:=
 ⟨RL.const _ (by decide),RL.const _ (by decide),RL.const _ (by decide),RL.const _ (by decide),RL.const _ (by decide),RL.const _ (by decide),RL.const _ (by decide),RL.const _ (by decide)⟩
theorem lsec_ok {s:LS}{v:Nat→V8}(h:RS s v):RS (lsec maskL oneL (lIV oneL) s) fun i=>secW (v i):=
 lblk_to (fun i=>(v i).list++[0x80000000,0,0,0,0,0,0,256]) lIV_ok
  (.cons (RL.const 256 (by decide)) (.cons .zero (.cons .zero (.cons .zero (.cons .zero (.cons .zero (.cons .zero (.cons (RL.const 0x80000000 (by decide))
    (.cons h.h (.cons h.g (.cons h.f (.cons h.e (.cons h.d (.cons h.c (.cons h.b (.cons h.a .nil)))))))))))))))) (by simp) (fun i=>rfl)
theorem mk_word {mk c:Nat}{m:Nat→UInt8}(hm:QL mk fun i=>(m i).toNat)(hc:c<16777216){w:Nat→BitVec 32}(e: ∀i,(w i).toNat=16777216*(m i).toNat+c):RL (16777216*mk+c*oneL) w:=by
 refine(QL.add (hm.mul 16777216 fun i _=>?_) (mulL c (by omega)) fun i _=>?_).to fun i _=>(e i).symm
 ·have:=(m i).toNat_lt
  omega
 ·have:=(m i).toNat_lt
  omega
theorem llock_ok {mk:Nat}{m:Nat→UInt8}(hm:QL mk fun i=>(m i).toNat):RS (llock maskL oneL (lIV oneL) mk) fun i=>lockW (m i):=
 lblk_to (fun i=>[be4 (m i) 128 0 0,0,0,0,0,0,0,0,0,0,0,0,0,0,0,8]) lIV_ok
  (.cons (RL.const 8 (by decide)) (.cons .zero (.cons .zero (.cons .zero (.cons .zero (.cons .zero (.cons .zero (.cons .zero
    (.cons .zero (.cons .zero (.cons .zero (.cons .zero (.cons .zero (.cons .zero (.cons .zero (.cons (mk_word (w:=fun i=>be4 (m i) 128 0 0) hm (by decide) (fun i=>by rw[be4_nat];simp;omega)) .nil)))))))))))))))) (by simp) (fun i=>rfl)
theorem ltx_ok {mk h:Nat}{m:Nat→UInt8}(hm:QL mk fun i=>(m i).toNat){L:LS}(hL:RS L fun i=>lockW (m i))(hh:h<256):
  RS (ltx maskL oneL (lIV oneL) mk L h) fun i=>txW (UInt8.ofNat h) (UInt8.ofNat (h / 256)) (m i):=by
 rw[ltx,lbind_eq,lbind_eq]
 have h1:RL ((0xff030000+256*h)*oneL) fun _=>be4 255 3 (UInt8.ofNat h) (UInt8.ofNat (h / 256)):=by
  refine(mulL _ (by omega)).to fun i _=>?_
  rw[be4_nat,show h / 256=0 by omega]
  have e:(UInt8.ofNat h).toNat=h:=by simp;omega
  rw[e]
  simp
  omega
 have h2:RL (16777216*mk+0x13200*oneL) fun i=>be4 (m i) 1 50 0:=mk_word hm (by decide) fun i=>by rw[be4_nat];simp;omega
 have z:RL 0 fun _=>(0:BitVec 32):=.zero
 refine lsec_ok (lblk_to (v:=fun i=>blkW iv [0x01000000,0,0,0,0,0,0,0,0x00ffffff,be4 255 3 (UInt8.ofNat h) (UInt8.ofNat (h / 256)),be4 (m i) 1 50 0,0,mix 0 (lockW (m i)).a,mix (lockW (m i)).a (lockW (m i)).b,mix (lockW (m i)).b (lockW (m i)).c,mix (lockW (m i)).c (lockW (m i)).d])
  (fun i=>[mix (lockW (m i)).d (lockW (m i)).e,mix (lockW (m i)).e (lockW (m i)).f,mix (lockW (m i)).f (lockW (m i)).g,mix (lockW (m i)).g (lockW (m i)).h,mix (lockW (m i)).h 0x80000000,0,0,0,0,0,0,0,0,0,0,656]) ?_
  (.cons (RL.const 656 (by decide)) (.cons z (.cons z (.cons z (.cons z (.cons z (.cons z (.cons z (.cons z (.cons z (.cons z
    (.cons (hL.h.mix (RL.const 0x80000000 (by decide))) (.cons (hL.g.mix hL.h) (.cons (hL.f.mix hL.g) (.cons (hL.e.mix hL.f) (.cons (hL.d.mix hL.e) .nil)))))))))))))))) (by simp) (fun i=>rfl))
 exact lblk_to (fun i=>[0x01000000,0,0,0,0,0,0,0,0x00ffffff,be4 255 3 (UInt8.ofNat h) (UInt8.ofNat (h / 256)),be4 (m i) 1 50 0,0,mix 0 (lockW (m i)).a,mix (lockW (m i)).a (lockW (m i)).b,mix (lockW (m i)).b (lockW (m i)).c,mix (lockW (m i)).c (lockW (m i)).d]) lIV_ok
  (.cons (hL.c.mix hL.d) (.cons (hL.b.mix hL.c) (.cons (hL.a.mix hL.b) (.cons (z.mix hL.a) (.cons z (.cons h2 (.cons h1 (.cons (RL.const 0x00ffffff (by decide))
    (.cons z (.cons z (.cons z (.cons z (.cons z (.cons z (.cons z (.cons (RL.const 0x01000000 (by decide)) .nil)))))))))))))))) (by simp) (fun i=>rfl)
def FQ (X:Nat)(f:Nat→Bool):Prop:=QL X fun i=>(f i).toNat
theorem FQ.bit {X:Nat}{f:Nat→Nat}(h:QL X f)(r:Nat)(hr:r<64){g:Nat→Bool}(e: ∀i,i<256→(f i).testBit r=g i):FQ ((X >>> r) &&& oneL) g:=fun i hi=>by
 show ln (X >>> r &&& oneL) i=(g i).toNat
 rw[ln_and,oneL_ln i hi,Nat.and_one_is_mod,←e i hi,←h i hi,ln_bit X i r hr]
 have h0:(ln (X >>> r) i).testBit 0=X.testBit (64*i+r):=by
  rw[ln_bit _ _ _ (by omega),Nat.testBit_shiftRight,Nat.add_zero,Nat.add_comm]
 rw[←h0,Nat.testBit_zero]
 by_cases h1:ln (X >>> r) i % 2=1
 ·rw[decide_eq_true h1,h1];rfl
 ·rw[decide_eq_false h1]
  show ln (X >>> r) i % 2=0
  omega
theorem FQ.all {X:Nat}{f:Nat→Bool}(h:FQ X f)(e:Nat.beq X oneL=true): ∀i,i<256→f i=true:=fun i hi=>by
 have e1:X=oneL:=Nat.eq_of_beq_eq_true e
 have h1:=h i hi
 rw[e1,oneL_ln i hi]at h1
 have h1:1=(f i).toNat:=h1
 cases hf:f i with
 | true=>rfl
 | false=>rw[hf]at h1;cases h1
theorem bit_high {n k:Nat}(h:n<2 ^ (k+1)):n.testBit k=decide (2 ^ k≤n):=by
 rw[Nat.testBit_eq_decide_div_mod_eq]
 have h2:n / 2 ^ k<2:=by
  rw[Nat.div_lt_iff_lt_mul (Nat.two_pow_pos _),Nat.mul_comm,←Nat.pow_succ]
  exact h
 by_cases hc:2 ^ k≤n
 ·have:1≤n / 2 ^ k:=(Nat.le_div_iff_mul_le (Nat.two_pow_pos _)).2 (by omega)
  rw[decide_eq_true hc,decide_eq_true (by omega)]
 ·have:n / 2 ^ k=0:=Nat.div_eq_of_lt (by omega)
  rw[decide_eq_false hc,this]
  rfl
theorem top_ok {X:Nat}{f:Nat→Nat}(h:QL X f)(hf: ∀i,i<256→f i<4294967296):FQ (((X+maskL) >>> 32) &&& oneL) fun i=>decide (f i≠0):=by
 refine FQ.bit (h.add maskL_ln fun i hi=>?_) 32 (by decide) fun i hi=>?_
 ·have:=hf i hi
  omega
 ·have:=hf i hi
  rw[bit_high (by omega)]
  apply decide_eq_decide.2
  omega
theorem lunlike_ok {X Y:Nat}{x y:Nat→BitVec 32}(hx:RL X x)(hy:RL Y y)(e:lunlike maskL oneL X Y=true): ∀i,i<256→x i≠y i:=fun i hi he=>by
 have h1:=(top_ok (hx.xor hy) fun i _=>Nat.xor_lt_two_pow (n:=32) (x i).isLt (y i).isLt).all e i hi
 rw[he]at h1
 simp at h1
theorem markL_nat:QL markL fun i=>(UInt8.ofNat i).toNat:=fun i hi=>by
 have:=packL_ln 256 0 (by omega) i hi
 rw[Nat.zero_add]at this
 refine this.trans ?_
 simp
 omega
theorem lallN_ok {f:Nat→Bool}: ∀{l:List Nat},lallN f l=true→∀x∈l,f x=true
 | [],_,x,hx=>by cases hx
 | a::l,h,x,hx=>by
   have e:lallN f (a::l)=cond (f a) (lallN f l) false:=rfl
   rw[e]at h
   cases ha:f a with
   | false=>rw[ha]at h;cases h
   | true=>
     rw[ha]at h
     rcases List.mem_cons.1 hx with rfl | hx
     ·exact ha
     ·exact lallN_ok h x hx
theorem RW.of_mem: ∀{l:List Nat} {fs:List (Nat→BitVec 32)},RW l fs→∀f∈fs,∃x∈l,RL x f
 | _,_,.nil,f,hf=>by cases hf
 | _,_,.cons h t,f,hf=>by
   rcases List.mem_cons.1 hf with rfl | hf
   ·exact⟨_,List.mem_cons_self,h⟩
   ·obtain⟨x,hx,hr⟩:=t.of_mem f hf
    exact⟨x,List.mem_cons_of_mem _ hx,hr⟩
theorem luniqN_ok: ∀{l:List Nat} {fs:List (Nat→BitVec 32)},RW l fs→luniqN maskL oneL l=true→∀i,i<256→(fs.map fun f=>f i).Pairwise (· ≠ ·)
 | _,_,.nil,_,i,hi=>.nil
 | _,_,.cons (X:=s) (x:=v) (r:=r) (w:=w) h t,e,i,hi=>by
   have e1:luniqN maskL oneL (s::r)=cond (lallN (fun b=>lunlike maskL oneL s b) r) (luniqN maskL oneL r) false:=rfl
   rw[e1]at e
   cases ha:lallN (fun b=>lunlike maskL oneL s b) r with
   | false=>rw[ha]at e;cases e
   | true=>
     rw[ha]at e
     rw[List.map_cons,List.pairwise_cons]
     refine⟨fun a hm=>?_,luniqN_ok t e i hi⟩
     obtain⟨f,hf,rfl⟩:=List.mem_map.1 hm
     obtain⟨x,hx,hr⟩:=t.of_mem f hf
     exact lunlike_ok h hr (lallN_ok ha x hx) i hi
end Go.Ab
namespace Go.Ab
open Go Go.RowKit
def easyB:W32:=545259519#32
def easyR:Rl:=⟨easyB,0,10,50,0,{hdr0 with bits:=easyB},.sl .nil [] 0⟩
set_option maxRecDepth 10000
theorem mineN_some {h:Hdr}{limit:W32}{n:Nat}{x:Hdr}(e:mineN h limit n=some x):x.ver=h.ver∧x.prev=h.prev∧x.root=h.root∧x.time=h.time∧x.bits=h.bits∧provedN x limit=0:=by
 induction n generalizing h with
 | zero=>cases e
 | succ n ih=>
   unfold mineN at e
   split at e
   ·cases e
    rename_i hp
    exact⟨rfl,rfl,rfl,rfl,rfl,hp⟩
   ·exact ih (h:={h with nonce:=h.nonce+1}) e
theorem newM_wf (r:Rl):Wf (newM r):=by
 refine⟨by simp[newM],fun x h=>?_,fun i x h0 h=>?_,fun i x h0 h=>?_⟩
 ·simp[newM]at h;rw[←h];exact⟨rfl,rfl⟩
 ·have:=(List.getElem?_eq_some_iff.1 h).1
  simp[newM]at this;omega
 ·have:=(List.getElem?_eq_some_iff.1 h).1
  simp[newM]at this;omega
theorem ndOf_wf {l:List Nd}(w:Wf l){h:Hdr}{p:Nat}(hp:p<l.length):Wf (l++[ndOf l h p]):=w.push hp rfl rfl rfl
theorem addM_cases (r:Rl)(l:List Nd)(h:Hdr)(now:Int):(addM r l h now).1=l∧(addM r l h now).2.2≠0∨∃p,findM l h.prev=some p∧findM l (hId h)=none∧fitsM r l h p now=0∧l.length≠16384∧addM r l h now=(l++[ndOf l h p],(l.length:Int),0):=by
 unfold addM
 cases h1:findM l (hId h)with
 | some i=>exact .inl ⟨rfl,by simp⟩
 | none=>
   cases h2:findM l h.prev with
   | none=>exact .inl ⟨rfl,by simp⟩
   | some p=>
     dsimp only
     by_cases h3:fitsM r l h p now≠0
     ·rw[if_pos h3];exact .inl ⟨rfl,h3⟩
     ·rw[if_neg h3]
      by_cases h4:l.length=16384
      ·rw[if_pos h4];exact .inl ⟨rfl,by simp⟩
      ·rw[if_neg h4]
       exact .inr ⟨p,rfl,rfl,by simpa using h3,h4,rfl⟩
theorem addM_ok {r:Rl}{l:List Nd}{h:Hdr}{now:Int}{p:Nat}(h1:findM l (hId h)=none)(h2:findM l h.prev=some p)(h3:fitsM r l h p now=0)(h4:l.length≠16384):addM r l h now=(l++[ndOf l h p],(l.length:Int),0):=by
 simp only[addM,h1,h2,h3,h4,if_false,ne_eq,not_true_eq_false]
theorem addM_twice {r:Rl}{l:List Nd}{h:Hdr}{now:Int}{i:Nat}(h1:findM l (hId h)=some i):addM r l h now=(l,(i:Int),5):=by
 simp only[addM,h1]
theorem addM_wf {r:Rl}{l:List Nd}(w:Wf l)(hl:l.length≤16384)(h:Hdr)(now:Int):Wf (addM r l h now).1∧(addM r l h now).1.length≤16384:=by
 rcases addM_cases r l h now with⟨e,_⟩ | ⟨p,h1,_,_,h2,e⟩
 ·rw[e];exact⟨w,hl⟩
 ·rw[e]
  exact⟨ndOf_wf w (findM_lt h1),by simp;omega⟩
theorem median_one {l:List Nd}{i:Nat}(h:timesM l 11 i=[(nd l i).hdr.time]):medianM l i=(nd l i).hdr.time:=by
 unfold medianM middle32 sorted32
 rw[h]
 simp
theorem hspl_ver (h:Hdr)(x:W32):spliceV (eHdr h) 0 [w32 x]=eHdr {h with ver:=x}:=rfl
theorem hspl_prev (h:Hdr)(p:Id):spliceV (eHdr h) 1 (eId p)=eHdr {h with prev:=p}:=by
 have e: ∀g:Hdr,eHdr g=[w32 g.ver]++(eId g.prev++(eId g.root++[w32 g.time,w32 g.bits,w32 g.nonce])):=fun g=>rfl
 rw[e,show 1=1+0 from rfl,splice_right (n:=1) rfl]
 unfold spliceV
 rw[List.take_zero,List.nil_append,Nat.zero_add,show(eId p).length=(eId h.prev).length by rw[eId_len,eId_len],List.drop_left];rfl
def eHpre65 (h:Hdr):List V:=w32 h.ver::(eId h.prev++eId h.root)
theorem eHpre65_len (h:Hdr):(eHpre65 h).length=65:=by simp[eHpre65,eId_len]
theorem eHdr_pre65 (h:Hdr):eHdr h=eHpre65 h++[w32 h.time,w32 h.bits,w32 h.nonce]:=by simp[eHdr,eHpre65]
theorem hspl_time (h:Hdr)(x:W32):spliceV (eHdr h) 65 [w32 x]=eHdr {h with time:=x}:=by
 rw[eHdr_pre65,show 65=65+0 from rfl,splice_right (eHpre65_len _),eHdr_pre65];rfl
theorem hspl_bits (h:Hdr)(x:W32):spliceV (eHdr h) 66 [w32 x]=eHdr {h with bits:=x}:=by
 rw[eHdr_pre65,show 66=65+1 from rfl,splice_right (eHpre65_len _),eHdr_pre65];rfl
theorem build_h4 (v:W32)(p:Id)(t b:W32):fillV (eHdr hdr0) [(0,1,w32 v),(1,32,.agg (eId p)),(65,1,w32 t),(66,1,w32 b)]=some (eHdr {hdr0 with ver:=v,prev:=p,time:=t,bits:=b}):=by
 simp[fillV,eHdr_len,eId_len,hspl_ver,hspl_prev,hspl_time,hspl_bits]
section
variable {P:Program} {F:Fn} {tid:Nat} {r:Rl} {l:List Nd} {L:List Asn} {st:St}
theorem fldV_agg (ag:Bool)(o s:Nat)(cs:List V):fldV ag o s (.agg cs)=(segOf cs o s).bind (packV ag):=rfl
theorem osegHdr (x:Nd):segOf (eNd x) 0 68=some (eHdr x.hdr):=seg_of_take (nsegHdr x) (by rw[eNd_len];omega)
def gen0:Nd:=⟨easyR.gen,hId easyR.gen,-1,0,0,workN ((tgt easyB).getD 0),false⟩
theorem easy_next {l:List Nd}{i:Nat}:nextM easyR l i=(nd l i).hdr.bits:=by simp[nextM,easyR]
end
def preM (r:Rl)(prev:Hdr)(txs:List Tx1):Hdr:=
 ⟨1,hId prev,(rootM (rowsIds txs)).1,prev.time+BitVec.ofInt 32 r.spacing,prev.bits,0⟩
def moreK (more:List Tx1):SK:=if more=[]then .full else .some
def growR (r:Rl)(prev:Hdr)(h:Nat)(mark:UInt8)(more:List Tx1):Hdr×Bool:=
 match mineN (preM r prev (firstM r.subsidy h mark::more)) r.limit 4096 with
 | some x=>(x,true)
 | none=>(hdr0,false)
def growB (r:Rl)(prev:Hdr)(h:Nat)(mark:UInt8)(more:List Tx1):Blk1:=
 ⟨(growR r prev h mark more).1,moreK more,firstM r.subsidy h mark::more⟩
theorem appz_more {t:Tx1}{more:List Tx1}{st:St}{K:V→St→Prop}(hm:more.length≤900)(h:K (txsV (moreK more) (t::more)) st):appzS 2 48 (.sl .full (eTx t) 1) (some (rowsOf eTx more,more.length)) st K:=by
 refine⟨.inr rfl,rfl,by omega,?_,?_⟩
 ·intro h0
  have:more=[]:=List.length_eq_zero_iff.1 h0
  subst this
  simpa[txsV,moreK]using h
 ·intro h0
  have h1:more≠[]:=fun e=>h0 (by rw[e];rfl)
  have e:txsV (moreK more) (t::more)=.sl .some (eTx t++rowsOf eTx more) (1+more.length):=by
   rw[txsV,moreK,if_neg h1,rowsOf_cons,List.length_cons]
   congr 1
   omega
  rwa [e]at h
theorem blkFill1 (k:SK)(l:List Tx1):fillV z69_adc1 [(68,1,txsV k l)]=some (eBlk ⟨hdr0,k,l⟩):=by
 have:=blkFill hdr0 k l
 simp only[fillV]at this⊢
 have hc1:(V.agg (eHdr hdr0)).cells? =some (eHdr hdr0):=rfl
 rw[hc1]at this
 simp only[]at this
 rw[if_pos ⟨eHdr_len _,by rw[z69_adc1_len];omega⟩]at this
 have e1:z69_adc1=eBlk ⟨hdr0,.nil,[]⟩:=rfl
 rw[e1,bsplH]at this
 exact this
theorem growR_eq (r:Rl)(prev:Hdr)(h:Nat)(mark:UInt8)(more:List Tx1):mineR (preM r prev (firstM r.subsidy h mark::more)) r.limit 4096=.tup [.agg (eHdr (growR r prev h mark more).1),.bool (growR r prev h mark more).2]:=by
 rw[mineR,growR]
 cases mineN (preM r prev (firstM r.subsidy h mark::more)) r.limit 4096<;>rfl
section
variable {P:Program} {F:Fn}
set_option maxHeartbeats 4000000 in
theorem spec189 (ok:OkHonest P F)(st:St)(r:Rl)(prev:Hdr)(h:Nat)(hh:h≤100000)(mark:UInt8)(k:SK)(more:List Tx1)(hm:more.length≤900)(hmo: ∀t∈more,t.ok 100):
  ACalls P (F 189) [.agg (eRl r),.agg (eHdr prev),.int .i64 (h:Int),w8 mark,txsV k more] st fun v st'=>v=.tup [.agg (eBlk (growB r prev h mark more)),.bool (growR r prev h mark more).2]∧st'=st:=by
 refine shows_call ok.mixed ok.h189 (by simp[k189]) ?_
 simp only[k189]
 simp
 intro i5 h5
 have S:=(Sep.start st).new h5 (.cells (eRl r))
 generalize st.upd i5 _=st1 at S⊢
 simp
 intro i6 h6
 have S:=S.new h6 (.cells (eHdr prev))
 generalize st1.upd i6 _=st2 at S⊢
 simp
 intro i10 h10
 have S:=S.new h10 (.cells z69_adc1)
 generalize st2.upd i10 _=st3 at S⊢
 have o5:=S.mem (i:=i5) (o:=.cells (eRl r)) (by simp)
 have hsg:segOf (eRl r) 0 74=some (eRl r):=by simp[segOf,eRl_len,List.take_of_length_le]
 simp[St.seg,o5,hsg]
 refine(spec191 ok st3 r h hh mark).mono ?_
 rintro v st3 ⟨rfl,rfl⟩
 obtain⟨t,ht⟩: ∃t,t=firstM r.subsidy h mark:=⟨_,rfl⟩
 have htk:t.ok 100:=by rw[ht];exact firstM_ok _ _ _
 rw[←ht]
 have hft:fillV (repV [V.sl SK.nil [] 0,V.sl SK.nil [] 0] 1) [(0,2,.agg (eTx t))]=some (eTx t):=rfl
 have hel:elems st3 2 (txsV k more)=some (rowsOf eTx more,more.length):=Rd.elems eTx_len (.inl ⟨k,rfl⟩)
 simp[hft,hel]
 refine appz_more hm ?_
 obtain⟨b0,hb0⟩: ∃b0:Blk1,b0=⟨hdr0,moreK more,t::more⟩:=⟨_,rfl⟩
 have hfb:=blkFill1 (moreK more) (t::more)
 rw[←hb0]at hfb
 simp[hfb]
 intro i12 h12
 have S:=S.new h12 (.cells z69_adc1)
 have hst:=store_pt (sz:=69) (o:=0) S.get (v:=.agg (eBlk b0)) (vs:=eBlk b0) rfl (eBlk_len b0) (by simp)
 rw[show spliceV z69_adc1 0 (eBlk b0)=eBlk b0 by simp[spliceV,eBlk_len]]at hst
 have S:=S.set (.cells (eBlk b0))
 simp[hst]at S⊢
 generalize st3.upd i12 (.cells (eBlk b0))=st4 at S⊢
 have o5:=S.mem (i:=i5) (o:=.cells (eRl r)) (by simp)
 have o6:=S.mem (i:=i6) (o:=.cells (eHdr prev)) (by simp)
 simp[St.seg,o5,o6,hsegAll]
 refine⟨_,spec141 ok.toOkTx.toOkHead st4 prev,?_⟩
 obtain⟨p,hp⟩: ∃p,p=hId prev:=⟨_,rfl⟩
 obtain⟨tm,htm⟩: ∃tm,tm=prev.time+BitVec.ofInt 32 r.spacing:=⟨_,rfl⟩
 have hfh:fillV z68_39b1 [(0,1,w32 1#32),(1,32,.agg (eId p)),(65,1,w32 tm),(66,1,w32 prev.bits)]=some (eHdr ⟨1,p,id0,tm,prev.bits,0⟩):=by
  rw[z68_eq,build_h4];rfl
 rw[←hp]
 simp[St.seg,o5,o6,hsegTime,hsegBits,rsegSpacing,←htm,hfh]
 have hst:=store_pt (sz:=68) (o:=0) S.get (v:=.agg (eHdr ⟨1#32,p,id0,tm,prev.bits,0#32⟩)) (vs:=eHdr ⟨1#32,p,id0,tm,prev.bits,0#32⟩) rfl (eHdr_len _) (by rw[eBlk_len];omega)
 rw[bsplH]at hst
 obtain⟨b1,hb1⟩: ∃b1:Blk1,b1={b0 with hdr:=⟨1#32,p,id0,tm,prev.bits,0#32⟩}:=⟨_,rfl⟩
 rw[←hb1]at hst
 have S:=S.set (.cells (eBlk b1))
 simp[hst]
 generalize st4.upd i12 (.cells (eBlk b1))=st5 at S⊢
 have o12:=S.get
 have et:txsV b1.tk b1.txs=txsV (moreK more) (t::more):=by rw[hb1,hb0]
 have hsT:=bsegT b1
 rw[et]at hsT
 simp[St.seg,o12,hsT]
 refine(spec192 ok.toOkTx st5 (s:=txsV (moreK more) (t::more)) (l:=t::more) (.inl ⟨_,rfl⟩) (by simp;omega) (by
  intro x hx
  rcases List.mem_cons.1 hx with rfl | hx
  ·exact htk
  ·exact hmo x hx)).mono ?_
 rintro v st5 ⟨rfl,rfl⟩
 obtain⟨rt,hrt⟩: ∃rt,rt=(rootM (rowsIds (t::more))).1:=⟨_,rfl⟩
 rw[←hrt]
 have hst:=store_pt (sz:=32) (o:=33) S.get (v:=.agg (eId rt)) (vs:=eId rt) rfl (eId_len _) (by rw[eBlk_len];omega)
 rw[bsplRoot]at hst
 obtain⟨b2,hb2⟩: ∃b2:Blk1,b2={b1 with hdr:={b1.hdr with root:=rt}}:=⟨_,rfl⟩
 rw[←hb2]at hst
 have S:=S.set (.cells (eBlk b2))
 simp[hst]
 generalize st5.upd i12 (.cells (eBlk b2))=st6 at S⊢
 have o12:=S.get
 have o5:=S.mem (i:=i5) (o:=.cells (eRl r)) (by simp)
 have hpre:b2.hdr=preM r prev (t::more):=by rw[hb2,hb1,hrt,htm,hp];rfl
 have hsH:=bsegH b2
 simp[St.seg,o12,o5,hsH,rsegLimit]
 refine(spec143 ok.toOkTx.toOkHead st6 b2.hdr r.limit 4096).mono ?_
 rintro v st6 ⟨rfl,rfl⟩
 have hge:=growR_eq r prev h mark more
 rw[←ht]at hge
 rw[show(max 0 (min (4096:Int) 65536)).toNat=4096 from rfl,hpre,hge]
 obtain⟨g,hg⟩: ∃g,g=growR r prev h mark more:=⟨_,rfl⟩
 rw[←hg]
 simp
 intro i13 h13
 have S:=S.new h13 (.cells z68_39b1)
 have hst:=store_pt (sz:=68) (o:=0) S.get (v:=.agg (eHdr g.1)) (vs:=eHdr g.1) rfl (eHdr_len _) (by simp)
 rw[z68_eq,splice_hdr,←z68_eq]at hst
 have S:=S.set (.cells (eHdr g.1))
 simp[hst]at S⊢
 generalize st6.upd i13 (.cells (eHdr g.1))=st7 at S⊢
 have o13:=S.get
 have hst:=store_pt (sz:=68) (o:=0) (S.mem (i:=i12) (o:=.cells (eBlk b2)) (by simp)) (v:=.agg (eHdr g.1)) (vs:=eHdr g.1) rfl (eHdr_len _) (by rw[eBlk_len];omega)
 rw[bsplH]at hst
 obtain⟨b3,hb3⟩: ∃b3:Blk1,b3={b2 with hdr:=g.1}:=⟨_,rfl⟩
 rw[←hb3]at hst
 have S:=S.setAt (.cells (eBlk b3)) 1 rfl
 simp only[List.set_cons_succ,List.set_cons_zero]at S
 simp[St.seg,o13,hsegAll,hst]
 generalize st7.upd i12 (.cells (eBlk b3))=st8 at S⊢
 have o12:=S.mem (i:=i12) (o:=.cells (eBlk b3)) (by simp)
 have hst:=store_pt (sz:=69) (o:=0) (S.mem (i:=i10) (o:=.cells z69_adc1) (by simp)) (v:=.agg (eBlk b3)) (vs:=eBlk b3) rfl (eBlk_len b3) (by simp)
 rw[show spliceV z69_adc1 0 (eBlk b3)=eBlk b3 by simp[spliceV,eBlk_len]]at hst
 have S:=S.setAt (.cells (eBlk b3)) 2 rfl
 have he:b3=growB r prev h mark more:=by rw[hb3,hb2,hb1,hb0,hg,ht];rfl
 simp[St.seg,o12,bsegAll,hst]
 exact⟨S.was' (st0:=st) (by simp),by rw[he]⟩
end
section
variable {α:Type} {f:α→List V} {sz:Nat}
def Slv (sz:Nat)(f:α→List V)(s:V)(l:List α):Asn:=fun h=>
 (∃k,(k=.nil∨k=.full)∧s=.sl k (rowsOf f l) l.length)∨∃sid,s=.hsl sid 0 sz l.length∧h sid=some (.cells (rowsOf f l))
theorem Sep.slvPut {L:List Asn}{st:St}(h:Sep L st)(l:List α):Sep (Slv sz f (.sl .full (rowsOf f l) l.length) l::L) st:=h.put (.inl ⟨.full,.inr rfl,rfl⟩)
theorem Sep.slvRd (hf: ∀a,(f a).length=sz){s:V}{l:List α}{L:List Asn}{st:St}(h:Sep (Slv sz f s l::L) st):Rd sz f s l st:=by
 obtain⟨h',h1,h2⟩:=h.part
 rcases h2 with⟨k,_,hk⟩ | ⟨sid,hs,hc⟩
 ·exact .inl ⟨k,hk⟩
 ·refine .inr ⟨sid,0,hs,?_⟩
  have:=h1 _ _ hc
  have hl:=rowsOf_length hf l
  simp only[St.seg,this]
  simp[segOf,←hl]
theorem Sep.appvH (hf: ∀a,(f a).length=sz)(hsz:0<sz){s:V}{l:List α}{L:List Asn}{st:St}(h:Sep (Slv sz f s l::L) st){b:Nat}(m:List α)(hm0:m≠[]){ys:List V}{n:Nat}(hys:ys=rowsOf f m)(hn:n=m.length)(hb:(l.length+n)*b≤140737488355328){K:V→St→Prop}
  (hK: ∀s' st' sid,s'=.hsl sid 0 sz (l++m).length→Sep (Slv sz f s' (l++m)::L) st'→K s' st'):appS sz b s (some (ys,n)) st K:=by
 subst hys
 subst hn
 obtain⟨a0,r,h1,h2,h3,h4⟩:=h
 have hl:=rowsOf_length hf l
 rcases h3 with⟨k,hk,rfl⟩ | ⟨sid,rfl,h5⟩
 ·refine⟨hk,hl,hb,fun h0'=>absurd (List.length_eq_zero_iff.1 h0') hm0,?_⟩
  intro h0' id hid
  refine hK _ _ id (by simp) ?_
  have hsub:St.sub r st:=sub_trans (sub_right h1) h2
  have:=(h4.sub hsub).new hid (.cells (rowsOf f l++rowsOf f m))
  exact this.head fun h hh=>.inr ⟨id,by simp,hh.trans (by simp)⟩
 ·refine Sep.appx hf hsz (l:=l) (L:=L) ⟨a0,r,h1,h2,.inr ⟨sid,rfl,h5⟩,h4⟩ hb ?_
  intro s' st' S
  obtain⟨a1,r1,q1,q2,q3,q4⟩:=S
  rcases q3 with⟨hs,he⟩ | ⟨id,rfl,q5⟩
  ·exact absurd (List.append_eq_nil_iff.1 he).2 hm0
  ·exact hK _ _ id rfl ⟨a1,r1,q1,q2,.inr ⟨id,rfl,q5⟩,q4⟩
def honV (l:List Blk1):V:=.sl (if l.length=1 then .full else .some) (rowsOf eBlk l) l.length
theorem Sep.frzHon {s:V}{l:List Blk1}{L:List Asn}{st:St}(h:Sep (Slv 69 eBlk s l::L) st)(h1:l.length=1→s=.sl .full (rowsOf eBlk l) l.length)(h2:l.length≠1→∃sid,s=.hsl sid 0 69 l.length)(h0:l≠[]):
  ∃st',frzV st s=some (honV l,st')∧Sep L st':=by
 by_cases e:l.length=1
 ·rw[h1 e]
  exact⟨st,by rw[honV,if_pos e];rfl,h.drop⟩
 ·obtain⟨sid,hs⟩:=h2 e
  obtain⟨a,r,k1,k2,k3,k4⟩:=h
  rcases k3 with⟨k,hk,hs'⟩ | ⟨sid',hs',k5⟩
  ·rw[hs]at hs';cases hs'
  ·rw[hs]at hs'
   cases hs'
   obtain⟨k,st',e1,S,e2⟩:=Sep.frzSl eBlk_len (s:=.hsl sid 0 69 l.length) (l:=l) (L:=L) ⟨a,r,k1,k2,.inr ⟨sid,[],rfl,by rw[k5,List.append_nil],by simp⟩,k4⟩
   have:=e2 h0
   subst this
   exact⟨st',by rw[hs,honV,if_neg e];exact e1,S⟩
end
def lastH (out:List Blk1):Hdr:=match out.getLast? with | some b=>b.hdr | none=>hdr0
def chainGo (r:Rl)(mark:UInt8):Nat→Nat→List Blk1→List Blk1
 | 0,_,out=>out
 | n+1,h,out=>if(growR r (lastH out) h mark []).2=true then chainGo r mark n (h+1) (out++[growB r (lastH out) h mark []])else out
def chainM (r:Rl)(g:Blk1)(n:Int)(mark:UInt8):List Blk1:=chainGo r mark n.toNat 1 [g]
theorem lastH_at {out:List Blk1}{i:Nat}(h:i<out.length)(he:i+1=out.length):lastH out=out[i].hdr:=by
 unfold lastH
 rw[List.getLast?_eq_getElem?]
 have:out.length-1=i:=by omega
 rw[this,List.getElem?_eq_getElem h]
section
variable {P:Program} {F:Fn}
theorem fldP_zero {s:V}{i sz:Nat}(h:fldAV 0 (rowP sz s i)=some (rowP sz s i)):fldP 0 (rowP sz s i)=rowP sz s i:=by
 rw[fldP,h];rfl
set_option maxHeartbeats 4000000 in
theorem spec188 (ok:OkHonest P F)(st:St)(r:Rl)(g:Blk1)(hg:r.gen=g.hdr)(ht:r.txs=txsV g.tk g.txs)(n:Int)(hn:n≤1000)(mark:UInt8):
  ACalls P (F 188) [.agg (eRl r),.int .i64 n,w8 mark] st fun v st'=>v=honV (chainM r g n mark)∧st'=st:=by
 refine shows_call ok.mixed ok.h188 (by simp[k188]) ?_
 simp only[k188]
 simp
 intro i3 h3
 have S:=(Sep.start st).new h3 (.cells (eRl r))
 generalize st.upd i3 _=st1 at S⊢
 have o3:=S.get
 have hsg:segOf (eRl r) 5 69=some (eBlk g):=seg_of_drop (zs:=[]) (by rw[List.append_nil,eBlk,←ht,←hg];rfl) (eBlk_len g) (by omega)
 have hsa:segOf (eRl r) 0 74=some (eRl r):=by simp[segOf,eRl_len,List.take_of_length_le]
 have hfb: ∀b:Blk1,fillV (repV z69_adc1 1) [(0,69,.agg (eBlk b))]=some (eBlk b):=fun b=>by
  rw[show repV z69_adc1 1=z69_adc1 by simp[repV]]
  simp[fillV,eBlk_len,spliceV]
 simp[St.seg,o3,hsg,hfb]
 have S:=S.slvPut (sz:=69) (f:=eBlk) [g]
 have e1:V.sl .full (rowsOf eBlk [g]) [g].length=.sl .full (eBlk g) 1:=by simp
 rw[e1]at S
 refine vc_loopJ (fun c env' st'=>∃(h:Nat) (out:List Blk1) (s7:V),1≤h∧(h:Int)≤max 0 n+1∧c=(n+1-h).toNat∧out.length=h∧chainGo r mark (n+1-h).toNat h out=chainM r g n mark∧env' 8=.int .i64 (h:Nat)∧env' 7=s7∧(out.length=1→s7=.sl .full (rowsOf eBlk out) out.length)∧(out.length≠1→∃sid,s7=.hsl sid 0 69 out.length)∧Sep [Slv 69 eBlk s7 out,pt i3 (.cells (eRl r)),Was st] st') n.toNat
  ⟨1,[g],_,by omega,by omega,by omega,rfl,by rw[chainM];congr 1;omega,by simp,by simp,fun _=>by simp,fun h=>absurd rfl h,S⟩ ?_
 rintro J hJ c env' st2 hsame ⟨h,out,s7,hh1,hhn,rfl,hol,hgo,h8,h7,q1,q2,S⟩
 have g1:=(hsame.get 1 rfl).trans (by simp:_=V.int .i64 n)
 have g2:=(hsame.get 2 rfl).trans (by simp:_=w8 mark)
 have g3:=(hsame.get 3 rfl).trans (by simp:_=V.ptr (some (i3,0)))
 clear hsame
 by_cases hle:(h:Int)≤n
 ·have w1:IntKind.i64.wrap ((h:Int)-1)=((h-1:Nat):Int):=by rw[wrap64 (by omega) (by omega)];omega
  have w2:IntKind.i64.wrap ((h:Int)+1)=(h:Int)+1:=wrap64 (by omega) (by omega)
  have rd:=S.slvRd eBlk_len
  have hlt:h-1<out.length:=by omega
  obtain⟨r1,r2,r3,r4⟩:=rd.row eBlk_len hlt
  have r5:=(r4 0 68 (by omega)).2
  rw[fldP_zero r2]at r5
  have r6:((eBlk out[h-1]).drop 0).take 68=eHdr out[h-1].hdr:=by
   rw[List.drop_zero,eBlk,List.take_left' (eHdr_len _)]
  rw[r6]at r5
  have hlast:=lastH_at hlt (by omega)
  rw[←hlast]at r5
  have o3:=S.mem (i:=i3) (o:=.cells (eRl r)) (by simp)
  have ef:(n+1-(h:Int)).toNat=(n+1-((h+1:Nat):Int)).toNat+1:=by omega
  rw[ef,chainGo]at hgo
  simp[g1,g2,g3,h8,h7,hle,w1,r1,r2,r5,St.seg,o3,hsa]
  refine(spec189 ok st2 r (lastH out) h (by omega) mark .nil [] (by simp) (by simp)).mono ?_
  rintro v st2 ⟨rfl,rfl⟩
  obtain⟨b,hb⟩: ∃b,b=growB r (lastH out) h mark []:=⟨_,rfl⟩
  obtain⟨y,hy⟩: ∃y,y=(growR r (lastH out) h mark []).2:=⟨_,rfl⟩
  rw[←hb,←hy]at hgo⊢
  simp
  intro i9 h9
  have S:=S.new h9 (.cells z69_adc1)
  have hst:=store_pt (sz:=69) (o:=0) S.get (v:=.agg (eBlk b)) (vs:=eBlk b) rfl (eBlk_len b) (by simp)
  rw[show spliceV z69_adc1 0 (eBlk b)=eBlk b by simp[spliceV,eBlk_len]]at hst
  have S:=S.set (.cells (eBlk b))
  simp[hst]at S⊢
  generalize st2.upd i9 (.cells (eBlk b))=st3 at S⊢
  have o9:=S.get
  cases y with
  | true=>
    rw[if_pos rfl]at hgo
    have hel:elems st3 69 (.sl .full (eBlk b) 1)=some (rowsOf eBlk [b],1):=by simp[elems,eBlk_len]
    simp[h7,St.seg,o9,bsegAll,hfb,hel]
    refine Sep.appvH (b:=104) eBlk_len (by omega) (S.drop) [b] (by simp) (by simp) rfl (by rw[List.length_singleton];omega) ?_
    intro s' st4 sid hs' S
    simp[h8,w2]
    exact Round.mk (n+1-((h+1:Nat):Int)).toNat _ (by omega) (sub_self _) (hJ _ _ _ ⟨h+1,out++[b],s',by omega,by omega,rfl,by simp[hol],hgo,by simp,by simp,fun h=>by(rw[List.length_append,List.length_singleton]at h;omega),fun _=>⟨sid,hs'⟩,S⟩)
  | false=>
    rw[if_neg (by simp)]at hgo
    simp[h7]
    obtain⟨st4,hfz,S⟩:=Sep.frzHon S.drop q1 q2 (fun h=>by rw[h]at hol;simp at hol;omega)
    rw[hgo]at hfz
    refine frzP_one (by simpa[h7]using hfz) ?_
    simp
    exact S.was' (st0:=st) (by simp)
 ·have:(n+1-(h:Int)).toNat=0:=by omega
  rw[this,chainGo]at hgo
  simp[g1,h8,hle]
  obtain⟨st4,hfz,S⟩:=Sep.frzHon S q1 q2 (fun h=>by rw[h]at hol;simp at hol;omega)
  rw[hgo]at hfz
  refine frzP_one (by simpa[h7]using hfz) ?_
  simp
  exact S.was' (st0:=st) (by simp)
end
theorem vc_joinB {P:Program}{c rest:PC}{id:Nat}{Q:Ex→Env→St→Prop}{env:Env}{st:St}(M:Env→St→Prop)
  (h:vc P c (blkK id (unrK M Q)) env st) (k: ∀env' st',Same c.writes env env'→M env' st'→vc P rest Q env' st'):vc P c (blkK id (seqK P rest Q)) env st:=by
 refine vc_frame c _ _ env st (fun ex env' st' hs hq=>?_) h
 cases ex with
 | normal=>exact k env' st' hs hq
 | exit j=>
   unfold blkK at hq⊢
   by_cases hj:j=id
   ·simp only[hj,if_true]at hq⊢
    exact k env' st' hs hq
   ·simp only[hj,if_false]at hq⊢
    exact hq
 | ret=>exact hq
end Go.Ab
namespace Go.Ab
def easyN:Nat:=8388607*2 ^ 232
theorem easy_tgt:tgt 545259519#32=some easyN:=by decide+kernel
theorem idV_a {v w:V8}(h:idV v=idV w):v.a=w.a:=by
 have e:outV v=outV w:=congrArg Vector.toList h
 have h1:=words_outV v []
 rw[e,words_outV]at h1
 simp only[V8.list,List.cons_append,List.cons.injEq]at h1
 exact h1.1.symm
def genB:Blk1:=⟨genM,.full,[firstM 50 0 0]⟩
noncomputable def ltxs (M O:Nat)(iv L:LS)(n:Nat):Nat→List Nat→List Nat:=
 Nat.rec (motive:=fun _=>Nat→List Nat→List Nat) (fun _ out=>out) (fun _ ih h out=>lbind (ltx M O iv markL L h) fun T=>frc (h+1) fun h'=>ih h' (T.a::out)) n
noncomputable def ltxU:Bool:=
 frc oneL fun O=>frc (4294967295*O) fun M=>lbind (lIV O) fun iv=>lbind (llock M O iv markL) fun L=>lbind (llock M O iv 0) fun L0=>lbind (ltx M O iv 0 L0 0) fun G=>luniqN M O (ltxs M O iv L 40 1 [G.a])
set_option maxRecDepth 100000 in
theorem ltxU_true:ltxU=true:=by decide+kernel
theorem ltxs_ok {L:LS}(hL:RS L fun i=>lockW (UInt8.ofNat i))(hm:QL markL fun i=>(UInt8.ofNat i).toNat): ∀(n h:Nat) (out:List Nat) (fs:List (Nat→BitVec 32)),h+n≤256→RW out fs→
  RW (ltxs maskL oneL (lIV oneL) L n h out) (((List.range' h n).map fun k (i:Nat)=>(txW (UInt8.ofNat k) (UInt8.ofNat (k / 256)) (UInt8.ofNat i)).a).reverse++fs)
 | 0,h,out,fs,_,hw=>hw
 | n+1,h,out,fs,hh,hw=>by
   have e:ltxs maskL oneL (lIV oneL) L (n+1) h out=lbind (ltx maskL oneL (lIV oneL) markL L h) fun T=>frc (h+1) fun h'=>ltxs maskL oneL (lIV oneL) L n h' (T.a::out):=rfl
   rw[e]
   simp only[lbind_eq,frc_eq]
   have ht:=ltx_ok (h:=h) hm hL (by omega)
   have ih:=ltxs_ok hL hm n (h+1) _ _ (by omega) (RW.cons ht.a hw)
   rw[List.range'_succ,List.map_cons,List.reverse_cons,List.append_assoc]
   exact ih
theorem txs_all (m:UInt8):((txW 0 0 0).a::(List.range' 1 40).map fun k=>(txW (UInt8.ofNat k) (UInt8.ofNat (k / 256)) m).a).Pairwise (· ≠ ·):=by
 have hm:=markL_nat
 have hL:=llock_ok hm
 have hz:QL 0 fun _=>((0:UInt8)).toNat:=by
  intro i hi
  simp[ln]
 have hG:=ltx_ok (h:=0) (m:=fun _=>0) hz (llock_ok (m:=fun _=>0) hz) (by omega)
 have e:ltxU=luniqN maskL oneL (ltxs maskL oneL (lIV oneL) (llock maskL oneL (lIV oneL) markL) 40 1 [(ltx maskL oneL (lIV oneL) 0 (llock maskL oneL (lIV oneL) 0) 0).a]):=by
  unfold ltxU
  simp only[lbind_eq,frc_eq]
  rfl
 have hU:=ltxU_true
 rw[e]at hU
 have hw:=ltxs_ok hL hm 40 1 _ _ (by omega) (RW.cons hG.a .nil)
 have hp:=luniqN_ok hw hU m.toNat m.toNat_lt
 have hmm:UInt8.ofNat m.toNat=m:=by simp
 have h9:=List.pairwise_reverse.2 (List.Pairwise.imp (S:=fun a b=>b≠a) (fun h=>Ne.symm h) hp)
 rw[List.map_append,List.map_reverse,List.reverse_append,List.reverse_reverse,List.map_map]at h9
 have e2:((fun f:Nat→BitVec 32=>f m.toNat)∘fun k (i:Nat)=>(txW (UInt8.ofNat k) (UInt8.ofNat (k / 256)) (UInt8.ofNat i)).a)=fun k=>(txW (UInt8.ofNat k) (UInt8.ofNat (k / 256)) m).a:=by
  funext k
  show(txW (UInt8.ofNat k) (UInt8.ofNat (k / 256)) (UInt8.ofNat m.toNat)).a=_
  rw[hmm]
 rw[e2]at h9
 exact h9
end Go.Ab
namespace Go.Ab
open Go Go.RowKit
set_option maxRecDepth 10000
def sumGo:Int→List Out1→Int×Bool
 | n,[]=>(n,true)
 | n,o::l=>if o.amt<0∨1125899906842624<o.amt then(0,false)else if 1125899906842624<n+o.amt then(0,false)else sumGo (n+o.amt) l
def sumM (l:List Out1):Int×Bool:=sumGo 0 l
abbrev Pt:=Id×W32
def ePt (p:Pt):List V:=eId p.1++[w32 p.2]
theorem ePt_len (p:Pt):(ePt p).length=33:=by simp[ePt,eId_len]
def kPt (p:Pt):V:=.agg (ePt p)
theorem eqL_app: ∀(a b c d:List V) (r s:Bool),eqL a b=some r→eqL c d=some s→eqL (a++c) (b++d)=some (r&&s)
 | [],[],c,d,r,s,h1,h2=>by
   cases h1
   simpa using h2
 | [],b::bs,c,d,r,s,h1,h2=>by cases h1
 | a::as,[],c,d,r,s,h1,h2=>by cases a<;>cases h1
 | .int k a::as,.int k' b::bs,c,d,r,s,h1,h2=>by
   simp only[eqL,List.cons_append]at h1⊢
   split at h1
   ·rename_i hk
    rw[if_pos hk]
    obtain⟨t,h3,h4⟩:=Option.map_eq_some_iff.1 h1
    rw[eqL_app as bs c d t s h3 h2]
    subst h4
    simp[Bool.and_assoc]
   ·cases h1
 | .bool _::_,_::_,_,_,_,_,h1,_=>by simp[eqL]at h1
 | .str _::_,_::_,_,_,_,_,h1,_=>by simp[eqL]at h1
 | .ptr _::_,_::_,_,_,_,_,h1,_=>by simp[eqL]at h1
 | .eptr _::_,_::_,_,_,_,_,h1,_=>by simp[eqL]at h1
 | .sl _ _ _::_,_::_,_,_,_,_,h1,_=>by simp[eqL]at h1
 | .hsl _ _ _ _::_,_::_,_,_,_,_,h1,_=>by simp[eqL]at h1
 | .map _::_,_::_,_,_,_,_,h1,_=>by simp[eqL]at h1
 | .func _ _::_,_::_,_,_,_,_,h1,_=>by simp[eqL]at h1
 | .nilf::_,_::_,_,_,_,_,h1,_=>by simp[eqL]at h1
 | .agg _::_,_::_,_,_,_,_,h1,_=>by simp[eqL]at h1
 | .tup _::_,_::_,_,_,_,_,h1,_=>by simp[eqL]at h1
 | .junk::_,_::_,_,_,_,_,h1,_=>by simp[eqL]at h1
 | .int _ _::_,.bool _::_,_,_,_,_,h1,_=>by simp[eqL]at h1
 | .int _ _::_,.str _::_,_,_,_,_,h1,_=>by simp[eqL]at h1
 | .int _ _::_,.ptr _::_,_,_,_,_,h1,_=>by simp[eqL]at h1
 | .int _ _::_,.eptr _::_,_,_,_,_,h1,_=>by simp[eqL]at h1
 | .int _ _::_,.sl _ _ _::_,_,_,_,_,h1,_=>by simp[eqL]at h1
 | .int _ _::_,.hsl _ _ _ _::_,_,_,_,_,h1,_=>by simp[eqL]at h1
 | .int _ _::_,.map _::_,_,_,_,_,h1,_=>by simp[eqL]at h1
 | .int _ _::_,.func _ _::_,_,_,_,_,h1,_=>by simp[eqL]at h1
 | .int _ _::_,.nilf::_,_,_,_,_,h1,_=>by simp[eqL]at h1
 | .int _ _::_,.agg _::_,_,_,_,_,h1,_=>by simp[eqL]at h1
 | .int _ _::_,.tup _::_,_,_,_,_,h1,_=>by simp[eqL]at h1
 | .int _ _::_,.junk::_,_,_,_,_,h1,_=>by simp[eqL]at h1
theorem eqL_w32 (x y:W32):eqL [w32 x] [w32 y]=some (decide (x=y)):=by
 show eqL [.int .u32 (x.toNat:Int)] [.int .u32 (y.toNat:Int)]=_
 simp only[eqL,if_true,Option.map_some,Bool.and_true,Option.some.injEq]
 rw[Bool.eq_iff_iff]
 simp only[beq_iff_eq,decide_eq_true_eq]
 constructor
 ·intro h
  exact BitVec.eq_of_toNat_eq (by omega)
 ·intro h
  rw[h]
theorem eqL_pt (a b:Pt):eqL (ePt a) (ePt b)=some (decide (a=b)):=by
 rw[ePt,ePt,eqL_app _ _ _ _ _ _ (eqL_id a.1 b.1) (eqL_w32 a.2 b.2)]
 congr 1
 rw[Bool.eq_iff_iff]
 simp only[Bool.and_eq_true,decide_eq_true_eq,Prod.ext_iff]
theorem keyed_pt:Keyed kPt (.agg 33):=⟨fun k=>by simp[isKey,kPt,ePt_len],fun a b=>by
 simp only[keyEq,kPt]
 rw[if_pos (ePt_len a),eqL_pt]⟩
theorem lookup_lk0 {K A:Type}[DecidableEq K]{ek:K→V}{ev:A→V}{kk:KK}(hk:Keyed ek kk){st:St}{id:Nat}{l:List (K×A)}(h:st id=some (.mp (encM ek ev l)))(z:V)(k:K):
  lookupV st kk z false (.map (some id)) (ek k)=some (((lk k l).map ev).getD z):=by
 rw[lookup_enc hk h,if_neg (by simp)];rfl
def In1.pt (x:In1):Pt:=(x.tx,x.ix)
def makerP:Pt:=(id0,4294967295#32)
theorem insegPt (x:In1):segOf (eIn x) 0 33=some (ePt x.pt):=seg_of_drop (zs:=[keyV x.kk x.key]) (by rw[List.drop_zero];simp[eIn,ePt,In1.pt]) (ePt_len _) (by omega)
def insGo (first:Bool):List Pt→List In1→Option Int
 | _,[]=>none
 | seen,x::l=>if 100<x.key.length then some 2 else if decide (x.pt=makerP)≠first then some 120 else if x.pt∈seen then some 5 else insGo first (x.pt::seen) l
def txM (t:Tx1)(first:Bool):Int:=
 if t.ins.length=0∨t.outs.length=0∨32<t.ins.length∨32<t.outs.length then 120 else
 match insGo first [] t.ins with
 | some e=>e
 | none=>if(sumM t.outs).2=true then 0 else 121
theorem insV_len (t:Tx1):lenSlV (insV t)=some (.int .i64 t.ins.length):=rfl
theorem outsV_len (t:Tx1):lenSlV (outsV t)=some (.int .i64 t.outs.length):=rfl
theorem tsegIns (t:Tx1):segOf (eTx t) 0 1=some [insV t]:=rfl
theorem tsegOuts (t:Tx1):segOf (eTx t) 1 1=some [outsV t]:=rfl
theorem tsegAll (t:Tx1):segOf (eTx t) 0 2=some (eTx t):=rfl
section
variable {P:Program} {F:Fn}
set_option maxHeartbeats 2000000 in
theorem spec250 (ok:OkCheck P F)(st:St){s:V}{l:List Out1}(hr:Rd 33 eOut s l st)(hl:l.length≤100000):ACalls P (F 250) [s] st fun v st'=>v=.tup [.int .i64 (sumM l).1,.bool (sumM l).2]∧st'=st:=by
 refine shows_call ok.mixed ok.h250 (by simp[k250]) ?_
 simp only[k250]
 have hlen:=hr.len
 simp[hlen]
 refine vc_loopJ (fun c env' st'=>∃(i:Nat) (n:Int),i≤l.length∧c=l.length-i∧env' 9=.int .i64 (i:Nat)∧env' 4=.int .i64 n∧0≤n∧n≤1125899906842624∧sumGo n (l.drop i)=sumM l∧Sep [Was st] st') l.length
  ⟨0,0,by omega,by omega,by simp,by simp,by omega,by omega,by simp[sumM],Sep.start st⟩ ?_
 rintro J hJ c env' st2 hsame ⟨i,n,hi,rfl,h9,h4,hn0,hn1,hgo,S⟩
 have g7:=(hsame.get 7 rfl).trans (by simp:_=s)
 have g8:=(hsame.get 8 rfl).trans (by simp:_=V.int .i64 (l.length:Int))
 clear hsame
 have hsub:St.sub st st2:=S.was' (st0:=st) (by simp)
 by_cases hlt:i<l.length
 ·obtain⟨r1,r2,r3,r4⟩:=(hr.sub hsub).row eOut_len hlt
  rw[List.drop_eq_getElem_cons hlt,sumGo]at hgo
  obtain⟨o,ho⟩: ∃o,o=l[i]:=⟨_,rfl⟩
  rw[←ho]at r3 hgo
  have w1:IntKind.i64.wrap ((i:Int)+1)=(i:Int)+1:=wrap64 (by omega) (by omega)
  simp[g7,g8,h9,hlt,r1,r3]
  intro i6 h6
  have S:=S.new h6 (.cells z33_0be4)
  have hst:=store_pt (sz:=33) (o:=0) S.get (v:=.agg (eOut o)) (vs:=eOut o) rfl (eOut_len _) (by simp)
  rw[show spliceV z33_0be4 0 (eOut o)=eOut o by simp[spliceV,eOut_len]]at hst
  have S:=S.set (.cells (eOut o))
  simp[hst]at S⊢
  generalize st2.upd i6 (.cells (eOut o))=st3 at S⊢
  have o6:=S.get
  have hsa:=ousegAmt o
  by_cases h1:o.amt<0
  ·rw[if_pos (.inl h1)]at hgo
   simp[St.seg,o6,hsa,h1,←hgo]
   exact S.was' (st0:=st) (by simp)
  ·by_cases h2:1125899906842624<o.amt
   ·rw[if_pos (.inr h2)]at hgo
    simp[St.seg,o6,hsa,h1,h2,←hgo]
    exact S.was' (st0:=st) (by simp)
   ·rw[if_neg (by omega)]at hgo
    have w2:IntKind.i64.wrap (n+o.amt)=n+o.amt:=wrap64 (by omega) (by omega)
    by_cases h3:1125899906842624<n+o.amt
    ·rw[if_pos h3]at hgo
     simp[St.seg,o6,hsa,h1,h2,h3,h4,w2,←hgo]
     exact S.was' (st0:=st) (by simp)
    ·rw[if_neg h3]at hgo
     simp[St.seg,o6,hsa,h1,h2,h3,h4,h9,w1,w2]
     exact Round.mk (l.length-(i+1)) _ (by omega) (sub_self _) (hJ _ _ _ ⟨i+1,n+o.amt,by omega,rfl,by simp,by simp,by omega,by omega,hgo,S.drop⟩)
 ·have:i=l.length:=by omega
  subst this
  rw[List.drop_length,sumGo]at hgo
  simp[g7,g8,h9,h4,←hgo]
  exact hsub
set_option maxHeartbeats 4000000 in
theorem spec249 (ok:OkCheck P F)(st:St)(t:Tx1)(first:Bool)(h1:t.ins.length≤100000)(h2:t.outs.length≤100000)(h3: ∀x∈t.ins,x.key.length≤1000000):
  ACalls P (F 249) [.agg (eTx t),.bool first] st fun v st'=>v=.int .i64 (txM t first)∧st'=st:=by
 have okt:=ok.toOkTx
 refine shows_call ok.mixed ok.h249 (by simp[k249]) ?_
 simp only[k249]
 simp
 intro i2 hi2
 have S:=(Sep.start st).new hi2 (.cells (eTx t))
 generalize st.upd i2 _=st1 at S⊢
 have o2:=S.get
 have li:=insV_len t
 have lo:=outsV_len t
 have si:=tsegIns t
 have so:=tsegOuts t
 by_cases c1:t.ins.length=0
 ·have e:txM t first=120:=by rw[txM,if_pos (.inl c1)]
  simp[St.seg,o2,si,so,li,lo,c1,e]
  exact S.was' (st0:=st) (by simp)
 have b1:((t.ins.length:Int)==0)=false:=by simpa using c1
 by_cases c2:t.outs.length=0
 ·have e:txM t first=120:=by rw[txM,if_pos (.inr (.inl c2))]
  simp[St.seg,o2,si,so,li,lo,b1,c2,e]
  exact S.was' (st0:=st) (by simp)
 have b2:((t.outs.length:Int)==0)=false:=by simpa using c2
 by_cases c3:32<t.ins.length
 ·have e:txM t first=120:=by rw[txM,if_pos (.inr (.inr (.inl c3)))]
  have c3':32< (t.ins.length:Int):=by omega
  simp[St.seg,o2,si,so,li,lo,b1,b2,c3',e]
  exact S.was' (st0:=st) (by simp)
 by_cases c4:32<t.outs.length
 ·have e:txM t first=120:=by rw[txM,if_pos (.inr (.inr (.inr c4)))]
  have c3':¬32< (t.ins.length:Int):=by omega
  have c4':32< (t.outs.length:Int):=by omega
  simp[St.seg,o2,si,so,li,lo,b1,b2,c3',c4',e]
  exact S.was' (st0:=st) (by simp)
 have e0:txM t first=match insGo first [] t.ins with | some e=>e | none=>if(sumM t.outs).2=true then 0 else 121:=by rw[txM,if_neg (by omega)]
 have c3':¬32< (t.ins.length:Int):=by omega
 have c4':¬32< (t.outs.length:Int):=by omega
 simp[St.seg,o2,si,so,li,lo,b1,b2,c3',c4']
 intro i5 hi5
 have S:=S.new hi5 (.mp [])
 generalize st1.upd i5 _=st2 at S⊢
 have o2:=S.mem (i:=i2) (o:=.cells (eTx t)) (by simp)
 simp[St.seg,o2,si,so,li,lo]
 refine vc_joinB (M:=fun env' st'=>insGo first [] t.ins=none∧Sep [pt i2 (.cells (eTx t)),Was st] st') ?_ ?_
 ·refine vc_loopJ (fun c env' st'=>∃(i:Nat) (seen:List Pt) (es:List (Pt×Bool)),i≤t.ins.length∧c=t.ins.length-i∧env' 36=.int .i64 (i:Nat)∧insGo first seen (t.ins.drop i)=insGo first [] t.ins∧(∀p,(lk p es).getD false=decide (p∈seen))∧
     Sep [pt i5 (.mp (encM kPt V.bool es)),pt i2 (.cells (eTx t)),Was st] st') t.ins.length
    ⟨0,[],[],by omega,by omega,by simp,by simp,by simp[lk],S⟩ ?_
  rintro J hJ c env' st3 hsame ⟨i,seen,es,hi,rfl,h36,hgo,hes,S⟩
  have g1:=(hsame.get 1 rfl).trans (by simp:_=V.bool first)
  have g5:=(hsame.get 5 rfl).trans (by simp:_=V.map (some i5))
  have g34:=(hsame.get 34 rfl).trans (by simp:_=insV t)
  have g35:=(hsame.get 35 rfl).trans (by simp:_=V.int .i64 (t.ins.length:Int))
  clear hsame
  by_cases hlt:i<t.ins.length
  ·obtain⟨r1,r2,r3,r4⟩:=(rd_ins t st3).row eIn_len hlt
   rw[List.drop_eq_getElem_cons hlt,insGo]at hgo
   have hkl:=h3 t.ins[i] (List.getElem_mem hlt)
   obtain⟨x,hx⟩: ∃x,x=t.ins[i]:=⟨_,rfl⟩
   rw[←hx]at r3 hgo hkl
   have w1:IntKind.i64.wrap ((i:Int)+1)=(i:Int)+1:=wrap64 (by omega) (by omega)
   simp[g34,g35,h36,hlt,r1,r3]
   intro i7 hi7
   have S:=S.new hi7 (.cells z34_1838)
   have hst:=store_pt (sz:=34) (o:=0) S.get (v:=.agg (eIn x)) (vs:=eIn x) rfl (eIn_len _) (by simp)
   rw[show spliceV z34_1838 0 (eIn x)=eIn x by simp[spliceV,eIn_len]]at hst
   have S:=S.set (.cells (eIn x))
   simp[hst]at S⊢
   generalize st3.upd i7 (.cells (eIn x))=st4 at S⊢
   have o7:=S.get
   have o5:=S.mem (i:=i5) (o:=.mp (encM kPt V.bool es)) (by simp)
   have hsk:=insegKey x
   have hsp:=insegPt x
   have hlk:lenSlV (keyV x.kk x.key)=some (.int .i64 x.key.length):=rfl
   by_cases k1:100<x.key.length
   ·have k1':100< (x.key.length:Int):=by omega
    rw[if_pos k1]at hgo
    rw[←hgo]at e0
    simp[St.seg,o7,hsk,hlk,k1',e0]
    exact S.was' (st0:=st) (by simp)
   ·have k1':¬100< (x.key.length:Int):=by omega
    rw[if_neg k1]at hgo
    have hm:eqK (.agg 33) (.agg (ePt x.pt)) (.agg (eId id0++[w32 4294967295#32]))=some (decide (x.pt=makerP)):=by
     show eqK (.agg 33) (.agg (ePt x.pt)) (.agg (ePt makerP))=_
     rw[eqK,if_pos (ePt_len _),eqL_pt]
    simp[St.seg,o7,hsk,hlk,k1',hsp,g1]
    refine⟨_,spec197 okt st4,?_⟩
    by_cases k2:decide (x.pt=makerP)=first
    ·rw[if_neg (by simpa using k2)]at hgo
     have hlu:=lookup_lk0 keyed_pt (ev:=V.bool) o5 (.bool false) x.pt
     have hge:((lk x.pt es).map V.bool).getD (.bool false)=.bool (decide (x.pt∈seen)):=by
      rw[←hes x.pt]
      cases lk x.pt es<;>rfl
     simp only[hge,kPt]at hlu
     rw[k2]at hm
     have hb:eqK .bool (.bool first) (.bool first)=some true:=by simp[eqK]
     simp[St.seg,o7,hsp,hm,hb,g1,g5,hlu]
     by_cases k3:x.pt∈seen
     ·rw[if_pos k3]at hgo
      rw[←hgo]at e0
      simp[k3,e0]
      exact S.was' (st0:=st) (by simp)
     ·rw[if_neg k3]at hgo
      have hms:=mset_enc keyed_pt (ev:=V.bool) o5 x.pt true
      simp only[kPt]at hms
      simp[k3,St.seg,o7,hsp,g5,hms]
      have S:=S.setAt (.mp (encM kPt V.bool (aSet x.pt true es))) 1 rfl
      simp at S
      simp[h36,w1]
      refine Round.mk (t.ins.length-(i+1)) _ (by omega) (sub_self _) (hJ _ _ _ ⟨i+1,x.pt::seen,_,by omega,rfl,by simp,hgo,?_,S.drop⟩)
      intro p
      rw[lk_aSet]
      by_cases hp:p=x.pt
      ·simp[hp]
      ·rw[if_neg hp,hes p]
       simp[hp]
    ·rw[if_pos k2]at hgo
     rw[←hgo]at e0
     have hb:eqK .bool (.bool (decide (x.pt=makerP))) (.bool first)=some false:=by
      show some (decide (x.pt=makerP)==first)=some false
      rw[beq_eq_false_iff_ne.2 k2]
     simp[St.seg,o7,hsp,hm,g1,hb,e0]
     exact S.was' (st0:=st) (by simp)
  ·have:i=t.ins.length:=by omega
   subst this
   rw[List.drop_length,insGo]at hgo
   simp[g35,h36]
   exact⟨hgo.symm,S.drop⟩
 ·rintro env' st3 hsame ⟨hno,S⟩
  have g2:=(hsame.get 2 rfl).trans (by simp:_=V.ptr (some (i2,0)))
  clear hsame
  rw[hno]at e0
  have o2:=S.get
  simp[g2,St.seg,o2,so]
  refine(spec250 ok st3 (rd_outs t st3) h2).mono ?_
  rintro v st3 ⟨rfl,rfl⟩
  cases hs:(sumM t.outs).2 with
  | true=>
    rw[hs]at e0
    simp[hs,e0]
    exact S.was' (st0:=st) (by simp)
  | false=>
    rw[hs]at e0
    simp[hs,e0]
    exact S.was' (st0:=st) (by simp)
end
def Tx1.fine (t:Tx1):Prop:=t.ins.length≤32∧t.outs.length≤32∧∀x∈t.ins,x.key.length≤100
theorem Tx1.fine.ok {t:Tx1}(h:t.fine):t.ok 100:=⟨by have:=h.1;omega,by have:=h.2.1;omega,fun x hx=>by have:=h.2.2 x hx;omega⟩
theorem txB_fine (t:Tx1)(h:t.fine):(txB t).length≤10000:=by
 have hc1:=countB_len (BitVec.ofNat 64 t.ins.length)
 have hc2:=countB_len (BitVec.ofNat 64 t.outs.length)
 have h1:=fm_len inB 145 t.ins fun x hx=>by
  have:=textB_len x.key
  have:=h.2.2 x hx
  simp[inB,putB_len]
  omega
 have h2:=fm_len outB 40 t.outs fun x hx=>by rw[outB_len];omega
 have h3:=h.1
 have h4:=h.2.1
 rw[txB,List.length_append,List.length_append,List.length_append]
 omega
theorem insGo_keys: ∀(l:List In1) (first:Bool) (seen:List Pt),insGo first seen l=none→∀x∈l,x.key.length≤100
 | [],_,_,_,x,hx=>by cases hx
 | a::l,first,seen,h,x,hx=>by
   rw[insGo]at h
   split at h
   ·cases h
   ·rename_i hk
    split at h
    ·cases h
    ·split at h
     ·cases h
     ·rcases List.mem_cons.1 hx with rfl | hx
      ·omega
      ·exact insGo_keys l first _ h x hx
theorem txM_fine {t:Tx1}{first:Bool}(h:txM t first=0):t.fine:=by
 unfold txM at h
 split at h
 ·cases h
 ·rename_i hc
  split at h
  ·rename_i e he
   subst h
   exfalso
   have: ∀(l:List In1) (seen:List Pt),insGo first seen l≠some 0:=by
    intro l
    induction l with
    | nil=>intro seen h;cases h
    | cons a l ih=>
      intro seen
      rw[insGo]
      split
      ·simp
      ·split
       ·simp
       ·split
        ·simp
        ·exact ih _
   exact this _ _ he
  ·rename_i he
   exact⟨by omega,by omega,insGo_keys _ _ _ he⟩
def blkB (b:Blk1):List UInt8:=hBytes b.hdr++(countB (BitVec.ofNat 64 b.txs.length)++b.txs.flatMap txB)
theorem bsegAll0 (b:Blk1):segOf (eBlk b) 0 69=some (eBlk b):=bsegAll b
theorem rd_txs (b:Blk1)(st:St):Rd 2 eTx (txsV b.tk b.txs) b.txs st:=.inl ⟨b.tk,rfl⟩
section
variable {P:Program} {F:Fn}
set_option maxHeartbeats 1000000 in
theorem spec204r (ok:OkTx P F){st:St}{wid:Nat}{l:List UInt8}{L:List Asn}(S:WrR wid l L st){x:V}{m:List UInt8}(hx:Rd 1 e8 x m st)(hl:l.length+m.length≤900000):
  ACalls P (F 204) [.ptr (some (wid,0)),.sl .full [x] 1] st fun v st'=>v=.tup []∧WrR wid (l++m) L st':=by
 refine shows_call ok.mixed ok.h204 (by simp[k204]) ?_
 simp only[k204]
 simp
 obtain⟨s,S⟩:=S
 have o:=S.get
 have hsg:segOf [x] 0 1=some [x]:=rfl
 have hsg0:segOf [s] 0 1=some [s]:=rfl
 have hel:=hx.elems e8_len
 refine vc_unroll 2 ?_
 simp[unr_succ,hsg,St.seg,o,hsg0,hel]
 refine Wr.app S m rfl rfl (by omega) ?_
 intro s' st2 st3 hc' hst S'
 simp[hst,unr_succ]
 exact⟨st3,sub_self _,S'⟩
set_option maxHeartbeats 4000000 in
theorem spec251 (ok:OkCheck2 P F)(st:St)(b:Blk1)(hl:b.txs.length≤32)(hb: ∀t∈b.txs,t.fine):ACalls P (F 251) [.agg (eBlk b)] st fun v st'=>Sep [Slx 1 e8 v (blkB b),Was st] st':=by
 have okt:=ok.toOkCheck.toOkTx
 refine shows_call ok.mixed ok.h251 (by simp[k251]) ?_
 simp only[k251]
 simp
 intro i1 h1
 have S:=(Sep.start st).new h1 (.cells (eBlk b))
 generalize st.upd i1 _=st1 at S⊢
 simp
 intro wid hw
 have S:=S.slxNil (sz:=1) (f:=e8)
 have S:=S.new hw (.cells [.sl .nil [] 0])
 generalize st1.upd wid _=st2 at S⊢
 have o1:=S.mem (i:=i1) (o:=.cells (eBlk b)) (by simp)
 have hsH:=bsegH b
 have hsT:=bsegT b
 have hln:lenSlV (txsV b.tk b.txs)=some (.int .i64 b.txs.length):=rfl
 simp[St.seg,o1,hsH]
 refine(spec140 okt.toOkHead st2 b.hdr).mono ?_
 intro v st3 S1
 have S:=S1.ov S
 have hf:=partFill S.cells
 have rdv:Rd 1 e8 v (hBytes b.hdr) st3:=Sep.rd e8_len (S.head fun h hh=>hh.sl)
 have S:WrR wid [] (Slx 1 e8 v (hBytes b.hdr)::pt i1 (.cells (eBlk b))::[Was st]) st3:=⟨_,S.swap.tail fun r h=>h.swap⟩
 simp[hf]
 refine(spec204r okt S rdv (by rw[hBytes_len];simp)).mono ?_
 rintro u st4 ⟨rfl,S⟩
 rw[List.nil_append]at S
 have S:=S.tail fun r h=>h.drop
 have o1:st4 i1=some (.cells (eBlk b)):=by
  obtain⟨s,S⟩:=S
  exact S.mem (by simp)
 simp[St.seg,o1,hsT,hln]
 refine(spec203 okt S (by rw[hBytes_len];omega) _).mono ?_
 rintro u st5 ⟨rfl,S⟩
 have o1:st5 i1=some (.cells (eBlk b)):=by
  obtain⟨s,S⟩:=S
  exact S.mem (by simp)
 simp[St.seg,o1,hsT,hln]
 have hc0:=countB_len (BitVec.ofNat 64 b.txs.length)
 refine vc_loopJ (fun c env' st'=>∃i:Nat,i≤b.txs.length∧c=b.txs.length-i∧env' 19=.int .i64 (i:Nat)∧WrR wid (hBytes b.hdr++countB (BitVec.ofNat 64 b.txs.length)++(b.txs.take i).flatMap txB) (pt i1 (.cells (eBlk b))::[Was st]) st') b.txs.length
  ⟨0,by omega,by omega,by simp,by simpa using S⟩ ?_
 rintro J hJ c env' st6 hsame ⟨i,hi,rfl,h19,S⟩
 have g3:=(hsame.get 3 rfl).trans (by simp:_=V.ptr (some (wid,0)))
 have g17:=(hsame.get 17 rfl).trans (by simp:_=txsV b.tk b.txs)
 have g18:=(hsame.get 18 rfl).trans (by simp:_=V.int .i64 (b.txs.length:Int))
 clear hsame
 have hlen: ∀k,((b.txs.take k).flatMap txB).length≤320000:=fun k=>by
  have:=fm_len txB 10000 (b.txs.take k) fun t ht=>txB_fine t (hb t (List.mem_of_mem_take ht))
  rw[List.length_take]at this
  have h2:min k b.txs.length*10000≤32*10000:=Nat.mul_le_mul_right _ (by omega)
  omega
 have hw:(hBytes b.hdr++countB (BitVec.ofNat 64 b.txs.length)++(b.txs.take i).flatMap txB).length≤330000:=by
  have:=hlen i
  rw[List.length_append,List.length_append,hBytes_len]
  omega
 by_cases hlt:i<b.txs.length
 ·obtain⟨r1,r2,r3,r4⟩:=(rd_txs b st6).row eTx_len hlt
  have htf:=hb b.txs[i] (List.getElem_mem hlt)
  obtain⟨t,ht⟩: ∃t,t=b.txs[i]:=⟨_,rfl⟩
  rw[←ht]at r3 htf
  have w1:IntKind.i64.wrap ((i:Int)+1)=(i:Int)+1:=wrap64 (by omega) (by omega)
  simp[g17,g18,h19,hlt,r1,r3]
  intro i5 h5
  have S:=S.new h5 (.cells [.sl .nil [] 0,.sl .nil [] 0])
  have o5:(st6.upd i5 (.cells [.sl .nil [] 0,.sl .nil [] 0])) i5=some (.cells [.sl .nil [] 0,.sl .nil [] 0]):=by simp
  have hst:=store_pt (sz:=2) (o:=0) o5 (v:=.agg (eTx t)) (vs:=eTx t) rfl rfl (by simp)
  rw[show spliceV [V.sl .nil [] 0,V.sl .nil [] 0] 0 (eTx t)=eTx t from rfl]at hst
  have S:WrR wid (hBytes b.hdr++countB (BitVec.ofNat 64 b.txs.length)++(b.txs.take i).flatMap txB) (pt i5 (.cells (eTx t))::pt i1 (.cells (eBlk b))::[Was st]) ((st6.upd i5 (.cells [.sl .nil [] 0,.sl .nil [] 0])).upd i5 (.cells (eTx t))):=by
   obtain⟨s,S⟩:=S
   exact⟨s,((S.pull 2).set (.cells (eTx t))).swap.tail fun r h=>h.swap⟩
  simp[hst]at S⊢
  generalize(st6.upd i5 (.cells (eTx t)))=st7 at S⊢
  have o5:st7 i5=some (.cells (eTx t)):=by
   obtain⟨s,S⟩:=S
   exact S.mem (by simp)
  simp[g3,St.seg,o5,tsegAll]
  refine(spec201 okt S t htf.ok (by rw[←List.append_assoc];omega)).mono ?_
  rintro u st8 ⟨rfl,S⟩
  simp[h19,w1]
  refine Round.mk (b.txs.length-(i+1)) _ (by omega) (sub_self _) (hJ _ _ _ ⟨i+1,by omega,rfl,by simp,?_⟩)
  rw[List.take_succ_eq_append_getElem hlt,←ht,List.flatMap_append]
  have S:=S.tail fun r h=>h.drop
  refine S.imp ?_
  simp
 ·have:i=b.txs.length:=by omega
  subst this
  rw[List.take_length]at S hw
  simp[g3,g18,h19]
  refine(spec202 okt S (by omega)).mono ?_
  rintro u st7 ⟨s,S⟩
  simp
  refine⟨st7,sub_self _,?_⟩
  rw[List.append_assoc]at S
  exact S.tail fun r h=>h.drop.drop.drop
def rootE (b:Blk1):Int:=if(∃t∈b.txs,(txB t).length=64)∨(rootM (rowsIds b.txs)).2=true∨(rootM (rowsIds b.txs)).1≠b.hdr.root then 40 else 0
set_option maxHeartbeats 4000000 in
theorem spec252 (ok:OkCheck2 P F)(st:St)(b:Blk1)(hl:b.txs.length≤1000)(hb: ∀t∈b.txs,t.ok 100):ACalls P (F 252) [.agg (eBlk b)] st fun v st'=>v=.int .i64 (rootE b)∧St.sub st st':=by
 have okt:=ok.toOkCheck.toOkTx
 refine shows_call ok.mixed ok.h252 (by simp[k252]) ?_
 simp only[k252]
 simp
 intro i1 h1
 have S:=(Sep.start st).new h1 (.cells (eBlk b))
 generalize st.upd i1 _=st1 at S⊢
 have o1:=S.get
 have hsT:=bsegT b
 have hln:lenSlV (txsV b.tk b.txs)=some (.int .i64 b.txs.length):=rfl
 simp[St.seg,o1,hsT,hln]
 refine vc_joinB (M:=fun env' st'=>(∀t∈b.txs,(txB t).length≠64)∧Sep [pt i1 (.cells (eBlk b)),Was st] st') ?_ ?_
 ·refine vc_loopJ (fun c env' st'=>∃i:Nat,i≤b.txs.length∧c=b.txs.length-i∧env' 10=.int .i64 (i:Nat)∧(∀t∈b.txs.take i,(txB t).length≠64)∧Sep [pt i1 (.cells (eBlk b)),Was st] st') b.txs.length
    ⟨0,by omega,by omega,by simp,by simp,S⟩ ?_
  rintro J hJ c env' st6 hsame ⟨i,hi,rfl,h10,hno,S⟩
  have g8:=(hsame.get 8 rfl).trans (by simp:_=txsV b.tk b.txs)
  have g9:=(hsame.get 9 rfl).trans (by simp:_=V.int .i64 (b.txs.length:Int))
  clear hsame
  by_cases hlt:i<b.txs.length
  ·obtain⟨r1,r2,r3,r4⟩:=(rd_txs b st6).row eTx_len hlt
   have htf:=hb b.txs[i] (List.getElem_mem hlt)
   have hmem:=List.getElem_mem hlt
   obtain⟨t,ht⟩: ∃t,t=b.txs[i]:=⟨_,rfl⟩
   rw[←ht]at r3 htf hmem
   have w1:IntKind.i64.wrap ((i:Int)+1)=(i:Int)+1:=wrap64 (by omega) (by omega)
   simp[g8,g9,h10,hlt,r1,r3]
   intro i4 h4
   have S:=S.new h4 (.cells [.sl .nil [] 0,.sl .nil [] 0])
   have hst:=store_pt (sz:=2) (o:=0) S.get (v:=.agg (eTx t)) (vs:=eTx t) rfl rfl (by simp)
   rw[show spliceV [V.sl .nil [] 0,V.sl .nil [] 0] 0 (eTx t)=eTx t from rfl]at hst
   have S:=S.set (.cells (eTx t))
   simp[hst]at S⊢
   generalize(st6.upd i4 (.cells (eTx t)))=st7 at S⊢
   have o4:=S.get
   simp[St.seg,o4,tsegAll]
   refine(spec200 okt st7 t htf).mono ?_
   intro u st8 S1
   have S:=S1.ov S
   have hlu:=(Sep.rd e8_len (S.head fun h hh=>hh.sl)).len
   by_cases h64:(txB t).length=64
   ·have e:rootE b=40:=by rw[rootE,if_pos (.inl ⟨t,hmem,h64⟩)]
    simp[hlu,h64,e]
    exact⟨st8,sub_self _,S.was' (st0:=st) (by simp)⟩
   ·have h64':(((txB t).length:Int)==64)=false:=by
      rw[beq_eq_false_iff_ne];omega
    simp[hlu,h64',h10,w1]
    refine Round.mk (b.txs.length-(i+1)) _ (by omega) (sub_self _) (hJ _ _ _ ⟨i+1,by omega,rfl,by simp,?_,S.drop.drop⟩)
    intro y hy
    rw[List.take_succ_eq_append_getElem hlt,←ht]at hy
    rcases List.mem_append.1 hy with hy | hy
    ·exact hno y hy
    ·rw[List.mem_singleton.1 hy];exact h64
  ·have:i=b.txs.length:=by omega
   subst this
   rw[List.take_length]at hno
   simp[g9,h10]
   exact⟨hno,S⟩
 ·rintro env' st3 hsame ⟨hno,S⟩
  have g1:=(hsame.get 1 rfl).trans (by simp:_=V.ptr (some (i1,0)))
  clear hsame
  have o1:=S.get
  simp[g1,St.seg,o1,hsT]
  refine(spec192 okt st3 (rd_txs b st3) hl hb).mono ?_
  rintro v st3 ⟨rfl,rfl⟩
  obtain⟨rt,hrt⟩: ∃rt,rt=(rootM (rowsIds b.txs)).1:=⟨_,rfl⟩
  rw[←hrt]
  simp
  intro i5 h5
  have S:=S.new h5 (.cells zR32_w80)
  have hst:=store_z32 S.get rt
  have S:=S.set (.cells (eId rt))
  simp[hst]at S⊢
  generalize st3.upd i5 (.cells (eId rt))=st4 at S⊢
  have o5:=S.get
  have o1:=S.mem (i:=i1) (o:=.cells (eBlk b)) (by simp)
  have hsr:segOf (eBlk b) 33 32=some (eId b.hdr.root):=by
   have:=hsegRoot b.hdr
   unfold segOf at this⊢
   rw[eHdr_len,if_pos (by omega)]at this
   rw[eBlk_len,if_pos (by omega),←Option.some.inj this,eBlk,List.drop_append_of_le_length (by rw[eHdr_len];omega),List.take_append_of_le_length (by rw[List.length_drop,eHdr_len];omega)]
  have hq:eqK (.agg 32) (.agg (eId rt)) (.agg (eId b.hdr.root))=some (decide (rt=b.hdr.root)):=by simp[eqK,eId_len,eqL_id]
  have hs0:=segId0 rt
  have hs1:=segId0 b.hdr.root
  have hq1:eqK (.agg 32) (.agg (eId b.hdr.root)) (.agg (eId b.hdr.root))=some true:=by simp[eqK,eId_len,eqL_id]
  have hw:=S.was' (st0:=st) (by simp)
  cases htw:(rootM (rowsIds b.txs)).2 with
  | true=>
    have e:rootE b=40:=by rw[rootE,if_pos (.inr (.inl htw))]
    simp[e]
    exact⟨st4,sub_self _,hw⟩
  | false=>
    by_cases hr:rt=b.hdr.root
    ·have e:rootE b=0:=by
       rw[rootE,if_neg]
       rintro(⟨t,h1,h2⟩ | h | h)
       ·exact hno t h1 h2
       ·rw[htw]at h;cases h
       ·exact h (by rw[←hrt];exact hr)
     simp[St.seg,o5,o1,hs0,hs1,hsr,hq,hq1,hr,g1,e]
     exact⟨st4,sub_self _,hw⟩
    ·have e:rootE b=40:=by rw[rootE,if_pos (.inr (.inr (by rw[←hrt];exact hr)))]
     simp[St.seg,o5,o1,hs0,hs1,hsr,hq,hq1,hr,g1,e]
     exact⟨st4,sub_self _,hw⟩
def txsE:Nat→List Tx1→Int
 | _,[]=>0
 | i,t::l=>if txM t (i==0)≠0 then txM t (i==0)else txsE (i+1) l
def blkE (b:Blk1):Int:=
 if b.txs.length=0∨32<b.txs.length then 120 else if txsE 0 b.txs≠0 then txsE 0 b.txs else if 8192< (blkB b).length then 2 else rootE b
set_option maxHeartbeats 4000000 in
theorem spec253 (ok:OkCheck2 P F)(st:St)(b:Blk1)(hl:b.txs.length≤100000)(hb: ∀t∈b.txs,t.ins.length≤100000∧t.outs.length≤100000∧∀x∈t.ins,x.key.length≤1000000):ACalls P (F 253) [.agg (eBlk b)] st fun v st'=>v=.int .i64 (blkE b)∧St.sub st st':=by
 have okt:=ok.toOkCheck.toOkTx
 refine shows_call ok.mixed ok.h253 (by simp[k253]) ?_
 simp only[k253]
 simp
 intro i1 h1
 have S:=(Sep.start st).new h1 (.cells (eBlk b))
 generalize st.upd i1 _=st1 at S⊢
 have o1:=S.get
 have hsT:=bsegT b
 have hln:lenSlV (txsV b.tk b.txs)=some (.int .i64 b.txs.length):=rfl
 have hw:=S.was' (st0:=st) (by simp)
 by_cases c1:b.txs.length=0
 ·have e:blkE b=120:=by rw[blkE,if_pos (.inl c1)]
  have c1':((b.txs.length:Int)==0)=true:=by simp;exact List.length_eq_zero_iff.1 c1
  simp[St.seg,o1,hsT,hln,c1',e]
  exact⟨st1,sub_self _,hw⟩
 have b1:((b.txs.length:Int)==0)=false:=by simpa using c1
 by_cases c2:32<b.txs.length
 ·have e:blkE b=120:=by rw[blkE,if_pos (.inr c2)]
  have c2':32< (b.txs.length:Int):=by omega
  simp[St.seg,o1,hsT,hln,b1,c2',c2,e]
  exact⟨st1,sub_self _,hw⟩
 have c2':¬32< (b.txs.length:Int):=by omega
 have e0:blkE b=if txsE 0 b.txs≠0 then txsE 0 b.txs else if 8192< (blkB b).length then 2 else rootE b:=by rw[blkE,if_neg (by omega)]
 simp[St.seg,o1,hsT,hln,b1,c2',c2]
 refine vc_joinB (M:=fun env' st'=>txsE 0 b.txs=0∧(∀t∈b.txs,t.fine)∧Sep [pt i1 (.cells (eBlk b)),Was st] st') ?_ ?_
 ·refine vc_loopJ (fun c env' st'=>∃i:Nat,i≤b.txs.length∧c=b.txs.length-i∧env' 19=.int .i64 (i:Nat)∧txsE i (b.txs.drop i)=txsE 0 b.txs∧(∀t∈b.txs.take i,t.fine)∧Sep [pt i1 (.cells (eBlk b)),Was st] st') b.txs.length
    ⟨0,by omega,by omega,by simp,by simp,by simp,S⟩ ?_
  rintro J hJ c env' st6 hsame ⟨i,hi,rfl,h19,hgo,hfi,S⟩
  have g17:=(hsame.get 17 rfl).trans (by simp:_=txsV b.tk b.txs)
  have g18:=(hsame.get 18 rfl).trans (by simp:_=V.int .i64 (b.txs.length:Int))
  clear hsame
  by_cases hlt:i<b.txs.length
  ·obtain⟨r1,r2,r3,r4⟩:=(rd_txs b st6).row eTx_len hlt
   have htf:=hb b.txs[i] (List.getElem_mem hlt)
   rw[List.drop_eq_getElem_cons hlt,txsE]at hgo
   obtain⟨t,ht⟩: ∃t,t=b.txs[i]:=⟨_,rfl⟩
   rw[←ht]at r3 htf hgo
   have w1:IntKind.i64.wrap ((i:Int)+1)=(i:Int)+1:=wrap64 (by omega) (by omega)
   simp[g17,g18,h19,hlt,r1,r3]
   intro i4 h4
   have S:=S.new h4 (.cells [.sl .nil [] 0,.sl .nil [] 0])
   have hst:=store_pt (sz:=2) (o:=0) S.get (v:=.agg (eTx t)) (vs:=eTx t) rfl rfl (by simp)
   rw[show spliceV [V.sl .nil [] 0,V.sl .nil [] 0] 0 (eTx t)=eTx t from rfl]at hst
   have S:=S.set (.cells (eTx t))
   simp[hst]at S⊢
   generalize(st6.upd i4 (.cells (eTx t)))=st7 at S⊢
   have o4:=S.get
   have hi0:((i:Int)==0)=(i==0):=by
    rw[Bool.eq_iff_iff];simp
   simp[St.seg,o4,tsegAll,hi0]
   refine(spec249 ok.toOkCheck st7 t (i==0) htf.1 htf.2.1 htf.2.2).mono ?_
   rintro u st7 ⟨rfl,rfl⟩
   by_cases hz:txM t (i==0)=0
   ·rw[if_neg (by simpa using hz)]at hgo
    simp[hz,h19,w1]
    refine Round.mk (b.txs.length-(i+1)) _ (by omega) (sub_self _) (hJ _ _ _ ⟨i+1,by omega,rfl,by simp,hgo,?_,S.drop⟩)
    intro y hy
    rw[List.take_succ_eq_append_getElem hlt,←ht]at hy
    rcases List.mem_append.1 hy with hy | hy
    ·exact hfi y hy
    ·rw[List.mem_singleton.1 hy];exact txM_fine hz
   ·rw[if_pos hz]at hgo
    rw[←hgo,if_pos hz]at e0
    have hz':(txM t (i==0) != 0)=true:=by simpa using hz
    simp only[e0]
    simp[hz']
    exact⟨_,sub_self _,S.was' (st0:=st) (by simp)⟩
  ·have:i=b.txs.length:=by omega
   subst this
   rw[List.drop_length,txsE]at hgo
   rw[List.take_length]at hfi
   simp[g18,h19]
   exact⟨hgo.symm,hfi,S⟩
 ·rintro env' st3 hsame ⟨hno,hfi,S⟩
  have g1:=(hsame.get 1 rfl).trans (by simp:_=V.ptr (some (i1,0)))
  clear hsame
  rw[hno,if_neg (by simp)]at e0
  have o1:=S.get
  simp[g1,St.seg,o1,bsegAll0]
  refine(spec251 ok st3 b (by omega) hfi).mono ?_
  intro v st4 S1
  have S:=S1.ov S
  have hlv:=(Sep.rd e8_len (S.head fun h hh=>hh.sl)).len
  by_cases c3:8192< (blkB b).length
  ·have c3':8192< ((blkB b).length:Int):=by omega
   rw[if_pos c3]at e0
   simp[hlv,c3',c3,e0]
   exact⟨st4,sub_self _,S.was' (st0:=st) (by simp)⟩
  ·have c3':¬8192< ((blkB b).length:Int):=by omega
   rw[if_neg c3]at e0
   have o1:=S.mem (i:=i1) (o:=.cells (eBlk b)) (by simp)
   simp[hlv,c3',c3,g1,St.seg,o1,bsegAll0]
   refine(spec252 ok st4 b (by omega) fun t ht=>(hfi t ht).ok).mono ?_
   rintro u st5 ⟨rfl,hs5⟩
   simp[e0]
   exact⟨st5,sub_self _,sub_trans (S.was' (st0:=st) (by simp)) hs5⟩
end
end Go.Ab

import Derived.Test.YtjcpdljfkhbbkaaGreatT5
import Derived.Test.YtjcpdljfkhbbkaaGreatT3
import Derived.Test.YtjcpdljfkhbbkaaGreatT4
set_option linter.unusedVariables false
set_option linter.unusedSimpArgs false
set_option linter.unusedSectionVars false
namespace Go.Ab
open Go Go.RowKit
set_option maxRecDepth 10000
section
variable {P:Program} {F:Fn}
def ovU (s:Nat):Bool:=decide (2 ^ 256≤s)
theorem add_u4 (a b c d a' b' c' d':W):
  (u4 (sum64 a a' false) (sum64 b b' (car64 a a' false)) (sum64 c c' (car64 b b' (car64 a a' false))) (sum64 d d' (car64 c c' (car64 b b' (car64 a a' false)))))=u4 a b c d+u4 a' b' c' d'∧
  car64 d d' (car64 c c' (car64 b b' (car64 a a' false)))=ovU ((u4 a b c d).toNat+(u4 a' b' c' d').toNat):=by
 have:=a.isLt;have:=b.isLt;have:=c.isLt;have:=d.isLt
 have:=a'.isLt;have:=b'.isLt;have:=c'.isLt;have:=d'.isLt
 constructor
 ·apply BitVec.eq_of_toNat_eq
  rw[BitVec.toNat_add,u4_nat,u4_nat,u4_nat,sum64_nat,sum64_nat,sum64_nat,sum64_nat]
  simp only[car64,decide_eq_true_eq,Bool.false_eq_true,if_false]
  show _=(_+_) % 115792089237316195423570985008687907853269984665640564039457584007913129639936
  split<;>split<;>split<;>omega
 ·rw[u4_nat,u4_nat,ovU]
  simp only[car64,decide_eq_true_eq,Bool.false_eq_true,if_false]
  congr 1
  rw[eq_iff_iff]
  show _↔115792089237316195423570985008687907853269984665640564039457584007913129639936≤_
  split<;>split<;>split<;>omega
def sumU (l:List U):Nat:=(l.map (·.toNat)).sum
theorem sumU_snoc (l:List U)(x:U):sumU (l++[x])=sumU l+x.toNat:=by simp[sumU]
theorem over_step (s:Nat)(x:U):(ovU s||ovU ((BitVec.ofNat 256 s).toNat+x.toNat))=ovU (s+x.toNat):=by
 unfold ovU
 rw[BitVec.toNat_ofNat,Bool.eq_iff_iff]
 simp only[Bool.or_eq_true,decide_eq_true_eq]
 show 115792089237316195423570985008687907853269984665640564039457584007913129639936≤s∨115792089237316195423570985008687907853269984665640564039457584007913129639936≤s % 115792089237316195423570985008687907853269984665640564039457584007913129639936+_↔115792089237316195423570985008687907853269984665640564039457584007913129639936≤_
 omega
set_option maxHeartbeats 1000000 in
theorem spec108 (ok:OkNum P F)(st:St){s:V}{l:List U}(hs:Rd 4 eU s l st)(hl:l.length≤1000):ACalls P (F 108) [s] st fun v st'=>v=.tup [nU (BitVec.ofNat 256 (sumU l)),.bool (ovU (sumU l))]∧st'=st:=by
 refine shows_call ok.mixed ok.h108 (by simp[k108]) ?_
 simp only[k108]
 simp
 intro rid hrid
 simp
 intro oid hoid
 obtain⟨hro,hoid⟩:=upd_none hoid
 have hlen:=hs.len
 simp[hlen]
 rw[eU_zero]
 refine vc_loopJ (fun k env' st'=>∃i,i≤l.length∧k=l.length-i∧env' 12=.int .i64 (i:Nat)∧env' 5=.bool (ovU (sumU (l.take i)))∧st'=(st.upd rid (.cells (eU 0#256))).upd oid (.cells (eU (BitVec.ofNat 256 (sumU (l.take i)))))) l.length
  ⟨0,by omega,by omega,rfl,by simp[sumU,ovU],by simp[sumU]⟩ ?_
 rintro J hJ k env' st' hsame ⟨i,hi,rfl,h12,h5,rfl⟩
 have g2:=hsame.get 2 rfl
 have g4:=hsame.get 4 rfl
 have g10:=hsame.get 10 rfl
 have g11:=hsame.get 11 rfl
 simp at g2 g4 g10 g11
 clear hsame
 have hsub:St.sub st ((st.upd rid (.cells (eU 0#256))).upd oid (.cells (eU (BitVec.ofNat 256 (sumU (l.take i)))))):=sub_ups (sub_ups (sub_self _) hrid) hoid
 have w1:IntKind.i64.wrap ((i:Int)+1)=(i:Int)+1:=wrap64 (by omega) (by omega)
 by_cases hlt:i<l.length
 ·obtain⟨p,hp1,hp2⟩:=(hs.sub hsub).idx eU_len hlt .i64
  simp[g2,g4,g10,g11,h12,h5,hlt,hp1,hp2]
  intro bid hbid
  obtain⟨hob,hbid⟩:=upd_none hbid
  obtain⟨hrb,hbid⟩:=upd_none hbid
  have hbo:=hob.symm
  have hbr:=hrb.symm
  obtain⟨a,b,c,d,hx⟩:=exists_u4 (BitVec.ofNat 256 (sumU (l.take i)))
  obtain⟨a',b',c',d',hy⟩:=exists_u4 l[i]
  obtain⟨e1,e2⟩:=add_u4 a b c d a' b' c' d'
  rw[hx,hy]
  simp[storeS,spliceV,eU_u4]
  rw[zero_b64]
  refine vc_unroll 5 ?_
  simp[unr_succ,g4,hob,hbo,idxArrV,St.seg,segOf,storeS,spliceV]
  have hov:(ovU (sumU (l.take i))||car64 d d' (car64 c c' (car64 b b' (car64 a a' false))))=ovU (sumU (l.take (i+1))):=by
   rw[e2,←hx,←hy,List.take_succ_eq_append_getElem hlt,sumU_snoc]
   exact over_step _ _
  have hst:(((((st.upd rid (.cells (eU 0#256))).upd oid (.cells [w64 a,w64 b,w64 c,w64 d])).upd bid (.cells [w64 a',w64 b',w64 c',w64 d'])).upd oid (.cells [w64 (sum64 a a' false),w64 (sum64 b b' (car64 a a' false)),w64 (sum64 c c' (car64 b b' (car64 a a' false))),w64 (sum64 d d' (car64 c c' (car64 b b' (car64 a a' false))))])))=((st.upd rid (.cells (eU 0#256))).upd oid (.cells (eU (BitVec.ofNat 256 (sumU (l.take (i+1))))))).upd bid (.cells [w64 a',w64 b',w64 c',w64 d']):=by
   have e3:BitVec.ofNat 256 (sumU (l.take (i+1)))=u4 a b c d+u4 a' b' c' d':=by
    rw[←hx,←hy,List.take_succ_eq_append_getElem hlt,sumU_snoc,BitVec.ofNat_add,BitVec.ofNat_toNat,BitVec.setWidth_eq]
   rw[e3,←e1,eU_u4]
   funext j
   by_cases h1:j=oid<;>by_cases h2:j=bid<;>simp[h1,h2,hob,hbo]
  have fin: ∀env'',env'' 12=.int .i64 ((i:Int)+1)→env'' 5=.bool (ovU (sumU (l.take (i+1))))→Round J (l.length-i) env'' (((((st.upd rid (.cells (eU 0#256))).upd oid (.cells [w64 a,w64 b,w64 c,w64 d])).upd bid (.cells [w64 a',w64 b',w64 c',w64 d'])).upd oid (.cells [w64 (sum64 a a' false),w64 (sum64 b b' (car64 a a' false)),w64 (sum64 c c' (car64 b b' (car64 a a' false))),w64 (sum64 d d' (car64 c c' (car64 b b' (car64 a a' false))))]))):=fun env'' q1 q2=>by
   rw[hst]
   refine Round.mk (l.length-(i+1)) _ (by omega) (sub_upd (by simp[hob.symm,hrb.symm,hbid])) (hJ _ _ _ ⟨i+1,by omega,rfl,by simpa using q1,q2,rfl⟩)
  obtain⟨t,ht⟩: ∃t,t=ovU (sumU (l.take i)):=⟨_,rfl⟩
  rw[←ht]at h5 hov
  cases t
  ·simp[h5,h12,w1,b64_ne]at hov⊢
   exact fin _ (by simp) (by simp[hov])
  ·simp[h5,h12,w1,b64_ne]at hov⊢
   exact fin _ (by simp) (by simp[←hov])
 ·have:i=l.length:=by omega
  subst this
  rw[List.take_length]at *
  have hl':¬((l.length:Int)<l.length):=by omega
  have hsp: ∀x y:U,spliceV (eU x) 0 (eU y)=eU y:=fun _ _=>rfl
  simp[g2,g4,g10,g11,h12,h5,St.seg,segU,storeS,hro,hro.symm,hsp,eU_len]
  exact⟨sub_ups (sub_ups (sub_ups (sub_self _) hrid) hoid) hrid,rfl⟩
theorem spec118 (ok:OkNum P F)(st:St)(x y:W):ACalls P (F 118) [w64 x,w64 y] st fun v st'=>v=.tup [w64 (mulhi x y),w64 (x*y)]∧st'=st:=by
 refine shows_call ok.mixed ok.h118 (by simp[k118]) ?_
 have h:=mul64_hi x y
 simp only[k118]
 simp
 rw[←h]
def mlo (x n c:W):W:=sum64 (x*n) c false
def mhi (x n c:W):W:=mulhi x n+b64 (car64 (x*n) c false)
theorem m_nat (x n c:W):(mlo x n c).toNat+(mhi x n c).toNat*18446744073709551616=x.toNat*n.toNat+c.toNat:=by
 have h1:=x.isLt
 have h2:=n.isLt
 have h3:=c.isLt
 have hb:x.toNat*n.toNat≤18446744073709551615*18446744073709551615:=Nat.mul_le_mul (by omega) (by omega)
 rw[mlo,mhi,sum64_nat,BitVec.toNat_add,b64_nat,mulhi,BitVec.toNat_ofNat,BitVec.toNat_mul]
 simp only[car64,decide_eq_true_eq,Bool.false_eq_true,if_false,BitVec.toNat_mul]
 generalize x.toNat*n.toNat=q at *
 show(q % 18446744073709551616+c.toNat+0) % 18446744073709551616+(q / 18446744073709551616 % 18446744073709551616+(if 18446744073709551616≤q % 18446744073709551616+c.toNat+0 then 1 else 0)) % 18446744073709551616*18446744073709551616=q+c.toNat
 split<;>omega
theorem mul_u4 (a b c d n:W):
  u4 (mlo a n 0) (mlo b n (mhi a n 0)) (mlo c n (mhi b n (mhi a n 0))) (mlo d n (mhi c n (mhi b n (mhi a n 0))))=BitVec.ofNat 256 ((u4 a b c d).toNat*n.toNat)∧
  ((mhi d n (mhi c n (mhi b n (mhi a n 0)))) != 0#64)=ovU ((u4 a b c d).toNat*n.toNat):=by
 have e0:=m_nat a n 0
 have e1:=m_nat b n (mhi a n 0)
 have e2:=m_nat c n (mhi b n (mhi a n 0))
 have e3:=m_nat d n (mhi c n (mhi b n (mhi a n 0)))
 generalize hC0:mhi a n 0=C0 at *
 generalize hC1:mhi b n C0=C1 at *
 generalize hC2:mhi c n C1=C2 at *
 generalize hC3:mhi d n C2=C3 at *
 generalize mlo a n 0=L0 at *
 generalize mlo b n C0=L1 at *
 generalize mlo c n C1=L2 at *
 generalize mlo d n C2=L3 at *
 have i0:=L0.isLt;have i1:=L1.isLt;have i2:=L2.isLt;have i3:=L3.isLt
 have e0':L0.toNat+C0.toNat*18446744073709551616=a.toNat*n.toNat:=by simpa using e0
 have key:(u4 a b c d).toNat*n.toNat=L0.toNat+L1.toNat*18446744073709551616+L2.toNat*340282366920938463463374607431768211456+L3.toNat*6277101735386680763835789423207666416102355444464034512896+C3.toNat*115792089237316195423570985008687907853269984665640564039457584007913129639936:=by
  rw[u4_nat,Nat.add_mul,Nat.add_mul,Nat.add_mul,Nat.mul_right_comm b.toNat,Nat.mul_right_comm c.toNat,Nat.mul_right_comm d.toNat]
  generalize a.toNat*n.toNat=qa at *
  generalize b.toNat*n.toNat=qb at *
  generalize c.toNat*n.toNat=qc at *
  generalize d.toNat*n.toNat=qd at *
  omega
 rw[key]
 constructor
 ·apply BitVec.eq_of_toNat_eq
  rw[u4_nat,BitVec.toNat_ofNat]
  show _=_ % 115792089237316195423570985008687907853269984665640564039457584007913129639936
  omega
 ·unfold ovU
  have hz:(C3 != 0#64)=decide (0<C3.toNat):=by
   rw[Bool.eq_iff_iff]
   simp only[bne_iff_ne,ne_eq,decide_eq_true_eq]
   constructor
   ·intro h
    have:C3.toNat≠0:=fun e=>h (BitVec.eq_of_toNat_eq e)
    omega
   ·rintro h rfl
    simp at h
  rw[hz]
  congr 1
  rw[eq_iff_iff]
  show _↔115792089237316195423570985008687907853269984665640564039457584007913129639936≤_
  omega
set_option maxHeartbeats 1000000 in
theorem spec110 (ok:OkNum P F)(st:St)(x:U)(n:W):ACalls P (F 110) [nU x,w64 n] st fun v st'=>v=.tup [nU (BitVec.ofNat 256 (x.toNat*n.toNat)),.bool (ovU (x.toNat*n.toNat))]∧st'=st:=by
 refine shows_call ok.mixed ok.h110 (by simp[k110]) ?_
 obtain⟨a,b,c,d,rfl⟩:=exists_u4 x
 obtain⟨e1,e2⟩:=mul_u4 a b c d n
 rw[←e1,←e2]
 simp only[k110,nU,eU_u4]
 simp
 intro i hi
 simp
 intro j hj
 obtain⟨hij,hj⟩:=upd_none hj
 have hji:=hij.symm
 have call: ∀(st:St) (y:W),ACalls P (F 118) [w64 y,w64 n] st fun v st'=>v=.tup [w64 (mulhi y n),w64 (y*n)]∧st'=st:=fun st y=>spec118 ok st y n
 simp[hij,St.seg,segOf]
 refine vc_unroll 5 ?_
 have i0:idxV 4 false 1 (.agg [w64 a,w64 b,w64 c,w64 d]) (.int .i64 0)=some (w64 a):=_root_.id rfl
 have i1:idxV 4 false 1 (.agg [w64 a,w64 b,w64 c,w64 d]) (.int .i64 1)=some (w64 b):=_root_.id rfl
 have i2:idxV 4 false 1 (.agg [w64 a,w64 b,w64 c,w64 d]) (.int .i64 2)=some (w64 c):=_root_.id rfl
 have i3:idxV 4 false 1 (.agg [w64 a,w64 b,w64 c,w64 d]) (.int .i64 3)=some (w64 d):=_root_.id rfl
 have z0:w64 0#64=w64 (b64 false):=rfl
 have cs: ∀p q:W,carryV false (w64 p) (w64 q) (w64 0#64)=some (.tup [w64 (sum64 p q false),w64 (b64 (car64 p q false))]):=fun p q=>carry_add p q false
 simp[unr_succ,i0]
 refine(call _ a).mono ?_
 rintro v s ⟨rfl,rfl⟩
 simp[unr_succ,i1,cs,idxArrV,hij,hji,storeS,spliceV]
 refine(call _ b).mono ?_
 rintro v s ⟨rfl,rfl⟩
 simp[unr_succ,i2,cs,idxArrV,hij,hji,storeS,spliceV]
 refine(call _ c).mono ?_
 rintro v s ⟨rfl,rfl⟩
 simp[unr_succ,i3,cs,idxArrV,hij,hji,storeS,spliceV]
 refine(call _ d).mono ?_
 rintro v s ⟨rfl,rfl⟩
 simp[unr_succ,cs,idxArrV,hij,hji,storeS,spliceV,St.seg,segOf]
 refine⟨sub_ups (sub_ups (sub_ups (sub_ups (sub_self _) hi) hj) hi) hj,?_⟩
 simp[mlo,mhi]
def len8L:List UInt8:=[0,1]++List.replicate 2 2++List.replicate 4 3++List.replicate 8 4++List.replicate 16 5++List.replicate 32 6++List.replicate 64 7++List.replicate 128 8
theorem len8_at: ∀i:Fin 256,(len8L.getD i.val 0).toNat=bitlen i.val:=by decide+kernel
theorem bitlen_shift {n k:Nat}(h:2 ^ k≤n):bitlen n=bitlen (n / 2 ^ k)+k:=by
 have hp:=Nat.two_pow_pos k
 have h1:0<n / 2 ^ k:=Nat.div_pos h hp
 apply Nat.le_antisymm
 ·rw[bitlen_le,Nat.pow_add]
  have:=lt_bitlen (n / 2 ^ k)
  exact(Nat.div_lt_iff_lt_mul hp).1 this
 ·have h2:0<bitlen (n / 2 ^ k):=bitlen_pos.2 h1
  have h3:2 ^ (bitlen (n / 2 ^ k)-1)≤n / 2 ^ k:=bitlen_lt.1 (by omega)
  have h4:2 ^ (bitlen (n / 2 ^ k)-1+k)≤n:=by
   rw[Nat.pow_add]
   exact(Nat.le_div_iff_mul_le hp).1 h3
  have:=bitlen_lt.2 h4
  omega
theorem spec115 (ok:OkNum P F)(st:St)(x:W):ACalls P (F 115) [w64 x] st fun v st'=>v=.int .i64 (bitlen x.toNat)∧st'=st:=by
 refine shows_call ok.mixed ok.h115 (by simp[k115]) ?_
 simp only[k115]
 generalize hs:ByteArray.mk _=tab
 have htab:strB tab=len8L:=by rw[←hs];rfl
 clear hs
 have at_: ∀y:W,y.toNat<256→idxStrV (.str tab) (w8 (UInt8.ofBitVec (y.setWidth 8)))=some (w8 (len8L.getD y.toNat 0)):=fun y hy=>by
  have e:(UInt8.ofBitVec (y.setWidth 8)).toNat=y.toNat:=by
   show(y.setWidth 8).toNat=_
   rw[BitVec.toNat_setWidth]
   exact Nat.mod_eq_of_lt hy
  have hl:y.toNat< (strB tab).length:=by rw[htab];exact hy
  have:=idxStr_w tab .u8 hl
  rw[w8,e,this]
  congr 2
  simp only[htab]
  rw[List.getD_eq_getElem?_getD,List.getElem?_eq_getElem (show y.toNat<len8L.length from hy),Option.getD_some]
 have last: ∀(y:W) (k:Nat),y.toNat<256→k≤100→idxStrV (.str tab) (w8 (UInt8.ofBitVec (y.setWidth 8)))=some (w8 (len8L.getD y.toNat 0))∧IntKind.i64.wrap ((k:Int)+((len8L.getD y.toNat 0).toNat:Int))=((bitlen y.toNat+k:Nat):Int):=fun y k hy hk=>by
  have h:=len8_at ⟨y.toNat,hy⟩
  simp only at h
  have h2:bitlen y.toNat≤8:=bitlen_le.2 hy
  refine⟨at_ y hy,?_⟩
  rw[h,wrap64 (by omega) (by omega)]
  omega
 have hshr: ∀(z:W) (k:Nat),(z >>> k).toNat=z.toNat / 2 ^ k:=fun z k=>by
  rw[BitVec.toNat_ushiftRight,Nat.shiftRight_eq_div_pow]
 have c32:(4294967296#64).toNat=2 ^ 32:=rfl
 have c16:(65536#64).toNat=2 ^ 16:=rfl
 have c8:(256#64).toNat=2 ^ 8:=rfl
 have hx:=x.isLt
 have step: ∀(z:W) (k:Nat),2 ^ k≤z.toNat→bitlen z.toNat=bitlen (z >>> k).toNat+k:=fun z k h=>by
  rw[hshr];exact bitlen_shift h
 simp
 by_cases h1:4294967296#64≤x
 ·have b1:=step x 32 (by rw[←c32];exact BitVec.le_def.1 h1)
  have l1:(x >>> 32).toNat<2 ^ 32:=by rw[hshr];omega
  simp[h1]
  generalize x >>> 32=y at *
  by_cases h2:65536#64≤y
  ·have b2:=step y 16 (by rw[←c16];exact BitVec.le_def.1 h2)
   have l2:(y >>> 16).toNat<2 ^ 16:=by rw[hshr];omega
   simp[h2]
   generalize y >>> 16=z at *
   by_cases h3:256#64≤z
   ·have b3:=step z 8 (by rw[←c8];exact BitVec.le_def.1 h3)
    have l3:(z >>> 8).toNat<2 ^ 8:=by rw[hshr];omega
    simp[h3]
    generalize z >>> 8=t at *
    obtain⟨q1,q2⟩:=last t 56 (by omega) (by omega)
    have q3:bitlen x.toNat=bitlen t.toNat+56:=by omega
    simp[q1,q3]at q2⊢
    exact q2
   ·have l3:z.toNat<2 ^ 8:=by
      have:=mt BitVec.le_def.2 h3
      rw[c8]at this
      omega
    simp[h3]
    obtain⟨q1,q2⟩:=last z 48 (by omega) (by omega)
    have q3:bitlen x.toNat=bitlen z.toNat+48:=by omega
    simp[q1,q3]at q2⊢
    exact q2
  ·have l2:y.toNat<2 ^ 16:=by
     have:=mt BitVec.le_def.2 h2
     rw[c16]at this
     omega
   simp[h2]
   by_cases h3:256#64≤y
   ·have b3:=step y 8 (by rw[←c8];exact BitVec.le_def.1 h3)
    have l3:(y >>> 8).toNat<2 ^ 8:=by rw[hshr];omega
    simp[h3]
    generalize y >>> 8=t at *
    obtain⟨q1,q2⟩:=last t 40 (by omega) (by omega)
    have q3:bitlen x.toNat=bitlen t.toNat+40:=by omega
    simp[q1,q3]at q2⊢
    exact q2
   ·have l3:y.toNat<2 ^ 8:=by
      have:=mt BitVec.le_def.2 h3
      rw[c8]at this
      omega
    simp[h3]
    obtain⟨q1,q2⟩:=last y 32 (by omega) (by omega)
    have q3:bitlen x.toNat=bitlen y.toNat+32:=by omega
    simp[q1,q3]at q2⊢
    exact q2
 ·have l1:x.toNat<2 ^ 32:=by
    have:=mt BitVec.le_def.2 h1
    rw[c32]at this
    omega
  simp[h1]
  by_cases h2:65536#64≤x
  ·have b2:=step x 16 (by rw[←c16];exact BitVec.le_def.1 h2)
   have l2:(x >>> 16).toNat<2 ^ 16:=by rw[hshr];omega
   simp[h2]
   generalize x >>> 16=z at *
   by_cases h3:256#64≤z
   ·have b3:=step z 8 (by rw[←c8];exact BitVec.le_def.1 h3)
    have l3:(z >>> 8).toNat<2 ^ 8:=by rw[hshr];omega
    simp[h3]
    generalize z >>> 8=t at *
    obtain⟨q1,q2⟩:=last t 24 (by omega) (by omega)
    have q3:bitlen x.toNat=bitlen t.toNat+24:=by omega
    simp[q1,q3]at q2⊢
    exact q2
   ·have l3:z.toNat<2 ^ 8:=by
      have:=mt BitVec.le_def.2 h3
      rw[c8]at this
      omega
    simp[h3]
    obtain⟨q1,q2⟩:=last z 16 (by omega) (by omega)
    have q3:bitlen x.toNat=bitlen z.toNat+16:=by omega
    simp[q1,q3]at q2⊢
    exact q2
  ·have l2:x.toNat<2 ^ 16:=by
     have:=mt BitVec.le_def.2 h2
     rw[c16]at this
     omega
   simp[h2]
   by_cases h3:256#64≤x
   ·have b3:=step x 8 (by rw[←c8];exact BitVec.le_def.1 h3)
    have l3:(x >>> 8).toNat<2 ^ 8:=by rw[hshr];omega
    simp[h3]
    generalize x >>> 8=t at *
    obtain⟨q1,q2⟩:=last t 8 (by omega) (by omega)
    have q3:bitlen x.toNat=bitlen t.toNat+8:=by omega
    simp[q1,q3]at q2⊢
    exact q2
   ·have l3:x.toNat<2 ^ 8:=by
      have:=mt BitVec.le_def.2 h3
      rw[c8]at this
      omega
    simp[h3]
    obtain⟨q1,q2⟩:=last x 0 (by omega) (by omega)
    simp at q2
    simp[q1,q2]
end
section
variable {P:Program} {F:Fn}
theorem bitlen_add {n k m:Nat}(hm:m<2 ^ k)(hn:0<n):bitlen (n*2 ^ k+m)=bitlen n+k:=by
 have h1:2 ^ k≤n*2 ^ k+m:=Nat.le_add_right_of_le (Nat.le_mul_of_pos_left _ hn)
 have h2:=bitlen_shift h1
 rw[h2,Nat.add_comm (n*2 ^ k),Nat.add_mul_div_right _ _ (Nat.two_pow_pos k),Nat.div_eq_of_lt hm,Nat.zero_add]
theorem u4_lo2 (a b:W):(u4 a b 0#64 0#64).toNat=b.toNat*2 ^ 64+a.toNat:=by
 have h: ∀c d:W,c.toNat=0→d.toNat=0→(u4 a b c d).toNat=b.toNat*18446744073709551616+a.toNat:=fun c d hc hd=>by
  rw[u4_nat];omega
 exact h _ _ rfl rfl
theorem u4_lo3 (a b c:W):(u4 a b c 0#64).toNat=c.toNat*2 ^ 128+(a.toNat+b.toNat*18446744073709551616):=by
 have h: ∀d:W,d.toNat=0→(u4 a b c d).toNat=c.toNat*340282366920938463463374607431768211456+(a.toNat+b.toNat*18446744073709551616):=fun d hd=>by
  rw[u4_nat];omega
 exact h _ rfl
theorem u4_hi (a b c d:W):(u4 a b c d).toNat=d.toNat*2 ^ 192+(a.toNat+b.toNat*18446744073709551616+c.toNat*340282366920938463463374607431768211456):=by
 rw[u4_nat,Nat.add_comm]
theorem w_pos {x:W}(h:x≠0#64):0<x.toNat:=by
 have:x.toNat≠0:=fun e=>h (BitVec.eq_of_toNat_eq e)
 omega
theorem spec114 (ok:OkNum P F)(st:St)(x:U):ACalls P (F 114) [nU x] st fun v st'=>v=.int .i64 (bitlen x.toNat)∧st'=st:=by
 refine shows_call ok.mixed ok.h114 (by simp[k114]) ?_
 obtain⟨a,b,c,d,rfl⟩:=exists_u4 x
 have ha:=a.isLt;have hb:=b.isLt;have hc:=c.isLt;have hd:=d.isLt
 have e:=u4_nat a b c d
 have bl: ∀y:W,bitlen y.toNat≤64:=fun y=>bitlen_le.2 y.isLt
 simp only[k114,nU,eU_u4]
 simp
 intro i hi
 have call: ∀(st:St) (y:W),ACalls P (F 115) [w64 y] st fun v st'=>v=.int .i64 (bitlen y.toNat)∧st'=st:=fun st y=>spec115 ok st y
 refine vc_unroll 5 ?_
 simp[unr_succ,idxArrV,St.seg,segOf]
 by_cases h:d=0#64
 ·subst h
  simp[unr_succ,idxArrV,St.seg,segOf]
  by_cases h:c=0#64
  ·subst h
   simp[unr_succ,idxArrV,St.seg,segOf]
   by_cases h:b=0#64
   ·subst h
    simp[unr_succ,idxArrV,St.seg,segOf]
    by_cases h:a=0#64
    ·subst h
     simp[unr_succ,idxArrV,St.seg,segOf,e,bitlen]
     exact sub_upd hi
    ·have hne:(a != 0#64)=true:=by simp[h]
     simp[unr_succ,idxArrV,St.seg,segOf,hne]
     refine(call _ a).mono ?_
     rintro v s ⟨rfl,rfl⟩
     have:=bl a
     have w:IntKind.i64.wrap (bitlen a.toNat:Int)=bitlen a.toNat:=wrap64 (by omega) (by omega)
     simp[w,e]
     exact sub_upd hi
   ·have hne:(b != 0#64)=true:=by simp[h]
    simp[unr_succ,idxArrV,St.seg,segOf,hne]
    refine(call _ b).mono ?_
    rintro v s ⟨rfl,rfl⟩
    have:=bl b
    have w:IntKind.i64.wrap (64+(bitlen b.toNat:Int))=64+bitlen b.toNat:=wrap64 (by omega) (by omega)
    have q:=bitlen_add (k:=64) ha (w_pos h)
    rw[u4_lo2,q]
    simp[w]
    exact⟨sub_upd hi,by omega⟩
  ·have hne:(c != 0#64)=true:=by simp[h]
   simp[unr_succ,idxArrV,St.seg,segOf,hne]
   refine(call _ c).mono ?_
   rintro v s ⟨rfl,rfl⟩
   have:=bl c
   have w:IntKind.i64.wrap (128+(bitlen c.toNat:Int))=128+bitlen c.toNat:=wrap64 (by omega) (by omega)
   have q:=bitlen_add (k:=128) (m:=a.toNat+b.toNat*18446744073709551616) (by show _<340282366920938463463374607431768211456;omega) (w_pos h)
   rw[u4_lo3,q]
   simp[w]
   exact⟨sub_upd hi,by omega⟩
 ·have hne:(d != 0#64)=true:=by simp[h]
  simp[unr_succ,idxArrV,St.seg,segOf,hne]
  refine(call _ d).mono ?_
  rintro v s ⟨rfl,rfl⟩
  have:=bl d
  have w:IntKind.i64.wrap (192+(bitlen d.toNat:Int))=192+bitlen d.toNat:=wrap64 (by omega) (by omega)
  have q:=bitlen_add (k:=192) (m:=a.toNat+b.toNat*18446744073709551616+c.toNat*340282366920938463463374607431768211456) (by show _<6277101735386680763835789423207666416102355444464034512896;omega) (w_pos h)
  rw[u4_hi,q]
  simp[w]
  exact⟨sub_upd hi,by omega⟩
end
section
variable {P:Program} {F:Fn}
def hl (x y:W)(s:Nat):W:=x <<< s ||| y >>> (64-s)
def hr (x y:W)(s:Nat):W:=x >>> s ||| y <<< (64-s)
theorem pow64 {s:Nat}(hs:s≤64):2 ^ s*2 ^ (64-s)=18446744073709551616:=by
 rw[←Nat.pow_add,show s+(64-s)=64 by omega]
theorem shl_nat (x:W)(s:Nat):(x <<< s).toNat=x.toNat*2 ^ s % 18446744073709551616:=by
 rw[BitVec.toNat_shiftLeft,Nat.shiftLeft_eq]
theorem shr_nat64 (x:W)(s:Nat):(x >>> s).toNat=x.toNat / 2 ^ s:=by
 rw[BitVec.toNat_ushiftRight,Nat.shiftRight_eq_div_pow]
theorem or_disj (x y:Nat)(s:Nat)(hy:y<2 ^ s):(x*2 ^ s ||| y)=x*2 ^ s+y:=by
 rw[←Nat.shiftLeft_eq,←Nat.shiftLeft_add_eq_or_of_lt hy,Nat.shiftLeft_eq]
theorem mul_mod_pow (x s:Nat)(hs:s≤64):x*2 ^ s % 18446744073709551616=x % 2 ^ (64-s)*2 ^ s:=by
 rw[←pow64 hs,Nat.mul_comm (2 ^ s),Nat.mul_mod_mul_right]
theorem mul_div_pow (x s:Nat)(hs:s≤64):x*2 ^ s / 18446744073709551616=x / 2 ^ (64-s):=by
 rw[←pow64 hs,Nat.mul_comm (2 ^ s),Nat.mul_div_mul_right _ _ (Nat.two_pow_pos s)]
theorem hl_nat (x y:W)(s:Nat)(hs:s≤64):(hl x y s).toNat=x.toNat*2 ^ s % 18446744073709551616+y.toNat*2 ^ s / 18446744073709551616:=by
 have hy:=y.isLt
 rw[hl,BitVec.toNat_or,shl_nat,shr_nat64,mul_mod_pow _ _ hs,mul_div_pow _ _ hs]
 refine or_disj _ _ _ ?_
 rw[Nat.div_lt_iff_lt_mul (Nat.two_pow_pos _),pow64 hs]
 exact hy
theorem hr_nat (x y:W)(s:Nat)(hs:s≤64):(hr x y s).toNat=y.toNat*2 ^ (64-s) % 18446744073709551616+x.toNat*2 ^ (64-s) / 18446744073709551616:=by
 have hx:=x.isLt
 have e:64-(64-s)=s:=by omega
 rw[hr,BitVec.or_comm,BitVec.toNat_or,shl_nat,shr_nat64,mul_mod_pow _ _ (by omega),mul_div_pow _ _ (by omega),e]
 refine or_disj _ _ _ ?_
 rw[Nat.div_lt_iff_lt_mul (Nat.two_pow_pos _),Nat.mul_comm,pow64 hs]
 exact hx
theorem shl_u4 (a b c d:W)(s:Nat)(hs:s≤64):u4 a b c d <<< s=u4 (a <<< s) (hl b a s) (hl c b s) (hl d c s):=by
 apply BitVec.eq_of_toNat_eq
 have b1:=(hl b a s).isLt
 have b2:=(hl c b s).isLt
 have b3:=(hl d c s).isLt
 rw[hl_nat _ _ _ hs]at b1 b2 b3
 rw[BitVec.toNat_shiftLeft,Nat.shiftLeft_eq,u4_nat,u4_nat,shl_nat,hl_nat _ _ _ hs,hl_nat _ _ _ hs,hl_nat _ _ _ hs,Nat.add_mul,Nat.add_mul,Nat.add_mul,Nat.mul_right_comm b.toNat,Nat.mul_right_comm c.toNat,Nat.mul_right_comm d.toNat]
 generalize a.toNat*2 ^ s=A at *
 generalize b.toNat*2 ^ s=B at *
 generalize c.toNat*2 ^ s=C at *
 generalize d.toNat*2 ^ s=D at *
 show _ % 115792089237316195423570985008687907853269984665640564039457584007913129639936=_
 omega
theorem shr_u4 (a b c d:W)(s:Nat)(hs:s≤64):u4 a b c d >>> s=u4 (hr a b s) (hr b c s) (hr c d s) (d >>> s):=by
 apply BitVec.eq_of_toNat_eq
 have hp:=Nat.two_pow_pos (64-s)
 have e:64-(64-s)=s:=by omega
 have hd:(d >>> s).toNat=d.toNat*2 ^ (64-s) / 18446744073709551616:=by
  rw[shr_nat64,mul_div_pow _ _ (by omega),e]
 rw[BitVec.toNat_ushiftRight,Nat.shiftRight_eq_div_pow,u4_nat,u4_nat,hd,hr_nat _ _ _ hs,hr_nat _ _ _ hs,hr_nat _ _ _ hs]
 rw[←Nat.mul_div_mul_right _ _ hp,pow64 hs,Nat.add_mul,Nat.add_mul,Nat.add_mul,Nat.mul_right_comm b.toNat,Nat.mul_right_comm c.toNat,Nat.mul_right_comm d.toNat]
 generalize a.toNat*2 ^ (64-s)=A
 generalize b.toNat*2 ^ (64-s)=B
 generalize c.toNat*2 ^ (64-s)=C
 generalize d.toNat*2 ^ (64-s)=D
 omega
theorem shl_word (a b c d:W):u4 a b c d <<< 64=u4 0#64 a b c:=by
 have h: ∀z:W,z.toNat=0→u4 a b c d <<< 64=u4 z a b c:=fun z hz=>by
  have:=a.isLt;have:=b.isLt;have:=c.isLt;have:=d.isLt
  apply BitVec.eq_of_toNat_eq
  rw[BitVec.toNat_shiftLeft,Nat.shiftLeft_eq,u4_nat,u4_nat]
  show _*18446744073709551616 % 115792089237316195423570985008687907853269984665640564039457584007913129639936=_
  omega
 exact h _ rfl
theorem shr_word (a b c d:W):u4 a b c d >>> 64=u4 b c d 0#64:=by
 have h: ∀z:W,z.toNat=0→u4 a b c d >>> 64=u4 b c d z:=fun z hz=>by
  have:=a.isLt;have:=b.isLt;have:=c.isLt;have:=d.isLt
  apply BitVec.eq_of_toNat_eq
  rw[BitVec.toNat_ushiftRight,Nat.shiftRight_eq_div_pow,u4_nat,u4_nat]
  show _ / 18446744073709551616=_
  omega
 exact h _ rfl
def shlU (x:U)(n:Int):U:=if n<0∨255<n then 0#256 else x <<< n.toNat
def shrU (x:U)(n:Int):U:=if n<0∨255<n then 0#256 else x >>> n.toNat
theorem hl0 (x y:W):hl x y 0=x:=by
 unfold hl
 rw[BitVec.shiftLeft_zero]
 have:y >>> (64-0)=0#64:=by
  apply BitVec.eq_of_toNat_eq
  rw[shr_nat64,Nat.div_eq_of_lt y.isLt];rfl
 rw[this,BitVec.or_zero]
theorem hr0 (x y:W):hr x y 0=x:=by
 unfold hr
 rw[BitVec.ushiftRight_zero]
 have:y <<< (64-0)=0#64:=by
  apply BitVec.eq_of_toNat_eq
  rw[shl_nat]
  exact Nat.mul_mod_left _ _
 rw[this,BitVec.or_zero]
set_option maxHeartbeats 2000000 in
theorem spec112 (ok:OkNum P F)(st:St)(x:U)(n:Int):ACalls P (F 112) [nU x,.int .i64 n] st fun v st'=>v=nU (shlU x n)∧st'=st:=by
 refine shows_call ok.mixed ok.h112 (by simp[k112]) ?_
 obtain⟨a,b,c,d,rfl⟩:=exists_u4 x
 simp only[k112,nU,eU_u4]
 simp
 intro i hi
 simp
 intro j hj
 obtain⟨hij,hj⟩:=upd_none hj
 have hji:=hij.symm
 by_cases h0:n<0
 ·have e:shlU (u4 a b c d) n=u4 0#64 0#64 0#64 0#64:=by simp[shlU,h0];rfl
  rw[e,eU_u4]
  simp[h0,fillV,storeS,spliceV,St.seg,segOf]
  repeat refine sub_ups ?_ (by assumption)
  exact St.sub_refl _
 by_cases h1:255<n
 ·have e:shlU (u4 a b c d) n=u4 0#64 0#64 0#64 0#64:=by simp[shlU,h1];rfl
  rw[e,eU_u4]
  simp[h0,h1,fillV,storeS,spliceV,St.seg,segOf]
  repeat refine sub_ups ?_ (by assumption)
  exact St.sub_refl _
 obtain⟨m,rfl⟩:=Int.eq_ofNat_of_zero_le (show 0≤n by omega)
 have hm:m≤255:=by omega
 obtain⟨w,s,hs,rfl⟩: ∃w s,s<64∧m=64*w+s:=⟨m / 64,m % 64,Nat.mod_lt _ (by omega),by omega⟩
 have hq:Int.tdiv ((64*w+s:Nat):Int) 64=(w:Int):=by
  rw[Int.tdiv_eq_ediv_of_nonneg (by omega)];omega
 have hr':Int.tmod ((64*w+s:Nat):Int) 64=(s:Int):=by
  rw[Int.tmod_eq_emod_of_nonneg (by omega)];omega
 have e:shlU (u4 a b c d) ((64*w+s:Nat):Int)=u4 a b c d <<< (64*w+s):=by
  rw[shlU,if_neg (by omega),Int.toNat_natCast]
 rw[e]
 obtain⟨S,hS⟩: ∃S:W,S=BitVec.ofInt 64 (s:Int):=⟨_,rfl⟩
 have hSn:S.toNat=s:=by
  rw[hS,BitVec.ofInt_natCast,BitVec.toNat_ofNat]
  exact Nat.mod_eq_of_lt (by omega)
 have hS2:(64#64-S).toNat=64-s:=by
  rw[BitVec.toNat_sub,hSn]
  show(18446744073709551616-s+64) % 18446744073709551616=64-s
  omega
 have hpos:decide (0#64<S)=decide (0<s):=by
  congr 1
  rw[BitVec.lt_def,hSn]
  rfl
 have hw:w≤3:=by omega
 have ww:IntKind.i64.wrap (w:Int)=w:=wrap64 (by omega) (by omega)
 have hcast:((64*w+s:Nat):Int)=64*(w:Int)+s:=by omega
 rw[hcast]at h0 h1 hq hr'⊢
 simp[h0,h1]
 intro k hk
 obtain⟨hjk,hk⟩:=upd_none hk
 obtain⟨hik,hk⟩:=upd_none hk
 have hkj:=hjk.symm
 have hki:=hik.symm
 have fin: ∀cs:List V,st.sub (((((st.upd i (AObj.cells [w64 a,w64 b,w64 c,w64 d])).upd j (AObj.cells [w64 0#64,w64 0#64,w64 0#64,w64 0#64])).upd k (AObj.cells [w64 0#64,w64 0#64,w64 0#64,w64 0#64])).upd k (AObj.cells cs)).upd j (AObj.cells cs)):=fun cs=>sub_ups (sub_ups (sub_ups (sub_ups (sub_ups (sub_self _) hi) hj) hk) hk) hj
 have hconv:convV .u64 (.int .i64 (s:Int))=some (w64 S):=by rw[hS,conv_i_64]
 simp[-conv_i_64,hq,hr',ww,hconv]
 clear hconv hS hq hr' hcast h0 h1 e ww
 refine vc_unroll 5 ?_
 have hw4:w=0∨w=1∨w=2∨w=3:=by omega
 by_cases hs0:s=0
 ·have hpos':decide (0#64<S)=false:=by rw[hpos];simp[hs0]
  rcases hw4 with rfl | rfl | rfl | rfl
  ·have r:u4 a b c d <<< (64*0+s)=u4 a b c d:=by simp[hs0]
   rw[r,eU_u4]
   simp[unr_succ,idxArrV,St.seg,segOf,hij,hji,hik,hki,hjk,hkj,storeS,spliceV,hSn,hpos',hs0]
   repeat refine sub_ups ?_ (by assumption)
   exact St.sub_refl _
  ·have r:u4 a b c d <<< (64*1+s)=u4 0#64 a b c:=by rw[hs0];exact shl_word a b c d
   rw[r,eU_u4]
   simp[unr_succ,idxArrV,St.seg,segOf,hij,hji,hik,hki,hjk,hkj,storeS,spliceV,hSn,hpos',hs0]
   repeat refine sub_ups ?_ (by assumption)
   exact St.sub_refl _
  ·have r:u4 a b c d <<< (64*2+s)=u4 0#64 0#64 a b:=by rw[hs0,show 64*2+0=64+64 from rfl,BitVec.shiftLeft_add,shl_word,shl_word]
   rw[r,eU_u4]
   simp[unr_succ,idxArrV,St.seg,segOf,hij,hji,hik,hki,hjk,hkj,storeS,spliceV,hSn,hpos',hs0]
   repeat refine sub_ups ?_ (by assumption)
   exact St.sub_refl _
  ·have r:u4 a b c d <<< (64*3+s)=u4 0#64 0#64 0#64 a:=by rw[hs0,show 64*3+0=64+64+64 from rfl,BitVec.shiftLeft_add,BitVec.shiftLeft_add,shl_word,shl_word,shl_word]
   rw[r,eU_u4]
   simp[unr_succ,idxArrV,St.seg,segOf,hij,hji,hik,hki,hjk,hkj,storeS,spliceV,hSn,hpos',hs0]
   repeat refine sub_ups ?_ (by assumption)
   exact St.sub_refl _
 ·have hpos':decide (0#64<S)=true:=by rw[hpos];simp;omega
  rcases hw4 with rfl | rfl | rfl | rfl
  ·have r:u4 a b c d <<< (64*0+s)=u4 (a <<< s) (hl b a s) (hl c b s) (hl d c s):=by
     rw[show 64*0+s=s by omega];exact shl_u4 a b c d s (by omega)
   rw[r,eU_u4]
   simp[unr_succ,idxArrV,St.seg,segOf,hij,hji,hik,hki,hjk,hkj,storeS,spliceV,hSn,hpos',hS2,hl,-BitVec.toNat_sub]
   repeat refine sub_ups ?_ (by assumption)
   exact St.sub_refl _
  ·have r:u4 a b c d <<< (64*1+s)=u4 0#64 (a <<< s) (hl b a s) (hl c b s):=by
     rw[show 64*1+s=s+64 by omega,BitVec.shiftLeft_add,shl_u4 a b c d s (by omega),shl_word]
   rw[r,eU_u4]
   simp[unr_succ,idxArrV,St.seg,segOf,hij,hji,hik,hki,hjk,hkj,storeS,spliceV,hSn,hpos',hS2,hl,-BitVec.toNat_sub]
   repeat refine sub_ups ?_ (by assumption)
   exact St.sub_refl _
  ·have r:u4 a b c d <<< (64*2+s)=u4 0#64 0#64 (a <<< s) (hl b a s):=by
     rw[show 64*2+s=s+64+64 by omega,BitVec.shiftLeft_add,BitVec.shiftLeft_add,shl_u4 a b c d s (by omega),shl_word,shl_word]
   rw[r,eU_u4]
   simp[unr_succ,idxArrV,St.seg,segOf,hij,hji,hik,hki,hjk,hkj,storeS,spliceV,hSn,hpos',hS2,hl,-BitVec.toNat_sub]
   repeat refine sub_ups ?_ (by assumption)
   exact St.sub_refl _
  ·have r:u4 a b c d <<< (64*3+s)=u4 0#64 0#64 0#64 (a <<< s):=by
     rw[show 64*3+s=s+64+64+64 by omega,BitVec.shiftLeft_add,BitVec.shiftLeft_add,BitVec.shiftLeft_add,shl_u4 a b c d s (by omega),shl_word,shl_word,shl_word]
   rw[r,eU_u4]
   simp[unr_succ,idxArrV,St.seg,segOf,hij,hji,hik,hki,hjk,hkj,storeS,spliceV,hSn,hpos',hS2,hl,-BitVec.toNat_sub]
   repeat refine sub_ups ?_ (by assumption)
   exact St.sub_refl _
set_option maxHeartbeats 2000000 in
theorem spec113 (ok:OkNum P F)(st:St)(x:U)(n:Int):ACalls P (F 113) [nU x,.int .i64 n] st fun v st'=>v=nU (shrU x n)∧st'=st:=by
 refine shows_call ok.mixed ok.h113 (by simp[k113]) ?_
 obtain⟨a,b,c,d,rfl⟩:=exists_u4 x
 simp only[k113,nU,eU_u4]
 simp
 intro i hi
 simp
 intro j hj
 obtain⟨hij,hj⟩:=upd_none hj
 have hji:=hij.symm
 by_cases h0:n<0
 ·have e:shrU (u4 a b c d) n=u4 0#64 0#64 0#64 0#64:=by simp[shrU,h0];rfl
  rw[e,eU_u4]
  simp[h0,fillV,storeS,spliceV,St.seg,segOf]
  repeat refine sub_ups ?_ (by assumption)
  exact St.sub_refl _
 by_cases h1:255<n
 ·have e:shrU (u4 a b c d) n=u4 0#64 0#64 0#64 0#64:=by simp[shrU,h1];rfl
  rw[e,eU_u4]
  simp[h0,h1,fillV,storeS,spliceV,St.seg,segOf]
  repeat refine sub_ups ?_ (by assumption)
  exact St.sub_refl _
 obtain⟨m,rfl⟩:=Int.eq_ofNat_of_zero_le (show 0≤n by omega)
 have hm:m≤255:=by omega
 obtain⟨w,s,hs,rfl⟩: ∃w s,s<64∧m=64*w+s:=⟨m / 64,m % 64,Nat.mod_lt _ (by omega),by omega⟩
 have hq:Int.tdiv ((64*w+s:Nat):Int) 64=(w:Int):=by
  rw[Int.tdiv_eq_ediv_of_nonneg (by omega)];omega
 have hr':Int.tmod ((64*w+s:Nat):Int) 64=(s:Int):=by
  rw[Int.tmod_eq_emod_of_nonneg (by omega)];omega
 have e:shrU (u4 a b c d) ((64*w+s:Nat):Int)=u4 a b c d >>> (64*w+s):=by
  rw[shrU,if_neg (by omega),Int.toNat_natCast]
 rw[e]
 obtain⟨S,hS⟩: ∃S:W,S=BitVec.ofInt 64 (s:Int):=⟨_,rfl⟩
 have hSn:S.toNat=s:=by
  rw[hS,BitVec.ofInt_natCast,BitVec.toNat_ofNat]
  exact Nat.mod_eq_of_lt (by omega)
 have hS2:(64#64-S).toNat=64-s:=by
  rw[BitVec.toNat_sub,hSn]
  show(18446744073709551616-s+64) % 18446744073709551616=64-s
  omega
 have hpos:decide (0#64<S)=decide (0<s):=by
  congr 1
  rw[BitVec.lt_def,hSn]
  rfl
 have hw:w≤3:=by omega
 have ww4:IntKind.i64.wrap (4-(w:Int))=4-w:=wrap64 (by omega) (by omega)
 have ww:IntKind.i64.wrap (w:Int)=w:=wrap64 (by omega) (by omega)
 have hcast:((64*w+s:Nat):Int)=64*(w:Int)+s:=by omega
 rw[hcast]at h0 h1 hq hr'⊢
 simp[h0,h1]
 intro k hk
 obtain⟨hjk,hk⟩:=upd_none hk
 obtain⟨hik,hk⟩:=upd_none hk
 have hkj:=hjk.symm
 have hki:=hik.symm
 have fin: ∀cs:List V,st.sub (((((st.upd i (AObj.cells [w64 a,w64 b,w64 c,w64 d])).upd j (AObj.cells [w64 0#64,w64 0#64,w64 0#64,w64 0#64])).upd k (AObj.cells [w64 0#64,w64 0#64,w64 0#64,w64 0#64])).upd k (AObj.cells cs)).upd j (AObj.cells cs)):=fun cs=>sub_ups (sub_ups (sub_ups (sub_ups (sub_ups (sub_self _) hi) hj) hk) hk) hj
 have hconv:convV .u64 (.int .i64 (s:Int))=some (w64 S):=by rw[hS,conv_i_64]
 simp[-conv_i_64,hq,hr',ww,hconv]
 clear hconv hS hq hr' hcast h0 h1 e ww
 refine vc_unroll 5 ?_
 have hw4:w=0∨w=1∨w=2∨w=3:=by omega
 by_cases hs0:s=0
 ·have hpos':decide (0#64<S)=false:=by rw[hpos];simp[hs0]
  rcases hw4 with rfl | rfl | rfl | rfl
  ·have r:u4 a b c d >>> (64*0+s)=u4 a b c d:=by simp[hs0]
   rw[r,eU_u4]
   simp[unr_succ,idxArrV,St.seg,segOf,hij,hji,hik,hki,hjk,hkj,storeS,spliceV,hSn,hpos',hs0]
   repeat refine sub_ups ?_ (by assumption)
   exact St.sub_refl _
  ·have r:u4 a b c d >>> (64*1+s)=u4 b c d 0#64:=by rw[hs0,show 64*1+0=64 from rfl,shr_word]
   rw[r,eU_u4]
   simp[unr_succ,idxArrV,St.seg,segOf,hij,hji,hik,hki,hjk,hkj,storeS,spliceV,hSn,hpos',hs0]
   repeat refine sub_ups ?_ (by assumption)
   exact St.sub_refl _
  ·have r:u4 a b c d >>> (64*2+s)=u4 c d 0#64 0#64:=by rw[hs0,show 64*2+0=64+64 from rfl,BitVec.shiftRight_add,shr_word,shr_word]
   rw[r,eU_u4]
   simp[unr_succ,idxArrV,St.seg,segOf,hij,hji,hik,hki,hjk,hkj,storeS,spliceV,hSn,hpos',hs0]
   repeat refine sub_ups ?_ (by assumption)
   exact St.sub_refl _
  ·have r:u4 a b c d >>> (64*3+s)=u4 d 0#64 0#64 0#64:=by rw[hs0,show 64*3+0=64+64+64 from rfl,BitVec.shiftRight_add,BitVec.shiftRight_add,shr_word,shr_word,shr_word]
   rw[r,eU_u4]
   simp[unr_succ,idxArrV,St.seg,segOf,hij,hji,hik,hki,hjk,hkj,storeS,spliceV,hSn,hpos',hs0]
   repeat refine sub_ups ?_ (by assumption)
   exact St.sub_refl _
 ·have hpos':decide (0#64<S)=true:=by rw[hpos];simp;omega
  rcases hw4 with rfl | rfl | rfl | rfl
  ·have r:u4 a b c d >>> (64*0+s)=u4 (hr a b s) (hr b c s) (hr c d s) (d >>> s):=by
     rw[show 64*0+s=s by omega,shr_u4 a b c d s (by omega)]
   rw[r,eU_u4]
   simp[unr_succ,idxArrV,St.seg,segOf,hij,hji,hik,hki,hjk,hkj,storeS,spliceV,hSn,hpos',hS2,hr,-BitVec.toNat_sub]
   repeat refine sub_ups ?_ (by assumption)
   exact St.sub_refl _
  ·have r:u4 a b c d >>> (64*1+s)=u4 (hr b c s) (hr c d s) (d >>> s) 0#64:=by
     rw[show 64*1+s=s+64 by omega,BitVec.shiftRight_add,shr_u4 a b c d s (by omega),shr_word]
   rw[r,eU_u4]
   simp[unr_succ,idxArrV,St.seg,segOf,hij,hji,hik,hki,hjk,hkj,storeS,spliceV,hSn,hpos',hS2,hr,-BitVec.toNat_sub]
   repeat refine sub_ups ?_ (by assumption)
   exact St.sub_refl _
  ·have r:u4 a b c d >>> (64*2+s)=u4 (hr c d s) (d >>> s) 0#64 0#64:=by
     rw[show 64*2+s=s+64+64 by omega,BitVec.shiftRight_add,BitVec.shiftRight_add,shr_u4 a b c d s (by omega),shr_word,shr_word]
   rw[r,eU_u4]
   simp[unr_succ,idxArrV,St.seg,segOf,hij,hji,hik,hki,hjk,hkj,storeS,spliceV,hSn,hpos',hS2,hr,-BitVec.toNat_sub]
   repeat refine sub_ups ?_ (by assumption)
   exact St.sub_refl _
  ·have r:u4 a b c d >>> (64*3+s)=u4 (d >>> s) 0#64 0#64 0#64:=by
     rw[show 64*3+s=s+64+64+64 by omega,BitVec.shiftRight_add,BitVec.shiftRight_add,BitVec.shiftRight_add,shr_u4 a b c d s (by omega),shr_word,shr_word,shr_word]
   rw[r,eU_u4]
   simp[unr_succ,idxArrV,St.seg,segOf,hij,hji,hik,hki,hjk,hkj,storeS,spliceV,hSn,hpos',hS2,hr,-BitVec.toNat_sub]
   repeat refine sub_ups ?_ (by assumption)
   exact St.sub_refl _
end
section
variable {P:Program} {F:Fn}
theorem limb_bit (x:U)(j i:Nat)(hi:i<64):(limb x j).getLsbD i=x.getLsbD (64*j+i):=by
 have e:(18446744073709551616:Nat) ^ j=2 ^ (64*j):=by
  rw[Nat.pow_mul]
 rw[limb,e,BitVec.getLsbD_ofNat,decide_eq_true hi,Bool.true_and,Nat.testBit_div_two_pow,BitVec.getLsbD,Nat.add_comm]
theorem limb_or (x y:U)(j:Nat):limb (x ||| y) j=limb x j ||| limb y j:=by
 apply BitVec.eq_of_getLsbD_eq
 intro i hi
 rw[BitVec.getLsbD_or,limb_bit _ _ _ hi,limb_bit _ _ _ hi,limb_bit _ _ _ hi,BitVec.getLsbD_or]
theorem splice_or (x y:U){j:Nat}(hj:j<4)(hy: ∀k,k<4→k≠j→limb y k=0#64):spliceV (eU x) j [w64 (limb x j ||| limb y j)]=eU (x ||| y):=by
 have e: ∀k,k<4→limb (x ||| y) k=if k=j then limb x j ||| limb y j else limb x k:=fun k hk=>by
  rw[limb_or]
  split
  ·rename_i h;rw[h]
  ·rename_i h;rw[hy k hk h,BitVec.or_zero]
 simp only[eU,e 0 (by omega),e 1 (by omega),e 2 (by omega),e 3 (by omega)]
 have:j=0∨j=1∨j=2∨j=3:=by omega
 rcases this with rfl | rfl | rfl | rfl<;>rfl
theorem seg_limb (x:U){j:Nat}(hj:j<4):segOf (eU x) j 1=some [w64 (limb x j)]:=by
 have:j=0∨j=1∨j=2∨j=3:=by omega
 rcases this with rfl | rfl | rfl | rfl<;>rfl
def putU (v:W)(i:Nat):U:=v.setWidth 256 <<< i
theorem limb_put (v:W)(q r k:Nat)(hr:r<64)(hk:k<4)(hv:v.toNat<2 ^ (64-r)):limb (putU v (64*q+r)) k=if k=q then v <<< r else 0#64:=by
 have zero: ∀t,64-r≤t→v.getLsbD t=false:=fun t ht=>by
  rw[BitVec.getLsbD]
  exact Nat.testBit_lt_two_pow (Nat.lt_of_lt_of_le hv (Nat.pow_le_pow_right (by omega) ht))
 apply BitVec.eq_of_getLsbD_eq
 intro t ht
 rw[limb_bit _ _ _ ht,putU,BitVec.getLsbD_shiftLeft,BitVec.getLsbD_setWidth]
 rw[decide_eq_true (show 64*k+t<256 by omega),Bool.true_and]
 split
 ·rename_i h
  subst h
  rw[BitVec.getLsbD_shiftLeft,decide_eq_true ht,Bool.true_and]
  by_cases h2:t<r
  ·simp[h2]
  ·rw[decide_eq_false (show¬64*k+t<64*k+r by omega),decide_eq_false h2,decide_eq_true (show 64*k+t-(64*k+r)<256 by omega),show 64*k+t-(64*k+r)=t-r by omega]
   simp
 ·rename_i h
  rcases Nat.lt_or_gt_of_ne h with h2 | h2
  ·rw[decide_eq_true (show 64*k+t<64*q+r by omega)]
   simp
  ·rw[zero _ (show 64-r≤64*k+t-(64*q+r) by omega)]
   simp
theorem put_nat (v:W)(i:Nat):(putU v i).toNat=v.toNat*2 ^ i % 2 ^ 256:=by
 have:=v.isLt
 rw[putU,BitVec.toNat_shiftLeft,Nat.shiftLeft_eq,BitVec.toNat_setWidth,Nat.mod_eq_of_lt (show v.toNat<2 ^ 256 from Nat.lt_of_lt_of_le this (Nat.pow_le_pow_right (by omega) (by omega)))]
theorem eU_zero0:[w64 0,w64 0,w64 0,w64 0]=eU 0#256:=eU_zero
theorem or_put {x:U}{v:W}{i:Nat}(hx:x.toNat<2 ^ i)(hs:v.toNat*2 ^ i<2 ^ 256):(x ||| putU v i).toNat=v.toNat*2 ^ i+x.toNat:=by
 rw[BitVec.toNat_or,put_nat,Nat.mod_eq_of_lt hs,Nat.or_comm]
 exact or_disj _ _ _ hx
theorem or_low {x:U}{i:Nat}(hx:x.toNat % 2 ^ (i+1)=0)(hi:i<256):(x ||| putU 1#64 i).toNat=x.toNat+2 ^ i:=by
 have h1:2 ^ i<2 ^ 256:=Nat.pow_lt_pow_right (by omega) hi
 have e1:(1#64:W).toNat=1:=rfl
 rw[BitVec.toNat_or,put_nat,e1,Nat.one_mul,Nat.mod_eq_of_lt h1]
 have e:x.toNat=x.toNat / 2 ^ (i+1)*2 ^ (i+1):=by
  have:=Nat.div_add_mod x.toNat (2 ^ (i+1))
  rw[hx,Nat.add_zero,Nat.mul_comm]at this
  exact this.symm
 rw[e]
 exact or_disj _ _ _ (Nat.pow_lt_pow_right (by omega) (by omega))
def divU (x y:U):U:=BitVec.ofNat 256 (x.toNat / y.toNat)
def modU (x y:U):U:=BitVec.ofNat 256 (x.toNat % y.toNat)
theorem bitlen_ge {n:Nat}(h:0<n):2 ^ (bitlen n-1)≤n:=by
 have:=bitlen_pos.2 h
 exact bitlen_lt.1 (by omega)
theorem div_start {x y:Nat}(hy:0<y)(h:bitlen y≤bitlen x):x<y*2 ^ (bitlen x-bitlen y+1):=by
 have h1:=lt_bitlen x
 have h2:=bitlen_ge hy
 have h3:=bitlen_pos.2 hy
 calc x<2 ^ bitlen x:=h1
  _=2 ^ (bitlen y-1)*2 ^ (bitlen x-bitlen y+1):=by rw[←Nat.pow_add];congr 1;omega
  _≤y*2 ^ (bitlen x-bitlen y+1):=Nat.mul_le_mul_right _ h2
theorem div_none {x y:Nat}(h:bitlen x<bitlen y):x<y:=by
 have h1:=lt_bitlen x
 have:2 ^ bitlen x≤y:=bitlen_lt.1 h
 omega
theorem div_fit {x y i:Nat}(hy:0<y)(hx:x<2 ^ 256)(h:i+bitlen y≤bitlen x):y*2 ^ i<2 ^ 256:=by
 have h1:=lt_bitlen y
 have h2:bitlen x≤256:=bitlen_le.2 hx
 calc y*2 ^ i<2 ^ bitlen y*2 ^ i:=Nat.mul_lt_mul_of_pos_right h1 (Nat.two_pow_pos i)
  _=2 ^ (bitlen y+i):=(Nat.pow_add _ _ _).symm
  _≤2 ^ 256:=Nat.pow_le_pow_right (by omega) (by omega)
set_option maxHeartbeats 2000000 in
theorem spec116 (ok:OkNum P F)(st:St)(x y:U):ACalls P (F 116) [nU x,nU y] st fun v st'=>v=(if y=0#256 then .tup [nU 0#256,nU 0#256,.int .i64 1]else .tup [nU (divU x y),nU (modU x y),.int .i64 0])∧st'=st:=by
 refine shows_call ok.mixed ok.h116 (by simp[k116]) ?_
 simp only[k116,nU,eU_zero0]
 simp
 intro i2 h2
 have S:=(Sep.start st).new h2 (.cells (eU x))
 generalize st.upd i2 _=st1 at S⊢
 intro i3 h3
 have S:=S.new h3 (.cells (eU y))
 generalize st1.upd i3 _=st2 at S⊢
 simp
 intro i4 h4
 have S:=S.new h4 (.cells (eU 0#256))
 generalize st2.upd i4 _=st3 at S⊢
 simp
 intro i5 h5
 have S:=S.new h5 (.cells (eU 0#256))
 generalize st3.upd i5 _=st4 at S⊢
 have o3:=S.mem (i:=i3) (o:=.cells (eU y)) (by simp)
 have o4:=S.mem (i:=i4) (o:=.cells (eU 0#256)) (by simp)
 have o5:=S.mem (i:=i5) (o:=.cells (eU 0#256)) (by simp)
 have n45:i5≠i4:=S.ne
 have hsp: ∀x y:U,spliceV (eU x) 0 (eU y)=eU y:=fun _ _=>rfl
 simp[St.seg,o3,segU]
 refine(spec107 ok st4 y).mono ?_
 rintro v s ⟨rfl,rfl⟩
 by_cases hy0:y=0#256
 ·have hz:fillV (eU 0#256) []=some (eU 0#256):=rfl
  simp[hy0,hz,storeS,o4,o5,n45,n45.symm,hsp,eU_len,St.seg,segU]
  have S:=(S.setAt (.cells (eU 0#256)) 1 rfl).setAt (.cells (eU 0#256)) 0 rfl
  exact S.was' (st0:=st) (by simp)
 ·have ypos:0<y.toNat:=by
    have:y.toNat≠0:=fun e=>hy0 (BitVec.eq_of_toNat_eq e)
    omega
  simp[hy0]
  intro i7 h7
  have S:=S.new h7 (.cells (eU 0#256))
  generalize s.upd i7 _=s2 at S⊢
  have o2:=S.mem (i:=i2) (o:=.cells (eU x)) (by simp)
  have o3:=S.mem (i:=i3) (o:=.cells (eU y)) (by simp)
  simp[St.seg,o2,o3,segU]
  refine⟨_,spec114 ok s2 x,?_⟩
  simp[St.seg,o2,o3,segU]
  refine⟨_,spec114 ok s2 y,?_⟩
  have bx:bitlen x.toNat≤256:=bitlen_le.2 x.isLt
  have hby:=bitlen_pos.2 ypos
  have by':bitlen y.toNat≤256:=bitlen_le.2 y.isLt
  have w1:IntKind.i64.wrap ((bitlen x.toNat:Int)-bitlen y.toNat)=(bitlen x.toNat:Int)-bitlen y.toNat:=wrap64 (by omega) (by omega)
  simp[w1]
  refine vc_loopJ (fun k env' st'=>∃a q:U,(∃j:Int,env' 8=.int .i64 j∧(j+1=(k:Int)∨j<0∧k=0))∧k≤256∧(k≠0→k+bitlen y.toNat≤bitlen x.toNat+1)∧a.toNat<y.toNat*2 ^ k∧q.toNat % 2 ^ k=0∧x.toNat=q.toNat*y.toNat+a.toNat∧
   Sep [pt i7 (.cells (eU q)),pt i5 (.cells (eU 0#256)),pt i4 (.cells (eU 0#256)),pt i3 (.cells (eU y)),pt i2 (.cells (eU a)),Was st] st') (bitlen x.toNat+1-bitlen y.toNat) ?_ ?_
  ·by_cases hb:bitlen y.toNat≤bitlen x.toNat
   ·refine⟨x,0#256,⟨_,rfl,by omega⟩,by omega,fun _=>by omega,?_,by simp,by simp,S⟩
    have:=div_start ypos hb
    rw[show bitlen x.toNat+1-bitlen y.toNat=bitlen x.toNat-bitlen y.toNat+1 by omega]
    exact this
   ·refine⟨x,0#256,⟨_,rfl,by omega⟩,by omega,fun _=>by omega,?_,by simp,by simp,S⟩
    rw[show bitlen x.toNat+1-bitlen y.toNat=0 by omega,Nat.pow_zero,Nat.mul_one]
    exact div_none (by omega)
  rintro J hJ k env' st5 hsame ⟨a,q,⟨j,h8,hj⟩,hk,hkl,ha,hq,hx,S⟩
  have g2:=hsame.get 2 rfl
  have g3:=hsame.get 3 rfl
  have g4:=hsame.get 4 rfl
  have g5:=hsame.get 5 rfl
  have g7:=hsame.get 7 rfl
  simp at g2 g3 g4 g5 g7
  clear hsame
  have o2:=S.mem (i:=i2) (o:=.cells (eU a)) (by simp)
  have o3:=S.mem (i:=i3) (o:=.cells (eU y)) (by simp)
  have o7:=S.mem (i:=i7) (o:=.cells (eU q)) (by simp)
  by_cases hk0:k=0
  ·subst hk0
   have hjn:¬0≤j:=by omega
   simp[h8,hjn]
   have n74:=S.neq (i:=i7) (j:=i4) 0 2 rfl rfl (by omega)
   have n75:=S.neq (i:=i7) (j:=i5) 0 1 rfl rfl (by omega)
   have n54:=S.neq (i:=i5) (j:=i4) 1 2 rfl rfl (by omega)
   have n42:=S.neq (i:=i4) (j:=i2) 2 4 rfl rfl (by omega)
   have n52:=S.neq (i:=i5) (j:=i2) 1 4 rfl rfl (by omega)
   have o4:=S.mem (i:=i4) (o:=.cells (eU 0#256)) (by simp)
   have o5:=S.mem (i:=i5) (o:=.cells (eU 0#256)) (by simp)
   rw[Nat.pow_zero,Nat.mul_one]at ha
   have eq1:q=divU x y:=by
    rw[divU,hx,Nat.add_comm,Nat.add_mul_div_right _ _ ypos,Nat.div_eq_of_lt ha,Nat.zero_add,BitVec.ofNat_toNat,BitVec.setWidth_eq]
   have eq2:a=modU x y:=by
    rw[modU,hx,Nat.add_comm,Nat.add_mul_mod_self_right,Nat.mod_eq_of_lt ha,BitVec.ofNat_toNat,BitVec.setWidth_eq]
   refine⟨?_,?_⟩
   ·intro p hp
    simp only[List.mem_cons,List.not_mem_nil,or_false]at hp
    rcases hp with rfl | rfl | rfl | rfl
    ·simpa[g7,g4,apartV]using n74
    ·simpa[g7,g5,apartV]using n75
    ·simpa[g2,g4,apartV]using n42.symm
    ·simpa[g2,g5,apartV]using n52.symm
   ·have T:=(S.setAt (.cells (eU q)) 2 rfl).setAt (.cells (eU a)) 1 rfl
    simp[g7,g2,g4,g5,St.seg,o7,o2,o4,o5,segU,storeS,eU_len,hsp,n54,n54.symm,n74,n74.symm,n75,n75.symm,n42,n42.symm,n52,n52.symm,←eq1,←eq2]
    exact T.was' (by simp)
  ·obtain⟨i,rfl⟩: ∃i,k=i+1:=⟨k-1,by omega⟩
   have hji:j=(i:Int):=by omega
   subst hji
   simp[h8,g2,g3,g4,g5,g7,St.seg,o3,segU]
   refine(spec112 ok st5 y i).mono ?_
   rintro v st5 ⟨rfl,rfl⟩
   simp
   intro i9 h9
   have n92:i9≠i2:=fun e=>by rw[e,o2]at h9;cases h9
   have n93:i9≠i3:=fun e=>by rw[e,o3]at h9;cases h9
   have n97:i9≠i7:=fun e=>by rw[e,o7]at h9;cases h9
   have n72:=S.neq (i:=i7) (j:=i2) 0 4 rfl rfl (by omega)
   have hfit:=div_fit ypos x.isLt (show i+bitlen y.toNat≤bitlen x.toNat by omega)
   have hsh:(shlU y i).toNat=y.toNat*2 ^ i:=by
    rw[shlU,if_neg (by omega),Int.toNat_natCast,BitVec.toNat_shiftLeft,Nat.shiftLeft_eq,Nat.mod_eq_of_lt hfit]
   have T:=S.new h9 (.cells (eU (shlU y i)))
   have hst9:storeS (st5.upd i9 (.cells (eU 0#256))) 4 (.ptr (some (i9,0))) (nU (shlU y i))=some (st5.upd i9 (.cells (eU (shlU y i)))):=by
    simp[storeS,nU,eU_len,hsp]
   simp[hst9,n92.symm,St.seg,segU,g2,o2]
   have hcmp:decide (cmpU (shlU y i) a≤0)=decide (y.toNat*2 ^ i≤a.toNat):=by
    congr 1
    rw[←hsh,eq_iff_iff]
    unfold cmpU
    constructor
    ·intro h
     split at h
     ·omega
     ·split at h
      ·rename_i e;rw[e];exact Nat.le_refl _
      ·omega
    ·intro h
     split
     ·omega
     ·rename_i h1
      have:shlU y i=a:=BitVec.eq_of_toNat_eq (by omega)
      rw[if_pos this]
      omega
   refine(spec106 ok (st5.upd i9 (.cells (eU (shlU y i)))) (shlU y i) a).mono ?_
   rintro v s ⟨rfl,rfl⟩
   simp[hcmp]
   by_cases hle:y.toNat*2 ^ i≤a.toNat
   ·simp[hle,g2,n92.symm,St.seg,segU,o2]
    refine(spec109 ok (st5.upd i9 (.cells (eU (shlU y i)))) a (shlU y i)).mono ?_
    rintro v s ⟨rfl,rfl⟩
    have hsub2: ∀z:U,storeS (st5.upd i9 (.cells (eU (shlU y i)))) 4 (.ptr (some (i2,0))) (nU z)=some ((st5.upd i9 (.cells (eU (shlU y i)))).upd i2 (.cells (eU z))):=fun z=>by
     simp[storeS,nU,eU_len,hsp,n92.symm,o2]
    obtain⟨qq,r,hr,hi⟩: ∃qq r,r<64∧i=64*qq+r:=⟨i / 64,i % 64,Nat.mod_lt _ (by omega),by omega⟩
    have hqq:qq<4:=by omega
    have e1:Int.tdiv (i:Int) 64=(qq:Int):=by rw[Int.tdiv_eq_ediv_of_nonneg (by omega)];omega
    have e2:Int.tmod (i:Int) 64=(r:Int):=by rw[Int.tmod_eq_emod_of_nonneg (by omega)];omega
    have wq:IntKind.i64.wrap (qq:Int)=qq:=wrap64 (by omega) (by omega)
    have hR:(BitVec.ofNat 64 r).toNat=r:=by rw[BitVec.toNat_ofNat];exact Nat.mod_eq_of_lt (by omega)
    have hconv:convV .u64 (.int .i64 (r:Int))=some (w64 (BitVec.ofNat 64 r)):=by rw[conv_i_64,BitVec.ofInt_natCast]
    have hidx:=idxArr_ptr 4 i7 (z:=(qq:Int)) (j:=qq) rfl hqq
    have hone:(1#64:W).toNat<2 ^ (64-r):=by
     show 1<2 ^ (64-r)
     exact Nat.one_lt_two_pow (by omega)
    have hput: ∀k,k<4→limb (putU 1#64 i) k=if k=qq then 1#64 <<< r else 0#64:=fun k hk=>by
     rw[hi];exact limb_put 1#64 qq r k hr hk hone
    have hspl:spliceV (eU q) qq [w64 (limb q qq ||| 1#64 <<< r)]=eU (q ||| putU 1#64 i):=by
     have:=splice_or q (putU 1#64 i) hqq (fun k hk hne=>by rw[hput k hk,if_neg hne])
     rwa [hput qq hqq,if_pos rfl]at this
    have wi:IntKind.i64.wrap ((i:Int)-1)=(i:Int)-1:=wrap64 (by omega) (by omega)
    have hql:qq+1≤4:=hqq
    have hst7: ∀s7:St,s7 i7=some (.cells (eU q))→storeS s7 1 (.ptr (some (i7,qq))) (w64 (limb q qq ||| 1#64 <<< r))=some (s7.upd i7 (.cells (eU (q ||| putU 1#64 i)))):=fun s7 h=>by
     simp[storeS,h,eU_len,hql,hspl]
    simp[hsub2,h8,e1,e2,wq,g2,g7,hidx,hst7,St.seg,n97.symm,n72,o7,seg_limb q hqq,hconv,-conv_i_64,hR,wi]
    have hk2:=or_low hq (show i<256 by omega)
    have hp2:y.toNat*2 ^ (i+1)=2*(y.toNat*2 ^ i):=by rw[Nat.pow_succ,←Nat.mul_assoc,Nat.mul_comm]
    have hYq:(q.toNat+2 ^ i)*y.toNat=q.toNat*y.toNat+y.toNat*2 ^ i:=by rw[Nat.add_mul,Nat.mul_comm (2 ^ i)]
    have hsubn:(a-shlU y i).toNat=a.toNat-y.toNat*2 ^ i:=by
     rw[BitVec.toNat_sub_of_le (by rw[BitVec.le_def,hsh];exact hle),hsh]
    have T2:=((T.setAt (.cells (eU (a-shlU y i))) 5 rfl).setAt (.cells (eU (q ||| putU 1#64 i))) 1 rfl).drop
    refine Round.mk i _ (Nat.lt_succ_self i) (sub_self _) (hJ _ _ _ ⟨a-shlU y i,q ||| putU 1#64 i,⟨(i:Int)-1,by simp,by omega⟩,by omega,fun h=>by omega,?_,?_,?_,T2⟩)
    ·rw[hsubn]
     rw[hp2]at ha
     generalize y.toNat*2 ^ i=Y at *
     omega
    ·rw[hk2,Nat.add_mod_right]
     exact Nat.mod_eq_zero_of_dvd (Nat.dvd_trans (Nat.pow_dvd_pow 2 (Nat.le_succ i)) (Nat.dvd_of_mod_eq_zero hq))
    ·rw[hk2,hsubn,hYq,hx]
     generalize y.toNat*2 ^ i=Y at *
     omega
   ·have wi:IntKind.i64.wrap ((i:Int)-1)=(i:Int)-1:=wrap64 (by omega) (by omega)
    simp[hle,h8,wi]
    refine Round.mk i _ (Nat.lt_succ_self i) (sub_self _) (hJ _ _ _ ⟨a,q,⟨(i:Int)-1,by simp,by omega⟩,by omega,fun h=>by omega,by omega,?_,hx,T.drop⟩)
    exact Nat.mod_eq_zero_of_dvd (Nat.dvd_trans (Nat.pow_dvd_pow 2 (Nat.le_succ i)) (Nat.dvd_of_mod_eq_zero hq))
theorem leN_append: ∀a b:List UInt8,leN (a++b)=leN a+256 ^ a.length*leN b
 | [],b=>by simp[leN]
 | x::a,b=>by
   have ih:=leN_append a b
   simp only[List.cons_append,leN,ih,List.length_cons,Nat.pow_succ]
   rw[Nat.mul_add,←Nat.mul_assoc,Nat.mul_comm 256 (256 ^ a.length)]
   omega
theorem idx_id (x:Id)(k:IntKind){i:Nat}(hi:i<32):idxV 32 false 1 (.agg (eId x)) (.int k (i:Int))=some (w8 (x.toList[i]'(by simpa using hi))):=by
 simp only[idxV]
 rw[if_pos (by omega),Int.toNat_natCast,Nat.mul_one,segOf,if_pos (by rw[eId_len];omega),List.drop_eq_getElem_cons (by rw[eId_len];exact hi)]
 simp[packV,eId,w8]
theorem segId (x:Id):segOf (eId x) 0 32=some (eId x):=by
 rw[segOf,if_pos (by rw[eId_len];omega),List.drop_zero,List.take_of_length_le (by rw[eId_len];omega)]
set_option maxHeartbeats 1000000 in
theorem spec117 (ok:OkNum P F)(st:St)(x:Id):ACalls P (F 117) [.agg (eId x)] st fun v st'=>v=nU (BitVec.ofNat 256 (idN x))∧st'=st:=by
 refine shows_call ok.mixed ok.h117 (by simp[k117]) ?_
 simp only[k117,nU,eU_zero0]
 simp
 intro i1 h1
 have S:=(Sep.start st).new h1 (.cells (eId x))
 generalize st.upd i1 _=st1 at S⊢
 simp
 intro i2 h2
 have S:=S.new h2 (.cells (eU 0#256))
 generalize st1.upd i2 _=st2 at S⊢
 simp
 intro i3 h3
 have S:=S.new h3 (.cells (eU 0#256))
 generalize st2.upd i3 _=st3 at S⊢
 have o1:=S.mem (i:=i1) (o:=.cells (eId x)) (by simp)
 simp[St.seg,o1,segId]
 refine vc_loopJ (fun k env' st'=>∃i,i≤32∧k=32-i∧env' 7=.int .i64 (i:Nat)∧Sep [pt i3 (.cells (eU (BitVec.ofNat 256 (leN (x.toList.take i))))),pt i2 (.cells (eU 0#256)),pt i1 (.cells (eId x)),Was st] st') 32
  ⟨0,by omega,by omega,rfl,S⟩ ?_
 clear S
 rintro J hJ k env' st4 hsame ⟨i,hi,rfl,h7,S⟩
 have g2:=hsame.get 2 rfl
 have g3:=hsame.get 3 rfl
 have g6:=hsame.get 6 rfl
 simp at g2 g3 g6
 clear hsame
 have hsp: ∀x y:U,spliceV (eU x) 0 (eU y)=eU y:=fun _ _=>rfl
 have hxl:x.toList.length=32:=by simp
 have n32:=S.neq (i:=i3) (j:=i2) 0 1 rfl rfl (by omega)
 by_cases hlt:i<32
 ·have hlt':(i:Int)<32:=by omega
  have hix:=idx_id x .i64 hlt
  obtain⟨b,hb⟩: ∃b,b=x.toList[i]:=⟨_,rfl⟩
  rw[←hb]at hix
  obtain⟨m,hm⟩: ∃m,m=leN (x.toList.take i):=⟨_,rfl⟩
  have hml:m<2 ^ (8*i):=by
   have:=leN_lt (x.toList.take i)
   rw[List.length_take,hxl,Nat.min_eq_left hi,←hm]at this
   rwa [Nat.pow_mul]
  have hnx:leN (x.toList.take (i+1))=b.toNat*2 ^ (8*i)+m:=by
   rw[List.take_succ_eq_append_getElem (by omega),leN_append,←hm,←hb,List.length_take,hxl,Nat.min_eq_left hi,leN,leN,Nat.pow_mul,Nat.mul_zero,Nat.add_zero,Nat.mul_comm,Nat.add_comm]
  rw[←hm]at S
  have o3:=S.get
  have hp256:2 ^ (8*i)≤2 ^ 248:=Nat.pow_le_pow_right (by omega) (by omega)
  have hbl:=b.toNat_lt
  obtain⟨q,hqq⟩: ∃q,q=i / 8:=⟨_,rfl⟩
  obtain⟨p,hpp⟩: ∃p,p=i % 8:=⟨_,rfl⟩
  obtain⟨r,hr⟩: ∃r,r=8*p:=⟨_,rfl⟩
  have e1:Int.tdiv (i:Int) 8=(q:Int):=by rw[Int.tdiv_eq_ediv_of_nonneg (by omega)];omega
  have e2:Int.tmod (i:Int) 8=(p:Int):=by rw[Int.tmod_eq_emod_of_nonneg (by omega)];omega
  have w1:IntKind.i64.wrap (q:Int)=(q:Int):=wrap64 (by omega) (by omega)
  have w2:IntKind.i64.wrap (8*(p:Int))=(r:Int):=by rw[wrap64 (by omega) (by omega)];omega
  have w3:IntKind.i64.wrap ((i:Int)+1)=(i:Int)+1:=wrap64 (by omega) (by omega)
  have hR:(BitVec.ofNat 64 r).toNat=r:=by rw[BitVec.toNat_ofNat];exact Nat.mod_eq_of_lt (by omega)
  have hconv:convV .u64 (.int .i64 ((r:Nat):Int))=some (w64 (BitVec.ofNat 64 r)):=by rw[conv_i_64,BitVec.ofInt_natCast]
  have hidx:=idxArr_ptr 4 i3 (z:=((q:Nat):Int)) (j:=q) rfl (by omega)
  have hv:(b.toBitVec.setWidth 64).toNat=b.toNat:=by
   rw[BitVec.toNat_setWidth]
   exact Nat.mod_eq_of_lt (Nat.lt_of_lt_of_le hbl (by decide))
  have hv2:(b.toBitVec.setWidth 64).toNat<2 ^ (64-r):=by
   rw[hv]
   calc b.toNat<2 ^ 8:=hbl
    _≤2 ^ (64-r):=Nat.pow_le_pow_right (by omega) (by omega)
  have hi8:8*i=64*q+r:=by omega
  have hput: ∀k,k<4→limb (putU (b.toBitVec.setWidth 64) (8*i)) k=if k=q then b.toBitVec.setWidth 64 <<< r else 0#64:=fun k hk=>by
   rw[hi8];exact limb_put _ q r k (by omega) hk hv2
  have hspl:spliceV (eU (BitVec.ofNat 256 m)) q [w64 (limb (BitVec.ofNat 256 m) q ||| b.toBitVec.setWidth 64 <<< r)]=eU (BitVec.ofNat 256 m ||| putU (b.toBitVec.setWidth 64) (8*i)):=by
   have:=splice_or (BitVec.ofNat 256 m) (putU (b.toBitVec.setWidth 64) (8*i)) (j:=q) (by omega) (fun k hk hne=>by rw[hput k hk,if_neg hne])
   rwa [hput q (by omega),if_pos rfl]at this
  have hM:(BitVec.ofNat 256 m).toNat=m:=by
   rw[BitVec.toNat_ofNat]
   exact Nat.mod_eq_of_lt (Nat.lt_of_lt_of_le hml (Nat.le_trans hp256 (Nat.pow_le_pow_right (by omega) (by omega))))
  have hnew:BitVec.ofNat 256 m ||| putU (b.toBitVec.setWidth 64) (8*i)=BitVec.ofNat 256 (leN (x.toList.take (i+1))):=by
   have hfit:b.toNat*2 ^ (8*i)<2 ^ 256:=by
    calc b.toNat*2 ^ (8*i)<2 ^ 8*2 ^ (8*i):=Nat.mul_lt_mul_of_pos_right hbl (Nat.two_pow_pos _)
     _=2 ^ (8+8*i):=(Nat.pow_add _ _ _).symm
     _≤2 ^ 256:=Nat.pow_le_pow_right (by omega) (by omega)
   have h:=or_put (x:=BitVec.ofNat 256 m) (v:=b.toBitVec.setWidth 64) (i:=8*i) (by rw[hM];exact hml) (by rw[hv];exact hfit)
   rw[hv,hM,←hnx]at h
   rw[←h,BitVec.ofNat_toNat,BitVec.setWidth_eq]
  have hst:storeS st4 1 (.ptr (some (i3,q))) (w64 (limb (BitVec.ofNat 256 m) q ||| b.toBitVec.setWidth 64 <<< r))=some (st4.upd i3 (.cells (eU (BitVec.ofNat 256 (leN (x.toList.take (i+1))))))):=by
   have:q+1≤4:=by omega
   simp only[storeS,o3,w64_cells,hspl,hnew]
   rw[if_pos ⟨rfl,by rw[eU_len];omega⟩]
  simp[-conv_i_64,h7,hlt',g3,g6,hix,e1,e2,w1,w2,w3,hconv,hR,hidx,St.seg,o3,seg_limb _ (show q<4 by omega),hst]
  refine Round.mk (32-(i+1)) _ (by omega) (sub_self _) (hJ _ _ _ ⟨i+1,by omega,rfl,by simp,S.set _⟩)
 ·have:i=32:=by omega
  subst this
  rw[List.take_of_length_le (by omega)]at S
  have o3:=S.get
  have o2:=S.mem (i:=i2) (o:=.cells (eU 0#256)) (by simp)
  have T:=S.setAt (.cells (eU (BitVec.ofNat 256 (leN x.toList)))) 1 rfl
  simp[h7,g2,g3,St.seg,o3,o2,segU,storeS,eU_len,hsp,n32,n32.symm]
  exact⟨T.was' (by simp),rfl⟩
end
section
variable {P:Program} {F:Fn}
def wF (V i j:Nat):Nat:=if 64*(j+1)≤i then 0 else V / 2 ^ (max i (64*j)) % 2 ^ (64*(j+1)-max i (64*j))
end
section
variable {P:Program} {F:Fn}
def tgtR (b:W32):V:=match tgt b with | some t=>.tup [nU (natU t),.bool true] | none=>.tup [nU 0#256,.bool false]
theorem and_word (b:W32):(b &&& 8388607#32).toNat=b.toNat % 8388608:=by
 rw[BitVec.toNat_and]
 exact Nat.and_two_pow_sub_one_eq_mod b.toNat 23
theorem and_bit (b:W32):((b &&& 8388608#32) != 0#32)=decide (8388608≤b.toNat % 16777216):=by
 have h2:b.getLsbD 23=decide (8388608≤b.toNat % 16777216):=by
  rw[BitVec.getLsbD,Nat.testBit_eq_decide_div_mod_eq]
  congr 1
  rw[eq_iff_iff]
  show b.toNat / 8388608 % 2=1↔_
  omega
 rw[show(8388608#32)=BitVec.twoPow 32 23 from rfl,BitVec.and_twoPow,←h2]
 cases b.getLsbD 23<;>rfl
set_option maxHeartbeats 2000000 in
theorem spec135 (ok:OkHead P F)(st:St)(b:W32):ACalls P (F 135) [w32 b] st fun v st'=>v=tgtR b∧st'=st:=by
 have okn:=ok.toOkNum
 have hb:=b.isLt
 refine shows_call ok.mixed ok.h135 (by simp[k135]) ?_
 simp only[k135,eU_zero0]
 simp
 intro rid hrid
 have S:=(Sep.start st).new hrid (.cells (eU 0#256))
 generalize st.upd rid _=st1 at S⊢
 have hsp: ∀x y:U,spliceV (eU x) 0 (eU y)=eU y:=fun _ _=>rfl
 have oR:=S.get
 have hz:fillV (eU 0#256) []=some (eU 0#256):=rfl
 have hst: ∀x:U,storeS st1 4 (.ptr (some (rid,0))) (nU x)=some (st1.upd rid (.cells (eU x))):=fun x=>by
  simp[storeS,oR,nU,eU_len,hsp]
 obtain⟨size,hsize⟩: ∃n,n=b.toNat / 16777216:=⟨_,rfl⟩
 obtain⟨word,hword⟩: ∃n,n=b.toNat % 16777216:=⟨_,rfl⟩
 have hsz:(b >>> 24).toNat=size:=by rw[BitVec.toNat_ushiftRight,Nat.shiftRight_eq_div_pow,hsize]
 have hw8:(b &&& 8388607#32).toNat=b.toNat % 8388608:=and_word b
 obtain⟨X,hX⟩: ∃X:W,X=(b &&& 8388607#32).setWidth 64:=⟨_,rfl⟩
 have hXn:X.toNat=b.toNat % 8388608:=by
  rw[hX,BitVec.toNat_setWidth,hw8]
  exact Nat.mod_eq_of_lt (by omega)
 have hX0:(X==0#64)=decide (b.toNat % 8388608=0):=by
  rw[Bool.eq_iff_iff,beq_iff_eq,decide_eq_true_eq]
  constructor
  ·intro h;rw[←hXn,h];rfl
  ·intro h;apply BitVec.eq_of_toNat_eq;rw[hXn,h];rfl
 have hbit:=and_bit b
 have hcv:convV .i64 (w32 (b >>> 24))=some (.int .i64 (size:Nat)):=by rw[conv_32_i,hsz]
 have w0:word % 8388608=b.toNat % 8388608:=by omega
 simp[-conv_32_i,hcv,←hX,hX0]
 by_cases h0:b.toNat % 8388608=0
 ·have e:tgtR b=.tup [nU 0#256,.bool false]:=by
    have:tgt b=none:=by
     unfold tgt
     rw[if_pos (by omega)]
    rw[tgtR,this]
  simp[h0,hz,storeS,oR,eU_len,hsp,St.seg,segU,e]
  exact⟨(S.set (.cells (eU 0#256))).was' (by simp),rfl⟩
 by_cases h1:8388608≤b.toNat % 16777216
 ·have e:tgtR b=.tup [nU 0#256,.bool false]:=by
    have:tgt b=none:=by
     unfold tgt
     rw[if_pos (by omega)]
    rw[tgtR,this]
  simp[h0,h1,hbit,hz,storeS,oR,eU_len,hsp,St.seg,segU,e]
  exact⟨(S.set (.cells (eU 0#256))).was' (by simp),rfl⟩
 have hwX:X.toNat=word:=by omega
 have htg:tgt b=if tgtV size word=0∨2 ^ 256≤tgtV size word then none else some (tgtV size word):=by
  unfold tgt
  rw[if_neg (by omega),←hsize,←hword]
 have hszl:size≤255:=by omega
 simp[h0,h1,hbit]
 refine(spec105 okn st1 X).mono ?_
 rintro v st1 ⟨rfl,rfl⟩
 simp
 intro nid hnid
 obtain⟨N,hN⟩: ∃N:U,N=X.setWidth 256:=⟨_,rfl⟩
 have hNn:N.toNat=word:=by
  rw[hN,BitVec.toNat_setWidth,hwX]
  exact Nat.mod_eq_of_lt (by omega)
 rw[←hN]
 have S:=S.new hnid (.cells (eU N))
 have hsn:storeS (st1.upd nid (.cells (eU 0#256))) 4 (.ptr (some (nid,0))) (nU N)=some (st1.upd nid (.cells (eU N))):=by
  simp[storeS,nU,eU_len,hsp]
 simp[hsn]
 generalize st1.upd nid _=st2 at S⊢
 have oN:=S.get
 have oR:=S.mem (i:=rid) (o:=.cells (eU 0#256)) (by simp)
 have n12:=S.neq (i:=nid) (j:=rid) 0 1 rfl rfl (by omega)
 by_cases h3:size≤3
 ·have h3':(size:Int)≤3:=by omega
  have w1:IntKind.i64.wrap (3-(size:Int))=((3-size:Nat):Int):=by rw[wrap64 (by omega) (by omega)];omega
  have w2:IntKind.i64.wrap (8*((3-size:Nat):Int))=((8*(3-size):Nat):Int):=by rw[wrap64 (by omega) (by omega)];omega
  obtain⟨m,hm⟩: ∃m,m=3-size:=⟨_,rfl⟩
  rw[←hm]at w1 w2
  simp[h3',w1,w2,St.seg,oN,segU]
  refine(spec113 okn st2 N (8*(m:Int))).mono ?_
  rintro v st2 ⟨rfl,rfl⟩
  obtain⟨R,hR⟩: ∃R,R=shrU N (8*(m:Int)):=⟨_,rfl⟩
  have hRn:R.toNat=tgtV size word:=by
   rw[hR,shrU,if_neg (by omega),BitVec.toNat_ushiftRight,Nat.shiftRight_eq_div_pow,hNn,tgtV,if_pos h3,show(8*(m:Int)).toNat=8*m by omega,hm]
  rw[←hR]
  have hs2:storeS st2 4 (.ptr (some (nid,0))) (nU R)=some (st2.upd nid (.cells (eU R))):=by
   simp[storeS,oN,nU,eU_len,hsp]
  have S:=S.set (.cells (eU R))
  simp[hs2]
  generalize st2.upd nid _=st3 at S⊢
  have oN:=S.get
  have oR:=S.mem (i:=rid) (o:=.cells (eU 0#256)) (by simp)
  simp[St.seg,oN,segU]
  refine⟨_,spec107 okn st3 R,?_⟩
  have T:=S.setAt (.cells (eU R)) 1 rfl
  simp[St.seg,oN,oR,segU,storeS,eU_len,hsp]
  refine⟨T.was' (by simp),?_⟩
  rw[tgtR,htg]
  by_cases hz0:tgtV size word=0
  ·have:R=0#256:=BitVec.eq_of_toNat_eq (by rw[hRn,hz0];rfl)
   rw[if_pos (.inl hz0),this]
   simp[nU]
  ·have h1:R≠0#256:=fun e=>hz0 (by rw[←hRn,e];rfl)
   have h2:R=natU (tgtV size word):=by rw[←hRn,natU,BitVec.ofNat_toNat,BitVec.setWidth_eq]
   have h3:¬2 ^ 256≤tgtV size word:=by rw[←hRn];exact Nat.not_le.2 R.isLt
   rw[if_neg (by rintro(h | h);exact hz0 h;exact h3 h)]
   simp only
   rw[←h2]
   simp[nU,h1]
 ·have h3':¬(size:Int)≤3:=by omega
  have w1:IntKind.i64.wrap ((size:Int)-3)=((size-3:Nat):Int):=by rw[wrap64 (by omega) (by omega)];omega
  have w2:IntKind.i64.wrap (8*((size-3:Nat):Int))=((8*(size-3):Nat):Int):=by rw[wrap64 (by omega) (by omega)];omega
  obtain⟨m,hm⟩: ∃m,m=size-3:=⟨_,rfl⟩
  rw[←hm]at w1 w2
  have hbl:bitlen word≤24:=bitlen_le.2 (by show word<16777216;omega)
  have w3:IntKind.i64.wrap ((bitlen word:Int)+8*(m:Int))=(bitlen word:Int)+8*(m:Int):=wrap64 (by omega) (by omega)
  have hw0:0<word:=by omega
  have htv:tgtV size word=word*2 ^ (8*m):=by rw[tgtV,if_neg h3,hm]
  have hfit:bitlen word+8*m≤256↔tgtV size word<2 ^ 256:=by
   have:bitlen (tgtV size word)=bitlen word+8*m:=by
    have:=bitlen_add (n:=word) (k:=8*m) (m:=0) (Nat.two_pow_pos _) hw0
    rwa [Nat.add_zero,←htv]at this
   rw[←this,bitlen_le]
  have hne:tgtV size word≠0:=by
   rw[htv]
   exact Nat.ne_of_gt (Nat.mul_pos hw0 (Nat.two_pow_pos _))
  simp[h3',w1,w2,St.seg,oN,segU]
  refine(spec114 okn st2 N).mono ?_
  rintro v st2 ⟨rfl,rfl⟩
  rw[hNn]
  by_cases hb:(256:Int)< (bitlen word:Int)+8*(m:Int)
  ·have hbig:2 ^ 256≤tgtV size word:=by
     have:=mt hfit.2 (by omega)
     omega
   have e:tgtR b=.tup [nU 0#256,.bool false]:=by
    rw[tgtR,htg,if_pos (.inr hbig)]
   have T:=S.setAt (.cells (eU 0#256)) 1 rfl
   simp[w1,w2,w3,hb,hz,storeS,oR,eU_len,hsp,St.seg,segU,e]
   exact⟨T.was' (by simp),rfl⟩
  ·simp[w1,w2,w3,hb,St.seg,oN,segU]
   refine(spec112 okn st2 N (8*(m:Int))).mono ?_
   rintro v st2 ⟨rfl,rfl⟩
   obtain⟨R,hR⟩: ∃R,R=shlU N (8*(m:Int)):=⟨_,rfl⟩
   have hlt:=hfit.1 (by omega)
   have hm31:8*m≤255:=by
    have:=bitlen_pos.2 hw0
    omega
   have hRn:R=natU (tgtV size word):=by
    apply BitVec.eq_of_toNat_eq
    rw[natU_nat hlt,hR,shlU,if_neg (by omega),BitVec.toNat_shiftLeft,Nat.shiftLeft_eq,hNn,show(8*(m:Int)).toNat=8*m by omega,htv]
    exact Nat.mod_eq_of_lt (by rw[←htv];exact hlt)
   rw[←hR]
   have T:=S.setAt (.cells (eU R)) 1 rfl
   have e:tgtR b=.tup [nU R,.bool true]:=by
    rw[tgtR,htg,if_neg (by omega),hRn]
   have hs2:storeS st2 4 (.ptr (some (rid,0))) (nU R)=some (st2.upd rid (.cells (eU R))):=by
    simp[storeS,oR,nU,eU_len,hsp]
   simp[hs2,St.seg,segU,e]
   exact⟨T.was' (by simp),rfl⟩
theorem rows2U (a b:U):fillV (repV (eU 0#256) 2) [(0,4,.agg (eU a)),(4,4,.agg (eU b))]=some (rowsOf eU [a,b]):=rfl
theorem sumU2 (a b:U):sumU [a,b]=a.toNat+b.toNat:=by simp[sumU]
theorem work_eq {t:Nat}(ht:t+1<2 ^ 256):(2 ^ 256-1-t) / (t+1)+1=workN t:=by
 rw[workN]
 have e:2 ^ 256=(2 ^ 256-1-t)+(t+1):=by omega
 calc (2 ^ 256-1-t) / (t+1)+1=((2 ^ 256-1-t)+(t+1)) / (t+1):=(Nat.add_div_right _ (Nat.succ_pos t)).symm
  _=2 ^ 256 / (t+1):=by rw[←e]
set_option maxHeartbeats 2000000 in
theorem spec137 (ok:OkHead P F)(st:St)(x:U):ACalls P (F 137) [nU x] st fun v st'=>v=nU (natU (workN x.toNat))∧st'=st:=by
 have okn:=ok.toOkNum
 refine shows_call ok.mixed ok.h137 (by simp[k137]) ?_
 have hxl:=x.isLt
 simp only[k137,nU]
 simp
 intro i1 h1
 have S:=(Sep.start st).new h1 (.cells (eU x))
 generalize st.upd i1 _=st1 at S⊢
 simp
 intro i2 h2
 have S:=S.new h2 (.cells (eU 0#256))
 rw[eU_zero]
 generalize st1.upd i2 _=st2 at S⊢
 have o1:=S.mem (i:=i1) (o:=.cells (eU x)) (by simp)
 simp[St.seg,o1,segU]
 refine⟨_,spec105 okn st2 1#64,?_⟩
 have hone:(BitVec.setWidth 256 1#64:U)=1#256:=rfl
 have hsp: ∀x y:U,spliceV (eU x) 0 (eU y)=eU y:=fun _ _=>rfl
 have call: ∀(st:St) (y:U),ACalls P (F 108) [.sl .full (rowsOf eU [y,1#256]) 2] st fun v st'=>v=.tup [nU (BitVec.ofNat 256 (y.toNat+1)),.bool (ovU (y.toNat+1))]∧st'=st:=fun st y=>by
  have:=spec108 okn st (l:=[y,1#256]) (.inl ⟨.full,rfl⟩) (by simp)
  rw[sumU2]at this
  exact this
 simp[rows2U,nU,hone]
 refine⟨_,call st2 x,?_⟩
 simp
 intro i3 h3
 have S:=S.new h3 (.cells (eU (BitVec.ofNat 256 (x.toNat+1))))
 have hs3: ∀y:U,storeS (st2.upd i3 (.cells (eU 0#256))) 4 (.ptr (some (i3,0))) (nU y)=some (st2.upd i3 (.cells (eU y))):=fun y=>by
  simp[storeS,nU,eU_len,hsp]
 simp[hs3]
 generalize st2.upd i3 _=st3 at S⊢
 have o2:=S.mem (i:=i2) (o:=.cells (eU 0#256)) (by simp)
 have o1:=S.mem (i:=i1) (o:=.cells (eU x)) (by simp)
 have o3:=S.get
 by_cases hov:2 ^ 256≤x.toNat+1
 ·have e1:ovU (x.toNat+1)=true:=decide_eq_true hov
  have e2:natU (workN x.toNat)=1#256:=by
   have:x.toNat+1=2 ^ 256:=by omega
   rw[natU,workN,this,Nat.div_self (Nat.two_pow_pos _)]
  simp[e1]
  refine(spec105 okn st3 1#64).mono ?_
  rintro v st3 ⟨rfl,rfl⟩
  have T:=S.setAt (.cells (eU 1#256)) 1 rfl
  have hs:storeS st3 4 (.ptr (some (i2,0))) (nU 1#256)=some (st3.upd i2 (.cells (eU 1#256))):=by
   simp[storeS,o2,nU,eU_len,hsp]
  simp[hone,hs,St.seg,segU,e2]
  exact T.was' (by simp)
 ·have e1:ovU (x.toNat+1)=false:=decide_eq_false hov
  have hlt:x.toNat+1<2 ^ 256:=by omega
  obtain⟨Y,hY⟩: ∃Y:U,Y=BitVec.ofNat 256 (x.toNat+1):=⟨_,rfl⟩
  have hYn:Y.toNat=x.toNat+1:=by rw[hY,BitVec.toNat_ofNat];exact Nat.mod_eq_of_lt hlt
  have hY0:Y≠0#256:=fun e=>by rw[e]at hYn;simp at hYn
  rw[←hY]at S o3⊢
  simp[e1,St.seg,o1,segU]
  refine⟨_,spec111 okn st3 x,?_⟩
  simp[St.seg,o3,segU]
  refine⟨_,spec116 okn st3 (~~~x) Y,?_⟩
  simp[hY0]
  intro i5 h5
  have S:=S.new h5 (.cells (eU 0#256))
  generalize st3.upd i5 _=st4 at S⊢
  simp
  intro i6 h6
  have S:=S.new h6 (.cells (eU 0#256))
  generalize st4.upd i6 _=st5 at S⊢
  have o5:=S.mem (i:=i5) (o:=.cells (eU 0#256)) (by simp)
  have n56:=S.neq (i:=i6) (j:=i5) 0 1 rfl rfl (by omega)
  have hs5: ∀y:U,storeS st5 4 (.ptr (some (i5,0))) (nU y)=some (st5.upd i5 (.cells (eU y))):=fun y=>by
   simp[storeS,nU,eU_len,hsp,o5]
  obtain⟨Q,hQ⟩: ∃Q,Q=divU (~~~x) Y:=⟨_,rfl⟩
  have hQn:Q.toNat+1=workN x.toNat:=by
   rw[←work_eq hlt,hQ,divU,BitVec.toNat_ofNat,hYn,BitVec.toNat_not,Nat.mod_eq_of_lt]
   exact Nat.lt_of_le_of_lt (Nat.div_le_self _ _) (by omega)
  rw[←hQ]
  have S:=S.setAt (.cells (eU Q)) 1 rfl
  have o6:=S.mem (i:=i6) (o:=.cells (eU 0#256)) (by simp)
  simp[hs5]
  generalize st5.upd i5 _=st6 at S o6⊢
  have hs6: ∀y:U,storeS st6 4 (.ptr (some (i6,0))) (nU y)=some (st6.upd i6 (.cells (eU y))):=fun y=>by
   simp[storeS,nU,eU_len,hsp,o6]
  have S:=S.setAt (.cells (eU (modU (~~~x) Y))) 0 rfl
  simp[hs6]
  generalize st6.upd i6 _=st7 at S⊢
  have o5:=S.mem (i:=i5) (o:=.cells (eU Q)) (by simp)
  simp[St.seg,o5,segU]
  refine⟨_,spec105 okn st7 1#64,?_⟩
  simp[rows2U,nU,hone]
  refine⟨_,call st7 Q,?_⟩
  have hs7: ∀y:U,storeS st7 4 (.ptr (some (i5,0))) (nU y)=some (st7.upd i5 (.cells (eU y))):=fun y=>by
   simp[storeS,nU,eU_len,hsp,o5]
  have S:=S.setAt (.cells (eU (BitVec.ofNat 256 (Q.toNat+1)))) 1 rfl
  simp[hs7]
  generalize st7.upd i5 _=st8 at S⊢
  have o5:=S.mem (i:=i5) (o:=.cells (eU (BitVec.ofNat 256 (Q.toNat+1)))) (by simp)
  have o2:=S.mem (i:=i2) (o:=.cells (eU 0#256)) (by simp)
  have T:=S.setAt (.cells (eU (BitVec.ofNat 256 (Q.toNat+1)))) 3 rfl
  simp[St.seg,o5,o2,segU,storeS,eU_len,hsp]
  refine⟨T.was' (by simp),?_⟩
  rw[hQn]
  rfl
end
section
variable {P:Program} {F:Fn}
def topW (t size:Nat):Nat:=if size≤3 then t*2 ^ (8*(3-size))else t / 2 ^ (8*(size-3))
theorem topW_lt {t size:Nat}(h:bitlen t≤8*size):topW t size<16777216:=by
 have ht:=bitlen_le.1 h
 unfold topW
 split
 ·rename_i h3
  calc t*2 ^ (8*(3-size))<2 ^ (8*size)*2 ^ (8*(3-size)):=Nat.mul_lt_mul_of_pos_right ht (Nat.two_pow_pos _)
   _=2 ^ 24:=by rw[←Nat.pow_add];congr 1;omega
 ·rename_i h3
  rw[Nat.div_lt_iff_lt_mul (Nat.two_pow_pos _)]
  calc t<2 ^ (8*size):=ht
   _=16777216*2 ^ (8*(size-3)):=by
    rw[show(16777216:Nat)=2 ^ 24 from rfl,←Nat.pow_add];congr 1;omega
theorem topW_succ (t size:Nat):topW t (size+1)=topW t size / 256:=by
 unfold topW
 by_cases h:size+1≤3
 ·rw[if_pos h,if_pos (by omega),show 8*(3-size)=8*(3-(size+1))+8 by omega,Nat.pow_add,←Nat.mul_assoc]
  exact(Nat.mul_div_cancel _ (by decide)).symm
 ·rw[if_neg h]
  by_cases h3:size≤3
  ·have:size=3:=by omega
   subst this
   simp
  ·rw[if_neg h3,Nat.div_div_eq_div_mul,show 8*(size+1-3)=8*(size-3)+8 by omega,Nat.pow_add]
theorem topW_big {t size:Nat}(ht:0<t)(h:bitlen t=8*size):8388608≤topW t size:=by
 have hp:=bitlen_pos.2 ht
 have hg:=bitlen_ge ht
 rw[h]at hg hp
 unfold topW
 split
 ·rename_i h3
  calc 8388608=2 ^ (8*size-1)*2 ^ (8*(3-size)):=by
         rw[←Nat.pow_add,show 8*size-1+8*(3-size)=23 by omega]
   _≤_:=Nat.mul_le_mul_right _ hg
 ·rename_i h3
  rw[Nat.le_div_iff_mul_le (Nat.two_pow_pos _)]
  calc 8388608*2 ^ (8*(size-3))=2 ^ (8*size-1):=by
         rw[show(8388608:Nat)=2 ^ 23 from rfl,←Nat.pow_add];congr 1;omega
   _≤t:=hg
theorem topW_small {t size:Nat}(h:bitlen t<8*size∨t=0):topW t size<8388608:=by
 rcases h with h | rfl
 ·have ht:t<2 ^ (8*size-1):=bitlen_le.1 (by omega)
  unfold topW
  split
  ·rename_i h3
   calc t*2 ^ (8*(3-size))<2 ^ (8*size-1)*2 ^ (8*(3-size)):=Nat.mul_lt_mul_of_pos_right ht (Nat.two_pow_pos _)
    _=2 ^ 23:=by rw[←Nat.pow_add];congr 1;omega
  ·rename_i h3
   rw[Nat.div_lt_iff_lt_mul (Nat.two_pow_pos _)]
   calc t<2 ^ (8*size-1):=ht
    _=8388608*2 ^ (8*(size-3)):=by
     rw[show(8388608:Nat)=2 ^ 23 from rfl,←Nat.pow_add];congr 1;omega
 ·unfold topW
  simp
theorem short_eq (t:Nat):sizeN t=(if 8388608≤topW t ((bitlen t+7) / 8)then(bitlen t+7) / 8+1 else(bitlen t+7) / 8)∧
  wordN t=(if 8388608≤topW t ((bitlen t+7) / 8)then topW t ((bitlen t+7) / 8) / 256 else topW t ((bitlen t+7) / 8)):=by
 have hw:wordN t=topW t (sizeN t):=rfl
 rw[hw]
 by_cases h:0<bitlen t∧bitlen t % 8=0
 ·have hs:sizeN t=(bitlen t+7) / 8+1:=by rw[sizeN,if_pos h]
  have hb:=topW_big (t:=t) (size:=(bitlen t+7) / 8) (bitlen_pos.1 h.1) (by omega)
  rw[if_pos hb,if_pos hb,hs,topW_succ]
  exact⟨rfl,rfl⟩
 ·have hs:sizeN t=(bitlen t+7) / 8:=by rw[sizeN,if_neg h];rfl
  have hb:=topW_small (t:=t) (size:=(bitlen t+7) / 8) (by
   by_cases h0:t=0
   ·exact .inr h0
   ·have:=bitlen_pos.2 (Nat.pos_of_ne_zero h0)
    exact .inl (by omega))
  rw[if_neg (by omega),if_neg (by omega),hs]
  exact⟨rfl,rfl⟩
theorem join32 {s w:Nat}(hs:s<256)(hw:w<16777216){a b:W32}(ha:a.toNat=s)(hb:b.toNat=w):a <<< 24 ||| b=BitVec.ofNat 32 (s*16777216+w):=by
 apply BitVec.eq_of_toNat_eq
 rw[BitVec.toNat_or,BitVec.toNat_shiftLeft,Nat.shiftLeft_eq,ha,hb,BitVec.toNat_ofNat]
 rw[Nat.mod_eq_of_lt (show s*2 ^ 24<2 ^ 32 by show s*16777216<4294967296;omega),Nat.mod_eq_of_lt (show s*16777216+w<2 ^ 32 by show _<4294967296;omega)]
 exact or_disj s w 24 hw
theorem and_bit64 (b:W)(hb:b.toNat<16777216):((b &&& 8388608#64) != 0#64)=decide (8388608≤b.toNat):=by
 have h2:b.getLsbD 23=decide (8388608≤b.toNat):=by
  rw[BitVec.getLsbD,Nat.testBit_eq_decide_div_mod_eq]
  congr 1
  rw[eq_iff_iff]
  show b.toNat / 8388608 % 2=1↔_
  omega
 rw[show(8388608#64)=BitVec.twoPow 64 23 from rfl,BitVec.and_twoPow,←h2]
 cases b.getLsbD 23<;>rfl
theorem limb_small {x:U}(h:x.toNat<18446744073709551616):(limb x 0).toNat=x.toNat:=by
 rw[limb_nat,Nat.pow_zero,Nat.div_one,Nat.mod_eq_of_lt h]
set_option maxHeartbeats 2000000 in
theorem spec136 (ok:OkHead P F)(st:St)(x:U):ACalls P (F 136) [nU x] st fun v st'=>v=w32 (shortN x.toNat)∧st'=st:=by
 have okn:=ok.toOkNum
 refine shows_call ok.mixed ok.h136 (by simp[k136]) ?_
 have hxl:=x.isLt
 obtain⟨t,ht⟩: ∃t,t=x.toNat:=⟨_,rfl⟩
 rw[←ht]
 obtain⟨e1,e2⟩:=short_eq t
 have hL:bitlen t≤256:=by rw[ht];exact bitlen_le.2 hxl
 obtain⟨size,hsize⟩: ∃s,s=(bitlen t+7) / 8:=⟨_,rfl⟩
 rw[←hsize]at e1 e2
 have hsz:size≤32:=by omega
 have htop:=topW_lt (t:=t) (size:=size) (by omega)
 have w1:IntKind.i64.wrap ((bitlen t:Int)+7)=(bitlen t:Int)+7:=wrap64 (by omega) (by omega)
 have d1:Int.tdiv ((bitlen t:Int)+7) 8=(size:Int):=by rw[Int.tdiv_eq_ediv_of_nonneg (by omega)];omega
 have w2:IntKind.i64.wrap (size:Int)=size:=wrap64 (by omega) (by omega)
 have w3:IntKind.i64.wrap ((size:Int)+1)=(size:Int)+1:=wrap64 (by omega) (by omega)
 have fin: ∀Wd:W,Wd.toNat=topW t size→(8388608≤topW t size→((Wd &&& 8388608#64) != 0#64)=true∧shortN t=BitVec.ofInt 32 ((size:Int)+1) <<< 24 ||| (Wd >>> 8).setWidth 32)∧
   (¬8388608≤topW t size→((Wd &&& 8388608#64) != 0#64)=false∧shortN t=BitVec.ofInt 32 (size:Int) <<< 24 ||| Wd.setWidth 32):=by
  intro Wd hW
  have hb:=and_bit64 Wd (by omega)
  have hs8:((BitVec.ofInt 32 (size:Int)):W32).toNat=size:=by
   rw[BitVec.ofInt_natCast,BitVec.toNat_ofNat];exact Nat.mod_eq_of_lt (by omega)
  have hs9:((BitVec.ofInt 32 ((size:Int)+1)):W32).toNat=size+1:=by
   rw[show((size:Int)+1)=((size+1:Nat):Int) by omega,BitVec.ofInt_natCast,BitVec.toNat_ofNat];exact Nat.mod_eq_of_lt (by omega)
  have hw8:(Wd.setWidth 32).toNat=topW t size:=by
   rw[BitVec.toNat_setWidth,hW];exact Nat.mod_eq_of_lt (by omega)
  have hw9:((Wd >>> 8).setWidth 32).toNat=topW t size / 256:=by
   rw[BitVec.toNat_setWidth,BitVec.toNat_ushiftRight,Nat.shiftRight_eq_div_pow,hW];exact Nat.mod_eq_of_lt (by omega)
  constructor
  ·intro hbig
   rw[if_pos hbig]at e1 e2
   rw[hW,decide_eq_true hbig]at hb
   exact⟨hb,by rw[shortN,e1,e2];exact(join32 (by omega) (by omega) hs9 hw9).symm⟩
  ·intro hbig
   rw[if_neg hbig]at e1 e2
   rw[hW,decide_eq_false hbig]at hb
   exact⟨hb,by rw[shortN,e1,e2];exact(join32 (by omega) (by omega) hs8 hw8).symm⟩
 simp only[k136]
 simp only[nU]
 simp
 intro i1 h1
 have S:=(Sep.start st).new h1 (.cells (eU x))
 generalize st.upd i1 _=st1 at S⊢
 have o1:=S.get
 simp[St.seg,o1,segU]
 refine(spec114 okn st1 x).mono ?_
 rintro v st1 ⟨rfl,rfl⟩
 rw[←ht]
 simp[w1,d1,w2]
 have sub1:St.sub st st1:=S.was' (by simp)
 by_cases h3:size≤3
 ·have h3':(size:Int)≤3:=by omega
  have w4:IntKind.i64.wrap (3-(size:Int))=((3-size:Nat):Int):=by rw[wrap64 (by omega) (by omega)];omega
  have w5:IntKind.i64.wrap (8*((3-size:Nat):Int))=((8*(3-size):Nat):Int):=by rw[wrap64 (by omega) (by omega)];omega
  obtain⟨m,hm⟩: ∃m,m=3-size:=⟨_,rfl⟩
  have w6:(8*(m:Int))=((8*m:Nat):Int):=by omega
  rw[←hm]at w4 w5
  rw[←w6]at w5
  have hR:(BitVec.ofNat 64 (8*m)).toNat=8*m:=by rw[BitVec.toNat_ofNat];exact Nat.mod_eq_of_lt (by omega)
  have hcv:convV .u64 (.int .i64 (8*(m:Int)))=some (w64 (BitVec.ofNat 64 (8*m))):=by rw[w6,conv_i_64,BitVec.ofInt_natCast]
  have ht24:t<16777216:=by
   have:=bitlen_le.1 (show bitlen t≤24 by omega)
   exact this
  have hWd:(limb x 0 <<< (8*m)).toNat=topW t size:=by
   rw[shl_nat,limb_small (by omega),←ht,topW,if_pos h3,←hm]
   apply Nat.mod_eq_of_lt
   have:2 ^ (8*m)≤2 ^ 24:=Nat.pow_le_pow_right (by omega) (by omega)
   calc t*2 ^ (8*m)≤16777216*2 ^ 24:=Nat.mul_le_mul (by omega) this
    _<18446744073709551616:=by decide
  obtain⟨f1,f2⟩:=fin _ hWd
  have hsg:segOf (eU x) 0 1=some [w64 (limb x 0)]:=rfl
  by_cases hbig:8388608≤topW t size
  ·obtain⟨q1,q2⟩:=f1 hbig
   rw[q2]
   simp[h3',w4,w5,w3,idxArrV,St.seg,o1,hsg,hcv,-conv_i_64,hR,q1]
   simp[sub1]
  ·obtain⟨q1,q2⟩:=f2 hbig
   rw[q2]
   simp[h3',w4,w5,w3,idxArrV,St.seg,o1,hsg,hcv,-conv_i_64,hR,q1]
   simp[sub1]
 ·have h3':¬(size:Int)≤3:=by omega
  have w4:IntKind.i64.wrap ((size:Int)-3)=((size-3:Nat):Int):=by rw[wrap64 (by omega) (by omega)];omega
  have w5:IntKind.i64.wrap (8*((size-3:Nat):Int))=((8*(size-3):Nat):Int):=by rw[wrap64 (by omega) (by omega)];omega
  obtain⟨m,hm⟩: ∃m,m=size-3:=⟨_,rfl⟩
  have w6:(8*(m:Int))=((8*m:Nat):Int):=by omega
  rw[←hm]at w4 w5
  rw[←w6]at w5
  simp[h3',w4,w5,St.seg,o1,segU]
  refine(spec113 okn st1 x (8*(m:Int))).mono ?_
  rintro v st1 ⟨rfl,rfl⟩
  obtain⟨R,hR⟩: ∃R,R=shrU x (8*(m:Int)):=⟨_,rfl⟩
  rw[←hR]
  have hRn:R.toNat=topW t size:=by
   rw[hR,shrU,if_neg (by omega),BitVec.toNat_ushiftRight,Nat.shiftRight_eq_div_pow,←ht,topW,if_neg h3,show(8*(m:Int)).toNat=8*m by omega,hm]
  have hWd:(limb R 0).toNat=topW t size:=by
   rw[limb_small (by omega),hRn]
  have hix:idxV 4 false 1 (nU R) (.int .i64 0)=some (w64 (limb R 0)):=rfl
  obtain⟨f1,f2⟩:=fin _ hWd
  by_cases hbig:8388608≤topW t size
  ·obtain⟨q1,q2⟩:=f1 hbig
   rw[q2]
   simp[hix,q1,w3]
   simp[sub1]
  ·obtain⟨q1,q2⟩:=f2 hbig
   rw[q2]
   simp[hix,q1,w3]
   simp[sub1]
end
section
variable {P:Program} {F:Fn}
theorem gtr_cmp (a b:U):decide (0<cmpU a b)=decide (b.toNat<a.toNat):=by
 congr 1
 rw[eq_iff_iff]
 unfold cmpU
 constructor
 ·intro h
  split at h
  ·omega
  ·split at h
   ·omega
   ·rename_i h1 h2
    have:a.toNat≠b.toNat:=fun e=>h2 (BitVec.eq_of_toNat_eq e)
    omega
 ·intro h
  rw[if_neg (by omega),if_neg (by rintro rfl;omega)]
  omega
def nextR (b:W32)(took should:Int)(limit:Nat):V:=match nextN b took should limit with | some x=>.tup [w32 x,.bool true] | none=>.tup [w32 0#32,.bool false]
theorem of64 {n:Nat}(h:n<18446744073709551616):(BitVec.ofInt 64 (n:Int)).toNat=n:=by
 rw[BitVec.ofInt_natCast,BitVec.toNat_ofNat];exact Nat.mod_eq_of_lt h
set_option maxHeartbeats 4000000 in
theorem spec138 (ok:OkHead P F)(st:St)(b:W32)(took should:Int)(limit:U)(hr:-9223372036854775808≤took∧took≤9223372036854775807):
  ACalls P (F 138) [w32 b,.int .i64 took,.int .i64 should,nU limit] st fun v st'=>v=nextR b took should limit.toNat∧st'=st:=by
 have okn:=ok.toOkNum
 refine shows_call ok.mixed ok.h138 (by simp[k138]) ?_
 simp only[k138,nU]
 simp
 intro i7 h7
 have S:=(Sep.start st).new h7 (.cells (eU limit))
 generalize st.upd i7 _=st1 at S⊢
 simp
 refine(spec135 ok st1 b).mono ?_
 rintro v st1 ⟨rfl,rfl⟩
 have hsp: ∀x y:U,spliceV (eU x) 0 (eU y)=eU y:=fun _ _=>rfl
 obtain⟨T0,t1,hT⟩: ∃(T0:U) (t1:Bool),tgtR b=.tup [nU T0,.bool t1]∧(t1=false→tgt b=none)∧(t1=true→tgt b=some T0.toNat):=by
  unfold tgtR
  cases h:tgt b with
  | none=>exact⟨0#256,false,rfl,fun _=>rfl,fun h=>by cases h⟩
  | some t=>exact⟨natU t,true,rfl,fun h=>(by cases h),fun _=>(by rw[natU_nat (tgt_lt h).2])⟩
 obtain⟨hT1,hT2,hT3⟩:=hT
 rw[hT1,eU_zero]
 simp
 intro i10 h10
 have S:=S.new h10 (.cells (eU T0))
 have hs10: ∀y:U,storeS (st1.upd i10 (.cells (eU 0#256))) 4 (.ptr (some (i10,0))) (nU y)=some (st1.upd i10 (.cells (eU y))):=fun y=>by
  simp[storeS,nU,eU_len,hsp]
 simp[hs10]
 generalize st1.upd i10 _=st2 at S⊢
 cases t1 with
 | false=>
   have:nextR b took should limit.toNat=.tup [w32 0#32,.bool false]:=by
    rw[nextR,nextN,hT2 rfl]
   simp[this]
   exact S.was' (by simp)
 | true=>
   have htg:=hT3 rfl
   by_cases hs1:should<1
   ·have:nextR b took should limit.toNat=.tup [w32 0#32,.bool false]:=by
      rw[nextR,nextN,htg];simp[hs1]
    simp[this,hs1]
    exact S.was' (by simp)
   by_cases hs2:1099511627776<should
   ·have:nextR b took should limit.toNat=.tup [w32 0#32,.bool false]:=by
      rw[nextR,nextN,htg];simp[hs1,hs2]
    simp[this,hs1,hs2]
    exact S.was' (by simp)
   have e:nextR b took should limit.toNat=.tup [w32 (shortN (nextT T0.toNat (clampT took should) should.toNat limit.toNat)),.bool true]:=by
    rw[nextR,nextN,htg];simp[hs1,hs2]
   rw[e]
   have hcl:=clampT_le (took:=took) (should:=should) (by omega) (by omega)
   obtain⟨tk,htk⟩: ∃tk,tk=clampT took should:=⟨_,rfl⟩
   rw[←htk]at hcl⊢
   obtain⟨sh,rfl⟩:=Int.eq_ofNat_of_zero_le (show 0≤should by omega)
   have hsh0:0<sh:=by omega
   have hshl:sh≤1099511627776:=by omega
   have w4:IntKind.i64.wrap (4*(sh:Int))=4*(sh:Int):=wrap64 (by omega) (by omega)
   have w0:IntKind.i64.wrap ((sh:Int) / 4)=(sh:Int) / 4:=wrap64 (by omega) (by omega)
   have hmn:foldV min2V (.int .i64 took) [.int .i64 (4*(sh:Int))]=some (.int .i64 (min took (4*(sh:Int)))):=by
    simp only[foldV,min2V,if_true,Option.bind_some]
    congr 2
    split<;>omega
   have hmx:foldV max2V (.int .i64 ((sh:Int) / 4)) [.int .i64 (min took (4*(sh:Int)))]=some (.int .i64 (tk:Int)):=by
    simp only[foldV,max2V,if_true,Option.bind_some]
    congr 2
    rw[htk,clampT,Int.tdiv_eq_ediv_of_nonneg (by omega)]
    split<;>omega
   rw[Int.toNat_natCast]
   obtain⟨TK,hTK⟩: ∃TK:W,TK=BitVec.ofInt 64 (tk:Int):=⟨_,rfl⟩
   have hTKn:TK.toNat=tk:=by rw[hTK];exact of64 (by omega)
   obtain⟨SH,hSH⟩: ∃SH:W,SH=BitVec.ofInt 64 (sh:Int):=⟨_,rfl⟩
   have hSHn:SH.toNat=sh:=by rw[hSH];exact of64 (by omega)
   have c1:convV .u64 (.int .i64 (tk:Int))=some (w64 TK):=by rw[hTK,conv_i_64]
   have c2:convV .u64 (.int .i64 (sh:Int))=some (w64 SH):=by rw[hSH,conv_i_64]
   have o10:=S.get
   have o7:=S.mem (i:=i7) (o:=.cells (eU limit)) (by simp)
   simp[hs1,hs2,w4,w0,hmn,hmx,c1,-conv_i_64,St.seg,o10,segU]
   refine(spec110 okn st2 T0 TK).mono ?_
   rintro v st2 ⟨rfl,rfl⟩
   rw[hTKn]
   simp
   intro i12 h12
   have hs12: ∀(s:St) (x y:U),s i12=some (.cells (eU x))→storeS s 4 (.ptr (some (i12,0))) (nU y)=some (s.upd i12 (.cells (eU y))):=fun s x y h=>by
    simp[storeS,nU,eU_len,hsp,h]
   have hs10': ∀(s:St) (x y:U),s i10=some (.cells (eU x))→storeS s 4 (.ptr (some (i10,0))) (nU y)=some (s.upd i10 (.cells (eU y))):=fun s x y h=>by
    simp[storeS,nU,eU_len,hsp,h]
   have S:=S.new h12 (.cells (eU (BitVec.ofNat 256 (T0.toNat*tk))))
   have hst:=hs12 (st2.upd i12 (.cells (eU 0#256))) 0#256 (BitVec.ofNat 256 (T0.toNat*tk)) (by simp)
   rw[upd_upd]at hst
   simp[hst]
   generalize st2.upd i12 _=st3 at S⊢
   by_cases hov:2 ^ 256≤T0.toNat*tk
   ·have e1:ovU (T0.toNat*tk)=true:=decide_eq_true hov
    have hge:¬T0.toNat*tk<2 ^ 256:=by omega
    have o10:=S.mem (i:=i10) (o:=.cells (eU T0)) (by simp)
    have o12:=S.get
    simp[e1,c1,c2,-conv_i_64,St.seg,o10,segU]
    refine⟨_,spec105 okn st3 SH,?_⟩
    have hShU:(SH.setWidth 256:U).toNat=sh:=by
     rw[BitVec.toNat_setWidth,hSHn];exact Nat.mod_eq_of_lt (by omega)
    have hSh0:(SH.setWidth 256:U)≠0#256:=fun e=>by rw[e]at hShU;simp at hShU;omega
    simp
    refine⟨_,spec116 okn st3 T0 (SH.setWidth 256),?_⟩
    obtain⟨D,hD⟩: ∃D,D=divU T0 (SH.setWidth 256):=⟨_,rfl⟩
    have hDn:D.toNat=T0.toNat / sh:=by
     rw[hD,divU,hShU]
     exact natU_nat (Nat.lt_of_le_of_lt (Nat.div_le_self _ _) T0.isLt)
    have hst:=hs12 st3 _ D o12
    simp[hSh0,←hD,hst]
    have S:=S.setAt (.cells (eU D)) 0 rfl
    generalize st3.upd i12 _=st4 at S⊢
    have o12:=S.get
    simp[c1,-conv_i_64,St.seg,o12,segU]
    refine(spec110 okn st4 D TK).mono ?_
    rintro v st4 ⟨rfl,rfl⟩
    rw[hTKn]
    obtain⟨Q,hQ⟩: ∃Q:U,Q=BitVec.ofNat 256 (D.toNat*tk):=⟨_,rfl⟩
    have hst:=hs12 st4 _ Q o12
    rw[←hQ]
    simp[hst]
    have S:=S.setAt (.cells (eU Q)) 0 rfl
    generalize st4.upd i12 _=st5 at S⊢
    have o12:=S.get
    have o7:=S.mem (i:=i7) (o:=.cells (eU limit)) (by simp)
    by_cases hov2:2 ^ 256≤D.toNat*tk
    ·have e2:ovU (D.toNat*tk)=true:=decide_eq_true hov2
     have hres:nextT T0.toNat tk sh limit.toNat=limit.toNat:=by
      rw[nextT,if_neg hge,←hDn,if_pos (.inl hov2)]
     simp[e2,St.seg,o7,segU]
     refine(spec136 ok st5 limit).mono ?_
     rintro v st5 ⟨rfl,rfl⟩
     rw[hres]
     simp
     exact S.was' (by simp)
    have e2:ovU (D.toNat*tk)=false:=decide_eq_false hov2
    have hQn:Q.toNat=D.toNat*tk:=by rw[hQ];exact natU_nat (by omega)
    have hQlt:¬2 ^ 256≤Q.toNat:=by rw[hQn];exact hov2
    have hres:nextT T0.toNat tk sh limit.toNat=if 2 ^ 256≤Q.toNat∨limit.toNat<Q.toNat then limit.toNat else Q.toNat:=by
     rw[nextT,if_neg hge,←hDn,←hQn]
    have hst:=hs10' st5 _ Q (S.mem (i:=i10) (o:=.cells (eU T0)) (by simp))
    simp only[nU]at hst
    have n710:=(S.neq (i:=i10) (j:=i7) 1 2 rfl rfl (by omega)).symm
    simp[e2,St.seg,o12,segU,hst,o7,n710]
    have S:=S.setAt (.cells (eU Q)) 1 rfl
    generalize st5.upd i10 _=st6 at S⊢
    have o10:=S.mem (i:=i10) (o:=.cells (eU Q)) (by simp)
    have o7:=S.mem (i:=i7) (o:=.cells (eU limit)) (by simp)
    try simp[St.seg,o10,o7,segU]
    refine(spec106 okn st6 Q limit).mono ?_
    rintro v st6 ⟨rfl,rfl⟩
    have hgt:=gtr_cmp Q limit
    by_cases hl:limit.toNat<Q.toNat
    ·rw[decide_eq_true hl]at hgt
     have hst:=hs10' st6 Q limit o10
     simp only[nU]at hst
     simp[hgt,St.seg,o7,segU,hst]
     have S:=S.setAt (.cells (eU limit)) 1 rfl
     generalize st6.upd i10 _=st9 at S⊢
     have o10:=S.mem (i:=i10) (o:=.cells (eU limit)) (by simp)
     try simp[St.seg,o10,segU]
     refine(spec136 ok st9 limit).mono ?_
     rintro v st9 ⟨rfl,rfl⟩
     rw[hres,if_pos (.inr hl)]
     simp
     exact S.was' (by simp)
    ·rw[decide_eq_false hl]at hgt
     simp[hgt,St.seg,o10,segU]
     refine(spec136 ok st6 Q).mono ?_
     rintro v st6 ⟨rfl,rfl⟩
     rw[hres,if_neg (by rintro(h | h);exact hQlt h;exact hl h)]
     simp
     exact S.was' (by simp)
   ·have e1:ovU (T0.toNat*tk)=false:=decide_eq_false hov
    have hlt:T0.toNat*tk<2 ^ 256:=by omega
    have hn:(BitVec.ofNat 256 (T0.toNat*tk)).toNat=T0.toNat*tk:=natU_nat hlt
    have o12:=S.get
    simp[e1,c2,-conv_i_64,St.seg,o12,segU]
    refine⟨_,spec105 okn st3 SH,?_⟩
    have hShU:(SH.setWidth 256:U).toNat=sh:=by
     rw[BitVec.toNat_setWidth,hSHn];exact Nat.mod_eq_of_lt (by omega)
    have hSh0:(SH.setWidth 256:U)≠0#256:=fun e=>by rw[e]at hShU;simp at hShU;omega
    simp
    refine⟨_,spec116 okn st3 (BitVec.ofNat 256 (T0.toNat*tk)) (SH.setWidth 256),?_⟩
    simp[hSh0]
    obtain⟨Q,hQ⟩: ∃Q,Q=divU (BitVec.ofNat 256 (T0.toNat*tk)) (SH.setWidth 256):=⟨_,rfl⟩
    have hQn:Q.toNat=T0.toNat*tk / sh:=by
     rw[hQ,divU,hn,hShU]
     exact natU_nat (Nat.lt_of_le_of_lt (Nat.div_le_self _ _) hlt)
    have hQlt:¬2 ^ 256≤Q.toNat:=Nat.not_le.2 Q.isLt
    have hres:nextT T0.toNat tk sh limit.toNat=if 2 ^ 256≤Q.toNat∨limit.toNat<Q.toNat then limit.toNat else Q.toNat:=by
     rw[nextT,if_pos hlt,←hQn]
    rw[←hQ]
    have hst:=hs10' st3 _ Q (S.mem (i:=i10) (o:=.cells (eU T0)) (by simp))
    simp[hst]
    have S:=S.setAt (.cells (eU Q)) 1 rfl
    generalize st3.upd i10 _=st6 at S⊢
    have o10:=S.mem (i:=i10) (o:=.cells (eU Q)) (by simp)
    have o7:=S.mem (i:=i7) (o:=.cells (eU limit)) (by simp)
    try simp[St.seg,o10,o7,segU]
    refine(spec106 okn st6 Q limit).mono ?_
    rintro v st6 ⟨rfl,rfl⟩
    have hgt:=gtr_cmp Q limit
    by_cases hl:limit.toNat<Q.toNat
    ·rw[decide_eq_true hl]at hgt
     have hst:=hs10' st6 Q limit o10
     simp only[nU]at hst
     simp[hgt,St.seg,o7,segU,hst]
     have S:=S.setAt (.cells (eU limit)) 1 rfl
     generalize st6.upd i10 _=st9 at S⊢
     have o10:=S.mem (i:=i10) (o:=.cells (eU limit)) (by simp)
     try simp[St.seg,o10,segU]
     refine(spec136 ok st9 limit).mono ?_
     rintro v st9 ⟨rfl,rfl⟩
     rw[hres,if_pos (.inr hl)]
     simp
     exact S.was' (by simp)
    ·rw[decide_eq_false hl]at hgt
     simp[hgt,St.seg,o10,segU]
     refine(spec136 ok st6 Q).mono ?_
     rintro v st6 ⟨rfl,rfl⟩
     rw[hres,if_neg (by rintro(h | h);exact hQlt h;exact hl h)]
     simp
     exact S.was' (by simp)
end
def sB (l:List UInt8):V:=.str ⟨l.toArray⟩
theorem toStr_sB {s:V}{l:List UInt8}{st:St}(h:Rd 1 e8 s l st)(hs: ∀x,s≠.str x):toStrV st s=some (sB l):=toStr_rd h hs
section
variable {P:Program} {F:Fn}
theorem hseg0 (h:Hdr):segOf (eHdr h) 0 1=some [w32 h.ver]:=by
 simp[segOf,eHdr,eId_len]
theorem hdrop1 (h:Hdr):(eHdr h).drop 1=eId h.prev++(eId h.root++[w32 h.time,w32 h.bits,w32 h.nonce]):=rfl
theorem hdrop33 (h:Hdr):(eHdr h).drop 33=eId h.root++[w32 h.time,w32 h.bits,w32 h.nonce]:=by
 rw[show 33=1+32 from rfl,←List.drop_drop,hdrop1,List.drop_left' (eId_len _)]
theorem hdrop65 (h:Hdr):(eHdr h).drop 65=[w32 h.time,w32 h.bits,w32 h.nonce]:=by
 rw[show 65=33+32 from rfl,←List.drop_drop,hdrop33,List.drop_left' (eId_len _)]
theorem hdrop66 (h:Hdr):(eHdr h).drop 66=[w32 h.bits,w32 h.nonce]:=by
 rw[show 66=65+1 from rfl,←List.drop_drop,hdrop65];rfl
theorem hdrop67 (h:Hdr):(eHdr h).drop 67=[w32 h.nonce]:=by
 rw[show 67=65+2 from rfl,←List.drop_drop,hdrop65];rfl
theorem seg_of_drop {cs:List V}{off sz:Nat}{ys zs:List V}(h:cs.drop off=ys++zs)(hl:ys.length=sz)(hp:0<sz):segOf cs off sz=some ys:=by
 have hlen:=congrArg List.length h
 rw[List.length_drop,List.length_append]at hlen
 rw[segOf,if_pos (by omega),h,←hl,List.take_left]
theorem hsegPrev (h:Hdr):segOf (eHdr h) 1 32=some (eId h.prev):=seg_of_drop (hdrop1 h) (eId_len _) (by omega)
theorem hsegRoot (h:Hdr):segOf (eHdr h) 33 32=some (eId h.root):=seg_of_drop (hdrop33 h) (eId_len _) (by omega)
theorem hsegTime (h:Hdr):segOf (eHdr h) 65 1=some [w32 h.time]:=seg_of_drop (zs:=[w32 h.bits,w32 h.nonce]) (hdrop65 h) rfl (by omega)
theorem hsegBits (h:Hdr):segOf (eHdr h) 66 1=some [w32 h.bits]:=seg_of_drop (zs:=[w32 h.nonce]) (hdrop66 h) rfl (by omega)
theorem hsegNonce (h:Hdr):segOf (eHdr h) 67 1=some [w32 h.nonce]:=seg_of_drop (zs:=[]) (hdrop67 h) rfl (by omega)
theorem hsegAll (h:Hdr):segOf (eHdr h) 0 68=some (eHdr h):=by
 rw[segOf,if_pos (by rw[eHdr_len];omega),List.drop_zero,List.take_of_length_le (by rw[eHdr_len];omega)]
theorem spec139 (ok:OkHead P F){st:St}{s:V}{l:List UInt8}{L:List Asn}(h:Sep (Slx 1 e8 s l::L) st)(hl:l.length≤1000)(x:W32):
  ACalls P (F 139) [s,w32 x] st fun v st'=>Sep (Slx 1 e8 v (l++le4 x)::L) st':=by
 refine shows_call ok.mixed ok.h139 (by simp[k139]) ?_
 simp only[k139]
 have hr:fillV (repV [w8 0] 4) [(0,1,w8 (UInt8.ofBitVec (x.setWidth 8))),(1,1,w8 (UInt8.ofBitVec ((x >>> 8).setWidth 8))),(2,1,w8 (UInt8.ofBitVec ((x >>> 16).setWidth 8))),(3,1,w8 (UInt8.ofBitVec ((x >>> 24).setWidth 8)))]=some (rowsOf e8 (le4 x)):=rfl
 simp[hr]
 have he:elems st 1 (.sl .full (rowsOf e8 (le4 x)) 4)=some (rowsOf e8 (le4 x),(le4 x).length):=rfl
 rw[he]
 refine Sep.appx (b:=1) e8_len (by omega) h (m:=le4 x) (by simp[le4];omega) ?_
 intro s' st' S'
 simp
 exact⟨st',sub_self _,S'⟩
set_option maxHeartbeats 1000000 in
theorem spec140 (ok:OkHead P F)(st:St)(h:Hdr):ACalls P (F 140) [.agg (eHdr h)] st fun v st'=>Sep [Slx 1 e8 v (hBytes h),Was st] st':=by
 refine shows_call ok.mixed ok.h140 (by simp[k140]) ?_
 simp only[k140]
 simp
 intro i1 h1
 have S:=(Sep.start st).new h1 (.cells (eHdr h))
 generalize st.upd i1 _=st1 at S⊢
 have o1:=S.get
 simp[Conf,St.seg,o1,hseg0,mkslS,mkNew,repV]
 intro i4 h4
 have S:=S.new h4 (.cells [])
 generalize st1.upd i4 _=st2 at S⊢
 have S:=S.head (A':=Slx 1 e8 (.hsl i4 0 1 0) []) fun g hg=>.inr ⟨i4,rfl,hg⟩
 refine(spec139 ok S (by simp) h.ver).mono ?_
 intro v st3 S
 simp
 have o1:=S.mem (i:=i1) (o:=.cells (eHdr h)) (by
  simp)
 have S:=S.setAt (.ro (eHdr h)) 1 rfl
 simp[frzP,frzV,frzOb,o1]
 generalize st3.upd i1 _=st4 at S⊢
 have p1:segOf (eHdr h).tail 0 32=some (eId h.prev):=seg_of_drop (by rw[List.drop_zero,←List.drop_one];exact hdrop1 h) (eId_len _) (by omega)
 have p2:segOf ((eHdr h).drop 33) 0 32=some (eId h.root):=seg_of_drop (by rw[List.drop_zero];exact hdrop33 h) (eId_len _) (by omega)
 have t1:List.take 32 (eId h.prev)=rowsOf e8 h.prev.toList:=by rw[←eId_rows,List.take_of_length_le (by rw[eId_len];omega)]
 have t2:List.take 32 (eId h.root)=rowsOf e8 h.root.toList:=by rw[←eId_rows,List.take_of_length_le (by rw[eId_len];omega)]
 have e1: ∀(s:St) (x:Id),elems s 1 (.sl .full (rowsOf e8 x.toList) 32)=some (rowsOf e8 x.toList,x.toList.length):=fun s x=>by
  have:(rowsOf e8 x.toList).length=32:=by rw[rowsOf_length e8_len];simp
  simp[elems,this]
 simp[Conf,slArrV,bounds,opV,p1,p2,t1,t2,e1]
 refine Sep.appx' (b:=1) e8_len (by omega) S h.prev.toList rfl (by simp) (by simp[le4]) ?_
 intro s5 st5 S
 simp[e1]
 refine Sep.appx' (b:=1) e8_len (by omega) S h.root.toList rfl (by simp) (by simp[le4]) ?_
 intro s6 st6 S
 have q1:segOf ((eHdr h).drop 65) 0 1=some [w32 h.time]:=seg_of_drop (zs:=[w32 h.bits,w32 h.nonce]) (by rw[List.drop_zero];exact hdrop65 h) rfl (by omega)
 have q2:segOf ((eHdr h).drop 66) 0 1=some [w32 h.bits]:=seg_of_drop (zs:=[w32 h.nonce]) (by rw[List.drop_zero];exact hdrop66 h) rfl (by omega)
 have q3:segOf ((eHdr h).drop 67) 0 1=some [w32 h.nonce]:=seg_of_drop (zs:=[]) (by rw[List.drop_zero];exact hdrop67 h) rfl (by omega)
 simp[q1,q2,q3]
 refine(spec139 ok S (by simp[le4]) h.time).mono ?_
 intro v7 st7 S
 simp
 refine(spec139 ok S (by simp[le4]) h.bits).mono ?_
 intro v8 st8 S
 simp
 refine(spec139 ok S (by simp[le4]) h.nonce).mono ?_
 intro v9 st9 S
 simp
 refine⟨_,sub_self _,?_⟩
 have hb:[]++le4 h.ver++h.prev.toList++h.root.toList++le4 h.time++le4 h.bits++le4 h.nonce=hBytes h:=by simp[hBytes]
 rw[hb]at S
 exact Sep.tail (fun r hr=>hr.drop) S
theorem spec141 (ok:OkHead P F)(st:St)(h:Hdr):ACalls P (F 141) [.agg (eHdr h)] st fun v st'=>v=.agg (eId (hId h))∧st'=st:=by
 have okh:=ok.toOkHash
 refine shows_call ok.mixed ok.h141 (by simp[k141]) ?_
 simp only[k141]
 simp
 intro i1 h1
 have S:=(Sep.start st).new h1 (.cells (eHdr h))
 generalize st.upd i1 _=st1 at S⊢
 simp
 intro i2 h2
 have S:=S.new h2 (.cells zR32_w80)
 generalize st1.upd i2 _=st2 at S⊢
 have o1:=S.mem (i:=i1) (o:=.cells (eHdr h)) (by simp)
 simp[St.seg,o1,hsegAll]
 refine(Sep.call (S.put (A:=Was fun _=>none) rfl) (fun g hg=>by rw[hg];exact spec140 ok _ h)).mono ?_
 intro v st3 S3
 have rd:Rd 1 e8 v (hBytes h) st3:=by
  obtain⟨g,k1,k2⟩:=S3.part
  exact(Sep.rd e8_len (k2.head fun h hh=>hh.sl)).sub k1
 have S:=S3.drop
 have hp:Parts st3 [v] [hBytes h]:=.cons rd .nil
 have hfl:fillV (repV [.sl .nil [] 0] 1) [(0,1,v)]=some [v]:=by
  rcases rd with⟨k,rfl⟩ | ⟨_,_,rfl,_⟩<;>rfl
 simp[hfl]
 have hc:=spec104 okh st3 hp .full (by simp[hBytes_len]) (by simp)
 refine hc.mono ?_
 rintro w st3 ⟨rfl,rfl⟩
 have o2:=S.mem (i:=i2) (o:=.cells zR32_w80) (by simp)
 have hst:=store_z32 o2 (sha2 ([hBytes h].flatten))
 have T:=S.setAt (.cells (eId (sha2 ([hBytes h].flatten)))) 0 rfl
 have hf:[hBytes h].flatten=hBytes h:=by simp
 rw[hf]at hst T⊢
 simp[hst,St.seg,segId0]
 exact⟨T.was' (by simp),rfl⟩
end
section
variable {P:Program} {F:Fn}
def h8 (b:UInt8)(q:Nat):UInt8:=UInt8.ofNat (b.toNat / 2 ^ q)
end
structure Nd where
 hdr:Hdr
 id:Id
 parent:Int
 skip:Nat
 height:Nat
 work:Nat
 failed:Bool
 deriving DecidableEq
def skipH (h:Nat):Nat:=if h<2 then 0 else if h % 2=1 then((h-1) &&& (h-2))+1 else h &&& (h-1)
theorem skipH_lt {h:Nat}(hp:0<h):skipH h<h:=by
 unfold skipH
 split
 ·omega
 ·split
  ·have:(h-1) &&& (h-2)≤h-2:=Nat.and_le_right
   omega
  ·have:h &&& (h-1)≤h-1:=Nat.and_le_right
   omega
def hgt (l:List Nd)(i:Nat):Nat:=((l[i]?).map (·.height)).getD 0
def par (l:List Nd)(i:Nat):Nat:=((l[i]?).map (·.parent.toNat)).getD 0
def upN (l:List Nd):Nat→Nat→Nat
 | 0,i=>i
 | n+1,i=>upN l n (par l i)
def anc (l:List Nd)(i h:Nat):Nat:=upN l (hgt l i-h) i
structure Wf (l:List Nd):Prop where
 ne:0<l.length
 zero: ∀x:Nd,l[0]? =some x→x.parent=-1∧x.height=0
 succ: ∀(i:Nat) (x:Nd),0<i→l[i]? =some x→0≤x.parent∧x.parent< (i:Int)∧x.height=hgt l x.parent.toNat+1
 skip: ∀(i:Nat) (x:Nd),0<i→l[i]? =some x→x.skip=anc l x.parent.toNat (skipH x.height)
section
variable {l:List Nd} (w:Wf l)
include w
theorem Wf.par_lt {i:Nat}(h0:0<i)(hi:i<l.length):par l i<i:=by
 have h:=w.succ i l[i] h0 (List.getElem?_eq_getElem hi)
 simp only[par,List.getElem?_eq_getElem hi,Option.map_some,Option.getD_some]
 omega
theorem Wf.hgt_par {i:Nat}(h0:0<i)(hi:i<l.length):hgt l i=hgt l (par l i)+1:=by
 have h:=w.succ i l[i] h0 (List.getElem?_eq_getElem hi)
 have e:par l i=l[i].parent.toNat:=by simp[par,hi]
 rw[e,←h.2.2]
 simp[hgt,hi]
theorem Wf.hgt_zero:hgt l 0=0:=by
 have e:=List.getElem?_eq_getElem w.ne
 have h:=w.zero _ e
 rw[hgt,e,Option.map_some,Option.getD_some,h.2]
theorem Wf.pos_of_hgt {i:Nat}(h:0<hgt l i):0<i:=by
 rcases Nat.eq_zero_or_pos i with e | e
 ·rw[e,w.hgt_zero]at h;omega
 ·exact e
theorem Wf.hgt_le {i:Nat}(hi:i<l.length):hgt l i≤i:=by
 induction i using Nat.strongRecOn with
 | _ i ih=>
   rcases Nat.eq_zero_or_pos i with e | e
   ·rw[e,w.hgt_zero];exact Nat.le_refl _
   ·have:=w.par_lt e hi
    rw[w.hgt_par e hi]
    have:=ih _ this (by omega)
    omega
theorem Wf.up {n i:Nat}(hi:i<l.length)(hn:n≤hgt l i):upN l n i<l.length∧hgt l (upN l n i)=hgt l i-n∧upN l n i≤i:=by
 induction n generalizing i with
 | zero=>exact⟨hi,rfl,Nat.le_refl _⟩
 | succ n ih=>
   have hp:=w.pos_of_hgt (i:=i) (by omega)
   have h1:=w.par_lt hp hi
   have h2:=w.hgt_par hp hi
   obtain⟨a,b,c⟩:=ih (i:=par l i) (by omega) (by omega)
   exact⟨a,by rw[upN,b];omega,by rw[upN];omega⟩
omit w in
theorem upN_add (n m i:Nat):upN l (n+m) i=upN l m (upN l n i):=by
 induction n generalizing i with
 | zero=>rw[Nat.zero_add];rfl
 | succ n ih=>rw[Nat.succ_add,upN,ih,upN]
theorem Wf.anc_lt {i h:Nat}(hi:i<l.length):anc l i h<l.length:=(w.up hi (Nat.sub_le _ _)).1
theorem Wf.anc_le {i h:Nat}(hi:i<l.length):anc l i h≤i:=(w.up hi (Nat.sub_le _ _)).2.2
theorem Wf.anc_hgt {i h:Nat}(hi:i<l.length)(hh:h≤hgt l i):hgt l (anc l i h)=h:=by
 have:=(w.up hi (Nat.sub_le (hgt l i) h)).2.1
 rw[anc,this];omega
omit w in
theorem anc_self (i:Nat):anc l i (hgt l i)=i:=by rw[anc,Nat.sub_self];rfl
theorem Wf.anc_par {i h:Nat}(hi:i<l.length)(hh:h<hgt l i):anc l i h=anc l (par l i) h:=by
 have hp:=w.pos_of_hgt (i:=i) (by omega)
 have h2:=w.hgt_par hp hi
 rw[anc,anc,show hgt l i-h=(hgt l (par l i)-h)+1 by omega]
 rfl
theorem Wf.anc_anc {i h h':Nat}(hi:i<l.length)(h1:h≤h')(h2:h'≤hgt l i):anc l (anc l i h') h=anc l i h:=by
 have e:=w.anc_hgt hi h2
 rw[anc,e,anc,anc,←upN_add,show hgt l i-h'+(h'-h)=hgt l i-h by omega]
end
theorem hgt_append {l:List Nd}{m:List Nd}{i:Nat}(hi:i<l.length):hgt (l++m) i=hgt l i:=by
 simp[hgt,List.getElem?_append_left hi]
theorem par_append {l:List Nd}{m:List Nd}{i:Nat}(hi:i<l.length):par (l++m) i=par l i:=by
 simp[par,List.getElem?_append_left hi]
theorem upN_append {l:List Nd}(w:Wf l){m:List Nd}{n i:Nat}(hi:i<l.length)(hn:n≤hgt l i):upN (l++m) n i=upN l n i:=by
 induction n generalizing i with
 | zero=>rfl
 | succ n ih=>
   have hp:=w.pos_of_hgt (i:=i) (by omega)
   have h1:=w.par_lt hp hi
   have h2:=w.hgt_par hp hi
   rw[upN,upN,par_append hi]
   exact ih (by omega) (by omega)
theorem anc_append {l:List Nd}(w:Wf l){m:List Nd}{i h:Nat}(hi:i<l.length):anc (l++m) i h=anc l i h:=by
 rw[anc,anc,hgt_append hi,upN_append w hi (Nat.sub_le _ _)]
theorem Wf.push {l:List Nd}(w:Wf l){x:Nd}{p:Nat}(hp:p<l.length)(h1:x.parent=p)(h2:x.height=hgt l p+1)(h3:x.skip=anc l p (skipH x.height)):Wf (l++[x]):=by
 refine⟨by simp,fun y hy=>?_,fun i y hi hy=>?_,fun i y hi hy=>?_⟩
 ·rw[List.getElem?_append_left w.ne]at hy
  exact w.zero y hy
 ·by_cases hl:i<l.length
  ·rw[List.getElem?_append_left hl]at hy
   have:=w.succ i y hi hy
   refine⟨this.1,this.2.1,?_⟩
   rw[this.2.2,hgt_append]
   omega
  ·have:i=l.length:=by
     have:=(List.getElem?_eq_some_iff.1 hy).1
     simp at this
     omega
   subst this
   rw[List.getElem?_append_right (Nat.le_refl _),Nat.sub_self]at hy
   cases hy
   refine⟨by omega,by omega,?_⟩
   rw[h1,h2,Int.toNat_natCast,hgt_append hp]
 ·by_cases hl:i<l.length
  ·rw[List.getElem?_append_left hl]at hy
   have:=w.succ i y hi hy
   rw[w.skip i y hi hy,anc_append w (by omega)]
  ·have:i=l.length:=by
     have:=(List.getElem?_eq_some_iff.1 hy).1
     simp at this
     omega
   subst this
   rw[List.getElem?_append_right (Nat.le_refl _),Nat.sub_self]at hy
   cases hy
   rw[h1,h3,Int.toNat_natCast,anc_append w hp]
def ancI (l:List Nd)(i h:Int):Int:=if i<0∨(l.length:Int)≤i∨h<0∨(hgt l i.toNat:Int)<h then-1 else(anc l i.toNat h.toNat:Nat)
def onB (l:List Nd)(i tip:Int):Bool:=decide (0≤i)&&decide (i<l.length)&&(ancI l tip (hgt l i.toNat)==i)
def findM:List Nd→Id→Option Nat
 | [],_=>none
 | x::l,id=>match findM l id with
   | some i=>some (i+1)
   | none=>if x.id=id then some 0 else none
theorem findM_append (l:List Nd)(x:Nd)(id:Id):findM (l++[x]) id=if x.id=id then some l.length else findM l id:=by
 induction l with
 | nil=>simp[findM]
 | cons y l ih=>
   simp only[List.cons_append,findM,ih]
   by_cases h:x.id=id
   ·simp[h]
   ·simp[h]
theorem findM_some {l:List Nd}{id:Id}{i:Nat}(h:findM l id=some i): ∃x,l[i]? =some x∧x.id=id:=by
 induction l generalizing i with
 | nil=>cases h
 | cons y l ih=>
   simp only[findM]at h
   split at h
   ·rename_i j hj
    cases h
    obtain⟨x,h1,h2⟩:=ih hj
    exact⟨x,by simpa using h1,h2⟩
   ·split at h
    ·cases h
     rename_i hy
     exact⟨y,rfl,hy⟩
    ·cases h
theorem findM_lt {l:List Nd}{id:Id}{i:Nat}(h:findM l id=some i):i<l.length:=by
 obtain⟨x,h1,_⟩:=findM_some h
 exact(List.getElem?_eq_some_iff.1 h1).1
theorem findM_none {l:List Nd}{id:Id}(h:findM l id=none): ∀x∈l,x.id≠id:=by
 induction l with
 | nil=>simp
 | cons y l ih=>
   simp only[findM]at h
   split at h
   ·cases h
   ·rename_i hj
    split at h
    ·cases h
    ·rename_i hy
     intro x hx
     rcases List.mem_cons.1 hx with rfl | hx
     ·exact hy
     ·exact ih hj x hx
def timesM (l:List Nd):Nat→Nat→List W32
 | 0,_=>[]
 | n+1,i=>match l[i]? with
   | some x=>x.hdr.time::(if x.parent<0 then[]else timesM l n x.parent.toNat)
   | none=>[]
def sorted32 (l:List W32):List W32:=l.mergeSort fun a b=>decide (a≤b)
def middle32 (l:List W32):W32:=(sorted32 l).getD (l.length / 2) 0
def medianM (l:List Nd)(i:Nat):W32:=middle32 (timesM l 11 i)
structure Rl where
 limit:W32
 every:Int
 spacing:Int
 subsidy:Int
 work:Int
 gen:Hdr
 txs:V
def nd (l:List Nd)(i:Nat):Nd:=(l[i]?).getD ⟨hdr0',id0',0,0,0,0,false⟩
where
 id0':Id:=⟨⟨List.replicate 32 0⟩,rfl⟩
 hdr0':Hdr:=⟨0,id0',id0',0,0,0⟩
def limitN (r:Rl):Nat:=(tgt r.limit).getD 0
def nextM (r:Rl)(l:List Nd)(i:Nat):W32:=
 let x:=nd l i
 if r.every=0∨((x.height:Int)+1).tmod r.every≠0 then x.hdr.bits
 else
  let first:=nd l (anc l i (max 0 ((x.height:Int)+1-r.every)).toNat)
  (nextN x.hdr.bits ((x.hdr.time.toNat:Int)-first.hdr.time.toNat) (r.every*r.spacing) (limitN r)).getD 0
def fitsM (r:Rl)(l:List Nd)(h:Hdr)(p:Int)(now:Int):Int:=
 if p<0∨(l.length:Int)≤p then 100
 else if provedN h r.limit≠0 then provedN h r.limit
 else if(nd l p.toNat).failed=true then 101
 else if h.bits≠nextM r l p.toNat then 30
 else if h.time≤medianM l p.toNat then 102
 else if now< (h.time.toNat:Int)-7200 then 103
 else 0
def ndOf (l:List Nd)(h:Hdr)(p:Nat):Nd:=⟨h,hId h,p,anc l p (skipH (hgt l p+1)),hgt l p+1,workN ((tgt h.bits).getD 0)+(nd l p).work,false⟩
def addM (r:Rl)(l:List Nd)(h:Hdr)(now:Int):List Nd×Int×Int:=
 match findM l (hId h)with
 | some i=>(l,i,5)
 | none=>match findM l h.prev with
   | none=>(l,-1,100)
   | some p=>
     if fitsM r l h p now≠0 then(l,-1,fitsM r l h p now)
     else if l.length=16384 then(l,-1,3)
     else(l++[ndOf l h p],l.length,0)
def checkM (r:Rl):Int:=
 if tgt r.limit=none∨r.gen.bits≠r.limit then 30
 else if r.every<0∨1000<r.every∨r.spacing<1∨1048576<r.spacing∨r.subsidy<0∨1125899906842624<r.subsidy∨r.work<0∨1000<r.work then 1 else 0
def newM (r:Rl):List Nd:=[⟨r.gen,hId r.gen,-1,0,0,workN ((tgt r.gen.bits).getD 0),false⟩]
section
variable {P:Program} {F:Fn}
theorem tgtR_cases (b:W32): ∃(T:U) (t:Bool),tgtR b=.tup [nU T,.bool t]∧(t=false→tgt b=none)∧(t=true→tgt b=some T.toNat):=by
 unfold tgtR
 cases h:tgt b with
 | none=>exact⟨0#256,false,rfl,fun _=>rfl,fun h=>by cases h⟩
 | some t=>exact⟨natU t,true,rfl,fun h=>(by cases h),fun _=>(by rw[natU_nat (tgt_lt h).2])⟩
set_option maxHeartbeats 2000000 in
theorem spec142 (ok:OkHead P F)(st:St)(h:Hdr)(limit:W32):ACalls P (F 142) [.agg (eHdr h),w32 limit] st fun v st'=>v=.int .i64 (provedN h limit)∧st'=st:=by
 have okn:=ok.toOkNum
 refine shows_call ok.mixed ok.h142 (by simp[k142]) ?_
 have hsp: ∀x y:U,spliceV (eU x) 0 (eU y)=eU y:=fun _ _=>rfl
 simp only[k142]
 simp
 intro i2 h2
 have S:=(Sep.start st).new h2 (.cells (eHdr h))
 generalize st.upd i2 _=st1 at S⊢
 have o2:=S.get
 simp[St.seg,o2,hsegBits]
 refine(spec135 ok st1 h.bits).mono ?_
 rintro v st1 ⟨rfl,rfl⟩
 obtain⟨A,a,hA1,hA2,hA3⟩:=tgtR_cases h.bits
 rw[hA1,eU_zero]
 simp
 intro i5 h5
 have S:=S.new h5 (.cells (eU A))
 have hs5:storeS (st1.upd i5 (.cells (eU 0#256))) 4 (.ptr (some (i5,0))) (nU A)=some (st1.upd i5 (.cells (eU A))):=by
  simp[storeS,nU,eU_len,hsp]
 simp[hs5]
 generalize st1.upd i5 _=st2 at S⊢
 refine(spec135 ok st2 limit).mono ?_
 rintro v st2 ⟨rfl,rfl⟩
 obtain⟨B,b,hB1,hB2,hB3⟩:=tgtR_cases limit
 rw[hB1]
 simp
 intro i7 h7
 have S:=S.new h7 (.cells (eU B))
 have hs7:storeS (st2.upd i7 (.cells (eU 0#256))) 4 (.ptr (some (i7,0))) (nU B)=some (st2.upd i7 (.cells (eU B))):=by
  simp[storeS,nU,eU_len,hsp]
 simp[hs7]
 generalize st2.upd i7 _=st3 at S⊢
 have sub:St.sub st st3:=S.was' (by simp)
 cases a with
 | false=>
   have e:provedN h limit=30:=by simp[provedN,hA2 rfl]
   simp[e,sub]
 | true=>
   cases b with
   | false=>
     have e:provedN h limit=30:=by simp[provedN,hB2 rfl,hA3 rfl]
     simp[e,sub]
   | true=>
     have e:provedN h limit=if B.toNat<A.toNat then 30 else if A.toNat<idN (hId h)then 50 else 0:=by
      simp[provedN,hA3 rfl,hB3 rfl]
     have o5:=S.mem (i:=i5) (o:=.cells (eU A)) (by simp)
     have o7:=S.mem (i:=i7) (o:=.cells (eU B)) (by simp)
     have o2:=S.mem (i:=i2) (o:=.cells (eHdr h)) (by simp)
     simp[St.seg,o5,o7,segU]
     refine(spec106 okn st3 A B).mono ?_
     rintro v st3 ⟨rfl,rfl⟩
     have hgt:=gtr_cmp A B
     by_cases hl:B.toNat<A.toNat
     ·rw[decide_eq_true hl]at hgt
      rw[e,if_pos hl]
      simp[hgt,sub]
     ·rw[decide_eq_false hl]at hgt
      rw[e,if_neg hl]
      simp[hgt,St.seg,o2,hsegAll]
      refine⟨_,spec141 ok st3 h,?_⟩
      simp
      refine⟨_,spec117 okn st3 (hId h),?_⟩
      simp[St.seg,o5,segU]
      refine⟨_,spec106 okn st3 (BitVec.ofNat 256 (idN (hId h))) A,?_⟩
      have hgt2:=gtr_cmp (BitVec.ofNat 256 (idN (hId h))) A
      have hid:(BitVec.ofNat 256 (idN (hId h))).toNat=idN (hId h):=natU_nat (idN_lt _)
      rw[hid]at hgt2
      by_cases hl2:A.toNat<idN (hId h)
      ·rw[decide_eq_true hl2]at hgt2
       simp[hgt2,sub,hl2]
      ·rw[decide_eq_false hl2]at hgt2
       simp[hgt2,sub,hl2]
def id0:Id:=⟨⟨List.replicate 32 0⟩,rfl⟩
def hdr0:Hdr:=⟨0,id0,id0,0,0,0⟩
theorem z68_eq:z68_39b1=eHdr hdr0:=rfl
def mineR (h:Hdr)(limit:W32)(n:Nat):V:=match mineN h limit n with | some x=>.tup [.agg (eHdr x),.bool true] | none=>.tup [.agg (eHdr hdr0),.bool false]
def eHpre (h:Hdr):List V:=w32 h.ver::(eId h.prev++(eId h.root++[w32 h.time,w32 h.bits]))
theorem eHpre_len (h:Hdr):(eHpre h).length=67:=by simp[eHpre,eId_len]
theorem eHdr_pre (h:Hdr):eHdr h=eHpre h++[w32 h.nonce]:=by simp[eHdr,eHpre]
theorem splice_nonce (h:Hdr)(n:W32):spliceV (eHdr h) 67 [w32 n]=eHdr {h with nonce:=n}:=by
 have hl:=eHpre_len h
 rw[eHdr_pre,eHdr_pre]
 show spliceV (eHpre h++[w32 h.nonce]) 67 [w32 n]=eHpre h++[w32 n]
 unfold spliceV
 rw[←hl,List.take_left]
 simp
theorem splice_hdr (a b:Hdr):spliceV (eHdr a) 0 (eHdr b)=eHdr b:=by
 simp[spliceV,eHdr_len]
set_option maxHeartbeats 1000000 in
theorem spec143 (ok:OkHead P F)(st:St)(h:Hdr)(limit:W32)(tries:Int):ACalls P (F 143) [.agg (eHdr h),w32 limit,.int .i64 tries] st fun v st'=>v=mineR h limit (max 0 (min tries 65536)).toNat∧st'=st:=by
 refine shows_call ok.mixed ok.h143 (by simp[k143]) ?_
 simp only[k143,z68_eq]
 simp
 intro i3 h3
 have S:=(Sep.start st).new h3 (.cells (eHdr h))
 generalize st.upd i3 _=st1 at S⊢
 simp
 intro i6 h6
 have S:=S.new h6 (.cells (eHdr hdr0))
 generalize st1.upd i6 _=st2 at S⊢
 obtain⟨n,hn⟩: ∃n,n=(max 0 (min tries 65536)).toNat:=⟨_,rfl⟩
 rw[←hn]
 have hn6:n≤65536:=by omega
 have hmn:foldV min2V (.int .i64 tries) [.int .i64 65536]=some (.int .i64 (min tries 65536)):=by
  simp only[foldV,min2V,if_true,Option.bind_some]
  congr 2
  split<;>omega
 have hmx:foldV max2V (.int .i64 0) [.int .i64 (min tries 65536)]=some (.int .i64 (n:Int)):=by
  simp only[foldV,max2V,if_true,Option.bind_some]
  congr 2
  split<;>omega
 simp[hmn,hmx]
 refine vc_loopJ (fun k env' st'=>∃(i:Nat) (g:Hdr),i≤n∧k=n-i∧env' 11=.int .i64 (i:Nat)∧mineN h limit n=mineN g limit (n-i)∧Sep [pt i6 (.cells (eHdr hdr0)),pt i3 (.cells (eHdr g)),Was st] st') n
  ⟨0,h,by omega,by omega,rfl,rfl,S⟩ ?_
 clear S
 rintro J hJ k env' st3 hsame ⟨i,g,hi,rfl,h11,hm,S⟩
 have g1:=hsame.get 1 rfl
 have g3:=hsame.get 3 rfl
 have g6:=hsame.get 6 rfl
 have g10:=hsame.get 10 rfl
 simp at g1 g3 g6 g10
 clear hsame
 have o3:=S.mem (i:=i3) (o:=.cells (eHdr g)) (by simp)
 have o6:=S.get
 have w1:IntKind.i64.wrap ((i:Int)+1)=(i:Int)+1:=wrap64 (by omega) (by omega)
 by_cases hlt:i<n
 ·rw[show n-i=(n-(i+1))+1 by omega,mineN]at hm
  simp[g1,g3,g6,g10,h11,hlt,St.seg,o3,hsegAll]
  refine(spec142 ok st3 g limit).mono ?_
  rintro v st3 ⟨rfl,rfl⟩
  by_cases hp:provedN g limit=0
  ·rw[if_pos hp]at hm
   have T:=S.setAt (.cells (eHdr g)) 0 rfl
   simp[hp,g3,g6,St.seg,o3,o6,hsegAll,storeS,eHdr_len,splice_hdr,mineR,hm]
   exact T.was' (by simp)
  ·have hp':(provedN g limit==0)=false:=by simpa using hp
   rw[if_neg hp]at hm
   have T:=S.setAt (.cells (eHdr {g with nonce:=g.nonce+1})) 1 rfl
   simp[hp',g3,St.seg,o3,hsegNonce,storeS,eHdr_len,splice_nonce,h11,w1]
   exact Round.mk (n-(i+1)) _ (by omega) (sub_self _) (hJ _ _ _ ⟨i+1,_,by omega,rfl,by simp,hm,T⟩)
 ·have:i=n:=by omega
  subst this
  rw[Nat.sub_self,mineN]at hm
  have hz:fillV (eHdr hdr0) []=some (eHdr hdr0):=rfl
  have T:=S.setAt (.cells (eHdr hdr0)) 0 rfl
  simp[g6,g10,h11,hz,storeS,o6,eHdr_len,splice_hdr,St.seg,hsegAll,mineR,hm]
  exact T.was' (by simp)
end
def eNd (x:Nd):List V:=eHdr x.hdr++(eId x.id++(.int .i64 x.parent::.int .i64 x.skip::.int .i64 x.height::(eU (natU x.work)++[.bool x.failed])))
theorem eNd_len (x:Nd):(eNd x).length=108:=by simp[eNd,eHdr_len,eId_len,eU_len]
def eRl (r:Rl):List V:=w32 r.limit::.int .i64 r.every::.int .i64 r.spacing::.int .i64 r.subsidy::.int .i64 r.work::(eHdr r.gen++[r.txs])
theorem eRl_len (r:Rl):(eRl r).length=74:=by simp[eRl,eHdr_len]
theorem eNd_drop68 (x:Nd):(eNd x).drop 68=eId x.id++(.int .i64 x.parent::.int .i64 x.skip::.int .i64 x.height::(eU (natU x.work)++[.bool x.failed])):=by
 rw[eNd,←eHdr_len x.hdr,List.drop_left]
theorem eNd_drop100 (x:Nd):(eNd x).drop 100=.int .i64 x.parent::.int .i64 x.skip::.int .i64 x.height::(eU (natU x.work)++[.bool x.failed]):=by
 rw[show 100=68+32 from rfl,←List.drop_drop,eNd_drop68]
 rw[show 32=(eId x.id).length from(eId_len _).symm,List.drop_left]
theorem nsegHdr (x:Nd):((eNd x).drop 0).take 68=eHdr x.hdr:=by rw[List.drop_zero,eNd,←eHdr_len x.hdr,List.take_left]
theorem nsegId (x:Nd):((eNd x).drop 68).take 32=eId x.id:=by rw[eNd_drop68,←eId_len x.id,List.take_left]
theorem nsegPar (x:Nd):((eNd x).drop 100).take 1=[.int .i64 x.parent]:=by rw[eNd_drop100];rfl
theorem nsegSkip (x:Nd):((eNd x).drop 101).take 1=[.int .i64 x.skip]:=by rw[show 101=100+1 from rfl,←List.drop_drop,eNd_drop100];rfl
theorem nsegHgt (x:Nd):((eNd x).drop 102).take 1=[.int .i64 x.height]:=by rw[show 102=100+2 from rfl,←List.drop_drop,eNd_drop100];rfl
theorem nsegWork (x:Nd):((eNd x).drop 103).take 4=eU (natU x.work):=by rw[show 103=100+3 from rfl,←List.drop_drop,eNd_drop100];rfl
theorem nsegFail (x:Nd):((eNd x).drop 107).take 1=[.bool x.failed]:=by rw[show 107=100+7 from rfl,←List.drop_drop,eNd_drop100];rfl
theorem take_drop_take {cs:List V}{a n o k:Nat}(h:o+k≤n):((cs.drop (a+o)).take k)=((((cs.drop a).take n).drop o).take k):=by
 rw[List.drop_take,List.drop_drop,List.take_take,Nat.min_eq_left (by omega)]
theorem nsegTime (x:Nd):((eNd x).drop 65).take 1=[w32 x.hdr.time]:=by
 have:=take_drop_take (cs:=eNd x) (a:=0) (n:=68) (o:=65) (k:=1) (by omega)
 rw[Nat.zero_add]at this
 rw[this,nsegHdr,hdrop65];rfl
theorem nsegBits (x:Nd):((eNd x).drop 66).take 1=[w32 x.hdr.bits]:=by
 have:=take_drop_take (cs:=eNd x) (a:=0) (n:=68) (o:=66) (k:=1) (by omega)
 rw[Nat.zero_add]at this
 rw[this,nsegHdr,hdrop66];rfl
section
variable {K A:Type} [DecidableEq K]
def lk (k:K)(l:List (K×A)):Option A:=l.lookup k
theorem lk_cons (k:K)(p:K×A)(l:List (K×A)):lk k (p::l)=if k=p.1 then some p.2 else lk k l:=by
 obtain⟨a,b⟩:=p
 unfold lk
 rw[List.lookup_cons]
 by_cases h:k=a
 ·have:(k==a)=true:=by simp[h]
  simp[h]
 ·have:(k==a)=false:=by simp[h]
  simp[h,this]
theorem lk_aSet (k k':K)(v:A)(l:List (K×A)):lk k (aSet k' v l)=if k=k' then some v else lk k l:=by
 induction l with
 | nil=>simp[aSet,lk_cons]
 | cons p l ih=>
   unfold aSet
   by_cases h1:k'=p.1
   ·rw[if_pos h1,lk_cons,lk_cons,←h1]
    by_cases h:k=k'<;>simp[h]
   ·rw[if_neg h1,lk_cons,lk_cons,ih]
    by_cases h2:k=p.1
    ·have:¬k=k':=by rw[h2];exact fun e=>h1 e.symm
     simp[h2,Ne.symm h1]
    ·simp[h2]
theorem lookup_lk {ek:K→V}{ev:A→V}{kk:KK}(hk:Keyed ek kk){st:St}{id:Nat}{l:List (K×A)}(h:st id=some (.mp (encM ek ev l)))(z:V)(k:K):
  lookupV st kk z true (.map (some id)) (ek k)=some (.tup [((lk k l).map ev).getD z,.bool (lk k l).isSome]):=by
 rw[lookup_enc hk h,if_pos rfl];rfl
end
structure TreeAt (tid sid mid:Nat) (spare:List V) (es:List (Id×Int)) (r:Rl) (l:List Nd) (st:St):Prop where
 top:st tid=some (.cells (eRl r++[.hsl sid 0 108 l.length,.map (some mid)]))
 rows:st sid=some (.cells (rowsOf eNd l++spare))
 by_:st mid=some (.mp (encM kId kInt es))
 room:108∣spare.length
 look: ∀k,lk k es=(findM l k).map fun(i:Nat)=>(i:Int)
def TreeR (tid:Nat)(r:Rl)(l:List Nd)(st:St):Prop:=∃sid mid spare es,TreeAt tid sid mid spare es r l st
theorem TreeAt.sub {tid sid mid:Nat}{spare:List V}{es:List (Id×Int)}{r:Rl}{l:List Nd}{st st':St}(h:TreeAt tid sid mid spare es r l st)(hs:St.sub st st'):TreeAt tid sid mid spare es r l st':=
 ⟨hs _ _ h.top,hs _ _ h.rows,hs _ _ h.by_,h.room,h.look⟩
theorem TreeR.sub {tid:Nat}{r:Rl}{l:List Nd}{st st':St}(h:TreeR tid r l st)(hs:St.sub st st'):TreeR tid r l st':=by
 obtain⟨sid,mid,spare,es,h⟩:=h
 exact⟨sid,mid,spare,es,h.sub hs⟩
theorem tree_seg74 (r:Rl)(a b:V):segOf (eRl r++[a,b]) 74 1=some [a]:=by
 have h:=eRl_len r
 unfold segOf
 rw[if_pos (by simp[h]),←h,List.drop_left];rfl
theorem tree_seg75 (r:Rl)(a b:V):segOf (eRl r++[a,b]) 75 1=some [b]:=by
 have h:=eRl_len r
 unfold segOf
 rw[if_pos (by simp[h]),show 75=74+1 from rfl,←List.drop_drop,←h,List.drop_left];rfl
theorem tree_seg0 (r:Rl)(a b:V):segOf (eRl r++[a,b]) 0 74=some (eRl r):=by
 have h:=eRl_len r
 unfold segOf
 rw[if_pos (by simp[h]),List.drop_zero,←h,List.take_left]
theorem tree_limit (r:Rl)(a b:V):segOf (eRl r++[a,b]) 0 1=some [w32 r.limit]:=by
 unfold segOf;rw[if_pos (by simp)];rfl
theorem tree_every (r:Rl)(a b:V):segOf (eRl r++[a,b]) 1 1=some [.int .i64 r.every]:=by
 unfold segOf;rw[if_pos (by simp[eRl])];rfl
theorem tree_spacing (r:Rl)(a b:V):segOf (eRl r++[a,b]) 2 1=some [.int .i64 r.spacing]:=by
 unfold segOf;rw[if_pos (by simp[eRl])];rfl
section
variable {l:List Nd} {i:Nat} {spare:List V}
theorem nd_part (hi:i<l.length){o n:Nat}(h:o+n≤108):segOf (rowsOf eNd l++spare) (i*108+o) n=some (((eNd l[i]).drop o).take n):=rowsOf_part eNd_len l spare hi h
theorem nd_all (hi:i<l.length):segOf (rowsOf eNd l++spare) (i*108) 108=some (eNd l[i]):=rowsOf_seg eNd_len l spare hi
theorem nd_par (hi:i<l.length):segOf (rowsOf eNd l++spare) (i*108+100) 1=some [.int .i64 l[i].parent]:=by rw[nd_part hi (by omega),nsegPar]
theorem nd_skip (hi:i<l.length):segOf (rowsOf eNd l++spare) (i*108+101) 1=some [.int .i64 l[i].skip]:=by rw[nd_part hi (by omega),nsegSkip]
theorem nd_hgt (hi:i<l.length):segOf (rowsOf eNd l++spare) (i*108+102) 1=some [.int .i64 l[i].height]:=by rw[nd_part hi (by omega),nsegHgt]
theorem nd_fail (hi:i<l.length):segOf (rowsOf eNd l++spare) (i*108+107) 1=some [.bool l[i].failed]:=by rw[nd_part hi (by omega),nsegFail]
theorem nd_time (hi:i<l.length):segOf (rowsOf eNd l++spare) (i*108+65) 1=some [w32 l[i].hdr.time]:=by rw[nd_part hi (by omega),nsegTime]
theorem hgt_at (hi:i<l.length):hgt l i=l[i].height:=by simp[hgt,hi]
theorem par_at (hi:i<l.length):par l i=l[i].parent.toNat:=by simp[par,hi]
end
theorem bits_and_nat {a b:Nat}(ha:a<2 ^ 62)(hb:b<2 ^ 62):bits .and .i64 (a:Int) (b:Int)=((a &&& b:Nat):Int):=by
 have h1:BitVec.ofInt IntKind.i64.bits (a:Int)=BitVec.ofNat 64 a:=BitVec.ofInt_natCast _ _
 have h2:BitVec.ofInt IntKind.i64.bits (b:Int)=BitVec.ofNat 64 b:=BitVec.ofInt_natCast _ _
 have h3:a &&& b≤a:=Nat.and_le_left
 unfold bits
 rw[h1,h2]
 show IntKind.i64.wrap (((BitVec.ofNat 64 a &&& BitVec.ofNat 64 b).toNat:Nat):Int)=_
 rw[BitVec.toNat_and,BitVec.toNat_ofNat,BitVec.toNat_ofNat,Nat.mod_eq_of_lt (by omega),Nat.mod_eq_of_lt (by omega)]
 exact wrap64 (by omega) (by omega)
section
variable {P:Program} {F:Fn}
theorem spec157 (ok:OkIndex P F)(st:St)(h:Nat)(hh:h<2 ^ 61):ACalls P (F 157) [.int .i64 (h:Nat)] st fun v st'=>v=.int .i64 (skipH h:Nat)∧st'=st:=by
 refine shows_call ok.mixed ok.h157 (by simp[k157]) ?_
 simp only[k157]
 by_cases h2:h<2
 ·have e:skipH h=0:=by simp[skipH,h2]
  have:(h:Int)<2:=by omega
  simp[this,e]
 ·obtain⟨m,rfl⟩: ∃m,h=m+2:=⟨h-2,by omega⟩
  have a1:¬((m:Int)+2<2):=by omega
  have w1:IntKind.i64.wrap ((m:Int)+2-1)=((m+1:Nat):Int):=by rw[wrap64 (by omega) (by omega)];omega
  have w2:IntKind.i64.wrap (m:Int)=(m:Int):=wrap64 (by omega) (by omega)
  have b1:bits .and .i64 ((m+1:Nat):Int) (m:Int)=((m+1 &&& m:Nat):Int):=bits_and_nat (by omega) (by omega)
  have b2:bits .and .i64 ((m:Int)+2) ((m+1:Nat):Int)=((m+2 &&& m+1:Nat):Int):=by
   have:=bits_and_nat (a:=m+2) (b:=m+1) (by omega) (by omega)
   rw[←this]
   congr 1
  have l1:m+1 &&& m≤m:=Nat.and_le_right
  have w3:IntKind.i64.wrap ((m+1 &&& m:Nat)+1)=((m+1 &&& m:Nat):Int)+1:=wrap64 (by omega) (by omega)
  obtain⟨A,hA⟩: ∃A,A=(m+1 &&& m):=⟨_,rfl⟩
  obtain⟨B,hB⟩: ∃B,B=(m+2 &&& m+1):=⟨_,rfl⟩
  obtain⟨M,hM⟩: ∃M,M=((m+1:Nat):Int):=⟨_,rfl⟩
  rw[←hA]at b1 w3
  rw[←hB]at b2
  rw[←hM]at w1 b1 b2
  have es:skipH (m+2)=if m % 2=1 then A+1 else B:=by
   unfold skipH
   rw[if_neg h2,hA,hB]
   have:(m+2) % 2=m % 2:=by omega
   rw[this]
   rfl
  have em:((m:Int)+2) % 2=((m % 2:Nat):Int):=by omega
  have e2:((m:Int)+2).tmod 2=((m % 2:Nat):Int):=by rw[Int.tmod_eq_emod_of_nonneg (by omega)];exact em
  have hm2:m % 2<2:=Nat.mod_lt _ (by omega)
  have wr:IntKind.i64.wrap (((m % 2:Nat)):Int)=((m % 2:Nat):Int):=wrap64 (by omega) (by omega)
  obtain⟨R,hR⟩: ∃R,R=m % 2:=⟨_,rfl⟩
  rw[←hR]at es em e2 wr hm2
  rw[es]
  by_cases hm:R=1
  ·subst hm
   simp[a1,em,e2,wr,w1,w2,b1,w3]
  ·have hz:R=0:=by omega
   subst hz
   simp[a1,em,e2,wr,w1,w2,b2,hm]
theorem spec159 (ok:OkIndex P F){st:St}{tid:Nat}{r:Rl}{l:List Nd}(h:TreeR tid r l st):ACalls P (F 159) [.ptr (some (tid,0))] st fun v st'=>v=.int .i64 (l.length:Nat)∧st'=st:=by
 obtain⟨sid,mid,spare,es,h⟩:=h
 refine shows_call ok.mixed ok.h159 (by simp[k159]) ?_
 simp only[k159]
 simp[St.seg,h.top,tree_seg74]
theorem nd_at {l:List Nd}{j:Nat}(hj:j<l.length):nd l j=l[j]:=by simp[nd,hj]
def inI (l:List Nd)(i:Int):Nat:=if i<0∨(l.length:Int)≤i then 0 else i.toNat
theorem spec161 (ok:OkIndex P F){st:St}{tid:Nat}{r:Rl}{l:List Nd}(h:TreeR tid r l st)(w:Wf l)(i:Int):ACalls P (F 161) [.ptr (some (tid,0)),.int .i64 i] st fun v st'=>v=.agg (eNd (nd l (inI l i)))∧st'=st:=by
 obtain⟨sid,mid,spare,es,h⟩:=h
 refine shows_call ok.mixed ok.h161 (by simp[k161]) ?_
 simp only[k161]
 simp
 intro i4 h4
 have hz:z108_9b14.length=108:=rfl
 have hsp: ∀x,spliceV z108_9b14 0 (eNd x)=eNd x:=fun x=>by simp[spliceV,eNd_len,hz]
 have hst: ∀(x:Nd),storeS (st.upd i4 (.cells z108_9b14)) 108 (.ptr (some (i4,0))) (.agg (eNd x))=some (st.upd i4 (.cells (eNd x))):=fun x=>by
  simp[storeS,eNd_len,hsp,hz]
 have hall': ∀x,segOf (eNd x) 0 108=some (eNd x):=fun x=>by
  unfold segOf
  rw[if_pos (by rw[eNd_len];omega),List.drop_zero,←eNd_len x,List.take_length]
 have h':=h.sub (sub_upd (o:=.cells z108_9b14) h4)
 generalize hst1:st.upd i4 (.cells z108_9b14)=st1 at h' hst⊢
 have o1:=h'.top
 have o2:=h'.rows
 simp[St.seg,o1,tree_seg74]
 have hl0:=w.ne
 have hsub: ∀x,St.sub st (st.upd i4 (.cells x)):=fun x=>sub_upd h4
 by_cases h1:i<0
 ·have e:inI l i=0:=by simp[inI,h1]
  have hall:=nd_all (spare:=spare) hl0
  simp at hall
  rw[e,nd_at hl0]
  simp[h1,e,hl0,o1,o2,hall,hst,St.seg,hall',hsub,tree_seg74]
 ·by_cases h2:(l.length:Int)≤i
  ·have e:inI l i=0:=by simp[inI,h2]
   have hall:=nd_all (spare:=spare) hl0
   simp at hall
   rw[e,nd_at hl0]
   simp[h1,h2,e,hl0,o1,o2,hall,hst,St.seg,hall',hsub,tree_seg74]
  ·obtain⟨n,rfl⟩: ∃n:Nat,i=n:=⟨i.toNat,by omega⟩
   have hn:n<l.length:=by omega
   have e:inI l n=n:=by simp[inI];omega
   have e2:¬l.length≤n:=by omega
   have hall:=nd_all (spare:=spare) hn
   rw[e,nd_at hn]
   simp[h1,e,e2,hn,o1,o2,hall,hst,St.seg,hall',hsub,tree_seg74]
theorem anc_step {l:List Nd}(w:Wf l){i h:Nat}(hi:i<l.length)(hh:h<hgt l i):
  ∃p s,l[i].parent=(p:Nat)∧l[i].skip=s∧p<i∧s≤p∧anc l p h=anc l i h∧h≤hgt l p∧(h≤hgt l s→anc l s h=anc l i h)∧s<l.length:=by
 have hp:=w.pos_of_hgt (i:=i) (by omega)
 have e:=List.getElem?_eq_getElem hi
 obtain⟨a,b,c⟩:=w.succ i _ hp e
 have d:=w.skip i _ hp e
 have hgi:=hgt_at hi
 refine⟨par l i,l[i].skip,?_,rfl,w.par_lt hp hi,?_,(w.anc_par hi hh).symm,?_,?_,?_⟩
 ·rw[par_at hi];omega
 ·rw[d,par_at hi];exact w.anc_le (by omega)
 ·have:=w.hgt_par hp hi;omega
 ·intro hs
  have hpp:=w.hgt_par hp hi
  have hlt:=w.par_lt hp hi
  have hk:=skipH_lt (h:=l[i].height) (by omega)
  have e2:l[i].skip=anc l (par l i) (skipH l[i].height):=by rw[d,par_at hi]
  rw[e2]at hs⊢
  have hh2:skipH l[i].height≤hgt l (par l i):=by omega
  rw[w.anc_hgt (by omega) hh2]at hs
  rw[w.anc_anc (by omega) hs hh2,←w.anc_par hi hh]
 ·have:=w.anc_lt (i:=l[i].parent.toNat) (h:=skipH l[i].height) (by omega)
  rw[d];exact this
theorem spec158 (ok:OkIndex P F){st:St}{tid:Nat}{r:Rl}{l:List Nd}(h:TreeR tid r l st)(w:Wf l)(i k:Int):ACalls P (F 158) [.ptr (some (tid,0)),.int .i64 i,.int .i64 k] st fun v st'=>v=.int .i64 (ancI l i k)∧st'=st:=by
 obtain⟨sid,mid,spare,es,h⟩:=h
 refine shows_call ok.mixed ok.h158 (by simp[k158]) ?_
 simp only[k158]
 have o1:=h.top
 have o2:=h.rows
 by_cases h1:i<0
 ·simp[h1,ancI]
 ·by_cases h2:(l.length:Int)≤i
  ·simp[h1,h2,ancI,St.seg,o1,tree_seg74]
  ·obtain⟨n,rfl⟩: ∃n:Nat,i=n:=⟨i.toNat,by omega⟩
   have hn:n<l.length:=by omega
   have e2:¬l.length≤n:=by omega
   by_cases h3:k<0
   ·simp[h1,h3,ancI,St.seg,o1,tree_seg74,e2]
   ·obtain⟨m,rfl⟩: ∃m:Nat,k=m:=⟨k.toNat,by omega⟩
    have eh:=hgt_at hn
    by_cases h4:l[n].height<m
    ·have:hgt l n<m:=by omega
     simp[h1,h3,ancI,St.seg,o1,o2,tree_seg74,e2,hn,nd_hgt hn,h4,this]
    ·have h4':¬hgt l n<m:=by omega
     have ea:ancI l n m=(anc l n m:Nat):=by simp[ancI,e2,h4',h1,h3]
     rw[ea]
     simp[h1,h3,St.seg,o1,o2,tree_seg74,e2,hn,nd_hgt hn,h4]
     refine vc_loopJ (fun c env' st'=>∃j,j=c∧j<l.length∧m≤hgt l j∧anc l j m=anc l n m∧env' 1=.int .i64 (j:Nat)∧st'=st) n ⟨n,rfl,hn,by omega,rfl,rfl,rfl⟩ ?_
     rintro J hJ c env' st2 hsame ⟨j,rfl,hj,hm,he,g1,rfl⟩
     have g0:=hsame.get 0 rfl
     have g2:=hsame.get 2 rfl
     simp at g0 g2
     clear hsame
     have ej:=hgt_at hj
     by_cases hlt:m<l[j].height
     ·obtain⟨p,s,p1,p2,p3,p4,p5,p6,p7,p8⟩:=anc_step w hj (h:=m) (by omega)
      have hp:p<l.length:=by omega
      have es:=hgt_at p8
      simp[g0,g1,g2,St.seg,o1,o2,tree_seg74,hj,nd_hgt hj,hlt,nd_skip hj,nd_par hj,p2,p8,nd_hgt p8]
      by_cases hs:m≤l[s].height
      ·simp[hs]
       exact Round.mk s _ (by omega) (sub_self _) (hJ _ _ _ ⟨s,rfl,p8,by omega,by rw[p7 (by omega),he],by simp,rfl⟩)
      ·simp[hs,g0,g1,g2,St.seg,o1,o2,tree_seg74,hj,nd_par hj,p1]
       exact Round.mk p _ (by omega) (sub_self _) (hJ _ _ _ ⟨p,rfl,hp,p6,by rw[p5,he],by simp,rfl⟩)
     ·have hm':hgt l j=m:=by omega
      have:anc l n m=j:=by rw[←he,←hm'];exact anc_self j
      simp[g0,g1,g2,St.seg,o1,o2,tree_seg74,hj,nd_hgt hj,hlt,this]
theorem spec163 (ok:OkIndex P F){st:St}{tid:Nat}{r:Rl}{l:List Nd}(h:TreeR tid r l st)(w:Wf l)(i tip:Int):ACalls P (F 163) [.ptr (some (tid,0)),.int .i64 i,.int .i64 tip] st fun v st'=>v=.bool (onB l i tip)∧st'=st:=by
 obtain⟨sid,mid,spare,es,h⟩:=h
 refine shows_call ok.mixed ok.h163 (by simp[k163]) ?_
 simp only[k163]
 have o1:=h.top
 have o2:=h.rows
 by_cases h1:0≤i
 ·by_cases h2:i< (l.length:Int)
  ·obtain⟨n,rfl⟩: ∃n:Nat,i=n:=⟨i.toNat,by omega⟩
   have hn:n<l.length:=by omega
   have eh:=hgt_at hn
   simp[St.seg,o1,o2,tree_seg74,hn,nd_hgt hn]
   refine(spec158 ok ⟨sid,mid,spare,es,h⟩ w tip (l[n].height:Nat)).mono ?_
   rintro v st' ⟨rfl,rfl⟩
   simp[onB,hn,eh]
  ·simp[h1,h2,onB,St.seg,o1,tree_seg74]
 ·simp[h1,onB]
end
def e32 (x:W32):List V:=[w32 x]
theorem e32_len (x:W32):(e32 x).length=1:=rfl
def UpTo (m:List W32)(i:Nat):Prop:=∀a b,a<b→b<i→m.getD a 0≤m.getD b 0
def UpBut (m:List W32)(i j:Nat):Prop:=(∀a b,a<b→b≤i→a≠j→b≠j→m.getD a 0≤m.getD b 0)∧∀k,j<k→k≤i→m.getD j 0≤m.getD k 0
theorem upBut_start {m:List W32}{i:Nat}(h:UpTo m i):UpBut m i i:=⟨fun a b h1 h2 h3 h4=>h a b h1 (by omega),fun k h1 h2=>by omega⟩
theorem upBut_end {m:List W32}{i j:Nat}(h:UpBut m i j)(hj:j=0∨m.getD (j-1) 0≤m.getD j 0)(hji:j≤i):UpTo m (i+1):=by
 intro a b h1 h2
 by_cases ha:a=j
 ·subst ha;exact h.2 b h1 (by omega)
 ·by_cases hb:b=j
  ·subst hb
   rcases hj with hj | hj
   ·omega
   ·by_cases e:a=b-1
    ·rw[e];exact hj
    ·exact Nat.le_trans (h.1 a (b-1) (by omega) (by omega) ha (by omega)) hj
  ·exact h.1 a b h1 (by omega) ha hb
theorem getD_swap {m:List W32}{j:Nat}(h0:0<j)(hj:j<m.length)(k:Nat):((m.set j (m.getD (j-1) 0)).set (j-1) (m.getD j 0)).getD k 0=if k=j then m.getD (j-1) 0 else if k=j-1 then m.getD j 0 else m.getD k 0:=by
 simp only[List.getD_eq_getElem?_getD,List.getElem?_set,List.length_set]
 by_cases h1:k=j
 ·subst h1
  simp[show¬(k-1=k) by omega,hj]
 ·by_cases h2:k=j-1
  ·subst h2
   simp[h1,show j-1<m.length by omega]
  ·simp[h1,h2,Ne.symm h1,Ne.symm h2]
theorem upBut_step {m:List W32}{i j:Nat}(h:UpBut m i j)(h0:0<j)(hj:j<m.length)(hji:j≤i)(hlt:m.getD j 0<m.getD (j-1) 0):
  UpBut ((m.set j (m.getD (j-1) 0)).set (j-1) (m.getD j 0)) i (j-1):=by
 have hle:m.getD j 0≤m.getD (j-1) 0:=Nat.le_of_lt hlt
 refine⟨fun a b h1 h2 h3 h4=>?_,fun k h1 h2=>?_⟩
 ·rw[getD_swap h0 hj,getD_swap h0 hj,if_neg h3,if_neg h4]
  by_cases ha:a=j
  ·have hb:b≠j:=by omega
   rw[if_pos ha,if_neg hb]
   exact h.1 (j-1) b (by omega) h2 (by omega) hb
  ·rw[if_neg ha]
   by_cases hb:b=j
   ·rw[if_pos hb]
    exact h.1 a (j-1) (by omega) (by omega) ha (by omega)
   ·rw[if_neg hb]
    exact h.1 a b h1 h2 ha hb
 ·rw[getD_swap h0 hj,getD_swap h0 hj,if_neg (by omega),if_pos rfl]
  by_cases hk:k=j
  ·rw[if_pos hk];exact hle
  ·rw[if_neg hk,if_neg (by omega)]
   exact h.2 k (by omega) h2
theorem swap_perm {m:List W32}{j:Nat}(h0:0<j)(hj:j<m.length):((m.set j (m.getD (j-1) 0)).set (j-1) (m.getD j 0)).Perm m:=by
 have e1:m.getD (j-1) 0=m[j-1]:=by simp[show j-1<m.length by omega]
 have e2:m.getD j 0=m[j]:=by simp[hj]
 rw[e1,e2]
 exact List.set_set_perm hj (by omega)
theorem sorted_of {m l:List W32}(h:UpTo m m.length)(hp:m.Perm l):m=sorted32 l:=by
 have hm:m.Pairwise (fun a b=>decide (a≤b)=true):=by
  rw[List.pairwise_iff_getElem]
  intro a b ha hb hab
  have:=h a b hab hb
  simpa[ha,hb]using this
 have hs:(sorted32 l).Pairwise (fun a b=>decide (a≤b)=true):=by
  refine List.pairwise_mergeSort (fun a b c h1 h2=>?_) (fun a b=>?_) l
  ·simp at h1 h2⊢;exact Nat.le_trans h1 h2
  ·simp;exact Nat.le_total a.toNat b.toNat
 refine List.Perm.eq_of_pairwise (le:=fun a b=>decide (a≤b)=true) ?_ hm hs (hp.trans (List.mergeSort_perm l _).symm)
 intro a b _ _ h1 h2
 simp at h1 h2
 exact BitVec.eq_of_toNat_eq (Nat.le_antisymm h1 h2)
theorem sorted32_length (l:List W32):(sorted32 l).length=l.length:=(List.mergeSort_perm l _).length_eq
section
variable {P:Program} {F:Fn}
theorem spec182 (ok:OkIndex P F)(st:St)(x:W32):ACalls P (F 182) [w32 x] st fun v st'=>v=.bool false∧st'=st:=by
 refine shows_call ok.mixed ok.h182 (by simp[k182]) ?_
 simp only[k182]
 simp
theorem spec179 (ok:OkIndex P F)(st:St)(x y:W32):ACalls P (F 179) [w32 x,w32 y] st fun v st'=>v=.bool (decide (x<y))∧st'=st:=by
 refine shows_call ok.mixed ok.h179 (by simp[k179]) ?_
 simp only[k179]
 simp
 refine(spec182 ok st x).mono ?_
 rintro v st ⟨rfl,rfl⟩
 simp
theorem spec173 (ok:OkIndex P F){st:St}{sid:Nat}{l:List W32}{spare:List V}(h:st sid=some (.cells (rowsOf e32 l++spare)))(hl:l.length≤1000)(hne:l≠[]):
  ACalls P (F 173) [.hsl sid 0 1 l.length,.int .i64 0,.int .i64 (l.length:Nat)] st fun v st'=>v=.tup []∧st'=st.upd sid (.cells (rowsOf e32 (sorted32 l)++spare)):=by
 refine shows_call ok.mixed ok.h173 (by simp[k173]) ?_
 simp only[k173]
 simp
 refine vc_loopJ (fun c env' st'=>∃(i:Nat) (m:List W32),0<i∧i≤l.length∧c=l.length-i∧m.Perm l∧UpTo m i∧env' 6=.int .i64 (i:Nat)∧st'=st.upd sid (.cells (rowsOf e32 m++spare))) (l.length-1) ⟨1,l,by omega,?_,rfl,.refl _,?_,by simp,?_⟩ ?_
 ·have:=List.length_pos_iff.2 hne;omega
 ·intro a b h1 h2;omega
 ·funext q
  by_cases e:q=sid
  ·subst e;simp[h]
  ·simp[e]
 ·rintro J hJ c env' st2 hsame ⟨i,m,h0,hi,rfl,hp,hu,g6,rfl⟩
  have g0:=hsame.get 0 rfl
  have g1:=hsame.get 1 rfl
  have g2:=hsame.get 2 rfl
  simp at g0 g1 g2
  clear hsame
  have hml:=hp.length_eq
  by_cases hlt:i<l.length
  ·simp[g0,g1,g2,g6,hlt]
   refine vc_loopJ (fun c env' st'=>∃(j:Nat) (m':List W32),j≤i∧c=j∧m'.Perm l∧UpBut m' i j∧env' 7=.int .i64 (j:Nat)∧st'=st.upd sid (.cells (rowsOf e32 m'++spare))) i ⟨i,m,Nat.le_refl _,rfl,hp,upBut_start hu,by simp,rfl⟩ ?_
   clear hu hp hml m
   rintro J2 hJ2 j env2 st2 hsame ⟨_,m,hj,rfl,hp,hu,g7,rfl⟩
   have e0:=hsame.get 0 rfl
   have e1:=hsame.get 1 rfl
   have e2:=hsame.get 2 rfl
   have e6:=hsame.get 6 rfl
   simp[g0,g1,g2,g6]at e0 e1 e2 e6
   clear hsame
   have hml:=hp.length_eq
   by_cases hj0:0<j
   ·have hjl:j<m.length:=by omega
    obtain⟨j',hj'⟩: ∃k,k=j-1:=⟨_,rfl⟩
    have hjl':j'<m.length:=by omega
    have s1:=rowsOf_seg e32_len m spare hjl
    have s2:=rowsOf_seg e32_len m spare hjl'
    obtain⟨x,hx⟩: ∃x,x=m.getD j 0:=⟨_,rfl⟩
    obtain⟨y,hy⟩: ∃y,y=m.getD (j-1) 0:=⟨_,rfl⟩
    have d1:m[j]=x:=by rw[hx];simp[hjl]
    have d2:m[j']=y:=by rw[hy,←hj'];simp[hjl']
    rw[d1,Nat.mul_one]at s1
    rw[d2,Nat.mul_one]at s2
    have hw:IntKind.i64.wrap ((j:Int)-1)=(j':Int):=by rw[wrap64 (by omega) (by omega)];omega
    have hl1:j<l.length:=by omega
    have hl2:j'<l.length:=by omega
    have hr:(rowsOf e32 m).length=l.length:=by rw[rowsOf_length e32_len,hml,Nat.mul_one]
    have p1:=rowsOf_splice e32_len m spare hjl (o:=0) (vs:=[w32 y]) (by simp) (a:=y) (by rw[d1];rfl)
    have p2:=rowsOf_splice e32_len (m.set j y) spare (i:=j') (by simpa using hjl') (o:=0) (vs:=[w32 x]) (by simp) (a:=x) (by rw[List.getElem_set_ne (by omega),d2];rfl)
    rw[Nat.mul_one,Nat.add_zero]at p1 p2
    have hr2:(rowsOf e32 (m.set j y)).length=l.length:=by rw[rowsOf_length e32_len,List.length_set,hml,Nat.mul_one]
    have sh1:(e32 x)=[w32 x]:=rfl
    have sh2:(e32 y)=[w32 y]:=rfl
    rw[sh1]at s1
    rw[sh2]at s2
    simp[e0,e1,g7,hj0,hw,St.seg,s1,s2,hl1,hl2]
    refine(spec179 ok _ x y).mono ?_
    rintro v st3 ⟨rfl,rfl⟩
    by_cases hxy:x<y
    ·simp[hxy,e0,e1,g7,hj0,hw,St.seg,s1,s2,hl1,hl2,storeS,p1,p2,hr,hr2,show j+1≤l.length+spare.length by omega,show j'+1≤l.length+spare.length by omega]
     refine Round.mk j' _ (by omega) (sub_self _) (hJ2 _ _ _ ⟨j',_,by omega,rfl,(swap_perm hj0 hjl).trans hp,?_,by simp,?_⟩)
     ·rw[hj']
      exact upBut_step hu hj0 hjl hj (by rw[←hx,←hy];exact hxy)
     ·rw[←hx,←hy,←hj']
    ·have hle:y≤x:=Nat.le_of_not_lt hxy
     have hu2:=upBut_end hu (.inr (by rw[←hx,←hy];exact hle)) hj
     have hw6:IntKind.i64.wrap ((i:Int)+1)=(i:Int)+1:=wrap64 (by omega) (by omega)
     simp[hxy,e6,hw6]
     exact Round.mk (l.length-(i+1)) _ (by omega) (sub_self _) (hJ _ _ _ ⟨i+1,m,by omega,by omega,rfl,hp,hu2,by simp,rfl⟩)
   ·have hjz:j=0:=by omega
    subst hjz
    have hu2:=upBut_end hu (.inl rfl) (by omega)
    have hw6:IntKind.i64.wrap ((i:Int)+1)=(i:Int)+1:=wrap64 (by omega) (by omega)
    simp[e0,e1,g7,e6,hw6]
    exact Round.mk (l.length-(i+1)) _ (by omega) (sub_self _) (hJ _ _ _ ⟨i+1,m,by omega,by omega,rfl,hp,hu2,by simp,rfl⟩)
  ·have hil:i=l.length:=by omega
   have hs:m=sorted32 l:=sorted_of (by rw[hml,←hil];exact hu) hp
   simp[g0,g1,g2,g6,hlt,hs]
theorem spec172 (ok:OkIndex P F){st:St}{sid:Nat}{l:List W32}{spare:List V}(h:st sid=some (.cells (rowsOf e32 l++spare)))(hl:l.length≤12)(hne:l≠[])(k:Int):
  ACalls P (F 172) [.hsl sid 0 1 l.length,.int .i64 0,.int .i64 (l.length:Nat),.int .i64 k] st fun v st'=>v=.tup []∧st'=st.upd sid (.cells (rowsOf e32 (sorted32 l)++spare)):=by
 refine shows_call ok.mixed ok.h172 (by simp[k172]) ?_
 simp only[k172]
 simp
 refine vc_unroll 1 ?_
 have hw:IntKind.i64.wrap (l.length:Int)=(l.length:Int):=wrap64 (by omega) (by omega)
 have h12:(l.length:Int)≤12:=by omega
 simp[unr_succ,hw,h12]
 refine(spec173 ok h (by omega) hne).mono ?_
 rintro v st' ⟨rfl,rfl⟩
 simp
theorem spec171 (ok:OkIndex P F)(st:St)(x:W):ACalls P (F 171) [w64 x] st fun v st'=>v=.int .i64 (bitlen x.toNat)∧st'=st:=by
 refine shows_call ok.mixed ok.h171 (by simp[k171]) ?_
 simp only[k171]
 simp
 refine(spec115 ok.toOkHead.toOkNum st x).mono ?_
 rintro v st' ⟨rfl,rfl⟩
 simp
theorem spec165 (ok:OkIndex P F){st:St}{sid:Nat}{l:List W32}{spare:List V}(h:st sid=some (.cells (rowsOf e32 l++spare)))(hl:l.length≤12)(hne:l≠[]):
  ACalls P (F 165) [.hsl sid 0 1 l.length] st fun v st'=>v=.tup []∧st'=st.upd sid (.cells (rowsOf e32 (sorted32 l)++spare)):=by
 refine shows_call ok.mixed ok.h165 (by simp[k165]) ?_
 simp only[k165]
 have hc:convV .u64 (.int .i64 (l.length:Nat))=some (w64 (BitVec.ofNat 64 l.length)):=by
  rw[conv_i_64];congr 2
 simp[-conv_i_64,hc]
 refine(spec171 ok st _).mono ?_
 rintro v st' ⟨rfl,rfl⟩
 simp
 refine(spec172 ok h hl hne _).mono ?_
 rintro v st' ⟨rfl,rfl⟩
 simp
theorem spec164 (ok:OkIndex P F){st:St}{sid:Nat}{l:List W32}{spare:List V}(h:st sid=some (.cells (rowsOf e32 l++spare)))(hl:l.length≤12)(hne:l≠[]):
  ACalls P (F 164) [.hsl sid 0 1 l.length] st fun v st'=>v=w32 (middle32 l)∧st'=st.upd sid (.cells (rowsOf e32 (sorted32 l)++spare)):=by
 refine shows_call ok.mixed ok.h164 (by simp[k164]) ?_
 simp only[k164]
 simp
 refine(spec165 ok h hl hne).mono ?_
 rintro v st' ⟨rfl,rfl⟩
 have hpos:=List.length_pos_iff.2 hne
 have hd:(l.length:Int).tdiv 2=((l.length / 2:Nat):Int):=by rw[Int.tdiv_eq_ediv_of_nonneg (by omega)];omega
 have hw:IntKind.i64.wrap ((l.length:Int) / 2)=((l.length / 2:Nat):Int):=by rw[wrap64 (by omega) (by omega)];omega
 have hlt:l.length / 2< (sorted32 l).length:=by rw[sorted32_length];omega
 have hs:=rowsOf_seg e32_len (sorted32 l) spare hlt
 have hm:(sorted32 l)[l.length / 2]=middle32 l:=by simp[middle32,hlt]
 rw[hm,Nat.mul_one,show e32 (middle32 l)=[w32 (middle32 l)]from rfl]at hs
 obtain⟨k,hk⟩: ∃k,k=l.length / 2:=⟨_,rfl⟩
 rw[←hk]at hd hw hs
 have hkl:k<l.length:=by omega
 simp[hw,hkl,St.seg,hs]
end
theorem hf8 (b:UInt8):fillV (repV [w8 0] 1) [(0,1,w8 b)]=some (rowsOf e8 [b]):=rfl
theorem hs8 (st:St)(b:UInt8):toStrV st (.sl .full (e8 b) 1)=some (sB [b]):=toStr_sB (.inl ⟨.full,rfl⟩) (by simp)
theorem splice_right {a t vs:List V}{n k:Nat}(ha:a.length=n):spliceV (a++t) (n+k) vs=a++spliceV t k vs:=by
 subst ha
 unfold spliceV
 rw[List.take_length_add_append,Nat.add_assoc,List.drop_length_add_append]
 simp only[List.append_assoc]
def eNpre (x:Nd):List V:=eHdr x.hdr++eId x.id
theorem eNpre_len (x:Nd):(eNpre x).length=100:=by simp[eNpre,eHdr_len,eId_len]
theorem eNd_pre (x:Nd):eNd x=eNpre x++(.int .i64 x.parent::.int .i64 x.skip::.int .i64 x.height::(eU (natU x.work)++[.bool x.failed])):=by simp[eNd,eNpre]
theorem spl_hdr (x:Nd)(h:Hdr):spliceV (eNd x) 0 (eHdr h)=eNd {x with hdr:=h}:=by
 unfold spliceV
 rw[List.take_zero,List.nil_append,Nat.zero_add,eHdr_len,eNd_drop68];rfl
theorem spl_id (x:Nd)(i:Id):spliceV (eNd x) 68 (eId i)=eNd {x with id:=i}:=by
 rw[eNd,show 68=68+0 from rfl,splice_right (eHdr_len _)]
 unfold spliceV
 rw[List.take_zero,List.nil_append,Nat.zero_add,show(eId i).length=(eId x.id).length by rw[eId_len,eId_len],List.drop_left];rfl
theorem spl_par (x:Nd)(n:Int):spliceV (eNd x) 100 [.int .i64 n]=eNd {x with parent:=n}:=by
 rw[eNd_pre,show 100=100+0 from rfl,splice_right (eNpre_len _),eNd_pre];rfl
theorem spl_skip (x:Nd)(n:Nat):spliceV (eNd x) 101 [.int .i64 n]=eNd {x with skip:=n}:=by
 rw[eNd_pre,show 101=100+1 from rfl,splice_right (eNpre_len _),eNd_pre];rfl
theorem spl_hgt (x:Nd)(n:Nat):spliceV (eNd x) 102 [.int .i64 n]=eNd {x with height:=n}:=by
 rw[eNd_pre,show 102=100+2 from rfl,splice_right (eNpre_len _),eNd_pre];rfl
theorem spl_work (x:Nd)(n:Nat):spliceV (eNd x) 103 (eU (natU n))=eNd {x with work:=n}:=by
 rw[eNd_pre,show 103=100+3 from rfl,splice_right (eNpre_len _),eNd_pre];rfl
theorem spl_fail (x:Nd)(b:Bool):spliceV (eNd x) 107 [.bool b]=eNd {x with failed:=b}:=by
 rw[eNd_pre,show 107=100+7 from rfl,splice_right (eNpre_len _),eNd_pre];rfl
def nd0:Nd:=⟨hdr0,id0,0,0,0,0,false⟩
theorem z108_eq:z108_9b14=eNd nd0:=by
 have:eU (natU 0)=[w64 0,w64 0,w64 0,w64 0]:=by rw[eU_zero0];rfl
 rw[eNd,show nd0.work=0 from rfl,this];rfl
theorem seg_of_take {cs ys:List V}{o n:Nat}(h:((cs.drop o).take n)=ys)(hl:o+n≤cs.length):segOf cs o n=some ys:=by
 unfold segOf
 rw[if_pos hl,h]
theorem osegAll (x:Nd):segOf (eNd x) 0 108=some (eNd x):=by
 refine seg_of_take ?_ (by rw[eNd_len];omega)
 rw[List.drop_zero,←eNd_len x,List.take_length]
theorem osegId (x:Nd):segOf (eNd x) 68 32=some (eId x.id):=seg_of_take (nsegId x) (by rw[eNd_len];omega)
theorem osegHgt (x:Nd):segOf (eNd x) 102 1=some [.int .i64 x.height]:=seg_of_take (nsegHgt x) (by rw[eNd_len];omega)
theorem osegWork (x:Nd):segOf (eNd x) 103 4=some (eU (natU x.work)):=seg_of_take (nsegWork x) (by rw[eNd_len];omega)
theorem osegTime (x:Nd):segOf (eNd x) 65 1=some [w32 x.hdr.time]:=seg_of_take (nsegTime x) (by rw[eNd_len];omega)
theorem osegBits (x:Nd):segOf (eNd x) 66 1=some [w32 x.hdr.bits]:=seg_of_take (nsegBits x) (by rw[eNd_len];omega)
def TreeS (tid:Nat)(r:Rl)(l:List Nd):Asn:=fun h=>∃s mid es,Sep [Sl 108 eNd s l,pt tid (.cells (eRl r++[s,.map (some mid)])),pt mid (.mp (encM kId kInt es))] h∧∀k,lk k es=(findM l k).map fun(i:Nat)=>(i:Int)
theorem TreeS.toR {tid:Nat}{r:Rl}{l:List Nd}{st:St}(h:TreeS tid r l st)(hl:l≠[]):TreeR tid r l st:=by
 obtain⟨s,mid,es,S,hk⟩:=h
 obtain⟨sid,spare,rfl,hs,S⟩:=S.slObj hl
 exact⟨sid,mid,spare,es,S.mem (i:=tid) (by simp),S.get,S.mem (i:=mid) (by simp),hs,hk⟩
theorem Sep.treeR {tid:Nat}{r:Rl}{l:List Nd}{L:List Asn}{st:St}(h:Sep (TreeS tid r l::L) st)(hl:l≠[]):TreeR tid r l st:=by
 obtain⟨h',h1,h2⟩:=h.part
 exact(h2.toR hl).sub h1
theorem splice74 (r:Rl)(a b c:V):spliceV (eRl r++[a,b]) 74 [c]=eRl r++[c,b]:=by
 rw[show 74=74+0 from rfl,splice_right (eRl_len r)];rfl
def putM (l:List Nd)(h:Hdr)(p:Int):Nd:=if p<0 then⟨h,hId h,p,0,0,workN ((tgt h.bits).getD 0),false⟩else ndOf l h p.toNat
theorem natU_add (a b:Nat):BitVec.ofNat 256 (sumU [natU a,natU b])=natU (a+b):=by
 apply BitVec.eq_of_toNat_eq
 simp[sumU,natU]
theorem tgtR_get (b:W32):tgtR b=.tup [nU (natU ((tgt b).getD 0)),.bool (tgt b).isSome]∧(natU ((tgt b).getD 0)).toNat=(tgt b).getD 0:=by
 unfold tgtR
 cases h:tgt b with
 | none=>exact⟨rfl,rfl⟩
 | some t=>exact⟨rfl,natU_nat (tgt_lt h).2⟩
section
variable {P:Program} {F:Fn}
set_option maxHeartbeats 2000000 in
theorem spec156 (ok:OkIndex P F){tid:Nat}{r:Rl}{l:List Nd}{g:St}(T:TreeS tid r l g)(w:l≠[]→Wf l)(hl:l.length≤16384)(h:Hdr)(p:Int)(hp:p=-1∨(0≤p∧p<l.length)):
  ACalls P (F 156) [.ptr (some (tid,0)),.agg (eHdr h),.int .i64 p] g fun v st'=>v=.int .i64 (l.length:Nat)∧TreeS tid r (l++[putM l h p]) st':=by
 have okh:=ok.toOkHead
 have okn:=okh.toOkNum
 obtain⟨s,mid,es,S,hlk⟩:=T
 refine shows_call ok.mixed ok.h156 (by simp[k156]) ?_
 simp only[k156,z108_eq,eU_zero0]
 simp
 intro i4 h4
 have S:=S.new h4 (.cells (eHdr h))
 generalize g.upd i4 _=st1 at S⊢
 have o4:=S.get
 have hfl:fillV (eNd nd0) [(0,68,.agg (eHdr h)),(68,32,.agg (eId (hId h))),(100,1,.int .i64 p)]=some (eNd {nd0 with hdr:=h,id:=hId h,parent:=p}):=by
  simp[fillV,eHdr_len,eId_len,eNd_len,spl_hdr,spl_id,spl_par]
 simp[St.seg,o4,hsegAll]
 refine⟨_,spec141 okh st1 h,?_⟩
 simp[hfl]
 intro i7 h7
 have S:=S.new h7 (.cells (eNd nd0))
 have hsp: ∀x y,spliceV (eNd x) 0 (eNd y)=eNd y:=fun x y=>by simp[spliceV,eNd_len]
 simp[storeS,eNd_len,hsp]
 have S:=S.setAt (.cells (eNd {nd0 with hdr:=h,id:=hId h,parent:=p})) 0 rfl
 simp at S
 generalize st1.upd i7 _=st2 at S⊢
 have o4:=S.mem (i:=i4) (o:=.cells (eHdr h)) (by simp)
 simp[St.seg,o4,hsegBits]
 refine(spec135 okh st2 h.bits).mono ?_
 rintro v st2 ⟨rfl,rfl⟩
 obtain⟨hA1,hA2⟩:=tgtR_get h.bits
 rw[hA1]
 obtain⟨T,hT⟩: ∃T,T=(tgt h.bits).getD 0:=⟨_,rfl⟩
 rw[←hT]at hA2⊢
 have hspU: ∀x y:U,spliceV (eU x) 0 (eU y)=eU y:=fun _ _=>rfl
 simp
 intro i8 h8
 have S:=S.new h8 (.cells (eU 0#256))
 simp[storeS,nU,eU_len,hspU]
 have S:=S.setAt (.cells (eU (natU T))) 0 rfl
 simp at S
 generalize st2.upd i8 _=st3 at S⊢
 have o8:=S.get
 have o7:=S.mem (i:=i7) (o:=.cells (eNd {nd0 with hdr:=h,id:=hId h,parent:=p})) (by simp)
 simp[St.seg,o8,segU]
 refine(spec137 okh st3 (natU T)).mono ?_
 rintro v st3 ⟨rfl,rfl⟩
 rw[hA2]
 obtain⟨W,hW⟩: ∃W,W=workN T:=⟨_,rfl⟩
 rw[←hW]
 have S:=S.setAt (.cells (eNd {nd0 with hdr:=h,id:=hId h,parent:=p,work:=W})) 1 rfl
 simp[storeS,o7,nU,eU_len,eNd_len,spl_work]
 simp at S
 generalize st3.upd i7 _=st4 at S⊢
 refine condB_join (fun env' st'=>env' 0=.ptr (some (tid,0))∧env' 7=.ptr (some (i7,0))∧Sep [pt i7 (.cells (eNd (putM l h p))),Sl 108 eNd s l,pt tid (.cells (eRl r++[s,.map (some mid)])),pt mid (.mp (encM kId kInt es))] st') ?_ ?_
 ·rcases hp with rfl | ⟨hp1,hp2⟩
  ·have e:putM l h (-1)={nd0 with hdr:=h,id:=hId h,parent:=-1,work:=W}:=by
     simp[putM,hW,hT,nd0]
   simp
   rw[e]
   exact Sep.tail (fun r hr=>hr.drop) S.drop
  ·obtain⟨q,rfl⟩: ∃q:Nat,p=q:=⟨p.toNat,by omega⟩
   have hq:q<l.length:=by omega
   have hne:l≠[]:=by rintro rfl;simp at hq
   have w:=w hne
   obtain⟨sid,spare,rfl,hsp1,S⟩:=(S.pull 3).slObj hne
   have TR:TreeAt tid sid mid spare es r l st4:=⟨S.mem (i:=tid) (by simp),S.get,S.mem (i:=mid) (by simp),hsp1,hlk⟩
   obtain⟨x1,hx1⟩: ∃x1:Nd,x1={nd0 with hdr:=h,id:=hId h,parent:=(q:Int),work:=W}:=⟨_,rfl⟩
   have f1:x1.work=W:=by rw[hx1]
   have f2:putM l h q={x1 with height:=hgt l q+1,work:=W+(nd l q).work,skip:=anc l q (skipH (hgt l q+1))}:=by
    rw[hx1];simp[putM,ndOf,hW,hT,nd0]
   rw[←hx1]at S
   clear hx1
   have o2:=TR.rows
   have o1:=TR.top
   have o7:=S.mem (i:=i7) (o:=.cells (eNd x1)) (by simp)
   have hg:=hgt_at hq
   have hgl:=w.hgt_le hq
   have hqi:(q:Int)<l.length:=by omega
   simp[St.seg,o1,o2,tree_seg74,hq,nd_all hq]
   intro i10 h10
   have S:=S.new h10 (.cells (eNd nd0))
   simp[storeS,eNd_len,hsp]
   have S:=S.setAt (.cells (eNd l[q])) 0 rfl
   simp at S
   generalize st4.upd i10 _=st5 at S⊢
   have o10:=S.get
   have o7:=S.mem (i:=i7) (o:=.cells (eNd x1)) (by simp)
   obtain⟨H,hH⟩: ∃H,H=l[q].height:=⟨_,rfl⟩
   obtain⟨pw,hpw⟩: ∃n,n=l[q].work:=⟨_,rfl⟩
   have hoH:=osegHgt l[q]
   have hoW:=osegWork l[q]
   rw[nd_at hq,hg]at f2
   rw[←hH]at hoH f2 hg
   rw[←hpw]at hoW f2
   have hw1:IntKind.i64.wrap ((H:Int)+1)=(H:Int)+1:=wrap64 (by omega) (by omega)
   obtain⟨x2,e1,e2,e3,f2⟩: ∃x2:Nd,spliceV (eNd x1) 102 [.int .i64 ((H:Int)+1)]=eNd x2∧x2.work=W∧x2.height=H+1∧putM l h q={x2 with work:=W+pw,skip:=anc l q (skipH (H+1))}:=⟨_,spl_hgt x1 (H+1),f1,rfl,f2⟩
   simp[storeS,St.seg,o10,o7,hoH,hw1,eNd_len,e1]
   have S:=S.setAt (.cells (eNd x2)) 3 rfl
   simp at S
   generalize st5.upd i7 _=st6 at S⊢
   have o10:=S.get
   have o7:=S.mem (i:=i7) (o:=.cells (eNd x2)) (by simp)
   have hoW2:=osegWork x2
   rw[e2]at hoW2
   have hfl2:fillV (repV (eU 0#256) 2) [(0,4,.agg (eU (natU W))),(4,4,.agg (eU (natU pw)))]=some (rowsOf eU [natU W,natU pw]):=rfl
   simp[St.seg,o10,o7,hoW,hoW2,hfl2]
   have rd2:Rd 4 eU (.sl .full (eU (natU W)++eU (natU pw)) 2) [natU W,natU pw] st6:=.inl ⟨.full,by simp[rowsOf]⟩
   refine(spec108 okn st6 rd2 (by simp)).mono ?_
   rintro v st6 ⟨rfl,rfl⟩
   rw[natU_add]
   obtain⟨x3,e4,e5,f2⟩: ∃x3:Nd,spliceV (eNd x2) 103 (eU (natU (W+pw)))=eNd x3∧x3.height=H+1∧putM l h q={x3 with skip:=anc l q (skipH (H+1))}:=⟨_,spl_work x2 (W+pw),e3,f2⟩
   simp[o7,nU,storeS,eNd_len,e4,eU_len]
   have S:=S.setAt (.cells (eNd x3)) 3 rfl
   simp at S
   generalize st6.upd i7 _=st7 at S⊢
   have o7:=S.mem (i:=i7) (o:=.cells (eNd x3)) (by simp)
   have ho3:=osegHgt x3
   rw[e5]at ho3
   simp[St.seg,o7,ho3]
   have TR:TreeR tid r l st7:=⟨sid,mid,spare,es,S.mem (i:=tid) (by simp),S.mem (i:=sid) (by simp),S.mem (i:=mid) (by simp),hsp1,hlk⟩
   refine(spec157 ok st7 (H+1) (by omega)).mono ?_
   rintro v st7 ⟨rfl,rfl⟩
   have hsk:=skipH_lt (h:=H+1) (by omega)
   refine(spec158 ok TR w q (skipH (H+1):Nat)).mono ?_
   rintro v st8 ⟨rfl,hst8⟩
   rw[hst8]
   clear hst8 st8
   have ea:ancI l q (skipH (H+1):Nat)=(anc l q (skipH (H+1)):Nat):=by
    have:¬l.length≤q:=by omega
    have h2:¬(H<skipH (H+1)):=by omega
    have h3:¬((q:Int)<0):=by omega
    have h4:¬((skipH (H+1):Int)<0):=by omega
    simp[ancI,this,hg,h2,h3,h4]
   rw[ea]
   have e6:=spl_skip x3 (anc l q (skipH (H+1)))
   rw[←f2]at e6
   simp[o7,storeS,eNd_len,e6]
   have S:=S.setAt (.cells (eNd (putM l h q))) 3 rfl
   simp at S
   generalize st7.upd i7 _=st8 at S⊢
   have S:=Sep.tail (fun r hr=>Sep.tail (fun r hr=>hr.drop) hr.drop) S.drop
   refine Sep.swap ?_
   have S:=Sep.ofObj S hsp1
   exact Sep.swap (Sep.tail (fun r hr=>hr) (Sep.swap S))
 ·rintro env' st9 hsame ⟨g0,g7,S⟩
  have g4:=hsame
  clear hsame
  have o1:=S.mem (i:=tid) (o:=.cells (eRl r++[s,.map (some mid)])) (by simp)
  have o7:=S.get
  have hlen:=(Sep.rd eNd_len S.swap).len
  have hfl3:fillV (repV (eNd nd0) 1) [(0,108,.agg (eNd (putM l h p)))]=some (eNd (putM l h p)):=by
   have:repV (eNd nd0) 1=eNd nd0:=by simp[repV]
   simp[this,fillV,eNd_len,spliceV]
  simp[g0,g7,St.seg,o1,tree_seg74,hlen,o7,osegAll,hfl3]
  have hel:elems st9 108 (V.sl SK.full (eNd (putM l h p)) 1)=some (eNd (putM l h p),1):=by simp[elems,eNd_len]
  rw[hel]
  refine Sep.app1 eNd_len (by omega) S.swap rfl (by omega) ?_
  intro s' st10 S
  obtain⟨sid,spare,rfl,hsp1,S⟩:=S.slObj (by simp)
  have o1:=S.mem (i:=tid) (o:=.cells (eRl r++[s,.map (some mid)])) (by simp)
  simp[g0,storeS,o1,splice74,eRl_len]
  have S:=S.setAt (.cells (eRl r++[.hsl sid 0 108 (l.length+1),.map (some mid)])) 2 rfl
  simp at S
  generalize st10.upd tid _=st11 at S⊢
  have o1:=S.mem (i:=tid) (o:=.cells (eRl r++[.hsl sid 0 108 (l.length+1),.map (some mid)])) (by simp)
  have o7:=S.mem (i:=i7) (o:=.cells (eNd (putM l h p))) (by simp)
  have om:=S.mem (i:=mid) (o:=.mp (encM kId kInt es)) (by simp)
  have hms:=mset_enc keyed_id om (hId h) (l.length:Int)
  have hpid:(putM l h p).id=hId h:=by unfold putM;split<;>rfl
  have hid:=osegId (putM l h p)
  rw[hpid]at hid
  simp only[kId,kInt]at hms
  simp[g0,g7,St.seg,o1,o7,tree_seg75,hid,hms]
  have S:=S.setAt (.mp (encM kId kInt (aSet (hId h) (l.length:Int) es))) 3 rfl
  simp at S
  refine⟨_,sub_self _,?_⟩
  have S:=Sep.tail (fun r hr=>hr.drop) S
  rw[show rowsOf eNd l++(eNd (putM l h p)++spare)=rowsOf eNd (l++[putM l h p])++spare by simp[rowsOf]]at S
  have S:=Sep.ofObj S hsp1
  rw[show(l++[putM l h p]).length=l.length+1 by simp]at S
  refine⟨_,mid,_,S,fun k=>?_⟩
  rw[lk_aSet,hlk,findM_append,hpid]
  by_cases e:k=hId h
  ·subst e;simp
  ·rw[if_neg e,if_neg (fun e'=>e e'.symm)]
end
end Go.Ab

import Derived.Test.YtjcpdljfkhbbkaaGreatT8
import Derived.Test.YtjcpdljfkhbbkaaGreatT7
import Derived.Test.YtjcpdljfkhbbkaaGreatT5
set_option linter.unusedVariables false
set_option linter.unusedSimpArgs false
set_option linter.unusedSectionVars false
namespace Go.Ab
open Go Go.RowKit
set_option maxRecDepth 10000
theorem failM_setF (l:List Nd)(i:Int): ∃f,(failM l i).1=setF f l:=by
 unfold failM
 split
 ·exact⟨_,setF_none.symm⟩
 ·exact⟨_,rfl⟩
theorem setF_wayM {f:Nat→Bool}{l:List Nd}(a b:Nat):wayM (setF f l) a b=wayM l a b:=by
 unfold wayM
 simp only[setF_hgt,setF_anc]
theorem setF_wayI {f:Nat→Bool}{l:List Nd}(a b:Int):wayI (setF f l) a b=wayI l a b:=by
 unfold wayI
 rw[setF_onB,setF_wayM]
def moveM (c:Ch)(tp to:Nat):Ch×Bool:=
 let m:=meetM c.l tp to
 match upWay (downN (hgt c.l tp-hgt c.l m) c) (wayM c.l m to)with
 | (c2,none)=>(c2,true)
 | (c2,some i)=>(upAll (downN (hgt c.l c2.tip.toNat-hgt c.l m) {c2 with l:=(failM c2.l i).1}) (wayM c.l m tp),false)
theorem wayI_on {l:List Nd}(w:Wf l){a b:Nat}(hb:b<l.length)(ha:a<l.length)(h:On l a b):wayI l a b=wayM l a b:=by
 unfold wayI
 rw[if_pos ((onB_on ha hb).2 h)]
 rfl
theorem wayM_at {l:List Nd}(w:Wf l){a b k:Nat}(hb:b<l.length)(hk:k< (wayM l a b).length):On l (anc l b (hgt l a+1+k)) b∧anc l b (hgt l a+1+k)<l.length∧hgt l a+1+k≤hgt l b:=by
 rw[wayM_len]at hk
 exact⟨On.of w hb (by omega),w.anc_lt hb,by omega⟩
theorem ChW.failed {c:Ch}(h:ChW c)(i:Int):ChW {c with l:=(failM c.l i).1}:=by
 obtain⟨f,hf⟩:=failM_setF c.l i
 refine⟨by rw[hf];exact setF_wf h.wf,by rw[hf,setF_length];exact h.len,h.fits⟩
theorem upWay_keep: ∀(r:List Int) (c:Ch),((upWay c r).1.r=c.r∧(upWay c r).1.l=c.l∧(upWay c r).1.bs=c.bs)
 | [],c=>⟨rfl,rfl,rfl⟩
 | i::r,c=>by
   rw[upWay]
   split
   ·obtain⟨h1,h2,h3⟩:=ups_r c i
    obtain⟨k1,k2,k3⟩:=upWay_keep r (ups c i)
    exact⟨k1.trans h1,k2.trans h2,k3.trans h3⟩
   ·exact⟨rfl,rfl,rfl⟩
section
variable {P:Program} {F:Fn}
set_option maxHeartbeats 16000000 in
theorem spec276 (ok:OkChain P F)(hc:CloneC P (F 256)){st:St}{cid:Nat}{c:Ch}{L:List Asn}(S:Sep (ChA cid c::L) st){tp:Nat}(h:ChOk c tp)(to:Nat)(hto:to<c.l.length)(hr: ∀k,On c.l k to→hasM c k=true):
  ACalls P (F 276) [.ptr (some (cid,0)),.int .i64 (to:Int)] st fun v st'=>v=.bool (moveM c tp to).2∧Sep (ChA cid (moveM c tp to).1::L) st':=by
 have okl:=ok.toOkLocate
 have oki:=okl.toOkIndexZ.toOkIndex
 refine shows_call ok.mixed ok.h276 (by simp[k276]) ?_
 simp only[k276]
 have w:=h.wf
 have hl:=h.len
 have htl:=h.lt
 obtain⟨m,hm⟩: ∃m,m=meetM c.l tp to:=⟨_,rfl⟩
 have hM:=meet_spec w htl hto
 rw[←hm]at hM
 obtain⟨D,hD⟩: ∃D,D=hgt c.l tp-hgt c.l m:=⟨_,rfl⟩
 have hDm:hgt c.l m≤hgt c.l tp:=hM.on1.1
 have hmt:anc c.l tp (hgt c.l m)=m:=hM.on1.2
 obtain⟨mo,tid,bid,uid,R⟩:=chRead S
 have T:=R.tree w.neNil
 have o1:=R.top
 have cl1:clI c.l c.tip=tp:=by rw[h.tip];unfold clI;omega
 have cl2:clI c.l (to:Int)=to:=by unfold clI;omega
 simp[St.seg,o1,cseg0,cseg4]
 refine still_call _ _ _ _ (by simpa using spec228 okl T w hl c.tip to) ?_
 rw[cl1,cl2,←hm,h.tip]
 simp
 clear R T o1
 have hkeep:=downN_keep c
 have htipN:=downN_tip w h.tip htl
 have hWN:=downN_W h.toChW
 refine vc_joinB (M:=fun env' st'=>Sep (ChA cid (downN D c)::L) st') ?_ ?_
 ·refine vc_loopJ (fun n env' st'=>∃d:Nat,d≤D∧n=D-d∧Sep (ChA cid (downN d c)::L) st') D
    ⟨0,by omega,by omega,S⟩ ?_
  clear S
  rintro J hJ n env1 st1 hsame ⟨d,hd,rfl,S⟩
  have g0:=(hsame.get 0 rfl).trans (by simp:_=V.ptr (some (cid,0)))
  have g6:=(hsame.get 6 rfl).trans (by simp:_=V.int .i64 (m:Int))
  clear hsame
  obtain⟨mo,tid,bid,uid,R⟩:=chRead S
  have o1:=R.top
  have ht:=htipN d (by omega)
  by_cases hdD:d<D
  ·have hne:¬(((anc c.l tp (hgt c.l tp-d):Nat)):Int)=m:=fun e=>by
     have e:anc c.l tp (hgt c.l tp-d)=m:=by omega
     have g1:=w.anc_hgt htl (h:=hgt c.l tp-d) (by omega)
     rw[e]at g1
     omega
   have hneb:((((anc c.l tp (hgt c.l tp-d):Nat)):Int) != m)=true:=by simpa using hne
   obtain⟨k1,k2,k3⟩:=hkeep d
   rw[ht]at o1
   simp[g0,g6,St.seg,o1,cseg4,hneb]
   refine(spec277 ok hc S (hWN d).wf ((hWN d).bOf _)).mono ?_
   intro v st2 S
   simp
   exact Round.mk (D-(d+1)) _ (by omega) (sub_self _) (hJ _ _ _ ⟨d+1,by omega,rfl,S⟩)
  ·have:d=D:=by omega
   subst this
   have e:anc c.l tp (hgt c.l tp-d)=m:=by rw[show hgt c.l tp-d=hgt c.l m by omega,hmt]
   rw[ht,e]at o1
   simp[g0,g6,St.seg,o1,cseg4]
   exact S
 clear S
 rintro env1 st1 hsame S
 have g0:=(hsame.get 0 rfl).trans (by simp:_=V.ptr (some (cid,0)))
 have g1:=(hsame.get 1 rfl).trans (by simp:_=V.int .i64 (to:Int))
 have g5:=(hsame.get 5 rfl).trans (by simp:_=V.int .i64 (tp:Int))
 have g6:=(hsame.get 6 rfl).trans (by simp:_=V.int .i64 (m:Int))
 clear hsame
 obtain⟨c1,hc1⟩: ∃c1,c1=downN D c:=⟨_,rfl⟩
 obtain⟨k1,k2,k3⟩:=hkeep D
 have hW1:=hWN D
 have ht1:=htipN D (by omega)
 rw[←hc1]at k1 k2 k3 hW1 ht1 S
 rw[show hgt c.l tp-D=hgt c.l m by omega,hmt]at ht1
 obtain⟨way,hway⟩: ∃way,way=wayM c.l m to:=⟨_,rfl⟩
 have hwl:way.length=hgt c.l to-hgt c.l m:=by rw[hway,wayM_len]
 have hmto:hgt c.l m≤hgt c.l to:=hM.on2.1
 have hbound:hgt c.l to<16384:=Nat.lt_of_lt_of_le (w.hgt_le hto |>fun h=>by omega) hl
 obtain⟨mo,tid,bid,uid,R⟩:=chRead S
 have o1:=R.top
 have T:=R.tree (by rw[k2];exact w.neNil)
 rw[k2]at T
 simp[g0,g1,g6,St.seg,o1,cseg0]
 refine(spec229 okl T w hl m to).mono ?_
 intro vw st2 S1
 rw[wayI_on w hto hM.lt hM.on2,←hway]at S1
 have S:=S1.ov S
 clear S1 R T o1
 have hwr:=(Sep.rd e1_len S).len
 simp[hwr]
 have hgoal:moveM c tp to=(match upWay c1 way with
   | (c2,none)=>(c2,true)
   | (c2,some i)=>(upAll (downN (hgt c.l c2.tip.toNat-hgt c.l m) {c2 with l:=(failM c2.l i).1}) (wayM c.l m tp),false)):=by
  rw[moveM,←hm,←hD,←hc1,←hway]
 refine vc_joinB (M:=fun env' st'=>(moveM c tp to).2=true∧Sep (ChA cid (moveM c tp to).1::L) st') ?_ ?_
 ·refine vc_loopJ (fun n env' st'=>∃(j:Nat) (c2:Ch),j≤way.length∧n=way.length-j∧env' 41=.int .i64 (j:Nat)∧upWay c2 (way.drop j)=upWay c1 way∧ChW c2∧c2.l=c.l∧c2.bs=c.bs∧c2.tip=(anc c.l to (hgt c.l m+j):Nat)∧Sep (Sl 1 e1 vw way::ChA cid c2::L) st') way.length
    ⟨0,c1,by omega,by omega,by simp,rfl,hW1,k2,k3,by rw[Nat.add_zero,hM.on2.2];exact ht1,S⟩ ?_
  clear S
  rintro J hJ n env2 st3 hsame ⟨j,c2,hj,rfl,h41,hup,hW2,hl2,hb2,ht2,S⟩
  have g0:=(hsame.get 0 rfl).trans (by simp[g0]:_=V.ptr (some (cid,0)))
  have g5:=(hsame.get 5 rfl).trans (by simp[g5]:_=V.int .i64 (tp:Int))
  have g6:=(hsame.get 6 rfl).trans (by simp[g6]:_=V.int .i64 (m:Int))
  have g39:=(hsame.get 39 rfl).trans (by simp:_=vw)
  have g40:=(hsame.get 40 rfl).trans (by simp:_=V.int .i64 (way.length:Int))
  clear hsame
  by_cases hjl:j<way.length
  ·have w1:IntKind.i64.wrap ((j:Int)+1)=(j:Int)+1:=wrap64 (by omega) (by omega)
   obtain⟨r1,r2,r3,r4⟩:=(Sep.rd e1_len S).row e1_len hjl
   obtain⟨x,hx⟩: ∃x,x=way[j]:=⟨_,rfl⟩
   rw[←hx]at r3
   have hxv:x=(anc c.l to (hgt c.l m+(j+1)):Nat):=by
    rw[hx]
    subst hway
    rw[wayM_get,Nat.add_assoc,Nat.add_comm 1 j]
   have hjw:j< (wayM c.l m to).length:=hway ▸hjl
   obtain⟨a1,a2,a3⟩:=wayM_at w (a:=m) hto hjw
   rw[Nat.add_assoc,Nat.add_comm 1 j]at a1 a2
   rw[List.drop_eq_getElem_cons hjl,←hx,upWay]at hup
   simp[g0,g39,g40,h41,hjl,r1,r3,e1]
   refine(spec278 ok hc S.swap hW2.wf x (hW2.bOf _)).mono ?_
   clear S r1 r2 r3 r4
   rintro v st4 ⟨rfl,S⟩
   have S:Sep (ChA cid (ups c2 x)::Sl 1 e1 vw way::L) st4:=S
   cases hfx:fits1 c2 x with
   | true=>
     rw[hfx,if_pos rfl]at hup
     obtain⟨u1,u2,u3⟩:=ups_r c2 x
     simp[h41,w1]
     exact Round.mk (way.length-(j+1)) _ (by omega) (sub_self _) (hJ _ _ _ ⟨j+1,ups c2 x,by omega,rfl,by simp,hup,hW2.ups x,u2.trans hl2,u3.trans hb2,by rw[ups_tip hfx,hxv],S.swap⟩)
   | false=>
     rw[hfx,if_neg (by decide)]at hup
     rw[ups_not hfx]at S
     obtain⟨mo,tid,bid,uid,R,hgrow⟩:=chGrow (P:=P) S
     have o1:=R.top
     simp[g0,St.seg,o1,cseg0]
     refine(hgrow (F 170) [.ptr (some (tid,0)),.int .i64 x] (fun _=>True) (failM c2.l x).1 (fun hp hT=>(spec170 oki hT hW2.wf hW2.len x).mono fun v s hh=>⟨trivial,hh.2⟩)).mono ?_
     clear R o1 hgrow S
     rintro v st5 ⟨-,S⟩
     obtain⟨c3,hc3⟩: ∃c3:Ch,c3={c2 with l:=(failM c2.l x).1}:=⟨_,rfl⟩
     rw[←hc3]at S
     obtain⟨fl,hfl⟩:=failM_setF c2.l x
     rw[hl2]at hfl
     have hl3:c3.l=setF fl c.l:=by rw[hc3];show(failM c2.l x).1=_;rw[hl2,hfl]
     have hW3:ChW c3:=by rw[hc3];exact hW2.failed x
     have w3:Wf c3.l:=hW3.wf
     have hb3':c3.bs=c.bs:=by rw[hc3];exact hb2
     obtain⟨t2,ht2'⟩: ∃t2,t2=anc c.l to (hgt c.l m+j):=⟨_,rfl⟩
     rw[←ht2']at ht2
     have ht3:c3.tip=t2:=by rw[hc3];exact ht2
     have ht2l:t2<c.l.length:=by rw[ht2'];exact w.anc_lt hto
     have ht3l:t2<c3.l.length:=by rw[hl3,setF_length];exact ht2l
     have hg2:hgt c.l t2=hgt c.l m+j:=by rw[ht2'];exact w.anc_hgt hto (by omega)
     have hon2:On c.l t2 to:=by rw[ht2'];exact On.of w hto (by omega)
     have hm2:anc c.l t2 (hgt c.l m)=m:=by
      rw[ht2',w.anc_anc hto (by omega) (by omega)]
      exact hM.on2.2
     have hkeep3:=downN_keep c3
     have htip3:=downN_tip w3 ht3 ht3l
     have hWN3:=downN_W hW3
     have hgs:hgt c3.l t2=hgt c.l m+j:=by rw[hl3,setF_hgt];exact hg2
     have hres:moveM c tp to=(upAll (downN j c3) (wayM c.l m tp),false):=by
      rw[hgoal,←hup]
      show(upAll (downN (hgt c.l c2.tip.toNat-hgt c.l m) {c2 with l:=(failM c2.l x).1}) (wayM c.l m tp),false)=_
      rw[←hc3,ht2,Int.toNat_natCast,hg2,Nat.add_sub_cancel_left]
     simp
     refine vc_joinB (M:=fun env' st'=>Sep (ChA cid (downN j c3)::L) st') ?_ ?_
     ·refine vc_loopJ (fun n env' st'=>∃d:Nat,d≤j∧n=j-d∧Sep (ChA cid (downN d c3)::L) st') j
        ⟨0,by omega,by omega,S.tail fun r h=>h.drop⟩ ?_
      clear S
      rintro J2 hJ2 n env3 st6 hsame ⟨d,hd,rfl,S⟩
      have g0:=(hsame.get 0 rfl).trans (by simp[g0]:_=V.ptr (some (cid,0)))
      have g6:=(hsame.get 6 rfl).trans (by simp[g6]:_=V.int .i64 (m:Int))
      clear hsame
      obtain⟨mo,tid,bid,uid,R⟩:=chRead S
      have o1:=R.top
      have ht:=htip3 d (by omega)
      rw[hgs,hl3,setF_anc]at ht
      by_cases hdj:d<j
      ·have hne:¬(((anc c.l t2 (hgt c.l m+j-d):Nat)):Int)=m:=fun e=>by
         have e:anc c.l t2 (hgt c.l m+j-d)=m:=by omega
         have g1:=w.anc_hgt ht2l (h:=hgt c.l m+j-d) (by omega)
         rw[e]at g1
         omega
       have hneb:((((anc c.l t2 (hgt c.l m+j-d):Nat)):Int) != m)=true:=by simpa using hne
       obtain⟨q1,q2,q3⟩:=hkeep3 d
       rw[ht]at o1
       simp[g0,g6,St.seg,o1,cseg4,hneb]
       refine(spec277 ok hc S (hWN3 d).wf ((hWN3 d).bOf _)).mono ?_
       intro v st7 S
       simp
       exact Round.mk (j-(d+1)) _ (by omega) (sub_self _) (hJ2 _ _ _ ⟨d+1,by omega,rfl,S⟩)
      ·have:d=j:=by omega
       subst this
       have e:anc c.l t2 (hgt c.l m+d-d)=m:=by rw[Nat.add_sub_cancel,hm2]
       rw[ht,e]at o1
       simp[g0,g6,St.seg,o1,cseg4]
       exact S
     clear S
     rintro env3 st6 hsame S
     have g0:=(hsame.get 0 rfl).trans (by simp[g0]:_=V.ptr (some (cid,0)))
     have g5:=(hsame.get 5 rfl).trans (by simp[g5]:_=V.int .i64 (tp:Int))
     have g6:=(hsame.get 6 rfl).trans (by simp[g6]:_=V.int .i64 (m:Int))
     clear hsame
     obtain⟨c4,hc4⟩: ∃c4,c4=downN j c3:=⟨_,rfl⟩
     obtain⟨q1,q2,q3⟩:=hkeep3 j
     have hW4:=hWN3 j
     rw[←hc4]at q1 q2 q3 hW4 S hres
     obtain⟨mo,tid,bid,uid,R⟩:=chRead S
     have o1:=R.top
     have T:=R.tree hW4.wf.neNil
     simp[g0,g5,g6,St.seg,o1,cseg0]
     refine(spec229 okl T hW4.wf hW4.len m tp).mono ?_
     intro vk st7 S1
     have hwk:wayI c4.l (m:Int) (tp:Int)=wayM c.l m tp:=by
      rw[q2,hl3,setF_wayI,wayI_on w htl hM.lt hM.on1]
     rw[hwk]at S1
     have S:=S1.ov S
     clear S1 R T o1
     obtain⟨wk,hwkd⟩: ∃wk,wk=wayM c.l m tp:=⟨_,rfl⟩
     rw[←hwkd]at S hres
     have hkr:=(Sep.rd e1_len S).len
     have hwkl:wk.length≤16384:=by
      rw[hwkd,wayM_len]
      have:=w.hgt_le htl
      omega
     simp[hkr]
     refine vc_joinB (M:=fun env' st'=>Sep (ChA cid (upAll c4 wk)::L) st') ?_ ?_
     ·refine vc_loopJ (fun n env' st'=>∃(k:Nat) (c5:Ch),k≤wk.length∧n=wk.length-k∧env' 70=.int .i64 (k:Nat)∧upAll c5 (wk.drop k)=upAll c4 wk∧ChW c5∧c5.bs=c.bs∧Sep (Sl 1 e1 vk wk::ChA cid c5::L) st') wk.length
        ⟨0,c4,by omega,by omega,by simp,rfl,hW4,q3.trans hb3',S⟩ ?_
      clear S
      rintro J3 hJ3 n env4 st8 hsame ⟨k,c5,hk,rfl,h70,hall,hW5,hb5,S⟩
      have g0:=(hsame.get 0 rfl).trans (by simp[g0]:_=V.ptr (some (cid,0)))
      have g68:=(hsame.get 68 rfl).trans (by simp:_=vk)
      have g69:=(hsame.get 69 rfl).trans (by simp:_=V.int .i64 (wk.length:Int))
      clear hsame
      by_cases hkl:k<wk.length
      ·have w4:IntKind.i64.wrap ((k:Int)+1)=(k:Int)+1:=wrap64 (by omega) (by omega)
       obtain⟨r1,r2,r3,r4⟩:=(Sep.rd e1_len S).row e1_len hkl
       obtain⟨y,hy⟩: ∃y,y=wk[k]:=⟨_,rfl⟩
       rw[←hy]at r3
       have hkw:k< (wayM c.l m tp).length:=hwkd ▸hkl
       obtain⟨a1,a2,a3⟩:=wayM_at w (a:=m) htl hkw
       have hyv:y=(anc c.l tp (hgt c.l m+1+k):Nat):=by
        rw[hy]
        subst hwkd
        rw[wayM_get]
       rw[List.drop_eq_getElem_cons hkl,←hy,upAll]at hall
       simp[g0,g68,g69,h70,hkl,r1,r3,e1]
       refine(spec278 ok hc S.swap hW5.wf y (hW5.bOf _)).mono ?_
       clear S r1 r2 r3 r4
       rintro v st9 ⟨rfl,S⟩
       have S:Sep (ChA cid (ups c5 y)::Sl 1 e1 vk wk::L) st9:=S
       obtain⟨u1,u2,u3⟩:=ups_r c5 y
       simp[h70,w4]
       exact Round.mk (wk.length-(k+1)) _ (by omega) (sub_self _) (hJ3 _ _ _ ⟨k+1,ups c5 y,by omega,rfl,by simp,hall,hW5.ups y,u3.trans hb5,S.swap⟩)
      ·have:k=wk.length:=by omega
       subst this
       rw[List.drop_length,upAll]at hall
       rw[←hall]
       simp[g69,h70]
       exact S.drop
     clear S
     rintro env4 st8 hsame S
     rw[hres]
     simp
     exact⟨st8,sub_self _,S⟩
  ·have:j=way.length:=by omega
   subst this
   rw[List.drop_length,upWay]at hup
   rw[hgoal,←hup]
   simp[g40,h41]
   exact S.drop
 clear S
 rintro env2 st3 hsame ⟨hv,S⟩
 simp[hv]
 exact⟨st3,sub_self _,S⟩
end
theorem setF_on {f:Nat→Bool}{l:List Nd}{i k:Nat}:On (setF f l) i k↔On l i k:=by
 unfold On
 rw[setF_hgt,setF_hgt,setF_anc]
theorem setF_setF (f g:Nat→Bool)(l:List Nd):setF g (setF f l)=setF (fun k=>f k||g k) l:=by
 refine List.ext_getElem (by simp) fun i h1 h2=>?_
 simp only[setF,List.getElem_mapIdx]
 by_cases hf:f i=true<;>by_cases hg:g i=true<;>simp[hf,hg]
theorem On.parOr {l:List Nd}(w:Wf l){k i:Nat}(hi:i<l.length)(h:On l k i):k=i∨(0<i∧On l k (Ab.par l i)):=by
 rcases Nat.eq_or_lt_of_le h.1 with e | e
 ·left
  have:=h.2
  rw[e,anc_self]at this
  exact this.symm
 ·right
  have h0:0<i:=w.pos_of_hgt (i:=i) (by omega)
  have hp:=w.hgt_par h0 hi
  refine⟨h0,by omega,?_⟩
  rw[←w.anc_par hi (by omega)]
  exact h.2
theorem par_nd {l:List Nd}(w:Wf l){i:Nat}(h0:0<i)(hi:i<l.length):(nd l i).parent=(par l i:Nat):=by
 have hs:=w.succ i l[i] h0 (List.getElem?_eq_getElem hi)
 have hp:par l i=(nd l i).parent.toNat:=by
  simp only[par,List.getElem?_eq_getElem hi,Option.map_some,Option.getD_some,nd_at hi]
 rw[nd_at hi]at hp⊢
 rw[hp]
 omega
theorem readyGo_all {c:Ch}{tp:Nat}(h:ChOk c tp): ∀(f i:Nat),i<c.l.length→i≤f→readyGo c (f+1) i=true→∀k,On c.l k i→hasM c k=true
 | f,i,hi,hf,hg,k,hk=>by
   rw[readyGo]at hg
   cases ho:onB c.l (i:Int) c.tip with
   | true=>
     rw[h.tip]at ho
     have:=(onB_on hi h.lt).1 ho
     exact h.way k (On.trans h.wf h.lt hk this)
   | false=>
     rw[ho,if_neg (by decide)]at hg
     cases hh:hasM c (i:Int)with
     | false=>rw[hh,if_neg (by decide)]at hg;cases hg
     | true=>
       rw[hh,if_pos rfl,inI_nat hi]at hg
       rcases On.parOr h.wf hi hk with rfl | ⟨h0,hp⟩
       ·exact hh
       ·rw[par_nd h.wf h0 hi]at hg
        have hlt:=h.wf.par_lt h0 hi
        obtain⟨f',rfl⟩: ∃f',f=f'+1:=⟨f-1,by omega⟩
        exact readyGo_all h f' (par c.l i) (by omega) (by omega) hg k hp
 termination_by f=>f
theorem readyM_all {c:Ch}{tp i:Nat}(h:ChOk c tp)(hi:i<c.l.length)(hg:readyM c i=true): ∀k,On c.l k i→hasM c k=true:=readyGo_all h i i hi (Nat.le_refl _) hg
theorem upWay_some: ∀{r:List Int} {c c2:Ch} {i:Int},upWay c r=(c2,some i)→i∈r
 | [],c,c2,i,h=>by simp[upWay]at h
 | x::r,c,c2,i,h=>by
   rw[upWay]at h
   split at h
   ·exact List.mem_cons_of_mem _ (upWay_some h)
   ·simp only[Prod.mk.injEq,Option.some.injEq]at h
    rw[h.2]
    exact List.mem_cons_self
theorem upWay_W: ∀(r:List Int) {c:Ch},ChW c→ChW (upWay c r).1
 | [],c,h=>h
 | x::r,c,h=>by
   rw[upWay]
   split
   ·exact upWay_W r (h.ups x)
   ·exact h
theorem upWay_tip: ∀(r:List Int) {c c2:Ch},upWay c r=(c2,none)→c2.tip=r.getLast?.getD c.tip
 | [],c,c2,h=>by
   simp only[upWay,Prod.mk.injEq,and_true]at h
   rw[←h];rfl
 | x::r,c,c2,h=>by
   rw[upWay]at h
   split at h
   ·rename_i hf
    have:=upWay_tip r h
    rw[this,ups_tip hf]
    cases r with
    | nil=>rfl
    | cons y r=>simp[List.getLast?_cons]
   ·simp at h
theorem upWay_in: ∀(r:List Int) (c:Ch),(upWay c r).1.tip=c.tip∨(upWay c r).1.tip∈r
 | [],c=>.inl rfl
 | x::r,c=>by
   rw[upWay]
   split
   ·rename_i hf
    rcases upWay_in r (ups c x)with h | h
    ·right
     rw[h,ups_tip hf]
     exact List.mem_cons_self
    ·exact .inr (List.mem_cons_of_mem _ h)
   ·exact .inl rfl
theorem upAll_W: ∀(r:List Int) {c:Ch},ChW c→ChW (upAll c r)
 | [],c,h=>h
 | x::r,c,h=>upAll_W r (h.ups x)
theorem upAll_keep: ∀(r:List Int) (c:Ch),(upAll c r).r=c.r∧(upAll c r).l=c.l∧(upAll c r).bs=c.bs
 | [],c=>⟨rfl,rfl,rfl⟩
 | x::r,c=>by
   obtain⟨h1,h2,h3⟩:=ups_r c x
   obtain⟨k1,k2,k3⟩:=upAll_keep r (ups c x)
   exact⟨k1.trans h1,k2.trans h2,k3.trans h3⟩
theorem upAll_tip: ∀(r:List Int) (c:Ch),(upAll c r).tip=c.tip∨(upAll c r).tip∈r
 | [],c=>.inl rfl
 | x::r,c=>by
   rcases upAll_tip r (ups c x)with h | h
   ·cases hf:fits1 c x with
    | true=>
      right
      rw[upAll,h,ups_tip hf]
      exact List.mem_cons_self
    | false=>
      left
      rw[upAll,h,ups_not hf]
   ·right
    exact List.mem_cons_of_mem _ h
theorem wayM_mem {l:List Nd}(w:Wf l){a b:Nat}(hb:b<l.length){x:Int}(h:x∈wayM l a b): ∃k:Nat,x=k∧On l k b∧k<l.length∧0<k:=by
 obtain⟨j,hj,rfl⟩:=List.mem_iff_getElem.1 h
 obtain⟨h1,h2,h3⟩:=wayM_at w hb hj
 rw[wayM_get]
 refine⟨_,rfl,h1,h2,?_⟩
 have:=w.anc_hgt hb h3
 exact w.pos_of_hgt (i:=anc l b (hgt l a+1+j)) (by omega)
theorem moveM_ok {c:Ch}{tp to:Nat}(h:ChOk c tp)(hto:to<c.l.length)(hr: ∀k,On c.l k to→hasM c k=true):
  (moveM c tp to).1.bs=c.bs∧(moveM c tp to).1.r=c.r∧
  (((moveM c tp to).2=true∧ChOk (moveM c tp to).1 to∧(moveM c tp to).1.l=c.l)∨
   ((moveM c tp to).2=false∧(∃x:Nat,On c.l x to∧0<x∧x<c.l.length∧(moveM c tp to).1.l=(failM c.l x).1)∧∃tp',ChOk (moveM c tp to).1 tp')):=by
 have w:=h.wf
 have htl:=h.lt
 obtain⟨m,hm⟩: ∃m,m=meetM c.l tp to:=⟨_,rfl⟩
 have hM:=meet_spec w htl hto
 rw[←hm]at hM
 have hDm:hgt c.l m≤hgt c.l tp:=hM.on1.1
 obtain⟨c1,hc1⟩: ∃c1,c1=downN (hgt c.l tp-hgt c.l m) c:=⟨_,rfl⟩
 obtain⟨k1,k2,k3⟩:=downN_keep c (hgt c.l tp-hgt c.l m)
 have hW1:=downN_W h.toChW (hgt c.l tp-hgt c.l m)
 have ht1:=downN_tip w h.tip htl (hgt c.l tp-hgt c.l m) (by omega)
 rw[←hc1]at k1 k2 k3 hW1 ht1
 rw[show hgt c.l tp-(hgt c.l tp-hgt c.l m)=hgt c.l m by omega,hM.on1.2]at ht1
 obtain⟨u1,u2,u3⟩:=upWay_keep (wayM c.l m to) c1
 have hWu:=upWay_W (wayM c.l m to) hW1
 have hmv:moveM c tp to=(match upWay c1 (wayM c.l m to)with
   | (c2,none)=>(c2,true)
   | (c2,some i)=>(upAll (downN (hgt c.l c2.tip.toNat-hgt c.l m) {c2 with l:=(failM c2.l i).1}) (wayM c.l m tp),false)):=by
  rw[moveM,←hm,←hc1]
  all_goals rfl
 cases hu:upWay c1 (wayM c.l m to)with
 | mk c2 o=>
   rw[hu]at hmv u1 u2 u3 hWu
   cases o with
   | none=>
     have hmv:moveM c tp to=(c2,true):=hmv
     rw[hmv]
     refine⟨u3.trans k3,u1.trans k1,.inl ⟨rfl,⟨hWu,?_,?_,?_⟩,u2.trans k2⟩⟩
     ·have ht:=upWay_tip _ hu
      rw[ht,ht1]
      by_cases hz:hgt c.l to=hgt c.l m
      ·have:(wayM c.l m to)=[]:=by
         apply List.eq_nil_of_length_eq_zero
         rw[wayM_len];omega
       rw[this]
       have e:=hM.on2.2
       rw[←hz,anc_self]at e
       rw[e];rfl
      ·have hlen:=wayM_len c.l m to
       have h2:=hM.on2.1
       rw[List.getLast?_eq_getElem?,List.getElem?_eq_getElem (by omega),Option.getD_some,wayM_get]
       have e:hgt c.l m+1+((wayM c.l m to).length-1)=hgt c.l to:=by omega
       rw[e,anc_self]
     ·show to<c2.l.length
      rw[u2,k2];exact hto
     ·intro k hk
      have hk:On c.l k to:=by
       have h2:c2.l=c.l:=u2.trans k2
       rw[h2]at hk
       exact hk
      have:=hr k hk
      unfold hasM at this⊢
      show(lk (k:Int) c2.bs).isSome=true
      rw[u3,k3]
      exact this
   | some i=>
     have hmv:moveM c tp to=(upAll (downN (hgt c.l c2.tip.toNat-hgt c.l m) {c2 with l:=(failM c2.l i).1}) (wayM c.l m tp),false):=hmv
     rw[hmv]
     obtain⟨c3,hc3⟩: ∃c3:Ch,c3={c2 with l:=(failM c2.l i).1}:=⟨_,rfl⟩
     rw[←hc3]
     have hW3:ChW c3:=by rw[hc3];exact hWu.failed i
     have hi:=upWay_some hu
     obtain⟨x,rfl,hx1,hx2,hx3⟩:=wayM_mem w hto hi
     have hl2:c2.l=c.l:=u2.trans k2
     have hb2:c2.bs=c.bs:=u3.trans k3
     have hr2:c2.r=c.r:=u1.trans k1
     have hl3:c3.l=(failM c.l x).1:=by rw[hc3];show(failM c2.l x).1=_;rw[hl2]
     have hb3:c3.bs=c.bs:=by rw[hc3];exact hb2
     have hr3:c3.r=c.r:=by rw[hc3];exact hr2
     obtain⟨c4,hc4⟩: ∃c4,c4=downN (hgt c.l c2.tip.toNat-hgt c.l m) c3:=⟨_,rfl⟩
     obtain⟨q1,q2,q3⟩:=downN_keep c3 (hgt c.l c2.tip.toNat-hgt c.l m)
     have hW4:=downN_W hW3 (hgt c.l c2.tip.toNat-hgt c.l m)
     rw[←hc4]at q1 q2 q3 hW4⊢
     obtain⟨a1,a2,a3⟩:=upAll_keep (wayM c.l m tp) c4
     have hW5:=upAll_W (wayM c.l m tp) hW4
     refine⟨by rw[a3,q3,hb3],by rw[a1,q1,hr3],.inr ⟨rfl,⟨x,hx1,hx3,hx2,by rw[a2,q2,hl3]⟩,?_⟩⟩
     obtain⟨fl,hfl⟩:=failM_setF c.l x
     have hl4:c4.l=setF fl c.l:=by rw[q2,hl3,hfl]
     have hl3':c3.l=setF fl c.l:=by rw[hl3,hfl]
     have ht2: ∃t2:Nat,c2.tip=t2∧t2<c.l.length∧hgt c.l m≤hgt c.l t2∧anc c.l t2 (hgt c.l m)=m:=by
      have hin:=upWay_in (wayM c.l m to) c1
      rw[hu]at hin
      rcases hin with e | e
      ·exact⟨m,by rw[←ht1];exact e,hM.lt,Nat.le_refl _,anc_self m⟩
      ·obtain⟨j,hj,e'⟩:=List.mem_iff_getElem.1 e
       obtain⟨y1,y2,y3⟩:=wayM_at w (a:=m) hto hj
       rw[wayM_get]at e'
       refine⟨_,e'.symm,y2,by rw[w.anc_hgt hto y3];omega,?_⟩
       rw[w.anc_anc hto (by omega) y3]
       exact hM.on2.2
     obtain⟨t2,hc2t,ht2l,hgm,ham⟩:=ht2
     have hc3t:c3.tip=t2:=by rw[hc3];exact hc2t
     have hd4:=downN_tip hW3.wf hc3t (by rw[hl3',setF_length];exact ht2l) (hgt c.l c2.tip.toNat-hgt c.l m) (by rw[hc2t,Int.toNat_natCast,hl3',setF_hgt];omega)
     rw[←hc4,hc2t,Int.toNat_natCast,hl3',setF_hgt,setF_anc,show hgt c.l t2-(hgt c.l t2-hgt c.l m)=hgt c.l m by omega,ham]at hd4
     have htip: ∃tp':Nat,(upAll c4 (wayM c.l m tp)).tip=tp'∧On c.l tp' tp∧tp'<c.l.length:=by
      rcases upAll_tip (wayM c.l m tp) c4 with e | e
      ·exact⟨m,by rw[e,hd4],hM.on1,hM.lt⟩
      ·obtain⟨k,hk1,hk2,hk3,hk4⟩:=wayM_mem w htl e
       exact⟨k,hk1,hk2,hk3⟩
     obtain⟨tp',p1,p2,p3⟩:=htip
     refine⟨tp',hW5,p1,by rw[a2,hl4,setF_length];exact p3,fun k hk=>?_⟩
     rw[a2,hl4,setF_on]at hk
     have:=h.way k (On.trans w htl hk p2)
     unfold hasM at this⊢
     rw[a3,q3,hb3]
     exact this
def pickGo (c:Ch):List Nat→Nat→Nat
 | [],b=>b
 | i::r,b=>pickGo c r (if(nd c.l i).failed=false∧0<cmpU (natU (nd c.l i).work) (natU (nd c.l b).work)∧readyM c i=true then i else b)
def pickM (c:Ch)(tp:Nat):Nat:=pickGo c (List.range' 0 c.l.length) tp
theorem pickGo_in (c:Ch): ∀(r:List Nat) (b:Nat),pickGo c r b=b∨(pickGo c r b∈r∧(nd c.l (pickGo c r b)).failed=false∧readyM c (pickGo c r b)=true)
 | [],b=>.inl rfl
 | i::r,b=>by
   rw[pickGo]
   by_cases h:(nd c.l i).failed=false∧0<cmpU (natU (nd c.l i).work) (natU (nd c.l b).work)∧readyM c i=true
   ·rw[if_pos h]
    rcases pickGo_in c r i with e | ⟨e1,e2⟩
    ·right
     rw[e]
     exact⟨List.mem_cons_self,h.1,h.2.2⟩
    ·exact .inr ⟨List.mem_cons_of_mem _ e1,e2⟩
   ·rw[if_neg h]
    rcases pickGo_in c r b with e | ⟨e1,e2⟩
    ·exact .inl e
    ·exact .inr ⟨List.mem_cons_of_mem _ e1,e2⟩
theorem pickM_in (c:Ch)(tp:Nat):pickM c tp=tp∨(pickM c tp<c.l.length∧(nd c.l (pickM c tp)).failed=false∧readyM c (pickM c tp)=true):=by
 rcases pickGo_in c (List.range' 0 c.l.length) tp with e | ⟨e1,e2⟩
 ·exact .inl e
 ·refine .inr ⟨?_,e2⟩
  have:=List.mem_range'_1.1 e1
  unfold pickM
  omega
def sound (l:List Nd):Nat:=(List.range l.length).countP fun k=>!(nd l k).failed
theorem countP_lt {p q:Nat→Bool}: ∀{l:List Nat} {b:Nat},b∈l→(∀a∈l,q a=true→p a=true)→p b=true→q b=false→l.countP q<l.countP p
 | x::l,b,hb,hpq,h1,h2=>by
   rw[List.countP_cons,List.countP_cons]
   have hle:l.countP q≤l.countP p:=List.countP_mono_left fun a ha=>hpq a (List.mem_cons_of_mem _ ha)
   rcases List.mem_cons.1 hb with rfl | hb
   ·rw[h1,h2]
    simp
    omega
   ·have:=countP_lt hb (fun a ha=>hpq a (List.mem_cons_of_mem _ ha)) h1 h2
    have hx:=hpq x List.mem_cons_self
    cases hq:q x with
    | false=>simp;split<;>omega
    | true=>rw[hx hq];simp;omega
theorem nd_setF {f:Nat→Bool}{l:List Nd}{k:Nat}(hk:k<l.length):(nd (setF f l) k).failed=((nd l k).failed||f k):=by
 rw[nd_at (by rw[setF_length];exact hk),setF_get hk,nd_at hk]
 cases hf:f k<;>simp
theorem sound_fail {l:List Nd}(w:Wf l){x b:Nat}(hx0:0<x)(hx:x<l.length)(hb:b<l.length)(ho:On l x b)(hs:(nd l b).failed=false):sound (failM l x).1<sound l:=by
 have hfm:(failM l x).1=setF (fun k=>onB l x k) l:=by
  unfold failM
  rw[if_neg (by omega)]
 rw[hfm]
 unfold sound
 rw[setF_length]
 refine countP_lt (b:=b) (List.mem_range.2 hb) (fun a ha hq=>?_) (by rw[hs];rfl) ?_
 ·rw[nd_setF (List.mem_range.1 ha)]at hq
  cases h:(nd l a).failed with
  | false=>rfl
  | true=>rw[h]at hq;simp at hq
 ·rw[nd_setF hb,(onB_on hx hb).2 ho]
  simp
def followN:Nat→Ch→Ch
 | 0,c=>c
 | n+1,c=>if pickM c c.tip.toNat=c.tip.toNat then c else if(moveM c c.tip.toNat (pickM c c.tip.toNat)).2=true then(moveM c c.tip.toNat (pickM c c.tip.toNat)).1 else followN n (moveM c c.tip.toNat (pickM c c.tip.toNat)).1
def followM (c:Ch):Ch:=followN (sound c.l+1) c
section
variable {P:Program} {F:Fn}
set_option maxHeartbeats 8000000 in
theorem spec274 (ok:OkChain P F)(hc:CloneC P (F 256)){st:St}{cid:Nat}{c:Ch}{L:List Asn}(S:Sep (ChA cid c::L) st){tp:Nat}(h:ChOk c tp):
  ACalls P (F 274) [.ptr (some (cid,0))] st fun v st'=>Sep (ChA cid (followM c)::L) st':=by
 have okl:=ok.toOkLocate
 have oki:=okl.toOkIndexZ.toOkIndex
 have okn:=oki.toOkHead.toOkNum
 refine shows_call ok.mixed ok.h274 (by simp[k274]) ?_
 simp only[k274]
 simp
 refine vc_loopJ (fun n env' st'=>∃(f:Nat) (c2:Ch) (tp2:Nat),n=sound c2.l∧sound c2.l≤f∧followN (f+1) c2=followM c∧ChOk c2 tp2∧Sep (ChA cid c2::L) st') (sound c.l)
  ⟨sound c.l,c,tp,rfl,Nat.le_refl _,rfl,h,S⟩ ?_
 clear S
 rintro J hJ n env1 st1 hsame ⟨f,c2,tp2,rfl,hf,hgo,h2,S⟩
 have g0:=(hsame.get 0 rfl).trans (by simp:_=V.ptr (some (cid,0)))
 clear hsame
 have w:=h2.wf
 have hl:=h2.len
 obtain⟨mo,tid,bid,uid,R⟩:=chRead S
 have o1:=R.top
 have T:=R.tree w.neNil
 rw[h2.tip]at o1
 simp[g0,St.seg,o1,cseg0,cseg4]
 refine(spec159 oki T).mono ?_
 rintro v st2 ⟨rfl,rfl⟩
 clear R T o1
 simp
 refine vc_joinB (M:=fun env' st'=>env' 2=.int .i64 (pickM c2 tp2:Nat)∧Sep (ChA cid c2::L) st') ?_ ?_
 ·refine vc_loopJ (fun n env' st'=>∃i b:Nat,i≤c2.l.length∧b<c2.l.length∧n=c2.l.length-i∧env' 14=.int .i64 (i:Nat)∧env' 2=.int .i64 (b:Nat)∧pickGo c2 (List.range' i (c2.l.length-i)) b=pickM c2 tp2∧Sep (ChA cid c2::L) st') c2.l.length
    ⟨0,tp2,by omega,h2.lt,by omega,by simp,by simp,rfl,S⟩ ?_
  clear S
  rintro J2 hJ2 n env2 st3 hsame ⟨i,b,hi,hb,rfl,h14,h3,hg,S⟩
  have g0:=(hsame.get 0 rfl).trans (by simp[g0]:_=V.ptr (some (cid,0)))
  have g13:=(hsame.get 13 rfl).trans (by simp:_=V.int .i64 (c2.l.length:Int))
  clear hsame
  by_cases hlt:i<c2.l.length
  ·rw[show c2.l.length-i=(c2.l.length-(i+1))+1 by omega,List.range'_succ,pickGo]at hg
   have w1:IntKind.i64.wrap ((i:Int)+1)=(i:Int)+1:=wrap64 (by omega) (by omega)
   obtain⟨mo,tid,bid,uid,R⟩:=chRead S
   have o1:=R.top
   have T:=R.tree w.neNil
   simp[g0,g13,h14,hlt,St.seg,o1,cseg0]
   refine(spec161 oki T w i).mono ?_
   rintro v st4 ⟨rfl,rfl⟩
   rw[inI_nat hlt]
   clear R T o1
   simp
   intro i4 h4
   have S:=S.new h4 (.cells z108_9b14)
   have hz:z108_9b14.length=108:=rfl
   have hst:=store_pt (sz:=108) (o:=0) S.get (v:=.agg (eNd (nd c2.l i))) (vs:=eNd (nd c2.l i)) rfl (eNd_len _) (by rw[hz];omega)
   rw[show spliceV z108_9b14 0 (eNd (nd c2.l i))=eNd (nd c2.l i) by simp[spliceV,eNd_len,hz]]at hst
   have S:=S.set (.cells (eNd (nd c2.l i)))
   simp[hst]at S⊢
   clear hst
   generalize st4.upd i4 _=st5 at S⊢
   have o4:=S.get
   have hfl7:=nseg107 (nd c2.l i)
   obtain⟨mo,tid,bid,uid,R⟩:=chRead S.drop
   have o1:=R.top
   have T:=R.tree w.neNil
   simp[St.seg,o4,hfl7]
   cases hfl:(nd c2.l i).failed with
   | true=>
     rw[if_neg (by rw[hfl];rintro⟨h,-⟩;cases h)]at hg
     simp[hfl,h14,w1]
     exact Round.mk (c2.l.length-(i+1)) _ (by omega) (sub_self _) (hJ2 _ _ _ ⟨i+1,b,by omega,hb,rfl,by simp,by simp[h3],hg,S.drop⟩)
   | false=>
     have hw:=osegWork (nd c2.l i)
     have hwb:=osegWork (nd c2.l b)
     have ew: ∀x,V.agg (eU x)=nU x:=fun x=>rfl
     simp[hfl,g0,h3,o1,cseg0,St.seg,o4,hw]
     refine still_call _ _ _ _ (by simpa using spec161 oki T w b) ?_
     rw[inI_nat hb]
     have hfw:fldV true 103 4 (V.agg (eNd (nd c2.l b)))=some (nU (natU (nd c2.l b).work)):=by
      show(segOf _ 103 4).bind (packV true)=_
      rw[hwb];rfl
     simp[hfw,ew]
     refine still_call _ _ _ _ (by simpa[ew]using spec106 okn st5 (natU (nd c2.l i).work) (natU (nd c2.l b).work)) ?_
     by_cases hcm:0<cmpU (natU (nd c2.l i).work) (natU (nd c2.l b).work)
     ·simp[hcm,g0]
      refine still_call _ _ _ _ (by simpa[g0]using spec275 ok R w h2.tip h2.lt i hlt) ?_
      cases hrd:readyM c2 i with
      | true=>
        rw[if_pos ⟨hfl,hcm,hrd⟩]at hg
        simp[h14,w1]
        exact Round.mk (c2.l.length-(i+1)) _ (by omega) (sub_self _) (hJ2 _ _ _ ⟨i+1,i,by omega,hlt,rfl,by simp,by simp,hg,S.drop⟩)
      | false=>
        rw[if_neg (by rw[hrd];rintro⟨-,-,h⟩;cases h)]at hg
        simp[h14,w1]
        exact Round.mk (c2.l.length-(i+1)) _ (by omega) (sub_self _) (hJ2 _ _ _ ⟨i+1,b,by omega,hb,rfl,by simp,by simp[h3],hg,S.drop⟩)
     ·rw[if_neg (fun h=>hcm h.2.1)]at hg
      simp[hcm,h14,w1]
      exact Round.mk (c2.l.length-(i+1)) _ (by omega) (sub_self _) (hJ2 _ _ _ ⟨i+1,b,by omega,hb,rfl,by simp,by simp[h3],hg,S.drop⟩)
  ·have:i=c2.l.length:=by omega
   subst this
   rw[Nat.sub_self]at hg
   have hg:b=pickM c2 tp2:=hg
   simp[g13,h14]
   exact⟨by rw[h3,hg],S⟩
 clear S
 rintro env2 st3 hsame ⟨h3,S⟩
 have g0:=(hsame.get 0 rfl).trans (by simp[g0]:_=V.ptr (some (cid,0)))
 clear hsame
 have ht2:c2.tip.toNat=tp2:=by rw[h2.tip];exact Int.toNat_natCast _
 rw[followN,ht2]at hgo
 obtain⟨mo,tid,bid,uid,R⟩:=chRead S
 have o1:=R.top
 rw[h2.tip]at o1
 by_cases hp:pickM c2 tp2=tp2
 ·rw[if_pos hp]at hgo
  rw[hp]at h3
  simp[g0,h3,St.seg,o1,cseg4]
  rw[←hgo]
  exact⟨st3,sub_self _,S⟩
 ·rw[if_neg hp]at hgo
  rcases pickM_in c2 tp2 with e | ⟨e1,e2,e3⟩
  ·exact absurd e hp
  have hra:=readyM_all h2 e1 e3
  have hpb:(((pickM c2 tp2:Nat):Int)==(tp2:Int))=false:=beq_eq_false_iff_ne.2 (by omega)
  simp[g0,h3,St.seg,o1,cseg4,hpb]
  refine(spec276 ok hc S h2 (pickM c2 tp2) e1 hra).mono ?_
  clear S R o1
  rintro v st4 ⟨rfl,S⟩
  obtain⟨m1,m2,m3⟩:=moveM_ok h2 e1 hra
  rcases m3 with⟨m3,m4,m5⟩ | ⟨m3,⟨x,x1,x2,x3,x4⟩,tp',m4⟩
  ·rw[if_pos m3]at hgo
   rw[m3]
   simp
   rw[←hgo]
   exact⟨st4,sub_self _,S⟩
  ·rw[if_neg (by rw[m3];decide)]at hgo
   rw[m3]
   simp
   have hlt:=sound_fail w x2 x3 e1 x1 e2
   rw[←x4]at hlt
   obtain⟨f',rfl⟩: ∃f',f=f'+1:=⟨f-1,by omega⟩
   exact Round.mk _ _ hlt (sub_self _) (hJ _ _ _ ⟨f',_,tp',rfl,by omega,hgo,m4,S⟩)
end
def bodyM (c:Ch)(b:Blk1):Ch×Int×Int:=
 match findM c.l (hId b.hdr)with
 | none=>(c,-1,4)
 | some i=>
   if(nd c.l i).hdr≠b.hdr then(c,-1,4)
   else if(nd c.l i).failed=true then(c,-1,101)
   else if hasM c i=true then(c,-1,5)
   else if rootE b≠0 then(c,-1,rootE b)
   else if blkE b≠0 then({c with l:=(failM c.l i).1},-1,blkE b)
   else(followM {c with bs:=aSet (i:Int) (cloneB b) c.bs},i,0)
theorem eqL_hdr2 (x y:Hdr):eqL (eHdr x) (eHdr y)=some (decide (x=y)):=by
 have e: ∀h:Hdr,eHdr h=[w32 h.ver]++(eId h.prev++(eId h.root++([w32 h.time]++([w32 h.bits]++[w32 h.nonce])))):=fun h=>rfl
 rw[e x,e y,eqL_app _ _ _ _ _ _ (eqL_w32 x.ver y.ver) (eqL_app _ _ _ _ _ _ (eqL_id x.prev y.prev) (eqL_app _ _ _ _ _ _ (eqL_id x.root y.root) (eqL_app _ _ _ _ _ _ (eqL_w32 x.time y.time) (eqL_app _ _ _ _ _ _ (eqL_w32 x.bits y.bits) (eqL_w32 x.nonce y.nonce)))))]
 congr 1
 rw[Bool.eq_iff_iff]
 simp only[Bool.and_eq_true,decide_eq_true_eq]
 constructor
 ·rintro⟨h1,h2,h3,h4,h5,h6⟩
  cases x
  cases y
  simp_all
 ·rintro rfl
  simp
theorem eqK_hdr2 (x y:Hdr):eqK (.agg 68) (.agg (eHdr x)) (.agg (eHdr y))=some (decide (x=y)):=by simp[eqK,eHdr_len,eqL_hdr2]
theorem cloneT_ok {t:Tx1}(h:t.ok 100):(cloneT t).ok 100:=by
 refine⟨by simpa[cloneT]using h.1,h.2.1,fun x hx=>?_⟩
 obtain⟨y,hy,rfl⟩:=List.mem_map.1 hx
 exact h.2.2 y hy
theorem cloneB_fits {b:Blk1}(h:b.fits):(cloneB b).fits:=by
 refine⟨by simpa[cloneB]using h.1,fun t ht=>?_⟩
 obtain⟨y,hy,rfl⟩:=List.mem_map.1 ht
 exact cloneT_ok (h.2 y hy)
theorem ChOk.more {c:Ch}{tp:Nat}(h:ChOk c tp)(i:Int)(b:Blk1)(hb:b.fits):ChOk {c with bs:=aSet i (cloneB b) c.bs} tp:=by
 refine⟨⟨h.wf,h.len,fun j b' hj=>?_⟩,h.tip,h.lt,fun k hk=>?_⟩
 ·have hj:lk j (aSet i (cloneB b) c.bs)=some b':=hj
  rw[lk_aSet]at hj
  split at hj
  ·cases hj
   exact cloneB_fits hb
  ·exact h.fits j b' hj
 ·have:=h.way k hk
  unfold hasM at this⊢
  show(lk (k:Int) (aSet i (cloneB b) c.bs)).isSome=true
  rw[lk_aSet]
  split
  ·rfl
  ·exact this
theorem ChOk.failed {c:Ch}{tp:Nat}(h:ChOk c tp)(i:Int):ChOk {c with l:=(failM c.l i).1} tp:=by
 obtain⟨f,hf⟩:=failM_setF c.l i
 refine⟨h.toChW.failed i,h.tip,by show tp< (failM c.l i).1.length;rw[hf,setF_length];exact h.lt,fun k hk=>?_⟩
 have hk:On (failM c.l i).1 k tp:=hk
 rw[hf,setF_on]at hk
 exact h.way k hk
section
variable {P:Program} {F:Fn}
set_option maxHeartbeats 8000000 in
theorem spec273 (ok:OkChain P F)(hc:CloneC P (F 256)){st:St}{cid:Nat}{c:Ch}{L:List Asn}(S:Sep (ChA cid c::L) st){tp:Nat}(h:ChOk c tp)(b:Blk1)(hb:b.fits):
  ACalls P (F 273) [.ptr (some (cid,0)),.agg (eBlk b)] st fun v st'=>v=.tup [.int .i64 (bodyM c b).2.1,.int .i64 (bodyM c b).2.2]∧Sep (ChA cid (bodyM c b).1::L) st':=by
 have okl:=ok.toOkLocate
 have okz:=okl.toOkIndexZ
 have oki:=okz.toOkIndex
 have okh:=oki.toOkHead
 have okc2:=ok.toOkCoins.toOkCheck2
 refine shows_call ok.mixed ok.h273 (by simp[k273]) ?_
 simp only[k273]
 have w:=h.wf
 have hsH:=bsegH b
 have hsA:=bsegAll b
 have hfH: ∀x,fldV true 0 68 (V.agg (eNd x))=some (.agg (eHdr x.hdr)):=fun x=>by
  show(segOf _ 0 68).bind (packV true)=_
  rw[osegHdr];rfl
 have hfF: ∀x,fldV false 107 1 (V.agg (eNd x))=some (.bool x.failed):=fun x=>by
  show(segOf _ 107 1).bind (packV false)=_
  rw[nseg107];rfl
 simp
 intro i3 h3
 have S:=S.new h3 (.cells (eBlk b))
 generalize st.upd i3 _=st1 at S⊢
 have o3:=S.get
 obtain⟨mo,tid,bid,uid,R⟩:=chRead S.drop
 have o1:=R.top
 have T:=R.tree w.neNil
 simp[St.seg,o1,o3,cseg0,hsH]
 refine still_call _ _ _ _ (by simpa using spec141 okh st1 b.hdr) ?_
 simp
 refine still_call _ _ _ _ (by simpa using spec162 okz T (hId b.hdr)) ?_
 have hbm:bodyM c b=(match findM c.l (hId b.hdr)with
  | none=>(c,-1,4)
  | some i=>
    if(nd c.l i).hdr≠b.hdr then(c,-1,4)
    else if(nd c.l i).failed=true then(c,-1,101)
    else if hasM c i=true then(c,-1,5)
    else if rootE b≠0 then(c,-1,rootE b)
    else if blkE b≠0 then({c with l:=(failM c.l i).1},-1,blkE b)
    else(followM {c with bs:=aSet (i:Int) (cloneB b) c.bs},i,0)):=rfl
 cases hfi:findM c.l (hId b.hdr)with
 | none=>
   rw[hfi]at hbm
   simp only at hbm
   rw[hbm]
   simp
   exact⟨st1,sub_self _,S.drop⟩
 | some i=>
   have hil:=findM_lt hfi
   rw[hfi]at hbm
   simp only at hbm
   simp
   simp[St.seg,o1,cseg0]
   refine still_call _ _ _ _ (by simpa using spec161 oki T w i) ?_
   rw[inI_nat hil]
   simp[hfH,St.seg,o3,hsH]
   rw[eqK_hdr2]
   by_cases hh:(nd c.l i).hdr=b.hdr
   ·rw[if_neg (by simp[hh])]at hbm
    simp[hh,St.seg,o1,cseg0]
    refine(spec161 oki T w i).mono ?_
    rintro v st2 ⟨rfl,rfl⟩
    rw[inI_nat hil]
    cases hfl:(nd c.l i).failed with
    | true=>
      rw[if_pos hfl]at hbm
      rw[hbm]
      simp[hfF,hfl]
      exact⟨st2,sub_self _,S.drop⟩
    | false=>
      rw[if_neg (by rw[hfl];decide)]at hbm
      simp[hfF,hfl]
      refine(spec268 ok R i).mono ?_
      rintro v st3 ⟨rfl,rfl⟩
      cases hha:hasM c (i:Int)with
      | true=>
        rw[if_pos hha]at hbm
        rw[hbm]
        simp
        exact⟨st3,sub_self _,S.drop⟩
      | false=>
        rw[if_neg (by rw[hha];decide)]at hbm
        simp[St.seg,o3,hsA]
        refine(spec252 okc2 st3 b (Nat.le_trans hb.1 (by decide)) hb.2).mono ?_
        rintro v st4 ⟨rfl,hsub⟩
        clear R T o1
        have S:=S.sub hsub
        have o3:=S.get
        by_cases hre:rootE b=0
        ·rw[if_neg (by rw[hre];simp)]at hbm
         simp[hre,St.seg,o3,hsA]
         refine(spec253 okc2 st4 b (Nat.le_trans hb.1 (by decide)) (fun t' ht'=>by
          have ht:=hb.2 t' ht'
          exact⟨Nat.le_trans ht.1 (by decide),Nat.le_trans ht.2.1 (by decide),fun x hx=>Nat.le_trans (ht.2.2 x hx) (by decide)⟩)).mono ?_
         rintro v st5 ⟨rfl,hsub⟩
         have S:=S.sub hsub
         have o3:=S.get
         by_cases hbe:blkE b=0
         ·rw[if_neg (by rw[hbe];simp)]at hbm
          obtain⟨tid,bid,uid,W⟩:=chOpen S.drop
          obtain⟨mo,R⟩:=ChR.at W
          have o1:=R.top
          simp[hbe,St.seg,o1,o3,cseg2,hsA]
          refine still_call _ _ _ _ (by simpa using spec271 ok st5 b (Nat.le_trans hb.1 (by decide)) hb.2) ?_
          have hms:=mset_enc keyed_int (ev:=vBlk) R.bod (i:Int) (cloneB b)
          simp only[kInt]at hms
          have W3:=SetS.setL (i:=bid) (x:=.mp (encM kInt vBlk c.bs)) (W.tail (L':=pt bid (.mp (encM kInt vBlk c.bs))::TreeS tid c.r c.l::pt uid (.mp (encM kInt vUndo c.us))::L) fun r h=>h.pull 1) (.mp (encM kInt vBlk (aSet (i:Int) (cloneB b) c.bs)))
          obtain⟨st6,hst6⟩: ∃s,s=st5.upd bid (.mp (encM kInt vBlk (aSet (i:Int) (cloneB b) c.bs))):=⟨_,rfl⟩
          rw[←hst6]at W3 hms
          have S6:Sep (ChA cid {c with bs:=aSet (i:Int) (cloneB b) c.bs}::L) st6:=chClose (c:={c with bs:=aSet (i:Int) (cloneB b) c.bs}) (W3.tail fun r h=>h.swap)
          simp[hms]
          refine(spec274 ok hc S6 (h.more i b hb)).mono ?_
          intro v st7 S7
          rw[hbm]
          simp
          exact⟨st7,sub_self _,S7⟩
         ·rw[if_pos hbe]at hbm
          have hbb:(blkE b != 0)=true:=by simpa using hbe
          obtain⟨mo,tid,bid,uid,R,hgrow⟩:=chGrow (P:=P) S.drop
          have o1:=R.top
          simp[hbb,hbe,St.seg,o1,cseg0]
          refine(hgrow (F 170) [.ptr (some (tid,0)),.int .i64 (i:Int)] (fun _=>True) (failM c.l i).1 (fun hp hT=>(spec170 oki hT w h.len i).mono fun v s hh=>⟨trivial,hh.2⟩)).mono ?_
          rintro v st6 ⟨-,S6⟩
          rw[hbm]
          simp
          exact⟨st6,sub_self _,S6⟩
        ·rw[if_pos hre]at hbm
         have hrb:(rootE b != 0)=true:=by simpa using hre
         rw[hbm]
         simp[hrb,hre]
         exact⟨st4,sub_self _,S.drop⟩
   ·rw[if_pos hh]at hbm
    rw[hbm]
    simp[hh]
    exact⟨st1,sub_self _,S.drop⟩
end
theorem chainGo_all (r:Rl)(m:UInt8): ∀(n h:Nat) (out:List Blk1),out≠[]→
  ∃l:List Blk1,chainGo r m n h out=out++l∧l.length≤n∧∀k,k<l.length→∃p b:Blk1,(out++l)[out.length+k-1]? =some p∧(out++l)[out.length+k]? =some b∧b=growB r p.hdr (h+k) m []∧(growR r p.hdr (h+k) m []).2=true
 | 0,h,out,_=>⟨[],by simp[chainGo],by simp,fun k hk=>by cases hk⟩
 | n+1,h,out,ho=>by
   by_cases hg:(growR r (lastH out) h m []).2=true
   ·obtain⟨l,h1,h2,h3⟩:=chainGo_all r m n (h+1) (out++[growB r (lastH out) h m []]) (by simp)
    refine⟨growB r (lastH out) h m []::l,by rw[chainGo,if_pos hg,h1];simp,by simp;omega,fun k hk=>?_⟩
    have hpos:0<out.length:=List.length_pos_iff.2 ho
    cases k with
    | zero=>
      have hlast:=lastH_at (out:=out) (i:=out.length-1) (by omega) (by omega)
      refine⟨out[out.length-1],growB r (lastH out) h m [],?_,?_,?_,?_⟩
      ·rw[List.getElem?_append_left (by omega),List.getElem?_eq_getElem (by omega)];rfl
      ·rw[List.getElem?_append_right (by omega)];simp
      ·rw[hlast];rfl
      ·rw[hlast]at hg;exact hg
    | succ k=>
      obtain⟨p,b,q1,q2,q3,q4⟩:=h3 k (by rw[List.length_cons]at hk;omega)
      rw[List.append_assoc,List.length_append,List.length_singleton]at q1 q2
      refine⟨p,b,?_,?_,?_,?_⟩
      ·rw[←q1,List.singleton_append];congr 1;omega
      ·rw[←q2,List.singleton_append];congr 1;omega
      ·rw[q3];congr 1;omega
      ·rw[←q4];congr 2;omega
   ·exact⟨[],by rw[chainGo,if_neg hg];simp,by simp,fun k hk=>by cases hk⟩
structure HonB (work:Int) (m:UInt8) (n:Nat) (bs:List Blk1):Prop where
 le:bs.length≤n+1
 gen:bs[0]? =some genB
 next: ∀k,k+1<bs.length→∃p b:Blk1,bs[k]? =some p∧bs[k+1]? =some b∧b=growB (rulesM work) p.hdr (k+1) m []∧(growR (rulesM work) p.hdr (k+1) m []).2=true
theorem honB (n:Nat)(work:Int)(m:UInt8):HonB work m n (chainM (rulesM work) genB (n:Int) m):=by
 have hc:chainM (rulesM work) genB (n:Int) m=chainGo (rulesM work) m n 1 [genB]:=by rw[chainM,Int.toNat_natCast]
 obtain⟨l,k1,k2,k3⟩:=chainGo_all (rulesM work) m n 1 [genB] (by simp)
 refine⟨by rw[hc,k1];simp;omega,by rw[hc,k1];rfl,fun k hk=>?_⟩
 rw[hc,k1,List.length_append,List.length_singleton]at hk
 obtain⟨p,b,q1,q2,q3,q4⟩:=k3 k (by omega)
 rw[hc,k1]
 refine⟨p,b,?_,?_,?_,?_⟩
 ·rw[←q1];congr 1;simp
 ·rw[←q2];congr 1;simp;omega
 ·rw[q3,Nat.add_comm]
 ·rw[Nat.add_comm];exact q4
theorem growB_facts {r:Rl}{p:Hdr}{h:Nat}{m:UInt8}(hg:(growR r p h m []).2=true):(growB r p h m []).hdr.prev=hId p∧(growB r p h m []).hdr.root=(rootM (rowsIds [firstM r.subsidy h m])).1∧
  (growB r p h m []).hdr.time=p.time+BitVec.ofInt 32 r.spacing∧(growB r p h m []).hdr.bits=p.bits∧provedN (growB r p h m []).hdr r.limit=0∧(growB r p h m []).txs=[firstM r.subsidy h m]∧(growB r p h m []).tk=.full:=by
 unfold growR at hg
 cases hm:mineN (preM r p [firstM r.subsidy h m]) r.limit 4096 with
 | none=>rw[hm]at hg;cases hg
 | some x=>
   obtain⟨h1,h2,h3,h4,h5,h6⟩:=mineN_some hm
   have e:(growB r p h m []).hdr=x:=by
    show(growR r p h m []).1=x
    unfold growR
    rw[hm]
   rw[e]
   exact⟨h2,h3,h4,h5,h6,rfl,rfl⟩
theorem hon_root (h:Nat)(m:UInt8):rootM (rowsIds [firstM 50 h m])=(txIdM (firstM 50 h m),false):=by
 show rootM [txIdM (firstM 50 h m)]=_
 have:rootM [txIdM (firstM 50 h m)]=([txIdM (firstM 50 h m)].headD id0,false):=rootF_done _ _ _ (by simp)
 rw[this]
 rfl
theorem hon_txM (h:Nat)(m:UInt8):txM (firstM 50 h m) true=0:=by
 have h1:sumM [⟨50,sha [m]⟩]=(50,true):=by simp[sumM,sumGo]
 simp[txM,firstM,insGo,In1.pt,makerP,h1]
theorem hon_txlen (h:Nat)(m:UInt8):(txB (firstM 50 h m)).length=82:=by
 rw[txB_first]
 simp only[List.length_cons,List.length_append,List.length_replicate,outV_len]
 rfl
theorem hon_blk (x:Hdr)(h:Nat)(m:UInt8)(hr:x.root=txIdM (firstM 50 h m)):blkE ⟨x,.full,[firstM 50 h m]⟩=0∧rootE ⟨x,.full,[firstM 50 h m]⟩=0:=by
 have c1:(countB (BitVec.ofNat 64 1)).length=1:=by decide
 have ht:=hon_txlen h m
 have hro:=hon_root h m
 have hb:(blkB ⟨x,.full,[firstM 50 h m]⟩).length=163:=by simp[blkB,hBytes_len,c1,ht]
 have hre:rootE ⟨x,.full,[firstM 50 h m]⟩=0:=by
  rw[rootE,if_neg]
  rintro(⟨t,h1,h2⟩ | h1 | h1)
  ·rw[List.mem_singleton.1 h1,ht]at h2
   cases h2
  ·rw[hro]at h1;cases h1
  ·rw[hro]at h1;exact h1 hr.symm
 refine⟨?_,hre⟩
 unfold blkE
 rw[if_neg (by simp),if_neg (by simp[txsE,hon_txM]),if_neg (by rw[hb];decide),hre]
theorem honTgt:workN ((tgt 545259519#32).getD 0)=2:=by rw[easy_tgt];decide+kernel
theorem hon_next {work:Int}{m:UInt8}{n k:Nat}{bs:List Blk1}(H:HonB work m n bs)(hk:k+1<bs.length): ∃p b:Blk1,bs[k]? =some p∧bs[k+1]? =some b∧b=⟨b.hdr,.full,[firstM 50 (k+1) m]⟩∧
  b.hdr.root=txIdM (firstM 50 (k+1) m)∧provedN b.hdr 545259519#32=0∧b.hdr.prev=hId p.hdr∧b.hdr.bits=p.hdr.bits∧b.hdr.time=p.hdr.time+BitVec.ofInt 32 10:=by
 obtain⟨p,b,hp,hb,e,hg⟩:=H.next k hk
 obtain⟨g1,g2,g3,g4,g5,g6,g7⟩:=growB_facts hg
 rw[←e]at g1 g2 g3 g4 g5 g6 g7
 refine⟨p,b,hp,hb,?_,?_,g5,g1,g4,g3⟩
 ·cases b
  simp only at g6 g7
  rw[g6,g7]
  rfl
 ·rw[g2]
  show(rootM (rowsIds [firstM 50 (k+1) m])).1=_
  rw[hon_root]
section
variable {K A:Type} [DecidableEq K]
def KN (l:List (K×A)):Prop:=(l.map (·.1)).Nodup
theorem KN.nil:KN ([]:List (K×A)):=List.Pairwise.nil
theorem lk_key {k:K}{v:A}: ∀{l:List (K×A)},lk k l=some v→k∈l.map (·.1)
 | [],h=>by cases h
 | p::l,h=>by
   rw[lk_cons]at h
   split at h
   ·rename_i e
    rw[e]
    exact List.mem_cons_self
   ·exact List.mem_cons_of_mem _ (lk_key h)
theorem lk_noMem {k:K}{l:List (K×A)}(h:k∉l.map (·.1)):lk k l=none:=by
 cases e:lk k l with
 | none=>rfl
 | some v=>exact absurd (lk_key e) h
theorem key_aSet {k x:K}{v:A}: ∀{l:List (K×A)},x∈(aSet k v l).map (·.1)↔x=k∨x∈l.map (·.1)
 | []=>by simp[aSet]
 | p::l=>by
   rw[aSet]
   split
   ·rename_i e
    simp[e]
   ·have ih:=key_aSet (k:=k) (x:=x) (v:=v) (l:=l)
    rw[List.map_cons,List.mem_cons,ih,List.map_cons,List.mem_cons]
    constructor
    ·rintro(h | h | h)
     ·exact .inr (.inl h)
     ·exact .inl h
     ·exact .inr (.inr h)
    ·rintro(h | h | h)
     ·exact .inr (.inl h)
     ·exact .inl h
     ·exact .inr (.inr h)
theorem KN.set {l:List (K×A)}(h:KN l)(k:K)(v:A):KN (aSet k v l):=by
 induction l with
 | nil=>simp[KN,aSet]
 | cons p l ih=>
   obtain⟨h1,h2⟩:=List.nodup_cons.1 (show(p.1::l.map (·.1)).Nodup from h)
   rw[aSet]
   split
   ·rename_i e
    exact List.nodup_cons.2 ⟨by rw[e];exact h1,h2⟩
   ·rename_i e
    refine List.nodup_cons.2 ⟨fun hm=>?_,ih h2⟩
    rcases key_aSet.1 hm with hm | hm
    ·exact e hm.symm
    ·exact h1 hm
theorem aDel_subl (k:K): ∀l:List (K×A),(aDel k l).Sublist l
 | []=>.slnil
 | e::l=>by
   rw[aDel]
   split
   ·exact List.sublist_cons_self _ _
   ·exact(aDel_subl k l).cons_cons _
theorem KN.del {l:List (K×A)}(h:KN l)(k:K):KN (aDel k l):=List.Nodup.sublist ((aDel_subl k l).map _) h
theorem lk_aDelN {l:List (K×A)}(h:KN l)(k k':K):lk k (aDel k' l)=if k=k' then none else lk k l:=by
 induction l with
 | nil=>rw[aDel];split<;>rfl
 | cons p l ih=>
   obtain⟨h1,h2⟩:=List.nodup_cons.1 (show(p.1::l.map (·.1)).Nodup from h)
   rw[aDel]
   by_cases e:k'=p.1
   ·rw[if_pos e,lk_cons]
    by_cases e2:k=p.1
    ·rw[if_pos (e2.trans e.symm)]
     rw[e2]
     exact lk_noMem h1
    ·rw[if_neg (fun e3=>e2 (e3.trans e)),if_neg e2]
   ·rw[if_neg e,lk_cons,lk_cons,ih h2]
    by_cases e2:k=p.1
    ·rw[if_pos e2,if_pos e2,if_neg (fun e3=>e (e3.symm.trans e2))]
    ·rw[if_neg e2,if_neg e2]
structure KE (a b:List (K×A)):Prop where
 na:KN a
 nb:KN b
 eq: ∀k,lk k a=lk k b
theorem KE.refl {a:List (K×A)}(h:KN a):KE a a:=⟨h,h,fun _=>rfl⟩
theorem KE.symm {a b:List (K×A)}(h:KE a b):KE b a:=⟨h.nb,h.na,fun k=>(h.eq k).symm⟩
theorem KE.trans {a b c:List (K×A)}(h:KE a b)(g:KE b c):KE a c:=⟨h.na,g.nb,fun k=>(h.eq k).trans (g.eq k)⟩
theorem KE.set {a b:List (K×A)}(h:KE a b)(k:K)(v:A):KE (aSet k v a) (aSet k v b):=⟨h.na.set k v,h.nb.set k v,fun x=>by rw[lk_aSet,lk_aSet,h.eq]⟩
theorem KE.del {a b:List (K×A)}(h:KE a b)(k:K):KE (aDel k a) (aDel k b):=⟨h.na.del k,h.nb.del k,fun x=>by rw[lk_aDelN h.na,lk_aDelN h.nb,h.eq]⟩
theorem KE.put {a b:List (K×A)}{k:K}{v:A}(h:KE a (aDel k b))(hb:KN b)(hk:lk k b=some v):KE (aSet k v a) b:=⟨h.na.set k v,hb,fun x=>by
 rw[lk_aSet,h.eq,lk_aDelN hb]
 by_cases e:x=k
 ·rw[if_pos e,e,hk]
 ·rw[if_neg e,if_neg e]⟩
theorem key_lk {k:K}: ∀{l:List (K×A)},k∈l.map (·.1)→∃v,lk k l=some v
 | p::l,h=>by
   rw[lk_cons]
   by_cases e:k=p.1
   ·exact⟨p.2,by rw[if_pos e]⟩
   ·rw[if_neg e]
    rcases List.mem_cons.1 h with h | h
    ·exact absurd h e
    ·exact key_lk h
theorem nodup_len {l m:List K}(h:l.Nodup)(hs: ∀x∈l,x∈m):l.length≤m.length:=by
 induction l generalizing m with
 | nil=>simp
 | cons a l ih=>
   obtain⟨h1,h2⟩:=List.nodup_cons.1 h
   have ha:=hs a List.mem_cons_self
   have:=ih (m:=m.erase a) h2 fun x hx=>by
    have hne:x≠a:=fun e=>h1 (e ▸hx)
    exact(List.mem_erase_of_ne hne).2 (hs x (List.mem_cons_of_mem _ hx))
   rw[List.length_erase_of_mem ha]at this
   have:=List.length_pos_of_mem ha
   rw[List.length_cons]
   omega
theorem KE.len {a b:List (K×A)}(h:KE a b):a.length=b.length:=by
 have k1: ∀x,x∈a.map (·.1)→x∈b.map (·.1):=fun x hx=>by
  obtain⟨v,hv⟩:=key_lk hx
  rw[h.eq]at hv
  exact lk_key hv
 have k2: ∀x,x∈b.map (·.1)→x∈a.map (·.1):=fun x hx=>by
  obtain⟨v,hv⟩:=key_lk hx
  rw[←h.eq]at hv
  exact lk_key hv
 have l1:=nodup_len h.na k1
 have l2:=nodup_len h.nb k2
 rw[List.length_map,List.length_map]at l1 l2
 omega
end
theorem spendGo_eq: ∀(l:List In1) {a b:CM} (ps:List Pt) (cs:List Coin1) (n:Int),KE a b→
  (spendGo a ps cs n l).n=(spendGo b ps cs n l).n∧(spendGo a ps cs n l).e=(spendGo b ps cs n l).e∧(spendGo a ps cs n l).ps=(spendGo b ps cs n l).ps∧(spendGo a ps cs n l).cs=(spendGo b ps cs n l).cs∧KE (spendGo a ps cs n l).cm (spendGo b ps cs n l).cm
 | [],a,b,ps,cs,n,h=>⟨rfl,rfl,rfl,rfl,h⟩
 | i::l,a,b,ps,cs,n,h=>by
   rw[spendGo,spendGo,h.eq]
   cases hk:lk (ptOf i) b with
   | none=>exact⟨rfl,rfl,rfl,rfl,h⟩
   | some c=>
     by_cases hl:sha i.key≠c.1.lock
     ·dsimp only
      rw[if_pos hl,if_pos hl]
      exact⟨rfl,rfl,rfl,rfl,h⟩
     ·dsimp only
      rw[if_neg hl,if_neg hl]
      exact spendGo_eq l _ _ _ (h.del _)
theorem layHit_eq {a b:CM}(h:KE a b)(id:Id): ∀(l:List Out1) (j:Nat),layHit id a j l=layHit id b j l
 | [],j=>rfl
 | o::l,j=>by rw[layHit,layHit,h.eq,layHit_eq h id l]
theorem layL_eq (id:Id)(t:Int): ∀(l:List Out1) (j:Nat) {a b:CM},KE a b→KE (layL id t j l a) (layL id t j l b)
 | [],j,a,b,h=>h
 | o::l,j,a,b,h=>layL_eq id t l (j+1) (h.set _ _)
theorem layM_eq {a b:CM}(h:KE a b)(t:Tx1)(n:Int):(layM t n a).1=(layM t n b).1∧KE (layM t n a).2 (layM t n b).2:=by
 unfold layM
 rw[layHit_eq h]
 split
 ·exact⟨rfl,h⟩
 ·exact⟨rfl,layL_eq _ _ _ _ h⟩
theorem connGo_eq (h:Int): ∀(l:List Tx1) {a b:CM} (ps:List Pt) (cs:List Coin1) (n:Int),KE a b→
  (connGo h a ps cs n l).e=(connGo h b ps cs n l).e∧(connGo h a ps cs n l).ps=(connGo h b ps cs n l).ps∧(connGo h a ps cs n l).cs=(connGo h b ps cs n l).cs∧(connGo h a ps cs n l).fee=(connGo h b ps cs n l).fee∧KE (connGo h a ps cs n l).cm (connGo h b ps cs n l).cm
 | [],a,b,ps,cs,n,k=>⟨rfl,rfl,rfl,rfl,k⟩
 | t::l,a,b,ps,cs,n,k=>by
   obtain⟨s1,s2,s3,s4,s5⟩:=spendGo_eq t.ins ps cs 0 k
   obtain⟨y1,y2⟩:=layM_eq s5 t h
   unfold connGo
   dsimp only
   rw[s1,s2,s3,s4,y1]
   split
   ·exact⟨rfl,rfl,rfl,rfl,s5⟩
   ·split
    ·exact⟨rfl,rfl,rfl,rfl,s5⟩
    ·split
     ·exact⟨rfl,rfl,rfl,rfl,y2⟩
     ·exact connGo_eq h l _ _ _ y2
theorem connM_eq {a b:CM}(k:KE a b)(x:Blk1)(h sub:Int):(connM x h sub a).e=(connM x h sub b).e∧uOf (connM x h sub a)=uOf (connM x h sub b)∧KE (connM x h sub a).cm (connM x h sub b).cm:=by
 obtain⟨s1,s2,s3,s4,s5⟩:=connGo_eq h x.txs.tail [] [] 0 k
 have hu: ∀p q:Cn,p.ps=q.ps→p.cs=q.cs→uOf p=uOf q:=fun p q e1 e2=>by unfold uOf;rw[e1,e2]
 unfold connM
 dsimp only
 generalize connGo h a [] [] 0 x.txs.tail=X at *
 generalize connGo h b [] [] 0 x.txs.tail=Y at *
 rw[s1]
 split
 ·exact⟨s1,hu _ _ s2 s3,s5⟩
 ·cases x.txs with
  | nil=>exact⟨rfl,hu _ _ s2 s3,s5⟩
  | cons t l=>
    obtain⟨y1,y2⟩:=layM_eq s5 t h
    dsimp only
    rw[s4]
    split
    ·exact⟨rfl,hu _ _ s2 s3,s5⟩
    ·exact⟨y1,hu _ _ s2 s3,y2⟩
theorem KN.take (id:Id): ∀(l:List Out1) (j:Nat) {a:CM},KN a→KN (takeL id j l a)
 | [],_,_,h=>h
 | _::l,j,_,h=>KN.take id l (j+1) (h.del _)
def isOut (id:Id)(k:Pt):Nat→List Out1→Prop
 | _,[]=>False
 | j,_::l=>k=(id,BitVec.ofNat 32 j)∨isOut id k (j+1) l
theorem lk_take (id:Id)(k:Pt): ∀(l:List Out1) (j:Nat) {a:CM},KN a→(isOut id k j l→lk k (takeL id j l a)=none)∧(¬isOut id k j l→lk k (takeL id j l a)=lk k a)
 | [],j,a,h=>⟨fun h=>h.elim,fun _=>rfl⟩
 | o::l,j,a,h=>by
   obtain⟨h1,h2⟩:=lk_take id k l (j+1) (h.del (id,BitVec.ofNat 32 j))
   rw[takeL,isOut]
   by_cases ho:isOut id k (j+1) l
   ·exact⟨fun _=>h1 ho,fun hn=>absurd (.inr ho) hn⟩
   ·rw[h2 ho,lk_aDelN h]
    by_cases e:k=(id,BitVec.ofNat 32 j)
    ·exact⟨fun _=>by rw[if_pos e],fun hn=>absurd (.inl e) hn⟩
    ·exact⟨fun hn=>(hn.elim e ho).elim,fun _=>by rw[if_neg e]⟩
theorem lk_lay (id:Id)(t:Int)(k:Pt): ∀(l:List Out1) (j:Nat) {a:CM},¬isOut id k j l→lk k (layL id t j l a)=lk k a
 | [],j,a,_=>rfl
 | o::l,j,a,h=>by
   rw[layL,lk_lay id t k l (j+1) fun h'=>h (.inr h'),lk_aSet,if_neg fun e=>h (.inl e)]
theorem lay_hit (id:Id)(a:CM)(k:Pt): ∀(l:List Out1) (j:Nat),layHit id a j l=false→isOut id k j l→lk k a=none
 | [],j,_,h=>h.elim
 | o::l,j,h,ho=>by
   rw[layHit,Bool.or_eq_false_iff]at h
   rcases ho with ho | ho
   ·rw[ho]
    cases e:lk (id,BitVec.ofNat 32 j) a with
    | none=>rfl
    | some v=>rw[e]at h;cases h.1
   ·exact lay_hit id a k l (j+1) h.2 ho
theorem lay_back {t:Tx1}{n:Int}{a c:CM}(ha:KN a)(h0:(layM t n a).1=0)(h:KE c (layM t n a).2):KE (takeM t c) a:=by
 unfold layM at h0 h
 split at h0
 ·cases h0
 ·rename_i hh
  rw[if_neg hh]at h
  have hh:layHit (txIdM t) a 0 t.outs=false:=by simpa using hh
  refine⟨KN.take _ _ _ h.na,ha,fun k=>?_⟩
  unfold takeM
  obtain⟨h1,h2⟩:=lk_take (txIdM t) k t.outs 0 h.na
  by_cases ho:isOut (txIdM t) k 0 t.outs
  ·rw[h1 ho,lay_hit _ _ _ _ _ hh ho]
  ·rw[h2 ho,h.eq]
   exact lk_lay _ _ _ _ _ ho
theorem giveGo_add (ps:List Pt)(cs:List Coin1)(b:Nat): ∀(a n:Nat) (cm:CM),giveGo ps cs n (a+b) cm=giveGo ps cs (n-a) b (giveGo ps cs n a cm)
 | 0,n,cm=>by simp[giveGo]
 | a+1,n,cm=>by
   rw[show a+1+b=(a+b)+1 by omega,giveGo,giveGo_add ps cs b a,giveGo,show n-1-a=n-(a+1) by omega]
theorem spend_back {PS:List Pt}{CS:List Coin1}: ∀(l:List In1) {cm c:CM} {ps:List Pt} {cs:List Coin1} {n:Int},KN cm→ps.length=cs.length→(spendGo cm ps cs n l).e=0→(∃q,PS=(spendGo cm ps cs n l).ps++q)→(∃q,CS=(spendGo cm ps cs n l).cs++q)→
  KE c (spendGo cm ps cs n l).cm→KE (giveGo PS CS (ps.length+l.length) l.length c) cm∧(spendGo cm ps cs n l).ps.length=ps.length+l.length∧(spendGo cm ps cs n l).cs.length=cs.length+l.length
 | [],cm,c,ps,cs,n,hn,hl,h0,hp,hc,h=>⟨h,rfl,rfl⟩
 | i::l,cm,c,ps,cs,n,hn,hl,h0,hp,hc,h=>by
   unfold spendGo at h0 hp hc h⊢
   cases hk:lk (ptOf i) cm with
   | none=>rw[hk]at h0;cases h0
   | some x=>
     rw[hk]at h0 hp hc h
     simp only at h0 hp hc h⊢
     by_cases hs:sha i.key≠x.1.lock
     ·rw[if_pos hs]at h0;cases h0
     ·rw[if_neg hs]at h0 hp hc h⊢
      obtain⟨k1,k2,k3⟩:=spend_back l (hn.del _) (by simp[hl]) h0 hp hc h
      rw[List.length_append,List.length_singleton]at k1 k2 k3
      refine⟨?_,by rw[k2,List.length_cons];omega,by rw[k3,List.length_cons];omega⟩
      rw[List.length_cons,giveGo_add,show ps.length+(l.length+1)=ps.length+1+l.length by omega,Nat.add_sub_cancel]
      obtain⟨⟨q1,e1⟩,q2,e2⟩:=spendGo_pre l (aDel (ptOf i) cm) (ps++[ptOf i]) (cs++[x]) (IntKind.i64.wrap (n+x.1.amt))
      obtain⟨q3,e3⟩:=hp
      obtain⟨q4,e4⟩:=hc
      rw[giveGo,Nat.add_sub_cancel,giveGo]
      have g1:PS.getD ps.length (id0,0#32)=ptOf i:=by
       rw[e3,e1,List.getD_eq_getElem?_getD,List.append_assoc,List.append_assoc,List.getElem?_append_right (Nat.le_refl _),Nat.sub_self]
       rfl
      have g2:CS.getD ps.length coin0=x:=by
       rw[e4,e2,hl,List.getD_eq_getElem?_getD,List.append_assoc,List.append_assoc,List.getElem?_append_right (Nat.le_refl _),Nat.sub_self]
       rfl
      rw[g1,g2]
      exact k1.put hn hk
theorem disGo_app (ps:List Pt)(cs:List Coin1)(b:List Tx1): ∀(a:List Tx1) (n:Nat) (cm:CM),disGo ps cs (a++b) n cm=disGo ps cs b (n-insN a) (disGo ps cs a n cm)
 | [],n,cm=>by simp[disGo,insN]
 | t::a,n,cm=>by
   rw[List.cons_append,disGo,disGo_app ps cs b a,disGo,insN_cons,Nat.sub_sub]
theorem insN_reverse (l:List Tx1):insN l.reverse=insN l:=by
 induction l with
 | nil=>rfl
 | cons t l ih=>rw[List.reverse_cons,insN_append,insN_cons,insN_cons,insN_nil,ih];omega
theorem connGo_pre (h:Int): ∀(l:List Tx1) (cm:CM) (ps:List Pt) (cs:List Coin1) (n:Int),(∃q,(connGo h cm ps cs n l).ps=ps++q)∧∃q,(connGo h cm ps cs n l).cs=cs++q
 | [],cm,ps,cs,n=>⟨⟨[],by simp[connGo]⟩,[],by simp[connGo]⟩
 | t::l,cm,ps,cs,n=>by
   obtain⟨⟨q1,e1⟩,q2,e2⟩:=spendGo_pre t.ins cm ps cs 0
   unfold connGo
   simp only
   split
   ·exact⟨⟨q1,e1⟩,q2,e2⟩
   ·split
    ·exact⟨⟨q1,e1⟩,q2,e2⟩
    ·split
     ·exact⟨⟨q1,e1⟩,q2,e2⟩
     ·obtain⟨⟨q3,e3⟩,q4,e4⟩:=connGo_pre h l (layM t h (spendGo cm ps cs 0 t.ins).cm).2 (spendGo cm ps cs 0 t.ins).ps (spendGo cm ps cs 0 t.ins).cs (IntKind.i64.wrap (n+IntKind.i64.wrap ((spendGo cm ps cs 0 t.ins).n-(sumM t.outs).1)))
      exact⟨⟨q1++q3,by rw[e3,e1,List.append_assoc]⟩,q2++q4,by rw[e4,e2,List.append_assoc]⟩
theorem KN.spend: ∀(l:List In1) {cm:CM} (ps:List Pt) (cs:List Coin1) (n:Int),KN cm→KN (spendGo cm ps cs n l).cm:=fun l cm ps cs n h=>(spendGo_eq l ps cs n (KE.refl h)).2.2.2.2.na
theorem KN.layM {a:CM}(h:KN a)(t:Tx1)(n:Int):KN (layM t n a).2:=(layM_eq (KE.refl h) t n).2.na
theorem conn_back {PS:List Pt}{CS:List Coin1}(h:Int): ∀(l:List Tx1) {cm c:CM} {ps:List Pt} {cs:List Coin1} {n:Int},KN cm→ps.length=cs.length→(connGo h cm ps cs n l).e=0→(∃q,PS=(connGo h cm ps cs n l).ps++q)→(∃q,CS=(connGo h cm ps cs n l).cs++q)→
  KE c (connGo h cm ps cs n l).cm→KE (disGo PS CS l.reverse (ps.length+insN l) c) cm∧(connGo h cm ps cs n l).ps.length=ps.length+insN l∧(connGo h cm ps cs n l).cs.length=cs.length+insN l
 | [],cm,c,ps,cs,n,hn,hl,h0,hp,hc,k=>⟨k,rfl,rfl⟩
 | t::l,cm,c,ps,cs,n,hn,hl,h0,hp,hc,k=>by
   unfold connGo at h0 hp hc k⊢
   simp only at h0 hp hc k⊢
   by_cases c1:(spendGo cm ps cs 0 t.ins).e≠0
   ·rw[if_pos c1]at h0;exact absurd h0 c1
   ·rw[if_neg c1]at h0 hp hc k⊢
    by_cases c2:(sumM t.outs).2=false∨(spendGo cm ps cs 0 t.ins).n< (sumM t.outs).1
    ·rw[if_pos c2]at h0;cases h0
    ·rw[if_neg c2]at h0 hp hc k⊢
     by_cases c3:(layM t h (spendGo cm ps cs 0 t.ins).cm).1≠0
     ·rw[if_pos c3]at h0;exact absurd h0 c3
     ·rw[if_neg c3]at h0 hp hc k⊢
      have c1:(spendGo cm ps cs 0 t.ins).e=0:=by simpa using c1
      have c3:(layM t h (spendGo cm ps cs 0 t.ins).cm).1=0:=by simpa using c3
      have n1:=KN.spend t.ins ps cs 0 hn
      have n2:=n1.layM t h
      obtain⟨⟨q3,e3⟩,q4,e4⟩:=connGo_pre h l (layM t h (spendGo cm ps cs 0 t.ins).cm).2 (spendGo cm ps cs 0 t.ins).ps (spendGo cm ps cs 0 t.ins).cs (IntKind.i64.wrap (n+IntKind.i64.wrap ((spendGo cm ps cs 0 t.ins).n-(sumM t.outs).1)))
      obtain⟨-,p2,p3⟩:=spend_back (PS:=(spendGo cm ps cs 0 t.ins).ps) (CS:=(spendGo cm ps cs 0 t.ins).cs) t.ins (c:=(spendGo cm ps cs 0 t.ins).cm) hn hl c1 ⟨[],by simp⟩ ⟨[],by simp⟩ (KE.refl n1)
      obtain⟨k1,k2,k3⟩:=conn_back h l n2 (by rw[p2,p3,hl]) h0 hp hc k
      obtain⟨q5,e5⟩:=hp
      obtain⟨q6,e6⟩:=hc
      refine⟨?_,by rw[k2,p2,insN_cons];omega,by rw[k3,p3,insN_cons];omega⟩
      rw[List.reverse_cons,disGo_app,insN_reverse,insN_cons,show ps.length+(t.ins.length+insN l)-insN l=ps.length+t.ins.length by omega,disGo,disGo]
      rw[show ps.length+(t.ins.length+insN l)=(spendGo cm ps cs 0 t.ins).ps.length+insN l by rw[p2];omega]
      exact(spend_back (PS:=PS) (CS:=CS) t.ins hn hl c1 ⟨q3++q5,by rw[e5,e3,List.append_assoc]⟩ ⟨q4++q6,by rw[e6,e4,List.append_assoc]⟩ (lay_back n1 c3 k1)).1
theorem disM_back {b:Blk1}{h sub:Int}{cm c:CM}(hn:KN cm)(h0:(connM b h sub cm).e=0)(k:KE c (connM b h sub cm).cm):(disM b (uOf (connM b h sub cm)) c).1=0∧KE (disM b (uOf (connM b h sub cm)) c).2 cm:=by
 obtain⟨R,hR⟩: ∃R,R=connGo h cm [] [] 0 b.txs.tail:=⟨_,rfl⟩
 unfold connM at h0 k⊢
 simp only[←hR]at h0 k⊢
 by_cases c1:R.e≠0
 ·rw[if_pos c1]at h0;exact absurd h0 c1
 ·rw[if_neg c1]at h0 k⊢
  cases hb:b.txs with
  | nil=>rw[hb]at h0;cases h0
  | cons t l=>
    rw[hb]at h0 k hR
    simp only at h0 k⊢
    by_cases c2:(sumM t.outs).2=false∨R.fee<IntKind.i64.wrap ((sumM t.outs).1-sub)
    ·rw[if_pos c2]at h0;cases h0
    ·rw[if_neg c2]at h0 k⊢
     have c1:R.e=0:=by simpa using c1
     have hR:R=connGo h cm [] [] 0 l:=hR
     have n1:KN R.cm:=by rw[hR];exact(connGo_eq h l [] [] 0 (KE.refl hn)).2.2.2.2.na
     have k1:=lay_back n1 h0 k
     rw[hR]at c1 k1
     obtain⟨k2,k3,k4⟩:=conn_back (PS:=R.ps) (CS:=R.cs) h l hn rfl c1 ⟨[],by rw[hR];simp⟩ ⟨[],by rw[hR];simp⟩ k1
     simp only[List.length_nil,Nat.zero_add]at k2 k3 k4
     rw[←hR]at k3 k4
     unfold disM
     rw[hb]
     have hu: ∀x y,uOf {R with e:=x,cm:=y}=⟨kindOf R.ps,R.ps,kindOf R.cs,R.cs⟩:=fun _ _=>rfl
     simp only[hu]
     rw[if_neg (by omega)]
     exact⟨rfl,k2⟩
def cAt (c:Ch)(k:Nat):Nat→CM
 | 0=>(connM (bOf c 0) 0 c.r.subsidy []).cm
 | h+1=>(connM (bOf c ((anc c.l k (h+1):Nat):Int)) ((h+1:Nat):Int) c.r.subsidy (cAt c k h)).cm
def cnAt (c:Ch)(k h:Nat):Cn:=connM (bOf c ((anc c.l k (h+1):Nat):Int)) ((h+1:Nat):Int) c.r.subsidy (cAt c k h)
theorem cAt_succ (c:Ch)(k h:Nat):cAt c k (h+1)=(cnAt c k h).cm:=rfl
theorem KN.conn {cm:CM}(h:KN cm)(b:Blk1)(n s:Int):KN (connM b n s cm).cm:=(connM_eq (KE.refl h) b n s).2.2.na
theorem cAt_KN (c:Ch)(k:Nat): ∀h,KN (cAt c k h)
 | 0=>KN.nil.conn _ _ _
 | h+1=>(cAt_KN c k h).conn _ _ _
theorem cAt_keep {c c':Ch}{k k':Nat}(hr:c'.r=c.r): ∀h,(∀j,j≤h→bOf c' ((anc c'.l k' j:Nat):Int)=bOf c ((anc c.l k j:Nat):Int))→bOf c' 0=bOf c 0→cAt c' k' h=cAt c k h
 | 0,_,h0=>by rw[cAt,cAt,hr,h0]
 | h+1,hj,h0=>by rw[cAt,cAt,hr,hj (h+1) (Nat.le_refl _),cAt_keep hr h (fun j hh=>hj j (by omega)) h0]
theorem cnAt_keep {c c':Ch}{k k':Nat}(hr:c'.r=c.r)(h:Nat)(hj: ∀j,j≤h+1→bOf c' ((anc c'.l k' j:Nat):Int)=bOf c ((anc c.l k j:Nat):Int))(h0:bOf c' 0=bOf c 0):cnAt c' k' h=cnAt c k h:=by
 rw[cnAt,cnAt,hr,hj (h+1) (Nat.le_refl _),cAt_keep hr h (fun j hh=>hj j (by omega)) h0]
theorem bOf_keep {c c':Ch}(h:c'.bs=c.bs)(i:Int):bOf c' i=bOf c i:=by unfold bOf;rw[h]
theorem cnAt_same {c c':Ch}{f:Nat→Bool}(hr:c'.r=c.r)(hb:c'.bs=c.bs)(hl:c'.l=setF f c.l)(k h:Nat):cnAt c' k h=cnAt c k h:=
 cnAt_keep hr h (fun j _=>by rw[bOf_keep hb,hl,setF_anc]) (bOf_keep hb 0)
theorem cAt_same {c c':Ch}{f:Nat→Bool}(hr:c'.r=c.r)(hb:c'.bs=c.bs)(hl:c'.l=setF f c.l)(k h:Nat):cAt c' k h=cAt c k h:=
 cAt_keep hr h (fun j _=>by rw[bOf_keep hb,hl,setF_anc]) (bOf_keep hb 0)
theorem cnAt_tr (c c':Ch)(hr:c'.r=c.r)(hb:c'.bs=c.bs)(hl:c'.l=c.l)(k h:Nat):cnAt c' k h=cnAt c k h:=
 cnAt_keep hr h (fun j _=>by rw[bOf_keep hb,hl]) (bOf_keep hb 0)
theorem cAt_tr (c c':Ch)(hr:c'.r=c.r)(hb:c'.bs=c.bs)(hl:c'.l=c.l)(k h:Nat):cAt c' k h=cAt c k h:=
 cAt_keep hr h (fun j _=>by rw[bOf_keep hb,hl]) (bOf_keep hb 0)
theorem cAt_anc {c:Ch}(w:Wf c.l){k h:Nat}(hk:k<c.l.length)(hh:h≤hgt c.l k)(j:Nat)(hj:j≤h):cAt c (anc c.l k h) j=cAt c k j:=
 cAt_keep rfl j (fun i hi=>by rw[w.anc_anc hk (by omega) hh]) rfl
theorem cnAt_anc {c:Ch}(w:Wf c.l){k h:Nat}(hk:k<c.l.length)(hh:h≤hgt c.l k)(j:Nat)(hj:j<h):cnAt c (anc c.l k h) j=cnAt c k j:=
 cnAt_keep rfl j (fun i hi=>by rw[w.anc_anc hk (by omega) hh]) rfl
theorem lk_aDel_ne {K A:Type}[DecidableEq K]{k k':K}(hne:k≠k'): ∀l:List (K×A),lk k (aDel k' l)=lk k l
 | []=>rfl
 | p::l=>by
   rw[aDel,lk_cons]
   split
   ·rename_i e
    rw[if_neg (fun e2=>hne (e2.trans e.symm))]
   ·rw[lk_cons,lk_aDel_ne hne l]
structure ChG (c:Ch) (tp:Nat):Prop extends ChOk c tp where
 good: ∀h,h<hgt c.l tp→(cnAt c tp h).e=0
 cm:KE c.cm (cAt c tp (hgt c.l tp))
 us: ∀h,h<hgt c.l tp→lk ((anc c.l tp (h+1):Nat):Int) c.us=some (uOf (cnAt c tp h))
theorem ChG.failed {c:Ch}{tp:Nat}(h:ChG c tp)(i:Int):ChG {c with l:=(failM c.l i).1} tp:=by
 obtain⟨f,hf⟩:=failM_setF c.l i
 have e: ∀k j,cnAt {c with l:=(failM c.l i).1} k j=cnAt c k j:=fun k j=>cnAt_same (c:=c) (c':={c with l:=(failM c.l i).1}) (f:=f) rfl rfl hf k j
 have e2: ∀k j,cAt {c with l:=(failM c.l i).1} k j=cAt c k j:=fun k j=>cAt_same (c:=c) (c':={c with l:=(failM c.l i).1}) (f:=f) rfl rfl hf k j
 have hh:hgt (failM c.l i).1 tp=hgt c.l tp:=by rw[hf,setF_hgt]
 refine⟨h.toChOk.failed i,fun j hj=>?_,?_,fun j hj=>?_⟩
 ·rw[e];exact h.good j (by rw[←hh];exact hj)
 ·show KE c.cm (cAt _ tp (hgt (failM c.l i).1 tp))
  rw[hh,e2];exact h.cm
 ·show lk ((anc (failM c.l i).1 tp (j+1):Nat):Int) c.us=_
  rw[e,hf,setF_anc]
  exact h.us j (by rw[←hh];exact hj)
theorem ndHgt {l:List Nd}{i:Nat}(hi:i<l.length):(nd l (inI l (i:Int))).height=hgt l i:=by
 rw[inI_nat hi,nd_at hi]
 simp[hgt,List.getElem?_eq_getElem hi]
theorem ancTop {l:List Nd}(k:Nat):anc l k (hgt l k)=k:=anc_self k
theorem ChG.dn {c:Ch}{tp:Nat}(h:ChG c tp)(h0:0<hgt c.l tp):ChG (Ab.dn c) (par c.l tp):=by
 have w:=h.wf
 have hl:=h.lt
 have hp0:0<tp:=w.pos_of_hgt h0
 have hp:=w.par_lt hp0 hl
 have hh:=w.hgt_par hp0 hl
 have hpl:par c.l tp<c.l.length:=by omega
 have hpa:par c.l tp=anc c.l tp (hgt c.l tp-1):=by
  rw[w.anc_par hl (by omega),show hgt c.l tp-1=hgt c.l (par c.l tp) by omega,ancTop]
 have htp:(Ab.dn c).tip=(par c.l tp:Nat):=by
  show(nd c.l (inI c.l c.tip)).parent=_
  rw[h.tip,inI_nat hl,par_nd w hp0 hl]
 have hu:=h.us (hgt c.l tp-1) (by omega)
 have hg:=h.good (hgt c.l tp-1) (by omega)
 have hcm:=h.cm
 obtain⟨H,hH⟩: ∃H,hgt c.l tp=H+1:=⟨hgt c.l tp-1,by omega⟩
 rw[hH,Nat.add_sub_cancel]at hu hg hpa
 rw[hH,cAt_succ]at hcm
 have htop:anc c.l tp (H+1)=tp:=by rw[←hH,ancTop]
 rw[htop]at hu
 have hua:uAt c c.tip=uOf (cnAt c tp H):=by
  unfold uAt
  rw[h.tip,hu];rfl
 have hbo:bOf c c.tip=bOf c ((anc c.l tp (H+1):Nat):Int):=by rw[htop,h.tip]
 have hback:=(disM_back (b:=bOf c c.tip) (h:=((H+1:Nat):Int)) (sub:=c.r.subsidy) (cAt_KN c tp H) (by rw[hbo];exact hg) (by rw[hbo];exact hcm)).2
 have hcn:connM (bOf c c.tip) ((H+1:Nat):Int) c.r.subsidy (cAt c tp H)=cnAt c tp H:=by rw[hbo];rfl
 rw[hcn,←hua]at hback
 have hhp:hgt c.l (par c.l tp)=H:=by omega
 have e0: ∀k j,cnAt (Ab.dn c) k j=cnAt c k j:=fun k j=>cnAt_tr c (Ab.dn c) rfl rfl rfl k j
 have e00: ∀k j,cAt (Ab.dn c) k j=cAt c k j:=fun k j=>cAt_tr c (Ab.dn c) rfl rfl rfl k j
 have e1: ∀j,j<H→cnAt (Ab.dn c) (par c.l tp) j=cnAt c tp j:=fun j hj=>by
  rw[e0,hpa,cnAt_anc w hl (by omega) j hj]
 refine⟨⟨h.toChW.dn,htp,hpl,fun k hk=>h.way k (On.trans w hl hk (On.up w hp0 hl))⟩,fun j hj=>?_,?_,fun j hj=>?_⟩
 ·have hj:j<H:=by rw[←hhp];exact hj
  rw[e1 j hj]
  exact h.good j (by omega)
 ·show KE (disM (bOf c c.tip) (uAt c c.tip) c.cm).2 (cAt (Ab.dn c) (par c.l tp) (hgt c.l (par c.l tp)))
  rw[e00,hhp,hpa,cAt_anc w hl (by omega) H (Nat.le_refl _)]
  exact hback
 ·have hj:j<H:=by rw[←hhp];exact hj
  rw[e1 j hj]
  show lk ((anc c.l (par c.l tp) (j+1):Nat):Int) (aDel c.tip c.us)=_
  have ea:anc c.l (par c.l tp) (j+1)=anc c.l tp (j+1):=by rw[hpa,w.anc_anc hl (by omega) (by omega)]
  rw[lk_aDel_ne,ea]
  ·exact h.us j (by omega)
  ·rw[h.tip,ea]
   intro e
   have e:anc c.l tp (j+1)=tp:=by omega
   have:=w.anc_hgt hl (h:=j+1) (by omega)
   rw[e]at this
   omega
theorem ChG.next {c:Ch}{tp x:Nat}(h:ChG c tp)(h0:0<x)(hx:x<c.l.length)(hp:par c.l x=tp):(upR c (x:Int)).e=(cnAt c x (hgt c.l tp)).e∧uOf (upR c (x:Int))=uOf (cnAt c x (hgt c.l tp))∧KE (upR c (x:Int)).cm (cnAt c x (hgt c.l tp)).cm∧hgt c.l x=hgt c.l tp+1∧anc c.l x (hgt c.l tp)=tp:=by
 have w:=h.wf
 have hh:=w.hgt_par h0 hx
 rw[hp]at hh
 have ha:anc c.l x (hgt c.l tp)=tp:=by rw[w.anc_par hx (by omega),hp,ancTop]
 have htop:anc c.l x (hgt c.l tp+1)=x:=by rw[←hh,ancTop]
 have e:cnAt c x (hgt c.l tp)=connM (bOf c (x:Int)) ((nd c.l (inI c.l (x:Int))).height:Int) c.r.subsidy (cAt c tp (hgt c.l tp)):=by
  rw[cnAt,htop,ndHgt hx,hh]
  congr 1
  have:=cAt_anc w hx (h:=hgt c.l tp) (by omega) (hgt c.l tp) (Nat.le_refl _)
  rw[ha]at this
  exact this.symm
 rw[e]
 obtain⟨k1,k2,k3⟩:=connM_eq h.cm (bOf c (x:Int)) ((nd c.l (inI c.l (x:Int))).height:Int) c.r.subsidy
 exact⟨k1,k2,k3,hh,ha⟩
theorem ChG.up {c:Ch}{tp x:Nat}(h:ChG c tp)(h0:0<x)(hx:x<c.l.length)(hp:par c.l x=tp)(hb:hasM c (x:Int)=true)(hf:fits1 c (x:Int)=true):ChG (ups c (x:Int)) x:=by
 have w:=h.wf
 obtain⟨n1,n2,n3,n4,n5⟩:=h.next h0 hx hp
 have he:(upR c (x:Int)).e=0:=by simpa[fits1]using hf
 have hups:ups c (x:Int)={c with cm:=(upR c (x:Int)).cm,us:=aSet (x:Int) (uOf (upR c (x:Int))) c.us,tip:=(x:Int)}:=by rw[ups,if_pos he]
 have e1: ∀k j,cnAt (ups c (x:Int)) k j=cnAt c k j:=fun k j=>cnAt_tr c (ups c (x:Int)) (ups_r c _).1 (ups_r c _).2.2 (ups_r c _).2.1 k j
 have el:(ups c (x:Int)).l=c.l:=by rw[hups]
 have ea: ∀j,j≤hgt c.l tp→anc c.l x j=anc c.l tp j:=fun j hj=>by
  have:=w.anc_anc hx (h:=j) (h':=hgt c.l tp) hj (by omega)
  rw[n5]at this
  exact this.symm
 have e2: ∀j,j<hgt c.l tp→cnAt c x j=cnAt c tp j:=fun j hj=>cnAt_keep rfl j (fun i hi=>by rw[ea i (by omega)]) rfl
 refine⟨⟨h.toChW.ups _,ups_tip hf,by rw[el];exact hx,fun k hk=>?_⟩,fun j hj=>?_,?_,fun j hj=>?_⟩
 ·rw[el]at hk
  have hb':hasM (ups c (x:Int)) (k:Int)=hasM c (k:Int):=by unfold hasM;rw[hups]
  rw[hb']
  rcases On.parOr w hx hk with e | ⟨-,hk⟩
  ·rw[e];exact hb
  ·rw[hp]at hk
   exact h.way k hk
 ·rw[el]at hj
  rw[e1]
  by_cases hjt:j<hgt c.l tp
  ·rw[e2 j hjt];exact h.good j hjt
  ·have:j=hgt c.l tp:=by omega
   rw[this,←n1]
   exact he
 ·rw[el]
  have hcx: ∀k j,cAt (ups c (x:Int)) k j=cAt c k j:=fun k j=>cAt_tr c (ups c (x:Int)) (ups_r c _).1 (ups_r c _).2.2 (ups_r c _).2.1 k j
  rw[hcx,n4,cAt_succ,hups]
  exact n3
 ·rw[el]at hj
  rw[e1,el,hups]
  show lk _ (aSet (x:Int) (uOf (upR c (x:Int))) c.us)=_
  rw[lk_aSet]
  by_cases hjt:j<hgt c.l tp
  ·rw[if_neg,ea _ (by omega),e2 j hjt]
   ·exact h.us j hjt
   ·intro e
    have e:anc c.l x (j+1)=x:=by omega
    have:=w.anc_hgt hx (h:=j+1) (by omega)
    rw[e]at this
    omega
  ·have:j=hgt c.l tp:=by omega
   subst this
   rw[if_pos (by rw[←n4,ancTop]),n2]
theorem ChG.downN {c:Ch}{tp:Nat}(h:ChG c tp): ∀n,n≤hgt c.l tp→ChG (Ab.downN n c) (anc c.l tp (hgt c.l tp-n))
 | 0,_=>by rw[Nat.sub_zero,ancTop];exact h
 | n+1,hn=>by
   have w:=h.wf
   have ih:=h.downN n (by omega)
   obtain⟨-,k2,-⟩:=downN_keep c n
   have hh:=w.anc_hgt h.lt (h:=hgt c.l tp-n) (by omega)
   have:=ih.dn (by rw[k2,hh];omega)
   rw[k2]at this
   obtain⟨k,hk⟩: ∃k,hgt c.l tp-n=k+1:=⟨hgt c.l tp-n-1,by omega⟩
   obtain⟨h1,h2⟩:=anc_step_par w h.lt (k:=k) (by omega)
   rw[hk,h1]at this
   rw[show hgt c.l tp-(n+1)=k by omega]
   exact this
def ancs (l:List Nd)(to j n:Nat):List Int:=(List.range' (j+1) n).map fun k=>((anc l to k:Nat):Int)
theorem wayM_ancs (l:List Nd)(a b:Nat):wayM l a b=ancs l b (hgt l a) (hgt l b-hgt l a):=by
 unfold wayM ancs
 rw[List.range'_eq_map_range,List.map_map]
 rfl
theorem ancs_succ (l:List Nd)(to j n:Nat):ancs l to j (n+1)=((anc l to (j+1):Nat):Int)::ancs l to (j+1) n:=by
 unfold ancs
 rw[List.range'_succ,List.map_cons]
theorem ChG.step {c:Ch}{to j:Nat}(h:ChG c (anc c.l to j))(hto:to<c.l.length)(hj:j+1≤hgt c.l to)(hb:hasM c ((anc c.l to (j+1):Nat):Int)=true):
  (fits1 c ((anc c.l to (j+1):Nat):Int)=true↔(cnAt c to j).e=0)∧(fits1 c ((anc c.l to (j+1):Nat):Int)=true→ChG (ups c ((anc c.l to (j+1):Nat):Int)) (anc c.l to (j+1))):=by
 have w:=h.wf
 obtain⟨h1,h2⟩:=anc_step_par w hto hj
 have hx:=w.anc_lt (h:=j+1) hto
 obtain⟨n1,-⟩:=h.next h2 hx h1
 have hh:=w.anc_hgt hto (h:=j) (by omega)
 rw[hh,cnAt_anc w hto hj j (by omega)]at n1
 refine⟨?_,h.up h2 hx h1 hb⟩
 unfold fits1
 rw[decide_eq_true_iff,n1]
theorem ChG.upN {to:Nat}: ∀(n j:Nat) {c:Ch},ChG c (anc c.l to j)→j+n=hgt c.l to→to<c.l.length→(∀k,On c.l k to→hasM c (k:Int)=true)→
  ∃c2,(upWay c (ancs c.l to j n)=(c2,none)∧ChG c2 to∧∀i,j≤i→i<hgt c.l to→(cnAt c to i).e=0)∨
   ∃k,j≤k∧k<hgt c.l to∧upWay c (ancs c.l to j n)=(c2,some ((anc c.l to (k+1):Nat):Int))∧ChG c2 (anc c.l to k)∧(cnAt c to k).e≠0∧∀i,j≤i→i<k→(cnAt c to i).e=0
 | 0,j,c,h,hn,hto,hb=>by
   rw[Nat.add_zero]at hn
   rw[hn,ancTop]at h
   exact⟨c,.inl ⟨rfl,h,fun i h1 h2=>by omega⟩⟩
 | n+1,j,c,h,hn,hto,hb=>by
   have w:=h.wf
   have hon:On c.l (anc c.l to (j+1)) to:=On.of w hto (by omega)
   obtain⟨s1,s2⟩:=h.step hto (by omega) (hb _ hon)
   rw[ancs_succ,upWay]
   cases hf:fits1 c ((anc c.l to (j+1):Nat):Int)with
   | false=>
     rw[if_neg (by decide)]
     refine⟨c,.inr ⟨j,Nat.le_refl _,by omega,rfl,h,fun e=>?_,fun i h1 h2=>by omega⟩⟩
     rw[s1.2 e]at hf
     cases hf
   | true=>
     rw[if_pos rfl]
     have h2:=s2 hf
     obtain⟨u1,u2,u3⟩:=ups_r c ((anc c.l to (j+1):Nat):Int)
     obtain⟨c1,hc1⟩: ∃c1,c1=ups c ((anc c.l to (j+1):Nat):Int):=⟨_,rfl⟩
     rw[←hc1]at h2 u1 u2 u3⊢
     have hh: ∀k,hasM c1 k=hasM c k:=fun k=>by unfold hasM;rw[u3]
     have hcn: ∀i,cnAt c1 to i=cnAt c to i:=fun i=>cnAt_tr c c1 u1 u3 u2 to i
     obtain⟨c2,k⟩:=ChG.upN n (j+1) (c:=c1) (by rw[u2];exact h2) (by rw[u2];omega) (by rw[u2];exact hto) (fun k hk=>by rw[u2]at hk;rw[hh];exact hb k hk)
     rw[u2]at k
     refine⟨c2,?_⟩
     rcases k with⟨k1,k2,k3⟩ | ⟨k,k1,k2,k3,k4,k5,k6⟩
     ·refine .inl ⟨k1,k2,fun i h1 h2=>?_⟩
      by_cases e:i=j
      ·rw[e];exact s1.1 hf
      ·rw[←hcn];exact k3 i (by omega) h2
     ·refine .inr ⟨k,by omega,k2,k3,k4,by rw[←hcn];exact k5,fun i h1 h2=>?_⟩
      by_cases e:i=j
      ·rw[e];exact s1.1 hf
      ·rw[←hcn];exact k6 i (by omega) h2
theorem ChG.upAll {to:Nat}: ∀(n j:Nat) {c:Ch},ChG c (anc c.l to j)→j+n=hgt c.l to→to<c.l.length→(∀k,On c.l k to→hasM c (k:Int)=true)→(∀i,j≤i→i<hgt c.l to→(cnAt c to i).e=0)→ChG (Ab.upAll c (ancs c.l to j n)) to
 | 0,j,c,h,hn,hto,hb,hg=>by
   rw[Nat.add_zero]at hn
   rw[hn,ancTop]at h
   exact h
 | n+1,j,c,h,hn,hto,hb,hg=>by
   have w:=h.wf
   have hon:On c.l (anc c.l to (j+1)) to:=On.of w hto (by omega)
   obtain⟨s1,s2⟩:=h.step hto (by omega) (hb _ hon)
   rw[ancs_succ,Ab.upAll]
   have h2:=s2 (s1.2 (hg j (Nat.le_refl _) (by omega)))
   obtain⟨u1,u2,u3⟩:=ups_r c ((anc c.l to (j+1):Nat):Int)
   obtain⟨c1,hc1⟩: ∃c1,c1=ups c ((anc c.l to (j+1):Nat):Int):=⟨_,rfl⟩
   rw[←hc1]at h2 u1 u2 u3⊢
   have hh: ∀k,hasM c1 k=hasM c k:=fun k=>by unfold hasM;rw[u3]
   have hcn: ∀i,cnAt c1 to i=cnAt c to i:=fun i=>cnAt_tr c c1 u1 u3 u2 to i
   have:=ChG.upAll n (j+1) (c:=c1) (by rw[u2];exact h2) (by rw[u2];omega) (by rw[u2];exact hto) (fun k hk=>by rw[u2]at hk;rw[hh];exact hb k hk) (fun i h1 h2=>by rw[u2]at h2;rw[hcn];exact hg i (by omega) h2)
   rw[u2]at this
   exact this
theorem moveM_G {c:Ch}{tp to:Nat}(h:ChG c tp)(hto:to<c.l.length)(hr: ∀k,On c.l k to→hasM c (k:Int)=true):
  (moveM c tp to).1.bs=c.bs∧(moveM c tp to).1.r=c.r∧
  (((moveM c tp to).2=true∧ChG (moveM c tp to).1 to∧(moveM c tp to).1.l=c.l∧∀j,j<hgt c.l to→(cnAt c to j).e=0)∨
   ((moveM c tp to).2=false∧∃k,k<hgt c.l to∧(∀j,j<k→(cnAt c to j).e=0)∧(cnAt c to k).e≠0∧(moveM c tp to).1.l=(failM c.l ((anc c.l to (k+1):Nat):Int)).1∧ChG (moveM c tp to).1 tp)):=by
 have w:=h.wf
 have htl:=h.lt
 obtain⟨m,hm⟩: ∃m,m=meetM c.l tp to:=⟨_,rfl⟩
 have hM:=meet_spec w htl hto
 rw[←hm]at hM
 have hDm:hgt c.l m≤hgt c.l tp:=hM.on1.1
 have hDo:hgt c.l m≤hgt c.l to:=hM.on2.1
 have hlow: ∀j,j<hgt c.l m→(cnAt c to j).e=0:=fun j hj=>by
  have e1:=cnAt_anc w hto hDo j hj
  have e2:=cnAt_anc w htl hDm j hj
  rw[hM.on2.2]at e1
  rw[hM.on1.2]at e2
  rw[←e1,e2]
  exact h.good j (by omega)
 have hG1:=h.downN (hgt c.l tp-hgt c.l m) (by omega)
 obtain⟨k1,k2,k3⟩:=downN_keep c (hgt c.l tp-hgt c.l m)
 rw[show hgt c.l tp-(hgt c.l tp-hgt c.l m)=hgt c.l m by omega,hM.on1.2]at hG1
 have hmv:moveM c tp to=(match upWay (downN (hgt c.l tp-hgt c.l m) c) (wayM c.l m to)with
   | (c2,none)=>(c2,true)
   | (c2,some i)=>(Ab.upAll (downN (hgt c.l c2.tip.toNat-hgt c.l m) {c2 with l:=(failM c2.l i).1}) (wayM c.l m tp),false)):=by
  rw[moveM,←hm]
  all_goals rfl
 obtain⟨c1,hc1⟩: ∃c1,c1=downN (hgt c.l tp-hgt c.l m) c:=⟨_,rfl⟩
 rw[←hc1]at hG1 k1 k2 k3 hmv
 have hcn: ∀k i,cnAt c1 k i=cnAt c k i:=fun k i=>cnAt_tr c c1 k1 k3 k2 k i
 obtain⟨c2,hu⟩:=ChG.upN (to:=to) (hgt c.l to-hgt c.l m) (hgt c.l m) (c:=c1) (by rw[k2,hM.on2.2];exact hG1) (by rw[k2];omega) (by rw[k2];exact hto) (fun k hk=>by
  rw[k2]at hk
  have:=hr k hk
  unfold hasM at this⊢
  rw[k3]
  exact this)
 rw[k2,←wayM_ancs]at hu
 obtain⟨u1,u2,u3⟩:=upWay_keep (wayM c.l m to) c1
 rcases hu with⟨hu,hG2,hg⟩ | ⟨k,hk1,hk2,hu,hG2,hk3,hg⟩
 ·rw[hu]at hmv u1 u2 u3
  have hmv:moveM c tp to=(c2,true):=hmv
  rw[hmv]
  refine⟨u3.trans k3,u1.trans k1,.inl ⟨rfl,hG2,u2.trans k2,fun j hj=>?_⟩⟩
  by_cases hjm:j<hgt c.l m
  ·exact hlow j hjm
  ·rw[←hcn]
   exact hg j (by omega) hj
 ·rw[hu]at hmv u1 u2 u3
  have hmv:moveM c tp to=(Ab.upAll (downN (hgt c.l c2.tip.toNat-hgt c.l m) {c2 with l:=(failM c2.l ((anc c.l to (k+1):Nat):Int)).1}) (wayM c.l m tp),false):=hmv
  rw[hmv]
  obtain⟨x,hx⟩: ∃x:Int,x=((anc c.l to (k+1):Nat):Int):=⟨_,rfl⟩
  rw[←hx]
  have u1:c2.r=c.r:=u1.trans k1
  have u2:c2.l=c.l:=u2.trans k2
  have u3:c2.bs=c.bs:=u3.trans k3
  obtain⟨c3,hc3⟩: ∃c3:Ch,c3={c2 with l:=(failM c2.l x).1}:=⟨_,rfl⟩
  have hG3:ChG c3 (anc c.l to k):=by rw[hc3];exact hG2.failed x
  rw[←hc3]
  obtain⟨f,hf⟩:=failM_setF c.l x
  have hl3:c3.l=setF f c.l:=by rw[hc3,←hf,←u2]
  have hr3:c3.r=c.r:=by rw[hc3];exact u1
  have hb3:c3.bs=c.bs:=by rw[hc3];exact u3
  have hkh:=w.anc_hgt hto (h:=k) (by omega)
  have ht2:c2.tip=(anc c.l to k:Nat):=hG2.tip
  have hG4:=hG3.downN (k-hgt c.l m) (by rw[hl3,setF_hgt,hkh];omega)
  rw[hl3,setF_hgt,setF_anc,hkh,show k-(k-hgt c.l m)=hgt c.l m by omega,w.anc_anc hto hk1 (by omega),hM.on2.2]at hG4
  rw[ht2,Int.toNat_natCast,hkh]
  obtain⟨q1,q2,q3⟩:=downN_keep c3 (k-hgt c.l m)
  obtain⟨c4,hc4⟩: ∃c4,c4=Ab.downN (k-hgt c.l m) c3:=⟨_,rfl⟩
  rw[←hc4]at hG4 q1 q2 q3⊢
  have hl4:c4.l=setF f c.l:=q2.trans hl3
  have hr4:c4.r=c.r:=q1.trans hr3
  have hb4:c4.bs=c.bs:=q3.trans hb3
  have hcn4: ∀k i,cnAt c4 k i=cnAt c k i:=fun k i=>cnAt_same (c:=c) (c':=c4) hr4 hb4 hl4 k i
  have hG5:=ChG.upAll (to:=tp) (hgt c.l tp-hgt c.l m) (hgt c.l m) (c:=c4) (by rw[hl4,setF_anc,hM.on1.2];exact hG4) (by rw[hl4,setF_hgt];omega) (by rw[hl4,setF_length];exact htl) (fun k hk=>by
   rw[hl4,setF_on]at hk
   have:=h.way k hk
   unfold hasM at this⊢
   rw[hb4]
   exact this) (fun i h1 h2=>by
   rw[hl4,setF_hgt]at h2
   rw[hcn4]
   exact h.good i h2)
  have ha:ancs c4.l tp (hgt c.l m) (hgt c.l tp-hgt c.l m)=wayM c.l m tp:=by
   rw[wayM_ancs]
   unfold ancs
   rw[hl4]
   exact List.map_congr_left fun k _=>by rw[setF_anc]
  rw[ha]at hG5
  obtain⟨a1,a2,a3⟩:=upAll_keep (wayM c.l m tp) c4
  refine⟨a3.trans hb4,a1.trans hr4,.inr ⟨rfl,k,hk2,fun j hj=>?_,by rw[←hcn];exact hk3,by rw[a2,hl4,←hf,hx],hG5⟩⟩
  by_cases hjm:j<hgt c.l m
  ·exact hlow j hjm
  ·rw[←hcn]
   exact hg j (by omega) hj
theorem txB_clone (t:Tx1):txB (cloneT t)=txB t:=by
 unfold txB cloneT
 simp only[List.length_map,List.flatMap_map]
 rfl
theorem txId_clone (t:Tx1):txIdM (cloneT t)=txIdM t:=by unfold txIdM;rw[txB_clone]
theorem pickGo_stay (c:Ch): ∀(r:List Nat) (b:Nat),(∀i∈r,¬((nd c.l i).failed=false∧0<cmpU (natU (nd c.l i).work) (natU (nd c.l b).work)∧readyM c i=true))→pickGo c r b=b
 | [],b,_=>rfl
 | i::r,b,h=>by
   rw[pickGo,if_neg (h i List.mem_cons_self)]
   exact pickGo_stay c r b fun j hj=>h j (List.mem_cons_of_mem _ hj)
theorem cmpU_pos {a b:U}:0<cmpU a b↔b.toNat<a.toNat:=by
 unfold cmpU
 split
 ·exact⟨fun h=>absurd h (by decide),fun h=>by omega⟩
 ·split
  ·rename_i h
   exact⟨fun h=>absurd h (by decide),fun h2=>by rw[h]at h2;omega⟩
  ·rename_i h1 h2
   have:a.toNat≠b.toNat:=fun e=>h2 (BitVec.eq_of_toNat_eq e)
   exact⟨fun _=>by omega,fun _=>by decide⟩
def wk (l:List Nd)(i:Nat):Nat:=(natU (nd l i).work).toNat
theorem readyGo_of {c:Ch}{tp:Nat}(h:ChOk c tp): ∀(n i:Nat),i<c.l.length→(∀k,On c.l k i→hasM c (k:Int)=true)→readyGo c n (i:Int)=true
 | 0,i,hi,hb=>rfl
 | n+1,i,hi,hb=>by
   have w:=h.wf
   rw[readyGo,h.tip]
   split
   ·rfl
   ·rename_i ho
    rw[if_pos (hb i (On.refl' w i)),inI_nat hi]
    have h0:0<i:=by
     refine Nat.pos_of_ne_zero fun e=>ho ?_
     subst e
     exact(onB_on hi h.lt).2 (On.zero w h.lt)
    rw[par_nd w h0 hi]
    have hlt:=w.par_lt h0 hi
    exact readyGo_of h n _ (by omega) fun k hk=>hb k (On.trans w hi hk (On.up w h0 hi))
theorem readyM_iff {c:Ch}{tp i:Nat}(h:ChOk c tp)(hi:i<c.l.length):readyM c i=true↔∀k,On c.l k i→hasM c (k:Int)=true:=⟨readyM_all h hi,fun hb=>readyGo_of h _ i hi hb⟩
theorem pickGo_max (c:Ch): ∀(r:List Nat) (b:Nat),wk c.l b≤wk c.l (pickGo c r b)∧∀i∈r,(nd c.l i).failed=false→readyM c i=true→wk c.l i≤wk c.l (pickGo c r b)
 | [],b=>⟨Nat.le_refl _,fun i hi=>by cases hi⟩
 | j::r,b=>by
   rw[pickGo]
   by_cases hj:(nd c.l j).failed=false∧0<cmpU (natU (nd c.l j).work) (natU (nd c.l b).work)∧readyM c j=true
   ·rw[if_pos hj]
    obtain⟨h1,h2⟩:=pickGo_max c r j
    have hw:wk c.l b<wk c.l j:=cmpU_pos.1 hj.2.1
    refine⟨by omega,fun i hi hf hr=>?_⟩
    rcases List.mem_cons.1 hi with rfl | hi
    ·exact h1
    ·exact h2 i hi hf hr
   ·rw[if_neg hj]
    obtain⟨h1,h2⟩:=pickGo_max c r b
    refine⟨h1,fun i hi hf hr=>?_⟩
    rcases List.mem_cons.1 hi with rfl | hi
    ·have:¬wk c.l b<wk c.l i:=fun hw=>hj ⟨hf,cmpU_pos.2 hw,hr⟩
     omega
    ·exact h2 i hi hf hr
theorem pickM_max {c:Ch}{tp:Nat}:pickM c tp=tp↔∀i,i<c.l.length→(nd c.l i).failed=false→readyM c i=true→wk c.l i≤wk c.l tp:=by
 constructor
 ·intro h i hi hf hr
  have:=(pickGo_max c (List.range' 0 c.l.length) tp).2 i (List.mem_range'_1.2 (by omega)) hf hr
  unfold pickM at h
  rw[h]at this
  exact this
 ·intro h
  unfold pickM
  exact pickGo_stay c _ _ fun i hi ⟨h1,h2,h3⟩=>by
   have hi:=List.mem_range'_1.1 hi
   have:=h i (by omega) h1 h3
   have hw:wk c.l tp<wk c.l i:=cmpU_pos.1 h2
   omega
theorem followN_G: ∀(n:Nat) {c:Ch} {tp:Nat},ChG c tp→sound c.l<n→∃tp',ChG (followN n c) tp'∧(followN n c).bs=c.bs∧(followN n c).r=c.r∧(∃f,(followN n c).l=setF f c.l)∧pickM (followN n c) tp'=tp'
 | 0,c,tp,h,hs=>by omega
 | n+1,c,tp,h,hs=>by
   have ht:c.tip.toNat=tp:=by rw[h.tip];exact Int.toNat_natCast _
   rw[followN,ht]
   by_cases hp:pickM c tp=tp
   ·rw[if_pos hp]
    exact⟨tp,h,rfl,rfl,⟨_,setF_none.symm⟩,hp⟩
   ·rw[if_neg hp]
    rcases pickM_in c tp with e | ⟨e1,e2,e3⟩
    ·exact absurd e hp
    have hall:=readyM_all h.toChOk e1 e3
    obtain⟨m1,m2,m3⟩:=moveM_G h e1 hall
    obtain⟨to,hto⟩: ∃to,to=pickM c tp:=⟨_,rfl⟩
    rw[←hto]at e1 e2 e3 m1 m2 m3 hall hp⊢
    rcases m3 with⟨m3,m4,m5,m6⟩ | ⟨m3,k,x1,x2,x3,x4,m4⟩
    ·rw[if_pos m3]
     refine⟨_,m4,m1,m2,⟨_,by rw[m5];exact setF_none.symm⟩,pickM_max.2 fun i hi hf hr=>?_⟩
     rw[m5]at hi hf⊢
     have hr2:=(readyM_iff h.toChOk hi).2 fun k hk=>by
      have:=(readyM_iff m4.toChOk (by rw[m5];exact hi)).1 hr k (by rw[m5];exact hk)
      unfold hasM at this⊢
      rw[m1]at this
      exact this
     rw[hto]
     exact(pickGo_max c (List.range' 0 c.l.length) tp).2 i (List.mem_range'_1.2 (by omega)) hf hr2
    ·rw[if_neg (by rw[m3];decide)]
     have w:=h.wf
     have hx0:=(anc_step_par w e1 (k:=k) (by omega)).2
     have hs2:sound (moveM c tp to).1.l<sound c.l:=by
      rw[x4]
      exact sound_fail w hx0 (w.anc_lt e1) e1 (On.of w e1 (by omega)) e2
     obtain⟨tp2,k1,k2,k3,⟨f,k4⟩,k5⟩:=followN_G n m4 (by omega)
     obtain⟨g,hg⟩:=failM_setF c.l ((anc c.l to (k+1):Nat):Int)
     exact⟨tp2,k1,k2.trans m1,k3.trans m2,⟨_,by rw[k4,x4,hg,setF_setF]⟩,k5⟩
def honId (m:UInt8)(j:Nat):Id:=if j=0 then txIdM (firstM 50 0 0)else txIdM (firstM 50 j m)
theorem honId_ne (m:UInt8){i j:Nat}(hi:i≤40)(hj:j≤40)(h:i<j):honId m i≠honId m j:=by
 have hp:=txs_all m
 rw[List.pairwise_cons]at hp
 have hj0:j≠0:=by omega
 unfold honId
 rw[if_neg hj0,txId_W j m]
 by_cases hi0:i=0
 ·subst hi0
  rw[if_pos rfl,txId_W 0 0]
  intro e
  refine hp.1 _ (List.mem_map.2 ⟨j,List.mem_range'_1.2 ⟨by omega,by omega⟩,rfl⟩) ?_
  exact idV_a e
 ·rw[if_neg hi0,txId_W i m]
  intro e
  have h2:=List.pairwise_iff_getElem.1 hp.2 (i-1) (j-1) (by simp;omega) (by simp;omega) (by omega)
  rw[List.getElem_map,List.getElem_map,List.getElem_range',List.getElem_range']at h2
  rw[show 1+1*(i-1)=i by omega,show 1+1*(j-1)=j by omega]at h2
  exact h2 (idV_a e)
theorem lk_noKey {K A:Type}[DecidableEq K]{k:K}: ∀{l:List (K×A)},(∀e∈l,e.1≠k)→lk k l=none
 | [],_=>rfl
 | p::l,h=>by
   unfold lk
   rw[List.lookup_cons]
   have:(k==p.1)=false:=by
    have:=h p List.mem_cons_self
    simpa using fun e=>this e.symm
   rw[this]
   exact lk_noKey fun e he=>h e (List.mem_cons_of_mem _ he)
theorem mem_aSet_any {K A:Type}[DecidableEq K]{i:K}{v:A}{e:K×A}: ∀{l:List (K×A)},e∈aSet i v l→e=(i,v)∨e∈l
 | [],h=>.inl (List.mem_singleton.1 h)
 | p::l,h=>by
   rw[aSet]at h
   split at h
   ·rcases List.mem_cons.1 h with h | h
    ·exact .inl h
    ·exact .inr (List.mem_cons_of_mem _ h)
   ·rcases List.mem_cons.1 h with h | h
    ·exact .inr (h ▸List.mem_cons_self)
    ·rcases mem_aSet_any h with h | h
     ·exact .inl h
     ·exact .inr (List.mem_cons_of_mem _ h)
theorem honId_at (m:UInt8){k:Nat}(hk:0<k):honId m k=txIdM (firstM 50 k m):=by
 unfold honId
 rw[if_neg (by omega)]
noncomputable def lduo (l:List Nat):Bool:=List.rec (motive:=fun _=>Bool) true (fun X _ ih=>cond (Nat.beq (ln X 1) (ln X 2)) false ih) l
noncomputable def lduoU:Bool:=
 frc oneL fun O=>frc (4294967295*O) fun M=>lbind (lIV O) fun iv=>lbind (llock M O iv markL) fun L=>lduo (ltxs M O iv L 20 1 [])
set_option maxRecDepth 100000 in
theorem lduoU_true:lduoU=true:=by decide+kernel
theorem lduo_ok: ∀{l:List Nat} {fs:List (Nat→BitVec 32)},RW l fs→lduo l=true→∀f∈fs,f 1≠f 2
 | _,_,.nil,_,f,hf=>by cases hf
 | _,_,.cons (X:=X) (x:=x) (r:=r) (w:=w) h t,e,f,hf=>by
   have e1:lduo (X::r)=cond (Nat.beq (ln X 1) (ln X 2)) false (lduo r):=rfl
   rw[e1]at e
   cases hb:Nat.beq (ln X 1) (ln X 2)with
   | true=>rw[hb]at e;cases e
   | false=>
     rw[hb]at e
     rcases List.mem_cons.1 hf with rfl | hf
     ·intro e2
      have h1:=h 1 (by decide)
      have h2:=h 2 (by decide)
      have:ln X 1=ln X 2:=h1.trans ((congrArg BitVec.toNat e2).trans h2.symm)
      rw[this,Nat.beq_refl]at hb
      cases hb
     ·exact lduo_ok t e f hf
theorem duo_ne {k:Nat}(h1:1≤k)(h2:k≤20):txIdM (firstM 50 k 1)≠txIdM (firstM 50 k 2):=by
 have e:lduoU=lduo (ltxs maskL oneL (lIV oneL) (llock maskL oneL (lIV oneL) markL) 20 1 []):=by
  unfold lduoU
  simp only[lbind_eq,frc_eq]
  rfl
 have hU:=lduoU_true
 rw[e]at hU
 have hw:=ltxs_ok (llock_ok markL_nat) markL_nat 20 1 [] _ (by omega) .nil
 have:=lduo_ok hw hU (fun i=>(txW (UInt8.ofNat k) (UInt8.ofNat (k / 256)) (UInt8.ofNat i)).a) (by
  rw[List.append_nil,List.mem_reverse,List.mem_map]
  exact⟨k,List.mem_range'_1.2 ⟨h1,by omega⟩,rfl⟩)
 intro e2
 rw[txId_W k 1,txId_W k 2]at e2
 exact this (idV_a e2)
theorem bOf_more (c:Ch)(l:List Nd):bOf {c with l:=l}=bOf c:=rfl
theorem ChG.grow {c:Ch}{tp:Nat}(h:ChG c tp){x:Nd}(w:Wf (c.l++[x]))(hl:c.l.length+1≤16384):ChG {c with l:=c.l++[x]} tp:=by
 have w0:=h.wf
 have ha: ∀k j,k<c.l.length→anc (c.l++[x]) k j=anc c.l k j:=fun k j hk=>anc_append w0 hk
 have hh: ∀k,k<c.l.length→hgt (c.l++[x]) k=hgt c.l k:=fun k hk=>hgt_append hk
 obtain⟨c',hc'⟩: ∃c',c'={c with l:=c.l++[x]}:=⟨_,rfl⟩
 have e1: ∀j,cnAt c' tp j=cnAt c tp j:=fun j=>cnAt_keep (by rw[hc']) j (fun i _=>by rw[hc',bOf_more];show bOf c ((anc (c.l++[x]) tp i:Nat):Int)=_;rw[ha _ _ h.lt]) (by rw[hc',bOf_more])
 have e2: ∀j,cAt c' tp j=cAt c tp j:=fun j=>cAt_keep (by rw[hc']) j (fun i _=>by rw[hc',bOf_more];show bOf c ((anc (c.l++[x]) tp i:Nat):Int)=_;rw[ha _ _ h.lt]) (by rw[hc',bOf_more])
 rw[←hc']
 have hl':c'.l=c.l++[x]:=by rw[hc']
 refine⟨⟨⟨by rw[hl'];exact w,by rw[hl'];simpa using hl,by rw[hc'];exact h.fits⟩,by rw[hc'];exact h.tip,by rw[hl'];have:=h.lt;simp;omega,fun k hk=>?_⟩,fun j hj=>?_,?_,fun j hj=>?_⟩
 ·have hk:On (c.l++[x]) k tp:=by rw[←hl'];exact hk
  have hkl:k<c.l.length:=by
   have:=On.le w (by have:=h.lt;simp;omega) hk
   have:=h.lt
   omega
  have hk2:On c.l k tp:=by
   unfold On at hk⊢
   rw[hh _ hkl,hh _ h.lt,ha _ _ h.lt]at hk
   exact hk
  have:=h.way k hk2
  rw[hc']
  exact this
 ·rw[hl',hh _ h.lt]at hj
  rw[e1]
  exact h.good j hj
 ·rw[hl',hh _ h.lt,e2,hc']
  exact h.cm
 ·rw[hl',hh _ h.lt]at hj
  rw[e1,hl',ha _ _ h.lt,hc']
  exact h.us j hj
theorem ChG.body {c:Ch}{tp:Nat}(h:ChG c tp){i:Nat}(hi:hasM c (i:Int)=false){b:Blk1}(hb:b.fits):ChG {c with bs:=aSet (i:Int) (cloneB b) c.bs} tp:=by
 have hne: ∀j,j≤hgt c.l tp→anc c.l tp j≠i:=fun j hj e=>by
  have:=h.way (anc c.l tp j) (On.of h.wf h.lt hj)
  rw[e,hi]at this
  cases this
 obtain⟨c',hc'⟩: ∃c':Ch,c'={c with bs:=aSet (i:Int) (cloneB b) c.bs}:=⟨_,rfl⟩
 have hl':c'.l=c.l:=by rw[hc']
 have hr':c'.r=c.r:=by rw[hc']
 have hbo: ∀j,j≤hgt c.l tp→bOf c' ((anc c'.l tp j:Nat):Int)=bOf c ((anc c.l tp j:Nat):Int):=fun j hj=>by
  rw[hl',hc']
  unfold bOf
  show(lk _ (aSet (i:Int) (cloneB b) c.bs)).getD blk0=_
  rw[lk_aSet,if_neg]
  have:=hne j hj
  omega
 have hb0:bOf c' 0=bOf c 0:=by
  have:=hbo 0 (by omega)
  have ho:=On.zero h.wf h.lt
  have e:anc c.l tp 0=0:=by
   have:=ho.2
   rwa [hgtZ h.wf]at this
  rw[hl',e]at this
  exact this
 rw[←hc']
 refine⟨by rw[hc'];exact h.toChOk.more _ b hb,fun j hj=>?_,?_,fun j hj=>?_⟩
 ·rw[hl']at hj
  rw[cnAt_keep hr' j (fun k hk=>hbo k (by omega)) hb0]
  exact h.good j hj
 ·rw[hl',cAt_keep hr' _ (fun k hk=>hbo k (by omega)) hb0,hc']
  exact h.cm
 ·rw[hl']at hj
  rw[cnAt_keep hr' j (fun k hk=>hbo k (by omega)) hb0,hl',hc']
  exact h.us j hj
theorem followM_calm {c:Ch}{tp:Nat}(h:ChG c tp)(hr: ∀to,to<c.l.length→(nd c.l to).failed=false→(∀k,On c.l k to→hasM c (k:Int)=true)→∀k,k<hgt c.l to→(cnAt c to k).e=0):
  ∃tp',ChG (followM c) tp'∧(followM c).bs=c.bs∧(followM c).r=c.r∧(followM c).l=c.l∧pickM (followM c) tp'=tp':=by
 obtain⟨tp',k1,k2,k3,-,k5⟩:=followN_G (sound c.l+1) h (by omega)
 refine⟨tp',k1,k2,k3,?_,k5⟩
 have ht:c.tip.toNat=tp:=by rw[h.tip];exact Int.toNat_natCast _
 unfold followM
 rw[followN,ht]
 by_cases hp:pickM c tp=tp
 ·rw[if_pos hp]
 ·rw[if_neg hp]
  rcases pickM_in c tp with e | ⟨e1,e2,e3⟩
  ·exact absurd e hp
  have hall:=readyM_all h.toChOk e1 e3
  obtain⟨-,-,m3⟩:=moveM_G h e1 hall
  rcases m3 with⟨m3,-,m5,-⟩ | ⟨m3,k,x1,x2,x3,-⟩
  ·rw[if_pos m3];exact m5
  ·exact absurd (hr _ e1 e2 hall k x1) x3
theorem cloneB_txs (b:Blk1):(cloneB b).txs=b.txs.map cloneT:=rfl
theorem line_conn (m:UInt8){h:Nat}(hh:h<40){cm:CM}(hk: ∀e∈cm,∃j,j≤h∧e.1=(honId m j,0#32)){b:Blk1}(hb:b.txs=[firstM 50 (h+1) m])(n:Int):
  (connM (cloneB b) n 50 cm).e=0∧∀e∈(connM (cloneB b) n 50 cm).cm,∃j,j≤h+1∧e.1=(honId m j,0#32):=by
 have hlk:lk (txIdM (firstM 50 (h+1) m),BitVec.ofNat 32 0) cm=none:=lk_noKey fun e he=>by
  obtain⟨j,hj,e1⟩:=hk e he
  rw[e1]
  intro e2
  have e3:honId m j=txIdM (firstM 50 (h+1) m):=(Prod.mk.inj e2).1
  rw[←honId_at m (k:=h+1) (by omega)]at e3
  exact honId_ne m (by omega) (by omega) (by omega) e3
 have ho:(cloneT (firstM 50 (h+1) m)).outs=[⟨50,sha [m]⟩]:=rfl
 have hs:sumM [⟨50,sha [m]⟩]=(50,true):=by simp[sumM,sumGo]
 have hw:IntKind.i64.wrap (50-50)=0:=by decide
 have hlay:layM (cloneT (firstM 50 (h+1) m)) n cm=(0,aSet (txIdM (firstM 50 (h+1) m),BitVec.ofNat 32 0) (⟨50,sha [m]⟩,n) cm):=by
  unfold layM
  rw[txId_clone,ho,if_neg (by simp[layHit,hlk])]
  rfl
 have hconn:connM (cloneB b) n 50 cm=⟨0,aSet (txIdM (firstM 50 (h+1) m),BitVec.ofNat 32 0) (⟨50,sha [m]⟩,n) cm,[],[],0⟩:=by
  unfold connM
  rw[cloneB_txs,hb]
  simp only[List.map_cons,List.map_nil,List.tail_cons,connGo,ne_eq,not_true_eq_false,if_false,ho,hs,hw,hlay]
  simp
 rw[hconn]
 refine⟨rfl,fun e he=>?_⟩
 rcases mem_aSet_any he with rfl | he
 ·exact⟨h+1,Nat.le_refl _,by rw[honId_at m (by omega)]⟩
 ·obtain⟨j,hj,e1⟩:=hk e he
  exact⟨j,by omega,e1⟩
theorem gen_conn:connM genB 0 50 []=⟨0,[((honId 0 0,0#32),(⟨50,sha [0]⟩,0))],[],[],0⟩:=by
 have ho:(firstM 50 0 0).outs=[⟨50,sha [0]⟩]:=rfl
 have ht:genB.txs=[firstM 50 0 0]:=rfl
 have hz:honId 0 0=txIdM (firstM 50 0 0):=if_pos rfl
 have hs: ∀y:Id,sumM [⟨50,y⟩]=(50,true):=fun y=>by simp[sumM,sumGo]
 have hw:IntKind.i64.wrap (50-50)=0:=by decide
 generalize firstM 50 0 0=T at *
 generalize sha [0]=y at *
 have hlay:layM T 0 []=(0,[((txIdM T,0#32),(⟨50,y⟩,0))]):=by
  unfold layM
  rw[ho,if_neg (by simp[layHit,lk])]
  generalize txIdM T=I
  rfl
 rw[hz]
 unfold connM
 rw[ht]
 simp only[List.tail_cons,connGo,ne_eq,not_true_eq_false,if_false,ho,hs,hw,hlay]
 simp
theorem honId_zero (m m':UInt8):honId m 0=honId m' 0:=by
 unfold honId
 rw[if_pos rfl,if_pos rfl]
theorem line_good {c:Ch}{m:UInt8}{k:Nat}(hr:c.r.subsidy=50)(h0:bOf c 0=genB){n:Nat}(hn:n≤40)(hb: ∀j,0<j→j≤n→∃b:Blk1,bOf c ((anc c.l k j:Nat):Int)=cloneB b∧b.txs=[firstM 50 j m]):
  ∀j,j≤n→(∀i,i<j→(cnAt c k i).e=0)∧∀e∈cAt c k j,∃i,i≤j∧e.1=(honId m i,0#32)
 | 0,_=>⟨fun i hi=>by omega,fun e he=>by
   rw[cAt,h0,hr,gen_conn]at he
   rw[List.mem_singleton.1 he]
   exact⟨0,Nat.le_refl _,by rw[honId_zero m 0]⟩⟩
 | j+1,hj=>by
   obtain⟨i1,i2⟩:=line_good hr h0 hn hb j (by omega)
   obtain⟨b,b1,b2⟩:=hb (j+1) (by omega) hj
   have hc:cnAt c k j=connM (cloneB b) ((j+1:Nat):Int) 50 (cAt c k j):=by rw[cnAt,b1,hr]
   obtain⟨k1,k2⟩:=line_conn m (h:=j) (by omega) i2 b2 ((j+1:Nat):Int)
   rw[←hc]at k1 k2
   refine⟨fun i hi=>?_,k2⟩
   by_cases e:i=j
   ·rw[e];exact k1
   ·exact i1 i (by omega)
theorem timesM_on {l:List Nd}(w:Wf l){t:W32}: ∀(n i:Nat),i<l.length→t∈timesM l n i→∃j,j≤hgt l i∧t=(nd l (anc l i j)).hdr.time
 | 0,i,hi,h=>by simp[timesM]at h
 | n+1,i,hi,h=>by
   unfold timesM at h
   rw[List.getElem?_eq_getElem hi]at h
   simp only[List.mem_cons]at h
   rcases h with h | h
   ·exact⟨hgt l i,Nat.le_refl _,by rw[ancTop,nd_at hi,h]⟩
   ·split at h
    ·cases h
    ·rename_i hp
     have h0:0<i:=by
      refine Nat.pos_of_ne_zero fun e=>hp ?_
      subst e
      have:=(w.zero l[0] (List.getElem?_eq_getElem hi)).1
      rw[this];decide
     have hpar:l[i].parent.toNat=par l i:=by simp[par,List.getElem?_eq_getElem hi]
     rw[hpar]at h
     have hlt:=w.par_lt h0 hi
     obtain⟨j,hj,e⟩:=timesM_on w n (par l i) (by omega) h
     have hh:=w.hgt_par h0 hi
     exact⟨j,by omega,by rw[e,w.anc_par hi (by omega)]⟩
structure NdIs (x:Nd) (b:Blk1) (h:Nat):Prop where
 hdr:x.hdr=b.hdr
 id:x.id=hId b.hdr
 ok:x.failed=false
 work:x.work=2*(h+1)
 bits:b.hdr.bits=545259519#32
 time:b.hdr.time=BitVec.ofNat 32 (10*h)
structure DuoT (L:Nat→List Blk1) (at_:Nat→Nat) (pos:Nat→Nat→Nat) (c:Ch):Prop where
 wf:Wf c.l
 r:c.r=rulesM 1
 le: ∀w,at_ w≤20
 out: ∀w,2≤w→at_ w=0
 size:c.l.length=at_ 0+at_ 1+1
 inl: ∀w h,h≤at_ w→pos w h<c.l.length
 p0: ∀w,pos w 0=0
 all: ∀i,i<c.l.length→∃w h,h≤at_ w∧i=pos w h
 nd: ∀w h,h≤at_ w→∃b,(L w)[h]? =some b∧NdIs (nd c.l (pos w h)) b h
 hgt: ∀w h,h≤at_ w→hgt c.l (pos w h)=h
 anc: ∀w h j,j≤h→h≤at_ w→anc c.l (pos w h) j=pos w j
 bod: ∀w h,0<h→h≤at_ w→∃b,(L w)[h]? =some b∧lk ((pos w h:Nat):Int) c.bs=some (cloneB b)
 bod0:lk 0 c.bs=some genB
 keys: ∀i:Nat,hasM c (i:Int)=true→i<c.l.length
 find: ∀w h b,h≤at_ w→(L w)[h]? =some b→findM c.l (hId b.hdr)=some (pos w h)
structure Duo (L:Nat→List Blk1) (at_:Nat→Nat) (pos:Nat→Nat→Nat) (c:Ch) (tp:Nat):Prop extends DuoT L at_ pos c,ChG c tp where
 pick:pickM c tp=tp
theorem Duo.of {L:Nat→List Blk1}{at_:Nat→Nat}{pos:Nat→Nat→Nat}{c:Ch}{tp:Nat}(T:DuoT L at_ pos c)(G:ChG c tp)(p:pickM c tp=tp):Duo L at_ pos c tp:={T,G with pick:=p}
theorem DuoT.keep {L:Nat→List Blk1}{at_:Nat→Nat}{pos:Nat→Nat→Nat}{c c':Ch}(T:DuoT L at_ pos c)(hl:c'.l=c.l)(hr:c'.r=c.r)(hb:c'.bs=c.bs):DuoT L at_ pos c':=by
 have hh: ∀i,hasM c' i=hasM c i:=fun i=>by unfold hasM;rw[hb]
 exact⟨by rw[hl];exact T.wf,hr.trans T.r,T.le,T.out,by rw[hl];exact T.size,by rw[hl];exact T.inl,T.p0,by rw[hl];exact T.all,by rw[hl];exact T.nd,by rw[hl];exact T.hgt,by rw[hl];exact T.anc,by rw[hb];exact T.bod,by rw[hb];exact T.bod0,
  fun i hi=>by rw[hl];exact T.keys i (by rw[←hh];exact hi),by rw[hl];exact T.find⟩
theorem DuoT.has {L:Nat→List Blk1}{at_:Nat→Nat}{pos:Nat→Nat→Nat}{c:Ch}(T:DuoT L at_ pos c){i:Nat}(hi:i<c.l.length):hasM c (i:Int)=true:=by
 obtain⟨w,h,hh,rfl⟩:=T.all i hi
 unfold hasM
 by_cases h0:h=0
 ·subst h0
  rw[T.p0,show((0:Nat):Int)=0 from rfl,T.bod0]
  rfl
 ·obtain⟨b,-,hb⟩:=T.bod w h (by omega) hh
  rw[hb];rfl
theorem DuoT.right {L:Nat→List Blk1}{M:Nat→UInt8}{at_:Nat→Nat}{pos:Nat→Nat→Nat}{c:Ch}(T:DuoT L at_ pos c)(H: ∀w,HonB 1 (M w) 20 (L w)){to:Nat}(hto:to<c.l.length): ∀k,k<Ab.hgt c.l to→(cnAt c to k).e=0:=by
 obtain⟨w,h,hh,rfl⟩:=T.all to hto
 rw[T.hgt w h hh]
 have hle:=T.le w
 intro k hk
 refine(line_good (m:=M w) (n:=h) (by rw[T.r];rfl) (by unfold bOf;rw[T.bod0];rfl) (by omega) (fun j j0 hj=>?_) h (Nat.le_refl _)).1 k hk
 obtain⟨b,hb,hbo⟩:=T.bod w j j0 (by omega)
 refine⟨b,by rw[T.anc w h j hj hh];unfold bOf;rw[hbo];rfl,?_⟩
 obtain⟨i,rfl⟩: ∃i,j=i+1:=⟨j-1,by omega⟩
 have hlen:i+1< (L w).length:=(List.getElem?_eq_some_iff.1 hb).1
 obtain⟨p,b',hp,hb',hbe,-⟩:=hon_next (H w) hlen
 rw[hb]at hb'
 cases hb'
 rw[hbe]
theorem nd_left {l m:List Nd}{i:Nat}(hi:i<l.length):nd (l++m) i=nd l i:=by
 rw[nd_at (by rw[List.length_append];omega),nd_at hi,List.getElem_append_left hi]
theorem nd_last {l:List Nd}{x:Nd}:nd (l++[x]) l.length=x:=by
 rw[nd_at (by simp),List.getElem_append_right (Nat.le_refl _)]
 simp
def atUp (at_:Nat→Nat)(w:Nat):Nat→Nat:=fun v=>if v=w then at_ w+1 else at_ v
def posUp (at_:Nat→Nat)(pos:Nat→Nat→Nat)(w n:Nat):Nat→Nat→Nat:=fun v h=>if v=w∧h=at_ w+1 then n else pos v h
theorem atUp_case {at_:Nat→Nat}{w v h:Nat}(h1:h≤atUp at_ w v):(v=w∧h=at_ w+1)∨(¬(v=w∧h=at_ w+1)∧h≤at_ v):=by
 unfold atUp at h1
 by_cases e:v=w
 ·rw[if_pos e]at h1
  by_cases e2:h=at_ w+1
  ·exact .inl ⟨e,e2⟩
  ·exact .inr ⟨fun q=>e2 q.2,by rw[e];omega⟩
 ·rw[if_neg e]at h1
  exact .inr ⟨fun q=>e q.1,h1⟩
set_option maxHeartbeats 4000000 in
theorem DuoT.step {L:Nat→List Blk1}{M:Nat→UInt8}{at_:Nat→Nat}{pos:Nat→Nat→Nat}{c:Ch}(T:DuoT L at_ pos c)(H: ∀w,HonB 1 (M w) 20 (L w)){w:Nat}(hw:w<2)(hat:at_ w<20){b:Blk1}(hb:(L w)[at_ w+1]? =some b)(hf:findM c.l (hId b.hdr)=none):
  addM (rulesM 1) c.l b.hdr 1099511627776=(c.l++[ndOf c.l b.hdr (pos w (at_ w))],(c.l.length:Int),0)∧Wf (c.l++[ndOf c.l b.hdr (pos w (at_ w))])∧
  DuoT L (atUp at_ w) (posUp at_ pos w c.l.length) {c with l:=c.l++[ndOf c.l b.hdr (pos w (at_ w))],bs:=aSet (c.l.length:Int) (cloneB b) c.bs}∧blkE b=0∧rootE b=0∧b.fits:=by
 obtain⟨P,hP⟩: ∃P,P=pos w (at_ w):=⟨_,rfl⟩
 rw[←hP]
 have hk:=(List.getElem?_eq_some_iff.1 hb).1
 obtain⟨p,b',hp,hb',hbe,hro,g5,g1,g4,g3⟩:=hon_next (H w) hk
 rw[hb]at hb'
 cases hb'
 obtain⟨p',hp',N⟩:=T.nd w (at_ w) (Nat.le_refl _)
 rw[hp]at hp'
 cases hp'
 rw[←hP]at N
 have hPl:P<c.l.length:=by rw[hP];exact T.inl w _ (Nat.le_refl _)
 have hbits:b.hdr.bits=545259519#32:=by rw[g4];exact N.bits
 have htime:b.hdr.time=BitVec.ofNat 32 (10*(at_ w+1)):=by
  rw[g3,N.time]
  apply BitVec.eq_of_toNat_eq
  simp
  omega
 have hlen:=T.size
 have hle0:=T.le 0
 have hle1:=T.le 1
 have hfind2:findM c.l b.hdr.prev=some P:=by rw[g1,hP];exact T.find w (at_ w) p (Nat.le_refl _) hp
 have hPh:Ab.hgt c.l P=at_ w:=by rw[hP];exact T.hgt w _ (Nat.le_refl _)
 have hmed:medianM c.l P<b.hdr.time:=by
  have:=middle_mem (timesM_ne (n:=10) hPl)
  obtain⟨j,hj,e'⟩:=timesM_on T.wf _ _ hPl this
  rw[hPh]at hj
  rw[hP,T.anc w (at_ w) j hj (Nat.le_refl _)]at e'
  obtain⟨q,-,Nq⟩:=T.nd w j hj
  show middle32 (timesM c.l (10+1) P)<_
  rw[hP,e',Nq.hdr,Nq.time,htime,BitVec.lt_def,BitVec.toNat_ofNat,BitVec.toNat_ofNat,Nat.mod_eq_of_lt (by omega),Nat.mod_eq_of_lt (by omega)]
  omega
 have hfit:fitsM (rulesM 1) c.l b.hdr P 1099511627776=0:=fits_ok hPl g5 N.ok (by
  rw[hbits]
  have:nextM (rulesM 1) c.l (P:Nat)=(Ab.nd c.l P).hdr.bits:=by simp[nextM,rulesM]
  rw[this,N.hdr,N.bits]) hmed (by rw[htime,BitVec.toNat_ofNat,Nat.mod_eq_of_lt (by omega)];omega)
 have hwf:=ndOf_wf T.wf (h:=b.hdr) hPl
 obtain⟨x,hx⟩: ∃x,x=ndOf c.l b.hdr P:=⟨_,rfl⟩
 have hadd:=addM_ok hf hfind2 hfit (by omega)
 rw[←hx]at hwf hadd⊢
 have hblk:=hon_blk b.hdr (at_ w+1) (M w) hro
 rw[←hbe]at hblk
 refine⟨hadd,hwf,?_,hblk.1,hblk.2,by rw[hbe];exact⟨by simp,fun t ht=>by rw[List.mem_singleton.1 ht];exact firstM_ok 50 _ _⟩⟩
 have xh:x.hdr=b.hdr:=by rw[hx];rfl
 have xi:x.id=hId b.hdr:=by rw[hx];rfl
 have hhL: ∀i,i<c.l.length→Ab.hgt (c.l++[x]) i=Ab.hgt c.l i:=fun i hi=>hgt_append hi
 have haL: ∀i j,i<c.l.length→Ab.anc (c.l++[x]) i j=Ab.anc c.l i j:=fun i j hi=>anc_append T.wf hi
 have hhN:Ab.hgt (c.l++[x]) c.l.length=at_ w+1:=by
  rw[hgt_at (by simp),List.getElem_append_right (Nat.le_refl _)]
  simp[hx,ndOf,hPh]
 have hpN:par (c.l++[x]) c.l.length=P:=by
  simp[par,hx,ndOf]
 have haN: ∀j,j≤at_ w→Ab.anc (c.l++[x]) c.l.length j=pos w j:=fun j hj=>by
  rw[hwf.anc_par (by simp) (by rw[hhN];omega),hpN,haL _ _ hPl,hP,T.anc w (at_ w) j hj (Nat.le_refl _)]
 have hNne: ∀v h,h≤at_ v→pos v h≠c.l.length:=fun v h hh e=>by
  have:=T.inl v h hh
  omega
 have hbsN: ∀v h,h≤at_ v→lk ((pos v h:Nat):Int) (aSet (c.l.length:Int) (cloneB b) c.bs)=lk ((pos v h:Nat):Int) c.bs:=fun v h hh=>by
  rw[lk_aSet,if_neg]
  have:=hNne v h hh
  omega
 have hpu: ∀v h,¬(v=w∧h=at_ w+1)→posUp at_ pos w c.l.length v h=pos v h:=fun v h hn=>if_neg hn
 have hpn:posUp at_ pos w c.l.length w (at_ w+1)=c.l.length:=if_pos ⟨rfl,rfl⟩
 have hxwork:x.work=2*(at_ w+1+1):=by
  rw[hx]
  show workN ((tgt b.hdr.bits).getD 0)+(Ab.nd c.l P).work=_
  rw[hbits,honTgt,N.work]
  omega
 refine⟨hwf,T.r,fun v=>?_,fun v hv=>?_,?_,fun v h hh=>?_,fun v=>?_,fun i hi=>?_,fun v h hh=>?_,fun v h hh=>?_,fun v h j hj hh=>?_,fun v h h0 hh=>?_,?_,fun i hi=>?_,fun v h b2 hh hb2=>?_⟩
 ·unfold atUp
  split
  ·omega
  ·exact T.le v
 ·unfold atUp
  rw[if_neg (by omega)]
  exact T.out v hv
 ·show(c.l++[x]).length=_
  rw[List.length_append,List.length_singleton,hlen]
  unfold atUp
  rcases(by omega:w=0∨w=1)with rfl | rfl
  ·simp;omega
  ·simp;omega
 ·show _< (c.l++[x]).length
  rw[List.length_append,List.length_singleton]
  rcases atUp_case hh with⟨rfl,rfl⟩ | ⟨hn,hh⟩
  ·rw[hpn];omega
  ·rw[hpu _ _ hn];have:=T.inl v h hh;omega
 ·rw[hpu _ _ (by omega)]
  exact T.p0 v
 ·have hi:i< (c.l++[x]).length:=hi
  rw[List.length_append,List.length_singleton]at hi
  by_cases e:i=c.l.length
  ·exact⟨w,at_ w+1,by unfold atUp;rw[if_pos rfl];omega,by rw[hpn,e]⟩
  ·obtain⟨v,h,hh,e2⟩:=T.all i (by omega)
   by_cases e3:v=w∧h=at_ w+1
   ·obtain⟨rfl,rfl⟩:=e3;omega
   ·refine⟨v,h,?_,by rw[hpu _ _ e3];exact e2⟩
    unfold atUp
    split
    ·rename_i e4;rw[e4]at hh;omega
    ·exact hh
 ·show∃b2,_∧NdIs (Ab.nd (c.l++[x]) _) b2 h
  rcases atUp_case hh with⟨rfl,rfl⟩ | ⟨hn,hh⟩
  ·refine⟨b,hb,?_⟩
   rw[hpn,nd_last]
   exact⟨xh,xi,by rw[hx];rfl,hxwork,hbits,htime⟩
  ·rw[hpu _ _ hn,nd_left (T.inl v h hh)]
   exact T.nd v h hh
 ·show Ab.hgt (c.l++[x]) _=h
  rcases atUp_case hh with⟨rfl,rfl⟩ | ⟨hn,hh⟩
  ·rw[hpn,hhN]
  ·rw[hpu _ _ hn,hhL _ (T.inl v h hh)]
   exact T.hgt v h hh
 ·show Ab.anc (c.l++[x]) _ j=_
  rcases atUp_case hh with⟨rfl,rfl⟩ | ⟨hn,hh⟩
  ·rw[hpn]
   by_cases e:j=at_ v+1
   ·subst e
    have:=ancTop (l:=c.l++[x]) c.l.length
    rw[hhN]at this
    rw[this,hpn]
   ·rw[haN j (by omega),hpu _ _ (fun q=>e q.2)]
  ·rw[hpu _ _ hn,haL _ _ (T.inl v h hh),T.anc v h j hj hh,hpu]
   rintro⟨rfl,rfl⟩
   omega
 ·show∃b2,_∧lk _ (aSet (c.l.length:Int) (cloneB b) c.bs)=_
  rcases atUp_case hh with⟨rfl,rfl⟩ | ⟨hn,hh⟩
  ·exact⟨b,hb,by rw[hpn,lk_aSet,if_pos rfl]⟩
  ·rw[hpu _ _ hn,hbsN v h hh]
   exact T.bod v h h0 hh
 ·show lk 0 (aSet (c.l.length:Int) (cloneB b) c.bs)=_
  rw[lk_aSet,if_neg (by have:=T.wf.ne;omega)]
  exact T.bod0
 ·have hi:(lk (i:Int) (aSet (c.l.length:Int) (cloneB b) c.bs)).isSome=true:=hi
  show i< (c.l++[x]).length
  rw[List.length_append,List.length_singleton]
  rw[lk_aSet]at hi
  by_cases e:(i:Int)=(c.l.length:Int)
  ·omega
  ·rw[if_neg e]at hi
   have:=T.keys i hi
   omega
 ·show findM (c.l++[x]) _=_
  rw[findM_append,xi]
  rcases atUp_case hh with⟨rfl,rfl⟩ | ⟨hn,hh⟩
  ·rw[hb]at hb2
   cases hb2
   rw[if_pos rfl,hpn]
  ·have h3:=T.find v h b2 hh hb2
   rw[if_neg (fun e=>by rw[e,h3]at hf;cases hf),h3,hpu _ _ hn]
section
variable {P:Program} {F:Fn}
def chNewE (r:Rl)(b:Blk1):Int:=if checkM r≠0 then checkM r else if blkE b≠0 then blkE b else(connM b 0 r.subsidy []).e
def chNew (r:Rl)(b:Blk1):Ch:=⟨r,newM r,(connM b 0 r.subsidy []).cm,[(0,b)],[],0⟩
set_option maxHeartbeats 4000000 in
theorem spec265 (ok:OkChain P F)(hc:CloneC P (F 256))(st:St)(r:Rl)(b:Blk1)(hh:b.hdr=r.gen)(hx:r.txs=txsV b.tk b.txs)(hb:b.fits):
  ACalls P (F 265) [.agg (eRl r)] st fun v st'=>St.sub st st'∧(chNewE r b≠0∧v=.tup [.ptr none,.int .i64 (chNewE r b)]∨chNewE r b=0∧∃c,v=.tup [.ptr (some (c,0)),.int .i64 0]∧ChS c (chNew r b) [Was st] st'):=by
 have okc2:=ok.toOkCoins.toOkCheck2
 have oki:=ok.toOkLocate.toOkIndexZ.toOkIndex
 have hblk:eHdr r.gen++[r.txs]=eBlk b:=by rw[eBlk,hh,hx]
 refine shows_call ok.mixed ok.h265 (by simp[k265]) ?_
 simp only[k265]
 simp
 intro i1 h1
 have S:=(Sep.start st).new h1 (.cells (eRl r))
 generalize st.upd i1 _=st1 at S⊢
 have o1:=S.get
 simp[St.seg,o1,rsegAll]
 refine(spec155 oki st1 r).mono ?_
 intro v st2 hv
 by_cases e1:checkM r=0
 case neg=>
  rw[if_neg e1]at hv
  have hne:chNewE r b=checkM r:=by rw[chNewE,if_pos e1]
  have heb:(checkM r != 0)=true:=by simpa using e1
  obtain⟨rfl,rfl⟩:=hv
  simp[heb,hne,e1]
  exact⟨_,sub_self _,S.was' (by simp)⟩
 rw[if_pos e1]at hv
 obtain⟨tid,rfl,S2⟩:=hv
 have S:=S2.ov S
 have o1:=S.drop.get
 have s5:=rsegBlk r
 rw[hblk]at s5
 simp[St.seg,o1,s5]
 refine(spec253 okc2 st2 b (Nat.le_trans hb.1 (by decide)) (fun u hu=>by
  have ht:=hb.2 u hu
  exact⟨Nat.le_trans ht.1 (by decide),Nat.le_trans ht.2.1 (by decide),fun x hx=>Nat.le_trans (ht.2.2 x hx) (by decide)⟩)).mono ?_
 rintro v st3 ⟨rfl,hs⟩
 have S:=S.sub hs
 by_cases e2:blkE b=0
 case neg=>
  have hne:chNewE r b=blkE b:=by rw[chNewE,if_neg (by simpa using e1),if_pos e2]
  have heb:(blkE b != 0)=true:=by simpa using e2
  simp[heb,hne,e2]
  exact⟨st3,sub_self _,S.was' (by simp)⟩
 have hne:chNewE r b=(connM b 0 r.subsidy []).e:=by rw[chNewE,if_neg (by simpa using e1),if_neg (by simpa using e2)]
 simp[e2]
 intro bid hbid
 have S:=S.new hbid (.mp [])
 have hms:=mset_enc keyed_int (ev:=vBlk) (l:=[]) S.get 0 b
 have o1:=S.drop.drop.get
 have S:=S.set (.mp (encM kInt vBlk [(0,b)]))
 have hms':msetS (st3.upd bid (.mp [])) .int (.map (some bid)) (.int .i64 0) (.agg (eBlk b))=some (st3.upd bid (.mp (encM kInt vBlk [(0,b)]))):=by
  rw[show st3.upd bid (.mp (encM kInt vBlk [(0,b)]))=(st3.upd bid (.mp [])).upd bid (.mp (encM kInt vBlk [(0,b)])) by simp]
  exact hms
 simp at S o1
 simp[St.seg,o1,s5,hms']
 generalize st3.upd bid (.mp (encM kInt vBlk [(0,b)]))=st4 at S⊢
 intro uid huid
 have S:=S.new huid (.mp [])
 generalize st4.upd uid (.mp [])=st5 at S⊢
 simp[fillV,spliceV]
 intro cid hcid
 have S:=S.new hcid (.cells (chF tid bid uid 0 (.map none)))
 simp[chF]at S⊢
 generalize st5.upd cid _=st6 at S⊢
 have W:SetS cid (chF tid bid uid 0) [] ([pt uid (.mp []),pt bid (.mp (encM kInt vBlk [(0,b)])),TreeS tid r (newM r),pt i1 (.cells (eRl r)),Was st]) st6:=⟨none,fun _=>rfl,S⟩
 have o1:=W.ext (i:=i1) (x:=.cells (eRl r)) (by simp)
 have s3:=rsegSubsidy r
 simp[St.seg,o1,s5,s3]
 refine(spec260 ok.toOkCoins hc (ch_hole tid bid uid 0) W b hb.1 hb.2 0 r.subsidy).mono ?_
 obtain⟨C,hC⟩: ∃C,C=connM b 0 r.subsidy []:=⟨_,rfl⟩
 have hnew:chNew r b=⟨r,newM r,C.cm,[(0,b)],[],0⟩:=by rw[hC];rfl
 rw[←hC]at hne⊢
 rw[hnew,hne]
 rintro v st7 ⟨rfl,W⟩
 obtain⟨xa,xb,hxx⟩: ∃a b,(if C.e=0 then vUndo (uOf C)else undo0)=.agg [a,b]:=by
  split
  ·exact⟨_,_,rfl⟩
  ·exact⟨_,_,rfl⟩
 rw[hxx]
 simp
 intro i8 h8
 have W:=W.new h8 (.cells [.sl .nil [] 0,.sl .nil [] 0])
 have hst:=store_pt (sz:=2) (o:=0) (W.ext (i:=i8) (x:=.cells [.sl .nil [] 0,.sl .nil [] 0]) (by simp)) (v:=.agg [xa,xb]) (vs:=[xa,xb]) rfl rfl (by simp)
 rw[show spliceV [V.sl .nil [] 0,V.sl .nil [] 0] 0 [xa,xb]=[xa,xb]from rfl]at hst
 have W:=W.setL (.cells [xa,xb])
 simp[hst]at W⊢
 generalize st7.upd i8 _=st8 at W⊢
 have hw:St.sub st st8:=by
  obtain⟨mo,h0,S⟩:=W
  exact S.was' (by simp)
 by_cases he:C.e=0
 ·rw[if_pos he]at W
  simp[he]
  refine⟨_,sub_self _,hw,tid,bid,uid,W.tail fun r' h=>?_⟩
  have h:=h.drop
  have h:Sep ([TreeS tid r (newM r),pt bid (.mp (encM kInt vBlk [(0,b)])),pt uid (.mp []),pt i1 (.cells (eRl r)),Was st]) r':=(h.pull 2).tail fun r h=>h.swap
  exact h.tail fun r h=>h.tail fun r h=>h.tail fun r h=>h.drop
 ·have heb:(C.e != 0)=true:=by simpa using he
  simp[he,heb]
  exact⟨_,sub_self _,hw⟩
end
theorem genCheck {work:Int}(h0:0≤work)(h1:work≤1000):checkM (rulesM work)=0:=by
 unfold checkM
 rw[if_neg,if_neg]
 ·show¬((0:Int)<0∨(1000:Int)<0∨(10:Int)<1∨(1048576:Int)<10∨(50:Int)<0∨(1125899906842624:Int)<50∨work<0∨1000<work)
  omega
 ·rintro(h | h)
  ·have h:tgt 545259519#32=none:=h
   rw[easy_tgt]at h
   cases h
  ·exact h rfl
theorem genBlk:blkE genB=0:=(hon_blk genM 0 0 (by rfl)).1
theorem genNewE {work:Int}(h0:0≤work)(h1:work≤1000):chNewE (rulesM work) genB=0:=by
 unfold chNewE
 rw[genCheck h0 h1,genBlk]
 show(connM genB 0 50 []).e=0
 rw[gen_conn]
theorem genFits:genB.fits:=⟨by simp[genB],fun t ht=>by rw[List.mem_singleton.1 ht];exact firstM_ok 50 0 0⟩
def chGen (work:Int):Ch:=chNew (rulesM work) genB
theorem chGen_G (work:Int):ChG (chGen work) 0:=by
 have w:=newM_wf (rulesM work)
 have hh:hgt (newM (rulesM work)) 0=0:=hgtZ w
 have hb:bOf (chGen work) 0=genB:=rfl
 refine⟨⟨⟨w,by show 1≤16384;omega,fun i b h=>?_⟩,rfl,by show 0<1;omega,fun k hk=>?_⟩,fun h hj=>?_,?_,fun h hj=>?_⟩
 ·have h:lk i [((0:Int),genB)]=some b:=h
  have:=lk_in h
  rw[List.mem_singleton]at this
  rw[(Prod.mk.inj this).2]
  exact genFits
 ·have:=On.le w (by show 0<1;omega) hk
  have:k=0:=by omega
  subst this
  rfl
 ·have hj:h<hgt (newM (rulesM work)) 0:=hj
  omega
 ·show KE (connM genB 0 50 []).cm (cAt (chGen work) 0 (hgt (newM (rulesM work)) 0))
  rw[hh,cAt,hb]
  exact KE.refl (KN.nil.conn _ _ _)
 ·have hj:h<hgt (newM (rulesM work)) 0:=hj
  omega
theorem duo0 {L:Nat→List Blk1}(hL: ∀w,(L w)[0]? =some genB):Duo L (fun _=>0) (fun _ _=>0) (chGen 1) 0:=by
 have w:=newM_wf (rulesM 1)
 have hl:(chGen 1).l.length=1:=rfl
 have hn:nd (chGen 1).l 0=⟨genM,hId genM,-1,0,0,workN ((tgt 545259519#32).getD 0),false⟩:=rfl
 refine Duo.of ⟨w,rfl,fun _=>by omega,fun _ _=>rfl,rfl,fun v h _=>by rw[hl];omega,fun _=>rfl,fun i hi=>⟨0,0,Nat.le_refl _,by rw[hl]at hi;omega⟩,fun v h hh=>?_,fun v h hh=>?_,fun v h j hj hh=>?_,fun v h h0 hh=>by omega,rfl,fun i hi=>?_,fun v h b hh hb=>?_⟩ (chGen_G 1) ?_
 ·have:h=0:=by omega
  subst this
  refine⟨genB,hL v,?_⟩
  rw[hn]
  exact⟨rfl,rfl,rfl,honTgt,rfl,rfl⟩
 ·have:h=0:=by omega
  subst this
  exact hgtZ w
 ·have:=w.anc_le (i:=0) (h:=j) (by show 0<1;omega)
  have this:anc (chGen 1).l 0 j≤0:=this
  omega
 ·unfold hasM at hi
  have hi:(lk (i:Int) [((0:Int),genB)]).isSome=true:=hi
  rw[lk_cons]at hi
  by_cases e:(i:Int)=0
  ·rw[hl];omega
  ·rw[if_neg e]at hi;cases hi
 ·have:h=0:=by omega
  subst this
  rw[hL v]at hb
  cases hb
  show(if hId genM=hId genB.hdr then some 0 else none)=some 0
  exact if_pos rfl
 ·refine pickM_max.2 fun i hi _ _=>?_
  rw[hl]at hi
  have:i=0:=by omega
  rw[this]
  exact Nat.le_refl _
theorem Duo.step {L:Nat→List Blk1}{M:Nat→UInt8}{at_:Nat→Nat}{pos:Nat→Nat→Nat}{c:Ch}{tp:Nat}(D:Duo L at_ pos c tp)(H: ∀w,HonB 1 (M w) 20 (L w)){w:Nat}(hw:w<2)(hat:at_ w<20){b:Blk1}(hb:(L w)[at_ w+1]? =some b)(hf:findM c.l (hId b.hdr)=none):
  ∃l',addM (rulesM 1) c.l b.hdr 1099511627776=(l',(c.l.length:Int),0)∧b.fits∧ChOk {c with l:=l'} tp∧∃c2 tp',bodyM {c with l:=l'} b=(c2,(c.l.length:Int),0)∧Duo L (atUp at_ w) (posUp at_ pos w c.l.length) c2 tp':=by
 obtain⟨s1,s2,s3,s4,s5,s6⟩:=D.toDuoT.step H hw hat hb hf
 obtain⟨x,hx⟩: ∃x,x=ndOf c.l b.hdr (pos w (at_ w)):=⟨_,rfl⟩
 rw[←hx]at s1 s2 s3
 have hsz:=D.size
 have hle0:=D.le 0
 have hle1:=D.le 1
 have G1:=D.toChG.grow s2 (by omega)
 refine⟨_,s1,s6,G1.toChOk,?_⟩
 obtain⟨c1,hc1⟩: ∃c1:Ch,c1={c with l:=c.l++[x]}:=⟨_,rfl⟩
 rw[←hc1]at G1⊢
 have hno:hasM c1 (c.l.length:Int)=false:=by
  cases h:hasM c1 (c.l.length:Int)with
  | false=>rfl
  | true=>
    have h:hasM c (c.l.length:Int)=true:=by rw[hc1]at h;exact h
    have:=D.keys _ h
    omega
 have G2:=G1.body hno s6
 obtain⟨c2,hc2⟩: ∃c2:Ch,c2={c1 with bs:=aSet (c.l.length:Int) (cloneB b) c1.bs}:=⟨_,rfl⟩
 have hc2':c2={c with l:=c.l++[x],bs:=aSet (c.l.length:Int) (cloneB b) c.bs}:=by rw[hc2,hc1]
 rw[←hc2]at G2
 rw[←hc2']at s3
 obtain⟨tp',k1,k2,k3,k4,k5⟩:=followM_calm G2 fun to hto _ _=>s3.right H hto
 have hbody:bodyM c1 b=(followM c2,(c.l.length:Int),0):=by
  have hfi:findM c1.l (hId b.hdr)=some c.l.length:=by
   rw[hc1]
   show findM (c.l++[x]) _=_
   rw[findM_append,hx]
   exact if_pos rfl
  have hnd:nd c1.l c.l.length=x:=by rw[hc1];exact nd_last
  unfold bodyM
  rw[hfi]
  have e1:x.hdr=b.hdr:=by rw[hx];rfl
  have e2:x.failed=false:=by rw[hx];rfl
  simp only[hnd,e1,e2,ne_eq,not_true_eq_false,if_false,Bool.false_eq_true,hno,s5,s4]
  rw[hc2]
 exact⟨_,tp',hbody,Duo.of (s3.keep k4 k3 k2) k1 k5⟩
theorem Duo.top {L:Nat→List Blk1}{at_:Nat→Nat}{pos:Nat→Nat→Nat}{c:Ch}{tp:Nat}(D:Duo L at_ pos c tp): ∃w h,h≤at_ w∧tp=pos w h∧(∀v,at_ v≤h)∧Ab.hgt c.l tp=h:=by
 obtain⟨w,h,hh,e⟩:=D.all tp D.lt
 refine⟨w,h,hh,e,fun v=>?_,by rw[e];exact D.hgt w h hh⟩
 have hl:=D.inl v (at_ v) (Nat.le_refl _)
 obtain⟨b1,-,n1⟩:=D.nd v (at_ v) (Nat.le_refl _)
 obtain⟨b2,-,n2⟩:=D.nd w h hh
 have hr:=(readyM_iff D.toChOk hl).2 fun k hk=>D.toDuoT.has (by have:=On.le D.toDuoT.wf hl hk;omega)
 have:=pickM_max.1 D.pick _ hl n1.ok hr
 have h256:(1000:Nat)<2 ^ 256:=by decide+kernel
 have hle:=D.le v
 have hle2:=D.le w
 unfold wk at this
 rw[n1.work,e,n2.work,natU_nat (by omega),natU_nat (by omega)]at this
 omega
theorem Duo.same {L:Nat→List Blk1}{at1 at2:Nat→Nat}{pos1 pos2:Nat→Nat→Nat}{c1 c2:Ch}{tp1 tp2 w h:Nat}(D1:Duo L at1 pos1 c1 tp1)(D2:Duo L at2 pos2 c2 tp2)(h1:h≤at1 w)(h2:h≤at2 w)(e1:tp1=pos1 w h)(e2:tp2=pos2 w h):KE c1.cm c2.cm:=by
 have k1:=D1.cm
 have k2:=D2.cm
 rw[e1,D1.hgt w h h1]at k1
 rw[e2,D2.hgt w h h2]at k2
 have hz: ∀{at_:Nat→Nat} {pos:Nat→Nat→Nat} {c:Ch} {tp:Nat},Duo L at_ pos c tp→bOf c 0=genB:=fun D=>by unfold bOf;rw[D.bod0];rfl
 have:cAt c1 (pos1 w h) h=cAt c2 (pos2 w h) h:=cAt_keep (by rw[D1.toDuoT.r,D2.toDuoT.r]) h (fun j hj=>by
  rw[D1.anc w h j hj h1,D2.anc w h j hj h2]
  by_cases j0:j=0
  ·subst j0
   rw[D1.p0,D2.p0]
   exact(hz D1).trans (hz D2).symm
  ·obtain⟨b1,q1,p1⟩:=D1.bod w j (by omega) (by omega)
   obtain⟨b2,q2,p2⟩:=D2.bod w j (by omega) (by omega)
   rw[q1]at q2
   cases q2
   unfold bOf
   rw[p1,p2]) ((hz D1).trans (hz D2).symm)
 rw[this]at k1
 exact k1.trans k2.symm
def MapL:Option Nat→CM→List Asn
 | none,_=>[]
 | some m,cm=>[pt m (.mp (encM kPt vCoin cm))]
theorem MapL.look {mo:Option Nat}{cm:CM}(h0:mo=none→cm=[]){L:List Asn}{st:St}(S:Sep (MapL mo cm++L) st):lenMapV st (.map mo)=some (.int .i64 (cm.length:Nat))∧
  ∀z k,lookupV st (.agg 33) z true (.map mo) (.agg (ePt k))=some (.tup [((lk k cm).map vCoin).getD z,.bool (lk k cm).isSome]):=by
 cases mo with
 | none=>
   have he:cm=[]:=h0 rfl
   subst he
   refine⟨rfl,fun z k=>?_⟩
   have:=lookup_none keyed_pt (st:=st) z true k
   simpa[lk,kPt]using this
 | some m=>exact⟨by simp[lenMapV,S.get,encM],fun z k=>lookup_lk keyed_pt (ev:=vCoin) S.get z k⟩
theorem MapL.pull {mo:Option Nat}{cm:CM}{A:Asn}{L:List Asn}{st:St}(S:Sep (MapL mo cm++A::L) st):Sep (A::(MapL mo cm++L)) st:=by
 cases mo with
 | none=>exact S
 | some m=>exact S.swap
theorem MapL.push {mo:Option Nat}{cm:CM}{A:Asn}{L:List Asn}{st:St}(S:Sep (A::(MapL mo cm++L)) st):Sep (MapL mo cm++A::L) st:=by
 cases mo with
 | none=>exact S
 | some m=>exact S.swap
theorem MapL.gone {mo:Option Nat}{cm:CM}{L:List Asn}{st:St}(S:Sep (MapL mo cm++L) st):Sep L st:=by
 cases mo with
 | none=>exact S
 | some m=>exact S.drop
theorem eqL_coin (c:Coin1):eqL (eCoin c) (eCoin c)=some true:=by
 have h: ∀(a b:List V),eqL a a=some true→eqL b b=some true→eqL (a++b) (a++b)=some true:=by
  intro a
  induction a with
  | nil=>intro b _ h;exact h
  | cons x a ih=>
    intro b h1 h2
    cases x<;>simp only[eqL]at h1
    all_goals try cases h1
    rename_i k n
    simp only[if_true,beq_self_eq_true,Bool.true_and,Option.map_id']at h1
    rw[List.cons_append,eqL]
    simp only[if_true,beq_self_eq_true,Bool.true_and,Option.map_id']
    exact ih b h1 h2
 unfold eCoin
 refine h _ _ ?_ (by simp[eqL])
 unfold eOut
 rw[eqL]
 simp[eqL_id]
section
variable {P:Program} {F:Fn}
set_option maxHeartbeats 4000000 in
theorem spec264 (ok:OkEqual P F){st:St}{m1 m2:Option Nat}{a b:CM}{L:List Asn}(h1:m1=none→a=[])(h2:m2=none→b=[])(S:Sep (MapL m1 a++(MapL m2 b++L)) st)(h:KE a b):
  ACalls P (F 264) [.map m1,.map m2] st fun v st'=>v=.bool true∧Sep L st':=by
 refine shows_call ok.mixed ok.h264 (by simp[k264]) ?_
 simp only[k264]
 obtain⟨l1,-⟩:=MapL.look h1 S
 obtain⟨l2,-⟩:=MapL.look h2 (MapL.gone S)
 have hl:=h.len
 have hb:((a.length:Int) != (b.length:Int))=false:=bne_eq_false_iff_eq.2 (by omega)
 simp[l1,l2,hb]
 cases m1 with
 | none=>
   simp[rngMapS]
   intro it hit
   have S:Sep (MapL m2 b++L) st:=S
   have S:=S.new hit (.mit none 0 [] 0)
   generalize st.upd it _=st2 at S⊢
   refine vc_joinB (M:=fun env' st'=>Sep L st') ?_ ?_
   ·refine vc_loopJ (fun c env' st'=>c=0∧Sep (pt it (.mit none 0 [] 0)::(MapL m2 b++L)) st') 0 ⟨rfl,S⟩ ?_
    rintro J hJ c env' st3 hsame ⟨rfl,S⟩
    have g15:=(hsame.get 15 rfl).trans (by simp:_=V.ptr (some (it,0)))
    clear hsame
    have oi:=S.get
    simp[g15,nextMapS,oi]
    exact MapL.gone S.drop
   ·rintro env' st3 hsame S
    simp
    exact⟨st3,sub_self _,S⟩
 | some m=>
   refine Sep.rng S ?_
   intro it st2 S
   rw[encG_start]at S
   simp
   refine vc_joinB (M:=fun env' st'=>Sep L st') ?_ ?_
   ·refine vc_loopJ (fun c env' st'=>∃fl last,c=unseen (encG kPt vCoin fl)∧fl.map (·.1)=a∧Sep (Going m it (encG kPt vCoin fl) last::(MapL m2 b++L)) st') (unseen (encG kPt vCoin (a.map fun x=>(x,false))))
      ⟨_,none,rfl,by simp[Function.comp_def],S⟩ ?_
    clear S
    rintro J hJ c env' st3 hsame ⟨fl,last,rfl,hfl,S⟩
    have g1:=(hsame.get 1 rfl).trans (by simp:_=V.map m2)
    have g15:=(hsame.get 15 rfl).trans (by simp:_=V.ptr (some (it,0)))
    clear hsame
    simp[g15]
    refine Sep.next S ?_ ?_
    ·intro hall
     simp
     exact MapL.gone S.drop
    ·intro i hi hf st4 S
     have hi':i<fl.length:=by rw[←encG_len kPt vCoin];exact hi
     rw[encG_set kPt vCoin fl hi' hi]at S
     obtain⟨hi2,hent⟩:=S.ent
     have hun:=unseen_set hi hf ((encG kPt vCoin fl)[i].1)
     rw[encG_set kPt vCoin fl hi' hi]at hun
     obtain⟨x,hx⟩: ∃x,x=fl[i].1:=⟨_,rfl⟩
     simp[encG,←hx]at hent
     have hxa:x∈a:=by rw[←hfl,hx];exact List.mem_map.2 ⟨_,List.getElem_mem hi',rfl⟩
     have hlk:lk x.1 b=some x.2:=by
      rw[←h.eq]
      obtain⟨v,hv⟩:=key_lk (k:=x.1) (l:=a) (List.mem_map.2 ⟨x,hxa,rfl⟩)
      have hmem: ∀l:CM,KN l→x∈l→lk x.1 l=some x.2:=fun l=>by
       induction l with
       | nil=>intro _ h;cases h
       | cons p l ih=>
         intro hn hm
         obtain⟨n1,n2⟩:=List.nodup_cons.1 (show(p.1::l.map (·.1)).Nodup from hn)
         rw[lk_cons]
         rcases List.mem_cons.1 hm with e | hm
         ·rw[if_pos (by rw[e]),e]
         ·rw[if_neg (fun e=>n1 (by rw[←e];exact List.mem_map.2 ⟨x,hm,rfl⟩))]
          exact ih n2 hm
      exact hmem a h.na hxa
     have z33:z33_1371.length=33:=rfl
     simp[g15,hent]
     intro i5 h5
     have S:=S.new h5 (.cells z33_1371)
     have o5:=S.get
     simp
     intro i6 h6
     have S:=S.new h6 (.cells z34_7943)
     have hne:i5≠i6:=fun e=>by rw[e]at h6;simp at h6
     have S:=S.swap
     have hs5:=store_pt (sz:=33) (o:=0) S.get (v:=kPt x.1) (vs:=ePt x.1) rfl (ePt_len _) (by rw[z33];omega)
     rw[show spliceV z33_1371 0 (ePt x.1)=ePt x.1 by simp[spliceV,ePt_len,z33]]at hs5
     have S:=(S.set (.cells (ePt x.1))).swap
     simp[hs5]
     generalize St.upd _ i5 (.cells (ePt x.1))=st5 at S⊢
     have hs6:=store_pt (sz:=34) (o:=0) S.get (v:=vCoin x.2) (vs:=eCoin x.2) rfl (eCoin_len _) (by simp)
     rw[show spliceV z34_7943 0 (eCoin x.2)=eCoin x.2 by simp[spliceV,eCoin_len]]at hs6
     have S:=S.set (.cells (eCoin x.2))
     simp[hs6]
     generalize St.upd _ i6 (.cells (eCoin x.2))=st6 at S⊢
     have S:Sep (MapL m2 b++(pt i6 (.cells (eCoin x.2))::pt i5 (.cells (ePt x.1))::Going m it (encG kPt vCoin (fl.set i (fl[i].1,true))) (some i)::L)) st6:=MapL.push (S.tail fun r h=>MapL.push (h.tail fun r h=>MapL.push h))
     obtain⟨-,hlook⟩:=MapL.look h2 S
     have hl8:=hlook (V.agg z34_7943) x.1
     rw[hlk]at hl8
     simp only[Option.map_some,Option.getD_some,Option.isSome_some]at hl8
     have o5:st6 i5=some (.cells (ePt x.1)):=S.mem (by simp)
     have s5:segOf (ePt x.1) 0 33=some (ePt x.1):=seg_of_drop (zs:=[]) (by simp) (ePt_len _) (by omega)
     simp[g1,St.seg,o5,s5,hl8]
     intro i7 h7
     have S:=S.new h7 (.cells z34_7943)
     have hs7:=store_pt (sz:=34) (o:=0) S.get (v:=vCoin x.2) (vs:=eCoin x.2) rfl (eCoin_len _) (by simp)
     rw[show spliceV z34_7943 0 (eCoin x.2)=eCoin x.2 by simp[spliceV,eCoin_len]]at hs7
     have S:=S.set (.cells (eCoin x.2))
     simp[hs7]at S⊢
     generalize st6.upd i7 (.cells (eCoin x.2))=st7 at S⊢
     have o7:=S.get
     have o6:st7 i6=some (.cells (eCoin x.2)):=S.mem (by simp)
     have sc:=cosegAll x.2
     have hq:eqK (.agg 34) (.agg (eCoin x.2)) (.agg (eCoin x.2))=some true:=by simp[eqK,eCoin_len,eqL_coin]
     simp[St.seg,o6,o7,sc,hq]
     refine Round.mk _ _ (Nat.lt_of_lt_of_le hun (Nat.le_refl _)) (sub_self _) (hJ _ _ _ ⟨fl.set i (fl[i].1,true),some i,rfl,by rw[fst_set hi',hfl],?_⟩)
     exact(MapL.pull ((MapL.pull (MapL.pull S.drop).drop).drop))
   ·rintro env' st3 hsame S
    simp
    exact⟨st3,sub_self _,S⟩
theorem setL_map {o:Nat}{f:V→List V}{cm:CM}{mo:Option Nat}:SetL o f cm mo=pt o (.cells (f (.map mo)))::MapL mo cm:=by cases mo<;>rfl
theorem spec263 (ok:OkEqual P F){st:St}{i1 i2:Nat}{m1 m2:Option Nat}{a b:CM}{L:List Asn}(h1:m1=none→a=[])(h2:m2=none→b=[])(S:Sep (SetL i1 lone a m1++(SetL i2 lone b m2++L)) st)(h:KE a b):
  ACalls P (F 263) [.ptr (some (i1,0)),.ptr (some (i2,0))] st fun v st'=>v=.bool true∧Sep L st':=by
 refine shows_call ok.mixed ok.toOkCoins.h263 (by simp[k263]) ?_
 simp only[k263]
 rw[setL_map,setL_map]at S
 have o1:=S.get
 have S:=S.drop
 have S:Sep (pt i2 (.cells (lone (.map m2)))::(MapL m1 a++(MapL m2 b++L))) st:=MapL.pull S
 have o2:=S.get
 have hsg: ∀v:V,segOf (lone v) 0 1=some [v]:=fun _=>rfl
 simp[St.seg,o1,o2,hsg]
 refine(spec264 ok h1 h2 S.drop h).mono ?_
 rintro v st2 ⟨rfl,S⟩
 simp
 exact⟨st2,sub_self _,S⟩
theorem spec267 (ok:OkChain P F)(hc:CloneC P (F 256)){st:St}{cid:Nat}{c:Ch}{L:List Asn}(S:Sep (ChA cid c::L) st):
  ACalls P (F 267) [.ptr (some (cid,0))] st fun v st'=>∃i mo,v=.ptr (some (i,0))∧(mo=none→c.cm=[])∧Sep (SetL i lone c.cm mo++(ChA cid c::L)) st':=by
 refine shows_call ok.mixed ok.h267 (by simp[k267]) ?_
 simp only[k267]
 obtain⟨tid,bid,uid,mo,hmo,S⟩:=chOpen S
 simp
 refine(spec255 ok.toOkCoins hc (ch_hole tid bid uid c.tip) hmo S).mono ?_
 rintro v st2 ⟨i,rfl,mo2,h2,S⟩
 simp
 refine⟨st2,sub_self _,mo2,h2,?_⟩
 have fin: ∀r,Sep (SetL cid (chF tid bid uid c.tip) c.cm mo++(ChL c tid bid uid++L)) r→Sep (ChA cid c::L) r:=fun r h=>chClose ⟨mo,hmo,h⟩
 cases mo2 with
 | none=>exact S.tail fun r h=>fin r h
 | some m=>exact S.tail fun r h=>h.tail fun r h=>fin r h
end
def arr2 (f:Nat→V):List V:=[f 0,f 1]
theorem arr2_seg (f:Nat→V){w:Nat}(hw:w<2):segOf (arr2 f) w 1=some [f w]:=by
 rcases(by omega:w=0∨w=1)with rfl | rfl<;>rfl
theorem arr2_idx (i w:Nat)(hw:w<2):idxArrV 2 1 (.ptr (some (i,0))) (.int .i64 (w:Int))=some (.ptr (some (i,w))):=by
 rcases(by omega:w=0∨w=1)with rfl | rfl<;>rfl
theorem arr2_spl (f:Nat→V){w:Nat}(hw:w<2)(v:V):spliceV (arr2 f) w [v]=arr2 fun j=>if j=w then v else f j:=by
 rcases(by omega:w=0∨w=1)with rfl | rfl<;>rfl
def atV (at_:Nat→Nat):List V:=arr2 fun j=>.int .i64 (at_ j:Nat)
theorem atV_up (at_:Nat→Nat){w:Nat}(hw:w<2):spliceV (atV at_) w [.int .i64 ((at_ w+1:Nat):Int)]=atV (atUp at_ w):=by
 rw[atV,arr2_spl _ hw,atV]
 congr 1
 funext j
 unfold atUp
 split<;>rfl
section
variable {P:Program} {F:Fn} {cid tid bid uid:Nat} {c:Ch} {mo:Option Nat}
theorem spec269 (ok:OkChain P F){st:St}(h:ChR cid c st mo tid bid uid):ACalls P (F 269) [.ptr (some (cid,0))] st fun v st'=>v=.int .i64 (c.bs.length:Nat)∧st'=st:=by
 refine shows_call ok.mixed ok.h269 (by simp[k269]) ?_
 simp only[k269]
 have hl:lenMapV st (.map (some bid))=some (.int .i64 (c.bs.length:Nat)):=by simp[lenMapV,h.bod,encM]
 simp[St.seg,h.top,cseg2,hl]
end
theorem tmod2 (k:Nat):(k:Int).tmod 2=((k % 2:Nat):Int):=by
 rw[Int.tmod_eq_emod_of_nonneg (by omega)]
 omega
theorem fmin2 (a b:Int):foldV min2V (V.int .i64 a) [V.int .i64 b]=some (.int .i64 (min a b)):=by
 simp only[foldV,min2V,if_true,Option.bind_some]
 congr 2
 split<;>omega
theorem fmax2 (a b:Int):foldV max2V (V.int .i64 a) [V.int .i64 b]=some (.int .i64 (max a b)):=by
 simp only[foldV,max2V,if_true,Option.bind_some]
 congr 2
 split<;>omega
theorem hon_sl {l:List Blk1}{h:Nat}(hl:h+1≤l.length){env:Env}{x y:X}(hx:x.ev env=.int .i64 1)(hy:y.ev env=.int .i64 ((h:Int)+1)):slV env 69 (some x) (some y) none (honV l)=some (.sl .some (rowsOf eBlk ((l.drop 1).take h)) h):=by
 have h1:=rowsOf_drop eBlk_len 1 l
 have h2:=rowsOf_take eBlk_len h (l.drop 1)
 have hlr:=rowsOf_length eBlk_len l
 rw[Nat.one_mul]at h1
 have hb:bounds env l.length (some x) (some y)=some (1,h+1):=by
  have n1:natOf (V.int .i64 1)=some 1:=rfl
  have n2:natOf (V.int .i64 ((h:Int)+1))=some (h+1):=by
   show(if(0:Int)≤(h:Int)+1 then some ((h:Int)+1).toNat else none)=_
   rw[if_pos (by omega)]
   congr 1
  simp only[bounds,boundOf,hx,hy,n1,n2]
  rw[if_pos (by omega)]
 unfold honV
 simp only[slV,hb,hlr,if_true,Nat.one_mul,Nat.add_sub_cancel,h1,h2]
 congr 2
 split<;>rfl
theorem atOne (u i:Nat):atUp (fun v=>if v=u then i else 0) u=fun v=>if v=u then i+1 else 0:=by
 funext v
 unfold atUp
 by_cases e:v=u
 ·subst e;simp
 ·simp[e]
theorem Duo.fresh {L:Nat→List Blk1}{at_ pa:Nat→Nat}{pos qos:Nat→Nat→Nat}{c a:Ch}{tp ta u i:Nat}(D:Duo L at_ pos c tp)(A:Duo L pa qos a ta)(hgen: ∀w,(L w)[0]? =some genB)(hpa:pa=fun v=>if v=u then i else 0)(hi:i+1≤at_ u){b:Blk1}(hb:(L u)[i+1]? =some b):findM a.l (hId b.hdr)=none:=by
 cases hf:findM a.l (hId b.hdr)with
 | none=>rfl
 | some y=>
   exfalso
   obtain⟨x,hx,hid⟩:=findM_some hf
   have hyl:=findM_lt hf
   obtain⟨w,h,hh,rfl⟩:=A.toDuoT.all y hyl
   obtain⟨b',hb',N⟩:=A.toDuoT.nd w h hh
   have e1:hId b'.hdr=hId b.hdr:=by
    rw[←N.id,nd_at hyl,←hid]
    rw[List.getElem?_eq_getElem hyl]at hx
    rw[Option.some.inj hx]
   have hw:h≤i∧(L u)[h]? =some b':=by
    rw[hpa]at hh
    by_cases e:w=u
    ·subst e
     exact⟨by simpa using hh,hb'⟩
    ·have:h=0:=by simpa[e]using hh
     subst this
     rw[hgen]at hb'⊢
     exact⟨by omega,hb'⟩
   have f1:=D.toDuoT.find u h b' (by omega) hw.2
   have f2:=D.toDuoT.find u (i+1) b hi hb
   rw[e1,f2]at f1
   have e2:pos u (i+1)=pos u h:=Option.some.inj f1
   have g1:=D.toDuoT.hgt u (i+1) hi
   have g2:=D.toDuoT.hgt u h (by omega)
   rw[e2,g2]at g1
   omega
def TurnL (cid i7 i6 i3:Nat)(L:Nat→List Blk1)(r:Rl)(at_:Nat→Nat)(c:Ch)(st:St):List Asn:=
 [ChA cid c,pt i7 (.cells (atV at_)),pt i6 (.cells (arr2 fun w=>honV (L w))),pt i3 (.cells (eRl r)),Was st]
section
variable {P:Program} {F:Fn}
set_option maxHeartbeats 16000000 in
theorem spec302 (ok:OkTopT P F)(oke:OkEqual P F)(hc:CloneC P (F 256))(st:St){s0:V}{turns:List Int}(hr0:Rd 1 e1 s0 turns st):ACalls P (F 302) [s0] st fun v st'=>v=.bool true:=by
 have okh:=ok.toOkHonest
 have okc:=ok.toOkChain
 have oki:=okc.toOkLocate.toOkIndexZ.toOkIndex
 refine shows_call ok.mixed ok.h302 (by simp[k302]) ?_
 simp only[k302]
 have eqp: ∀c,eqK .ptr (V.ptr (some (c,0))) (V.ptr none)=some false:=fun _=>rfl
 have hfH: ∀x,fldV false 102 1 (V.agg (eNd x))=some (.int .i64 x.height):=fun x=>by
  show(segOf _ 102 1).bind (packV false)=_
  rw[osegHgt];rfl
 simp
 refine(spec190 okh st 1).mono ?_
 rintro v st2 ⟨rfl,rfl⟩
 obtain⟨r,hr⟩: ∃r,r=rulesM 1:=⟨_,rfl⟩
 rw[←hr]
 simp
 intro i3 h3
 have S:=(Sep.start st2).new h3 (.cells z74_2f53)
 have hst:=store_pt (sz:=74) (o:=0) S.get (v:=.agg (eRl r)) (vs:=eRl r) rfl (eRl_len r) (by simp)
 rw[show spliceV z74_2f53 0 (eRl r)=eRl r by simp[spliceV,eRl_len]]at hst
 have S:=S.set (.cells (eRl r))
 simp[hst]at S⊢
 generalize st2.upd i3 (.cells (eRl r))=st3 at S⊢
 have o3:=S.get
 have hsa:segOf (eRl r) 0 74=some (eRl r):=by simp[segOf,eRl_len,List.take_of_length_le]
 simp[St.seg,o3,hsa]
 have hE:chNewE r genB=0:=by rw[hr];exact genNewE (by omega) (by omega)
 have hN:chNew r genB=chGen 1:=by rw[hr];rfl
 have hnew: ∀s,ACalls P (F 265) [.agg (eRl r)] s fun v s'=>∃c,v=.tup [.ptr (some (c,0)),.int .i64 0]∧Sep [ChA c (chGen 1),Was s] s':=fun s=>
  (spec265 okc hc s r genB (by rw[hr];rfl) (by rw[hr];rfl) genFits).mono fun v s' ⟨_,h⟩=>by
    rcases h with⟨h,-⟩ | ⟨-,c,h1,h2⟩
    ·exact absurd hE h
    ·rw[hN]at h2
     exact⟨c,h1,h2.asn⟩
 refine(hnew st3).mono ?_
 rintro v st4 ⟨cid,rfl,S1⟩
 have S:=S1.ov S
 clear S1 o3
 obtain⟨mo,tid,bid,uid,R⟩:=chRead S
 have hb1:(chGen 1).bs.length=1:=rfl
 have h269:=spec269 okc R
 rw[hb1]at h269
 simp[eqp]
 refine h269.mono ?_
 rintro v st5 ⟨rfl,rfl⟩
 clear R h269
 have hlen0:=hr0.len
 simp
 by_cases h12:12<turns.length
 ·have h12':12< (turns.length:Int):=by omega
  simp[hlen0,h12,h12']
  exact⟨_,sub_self _⟩
 have h12':¬12< (turns.length:Int):=by omega
 have o3:st5 i3=some (.cells (eRl r)):=S.mem (by simp)
 simp[hlen0,h12,h12',St.seg,o3,hsa]
 obtain⟨L,hL⟩: ∃L:Nat→List Blk1,L=fun w=>if w=1 then chainM r genB 20 2 else chainM r genB 20 1:=⟨_,rfl⟩
 obtain⟨M,hM⟩: ∃M:Nat→UInt8,M=fun w=>if w=1 then 2 else 1:=⟨_,rfl⟩
 have hL0:chainM r genB 20 1=L 0:=by rw[hL];rfl
 have hL1:chainM r genB 20 2=L 1:=by rw[hL];rfl
 have hM0:M 0=1:=by rw[hM];rfl
 have hM1:M 1=2:=by rw[hM];rfl
 have H: ∀w,HonB 1 (M w) 20 (L w):=fun w=>by
  rw[hL,hM,hr]
  by_cases h:w=1
  ·simp only[h,if_true];exact honB 20 1 2
  ·simp only[h,if_false];exact honB 20 1 1
 refine still_call _ _ _ _ (by simpa using spec188 okh st5 r genB (by rw[hr];rfl) (by rw[hr];rfl) 20 (by omega) 1) ?_
 simp[St.seg,o3,hsa]
 refine still_call _ _ _ _ (by simpa using spec188 okh st5 r genB (by rw[hr];rfl) (by rw[hr];rfl) 20 (by omega) 2) ?_
 rw[hL0,hL1]
 clear hL hM hL0 hL1
 have hbld:fillV [V.sl .nil [] 0,V.sl .nil [] 0] [(0,1,honV (L 0)),(1,1,honV (L 1))]=some [honV (L 0),honV (L 1)]:=rfl
 simp[hbld]
 intro i6 h6
 have S:=S.new h6 (.cells [.sl .nil [] 0,.sl .nil [] 0])
 have hst:=store_pt (sz:=2) (o:=0) S.get (v:=.agg [honV (L 0),honV (L 1)]) (vs:=[honV (L 0),honV (L 1)]) rfl rfl (by simp)
 rw[show spliceV [V.sl .nil [] 0,V.sl .nil [] 0] 0 [honV (L 0),honV (L 1)]=arr2 fun w=>honV (L w)from rfl]at hst
 have S:=S.set (.cells (arr2 fun w=>honV (L w)))
 simp[hst]at S⊢
 generalize st5.upd i6 _=st6 at S⊢
 have o6:=S.get
 have x0:=arr2_idx i6 0 (by omega)
 have x1:=arr2_idx i6 1 (by omega)
 have g0:=arr2_seg (fun w=>honV (L w)) (w:=0) (by omega)
 have g1:=arr2_seg (fun w=>honV (L w)) (w:=1) (by omega)
 have ln: ∀w,lenSlV (honV (L w))=some (.int .i64 ((L w).length:Nat)):=fun _=>rfl
 simp at x0 x1
 by_cases hl0:(L 0).length=21
 case neg=>
  have hb:(((L 0).length:Int) != 21)=true:=bne_iff_ne.2 (by omega)
  simp[x0,x1,St.seg,o6,g0,g1,ln,hb]
  exact⟨_,sub_self _⟩
 by_cases hl1:(L 1).length=21
 case neg=>
  have hb0:(((L 0).length:Int) != 21)=false:=bne_eq_false_iff_eq.2 (by omega)
  have hb:(((L 1).length:Int) != 21)=true:=bne_iff_ne.2 (by omega)
  simp[x0,x1,St.seg,o6,g0,g1,ln,hb0,hb]
  exact⟨_,sub_self _⟩
 have hb0:(((L 0).length:Int) != 21)=false:=bne_eq_false_iff_eq.2 (by omega)
 have hb1':(((L 1).length:Int) != 21)=false:=bne_eq_false_iff_eq.2 (by omega)
 have hlen: ∀w,w<2→(L w).length=21:=fun w hw=>by
  rcases(by omega:w=0∨w=1)with rfl | rfl
  ·exact hl0
  ·exact hl1
 simp[x0,x1,St.seg,o6,g0,g1,ln,hb0,hb1',hlen0]
 intro i7 h7
 have S:Sep (TurnL cid i7 i6 i3 L r (fun _=>0) (chGen 1) st2) (st6.upd i7 (.cells (atV fun _=>0))):=by
  have S:=S.new h7 (.cells (atV fun _=>0))
  exact(S.tail fun r h=>h.swap).swap.tail fun r h=>h
 have hst:storeS (st6.upd i7 (.cells [V.int .i64 0,V.int .i64 0])) 2 (.ptr (some (i7,0))) (.agg [V.int .i64 0,V.int .i64 0])=some (st6.upd i7 (.cells (atV fun _=>0))):=by
  rw[store_pt (sz:=2) (o:=0) (St.upd_same _ _ _) (v:=.agg [V.int .i64 0,V.int .i64 0]) (vs:=[V.int .i64 0,V.int .i64 0]) rfl rfl (by simp)]
  simp[spliceV,atV,arr2]
 simp[hst,hlen0]
 have hgenL: ∀w,(L w)[0]? =some genB:=fun w=>(H w).gen
 have D0:=duo0 hgenL
 generalize st6.upd i7 _=st7 at S⊢
 refine vc_joinB (M:=fun env' st'=>True) ?_ ?_
 ·refine vc_loopJ (fun d env' st'=>∃(k:Nat) (at_:Nat→Nat) (pos:Nat→Nat→Nat) (c:Ch) (tp:Nat),k≤turns.length∧d=turns.length-k∧env' 60=.int .i64 (k:Nat)∧Duo L at_ pos c tp∧Sep (TurnL cid i7 i6 i3 L r at_ c st2) st') turns.length
    ⟨0,_,_,_,_,by omega,by omega,by simp,D0,S⟩ ?_
  clear S D0 o6 x0 x1 g0 g1 o3
  rintro J hJ d env1 st8 hsame ⟨k,at_,pos,c,tp,hk,rfl,h60,D,S⟩
  have g3:=(hsame.get 3 rfl).trans (by simp:_=V.ptr (some (i3,0)))
  have g4:=(hsame.get 4 rfl).trans (by simp:_=V.ptr (some (cid,0)))
  have g6:=(hsame.get 6 rfl).trans (by simp:_=V.ptr (some (i6,0)))
  have g7:=(hsame.get 7 rfl).trans (by simp:_=V.ptr (some (i7,0)))
  have g58:=(hsame.get 58 rfl).trans (by simp:_=s0)
  have g59:=(hsame.get 59 rfl).trans (by simp:_=V.int .i64 (turns.length:Int))
  clear hsame
  by_cases hkl:k<turns.length
  case neg=>
   have:k=turns.length:=by omega
   subst this
   simp[g59,h60]
  have w1:IntKind.i64.wrap ((k:Int)+1)=(k:Int)+1:=wrap64 (by omega) (by omega)
  obtain⟨r1,r2,r3,r4⟩:=(hr0.sub (S.was' (st0:=st2) (by simp[TurnL]))).row e1_len hkl
  obtain⟨n,hn⟩: ∃n,n=turns[k]:=⟨_,rfl⟩
  rw[←hn]at r3
  have htm:=tmod2 k
  obtain⟨w,hwk⟩: ∃w,w=k % 2:=⟨_,rfl⟩
  have hw:w<2:=by omega
  rw[←hwk]at htm
  have hmin:=fmin2 n 4
  have hmax:=fmax2 0 (min n 4)
  obtain⟨R,hR,hR4⟩: ∃R:Nat,max 0 (min n 4)=(R:Int)∧R≤4:=⟨(max 0 (min n 4)).toNat,by omega,by omega⟩
  rw[hR]at hmax
  simp[g58,g59,h60,hkl,r1,r3,e1,htm,hmin,hmax]
  refine vc_joinB (M:=fun env' st'=>∃(at_:Nat→Nat) (pos:Nat→Nat→Nat) (c:Ch) (tp:Nat),Duo L at_ pos c tp∧Sep (TurnL cid i7 i6 i3 L r at_ c st2) st') ?_ ?_
  ·refine vc_loopJ (fun d env' st'=>∃(i:Nat) (at_:Nat→Nat) (pos:Nat→Nat→Nat) (c:Ch) (tp:Nat),i≤R∧d=R-i∧env' 70=.int .i64 (i:Nat)∧Duo L at_ pos c tp∧Sep (TurnL cid i7 i6 i3 L r at_ c st2) st') R
     ⟨0,at_,pos,c,tp,by omega,by omega,by simp,D,S⟩ ?_
   clear S D
   rintro J2 hJ2 d env2 st9 hsame ⟨i,at_,pos,c,tp,hi,rfl,h70,D,S⟩
   have q4:=(hsame.get 4 rfl).trans (by simp[g4]:_=V.ptr (some (cid,0)))
   have q6:=(hsame.get 6 rfl).trans (by simp[g6]:_=V.ptr (some (i6,0)))
   have q7:=(hsame.get 7 rfl).trans (by simp[g7]:_=V.ptr (some (i7,0)))
   have q10:=(hsame.get 10 rfl).trans (by simp:_=V.int .i64 (w:Int))
   have q69:=(hsame.get 69 rfl).trans (by simp:_=V.int .i64 (R:Int))
   clear hsame
   by_cases hil:i<R
   case neg=>
    have:i=R:=by omega
    subst this
    simp[q69,h70]
    exact⟨at_,pos,c,⟨tp,D⟩,S⟩
   have w2:IntKind.i64.wrap ((i:Int)+1)=(i:Int)+1:=wrap64 (by omega) (by omega)
   have x7:=arr2_idx i7 w hw
   have x6:=arr2_idx i6 w hw
   have o7:st9 i7=some (.cells (atV at_)):=S.mem (by simp[TurnL])
   have sg7: ∀a:Nat→Nat,segOf (atV a) w 1=some [V.int .i64 (a w:Nat)]:=fun a=>arr2_seg _ hw
   have hle:=D.le w
   by_cases h20:at_ w=20
   ·have hb:((at_ w:Int)==20)=true:=by rw[h20];rfl
    simp[q69,h70,hil,q7,q10,x7,St.seg,o7,sg7,hb]
    exact⟨at_,pos,c,⟨tp,D⟩,S⟩
   have hb20:((at_ w:Int)==20)=false:=beq_eq_false_iff_ne.2 (by omega)
   have w3:IntKind.i64.wrap ((at_ w:Int)+1)=(at_ w:Int)+1:=wrap64 (by omega) (by omega)
   have hst:=store_pt (sz:=1) (o:=w) o7 (v:=.int .i64 ((at_ w+1:Nat):Int)) (vs:=[.int .i64 ((at_ w+1:Nat):Int)]) rfl rfl (by simp[atV,arr2];omega)
   rw[atV_up at_ hw]at hst
   have S:=S.setAt (.cells (atV (atUp at_ w))) 1 rfl
   simp only[TurnL,List.set_cons_succ,List.set_cons_zero]at S
   simp[q69,h70,hil,q7,q10,x7,St.seg,o7,sg7,hb20,w3]
   rw[show((at_ w+1:Nat):Int)=(at_ w:Int)+1 by omega]at hst
   generalize st9.upd i7 (.cells (atV (atUp at_ w)))=st10 at S hst
   have o7:st10 i7=some (.cells (atV (atUp at_ w))):=S.mem (by simp)
   have o6:st10 i6=some (.cells (arr2 fun w=>honV (L w))):=S.mem (by simp)
   have sg6:=arr2_seg (fun w=>honV (L w)) hw
   have hup:((atUp at_ w w:Nat):Int)=(at_ w:Int)+1:=by unfold atUp;rw[if_pos rfl];omega
   have hlw:=hlen w hw
   have rd:Rd 69 eBlk (honV (L w)) (L w) st10:=.inl ⟨_,rfl⟩
   obtain⟨k1,k2,k3,k4⟩:=rd.row eBlk_len (i:=at_ w+1) (by omega)
   obtain⟨b,hb⟩: ∃b,b=(L w)[at_ w+1]'(by omega):=⟨_,rfl⟩
   rw[←hb]at k3
   have hbi:(L w)[at_ w+1]? =some b:=by rw[hb];exact List.getElem?_eq_getElem _
   rw[show((at_ w+1:Nat):Int)=(at_ w:Int)+1 by omega]at k1
   simp[hst,q6,q7,q10,x6,x7,St.seg,o6,o7,sg6,sg7,hup,k1,k3]
   intro i11 h11
   have S:=S.new h11 (.cells z69_adc1)
   have hst:=store_pt (sz:=69) (o:=0) S.get (v:=.agg (eBlk b)) (vs:=eBlk b) rfl (eBlk_len b) (by simp)
   rw[show spliceV z69_adc1 0 (eBlk b)=eBlk b by simp[spliceV,eBlk_len]]at hst
   have S:=S.set (.cells (eBlk b))
   simp[hst]at S⊢
   generalize st10.upd i11 _=st11 at S⊢
   have o11:=S.get
   have S:=S.swap
   obtain⟨mo,tid,bid,uid,R',hgrow⟩:=chGrow (P:=P) S
   have ot:=R'.top
   have hsH:=bsegH b
   have hsA:=bsegAll b
   have hcr:c.r=rulesM 1:=D.toDuoT.r
   have hck:checkM c.r=0:=by rw[hcr];exact genCheck (by omega) (by omega)
   have hcl:c.l.length≤16384:=D.toChG.len
   simp[q4,St.seg,ot,cseg0,o11,hsH]
   cases hf:findM c.l (hId b.hdr)with
   | some y=>
     have hadd:addM c.r c.l b.hdr 1099511627776=(c.l,(y:Int),5):=addM_twice hf
     refine(hgrow (F 169) _ (fun v=>v=.tup [.int .i64 (y:Int),.int .i64 5]) c.l (fun h hT=>by
      have:=spec169 oki hT D.toDuoT.wf hcl hck b.hdr 1099511627776
      rw[hadd]at this
      exact this)).mono ?_
     rintro v st12 ⟨rfl,-⟩
     simp
     exact⟨_,sub_self _⟩
   | none=>
     obtain⟨l',hadd,hfit,hok,c2,tp2,hbody,D2⟩:=D.step H hw (by omega) hbi hf
     rw[←hcr]at hadd
     refine(hgrow (F 169) _ (fun v=>v=.tup [.int .i64 (c.l.length:Int),.int .i64 0]) l' (fun h hT=>by
      have:=spec169 oki hT D.toDuoT.wf hcl hck b.hdr 1099511627776
      rw[hadd]at this
      exact this)).mono ?_
     clear R' ot hgrow
     rintro v st12 ⟨rfl,S⟩
     have o11:=S.drop.get
     simp[q4,St.seg,o11,hsA]
     refine(spec273 okc hc S hok b hfit).mono ?_
     rintro v st13 ⟨rfl,S⟩
     rw[hbody]at S⊢
     simp[h70,w2]
     exact Round.mk (R-(i+1)) _ (by omega) (sub_self _) (hJ2 _ _ _ ⟨i+1,_,_,c2,tp2,by omega,rfl,by simp,D2,S.tail fun r h=>h.drop⟩)
  clear S D
  rintro env2 st9 hsame ⟨at_,pos,c,tp,D,S⟩
  have q3:=(hsame.get 3 rfl).trans (by simp[g3]:_=V.ptr (some (i3,0)))
  have q4:=(hsame.get 4 rfl).trans (by simp[g4]:_=V.ptr (some (cid,0)))
  have q6:=(hsame.get 6 rfl).trans (by simp[g6]:_=V.ptr (some (i6,0)))
  have q7:=(hsame.get 7 rfl).trans (by simp[g7]:_=V.ptr (some (i7,0)))
  have q60:=(hsame.get 60 rfl).trans (by simp[h60]:_=V.int .i64 (k:Int))
  clear hsame
  obtain⟨mo,tid,bid,uid,R'⟩:=chRead S
  have ot:=R'.top
  have w0:=D.toDuoT.wf
  have TR:=R'.tree w0.neNil
  obtain⟨v,h,hvh,htp,hmaxh,hhg⟩:=D.top
  have htl:tp<c.l.length:=D.toChG.lt
  have hct:c.tip=(tp:Int):=D.toChG.tip
  obtain⟨X,hX⟩: ∃X,X=nd c.l tp:=⟨_,rfl⟩
  have hXh:X.height=h:=by rw[hX,nd_hgt_eq htl,hhg]
  have hh20:h≤20:=Nat.le_trans hvh (D.le v)
  simp[q4,St.seg,ot,cseg0]
  have h266:=spec266 okc R'
  rw[hct]at h266
  refine still_call _ _ _ _ (by simpa using h266) ?_
  simp
  refine still_call _ _ _ _ (by simpa using spec161 oki TR w0 (tp:Int)) ?_
  rw[inI_nat htl,←hX]
  simp
  clear R' ot TR h266
  intro i16 h16
  have hz:z108_9b14.length=108:=rfl
  have S:=S.new h16 (.cells z108_9b14)
  have hst:=store_pt (sz:=108) (o:=0) S.get (v:=.agg (eNd X)) (vs:=eNd X) rfl (eNd_len _) (by rw[hz];omega)
  rw[show spliceV z108_9b14 0 (eNd X)=eNd X by simp[spliceV,eNd_len,hz]]at hst
  have S:=S.set (.cells (eNd X))
  simp[hst]at S⊢
  generalize st9.upd i16 _=st10 at S⊢
  have o16:=S.get
  have o7:st10 i7=some (.cells (atV at_)):=S.mem (by simp[TurnL])
  have o6:st10 i6=some (.cells (arr2 fun w=>honV (L w))):=S.mem (by simp[TurnL])
  have o3:st10 i3=some (.cells (eRl r)):=S.mem (by simp[TurnL])
  have x70:=arr2_idx i7 0 (by omega)
  have x71:=arr2_idx i7 1 (by omega)
  have x60:=arr2_idx i6 0 (by omega)
  have x61:=arr2_idx i6 1 (by omega)
  simp at x70 x71 x60 x61
  have s70:segOf (atV at_) 0 1=some [V.int .i64 (at_ 0:Nat)]:=rfl
  have s71:segOf (atV at_) 1 1=some [V.int .i64 (at_ 1:Nat)]:=rfl
  have s60:segOf (arr2 fun w=>honV (L w)) 0 1=some [honV (L 0)]:=rfl
  have s61:segOf (arr2 fun w=>honV (L w)) 1 1=some [honV (L 1)]:=rfl
  have hsh:=osegHgt X
  rw[hXh]at hsh
  have hmx:=fmax2 (at_ 0) (at_ 1)
  have hv2:2≤v→h=0:=fun h2=>by
   have:=D.out v h2
   omega
  have hmm:max (at_ 0:Int) (at_ 1:Int)=(h:Int):=by
   have m0:=hmaxh 0
   have m1:=hmaxh 1
   by_cases h2:2≤v
   ·have:=hv2 h2
    omega
   ·rcases(by omega:v=0∨v=1)with rfl | rfl<;>omega
  rw[hmm]at hmx
  simp[St.seg,o16,hsh,q7,x70,x71,o7,s70,s71,hmx,q3,o3,hsa]
  refine(hnew st10).mono ?_
  rintro v1 st11 ⟨aid,rfl,S1⟩
  have S:=S1.ov S
  clear S1 o16 o7 o6 o3
  have o6:st11 i6=some (.cells (arr2 fun w=>honV (L w))):=S.mem (by simp[TurnL])
  have o16:st11 i16=some (.cells (eNd X)):=S.mem (by simp[TurnL])
  simp[q6,x60,St.seg,o6,s60,o16,hsh]
  have sHX:=osegHdr X
  obtain⟨bX,hbX,NX⟩:=D.toDuoT.nd v h hvh
  rw[←htp,←hX]at NX
  have hdrs: ∀(w:Nat) (b:Blk1),w<2→0<h→(L w)[h]? =some b→b.hdr.root=txIdM (firstM 50 h (M w)):=fun w b hw h0 hb=>by
   obtain⟨j,rfl⟩: ∃j,h=j+1:=⟨h-1,by omega⟩
   have hj:j+1< (L w).length:=(List.getElem?_eq_some_iff.1 hb).1
   obtain⟨p,b',-,hb',-,hro,-⟩:=hon_next (H w) hj
   rw[hb]at hb'
   cases hb'
   exact hro
  have h0l:h< (L 0).length:=by omega
  obtain⟨b0,hb0⟩: ∃b0,b0=(L 0)[h]:=⟨_,rfl⟩
  have hb0i:(L 0)[h]? =some b0:=by rw[hb0];exact List.getElem?_eq_getElem _
  have rd0:Rd 69 eBlk (honV (L 0)) (L 0) st11:=.inl ⟨_,rfl⟩
  obtain⟨k1,k2,k3,k4⟩:=rd0.row eBlk_len h0l
  obtain⟨k5,k6⟩:=k4 0 68 (by omega)
  rw[←hb0]at k6
  rw[show((eBlk b0).drop 0).take 68=eHdr b0.hdr by rw[List.drop_zero,eBlk,List.take_left' (eHdr_len _)]]at k6
  have hrest:(h=0)∨(0<h∧v=0)∨(0<h∧v=1):=by
   by_cases h0:h=0
   ·exact .inl h0
   ·have:¬2≤v:=fun h2=>h0 (hv2 h2)
    rcases(by omega:v=0∨v=1)with e | e
    ·exact .inr (.inl ⟨by omega,e⟩)
    ·exact .inr (.inr ⟨by omega,e⟩)
  rcases hrest with h0 | ⟨h0,hv⟩ | ⟨h0,hv⟩
  case' inl=>
   have hn:¬0<h:=by omega
   have hu2:(0:Nat)<2:=by omega
   have hul:h≤at_ 0:=by omega
   have htu:tp=pos 0 h:=by rw[htp,h0,D.p0,D.p0]
   obtain⟨u,hu⟩: ∃u:Nat,u=0:=⟨0,rfl⟩
   rw[←hu]at hu2 hul htu
   simp[hn]
   rw[show honV (L 0)=honV (L u) by rw[hu]]
   clear hn hu
  case' inr.inl=>
   have hu2:(0:Nat)<2:=by omega
   have hul:h≤at_ 0:=by rw[hv]at hvh;exact hvh
   have htu:tp=pos 0 h:=by rw[htp,hv]
   obtain⟨u,hu⟩: ∃u:Nat,u=0:=⟨0,rfl⟩
   rw[←hu]at hu2 hul htu
   rw[hv,hb0i]at hbX
   have hbb:b0=bX:=Option.some.inj hbX
   have hq:eqK (.agg 68) (.agg (eHdr b0.hdr)) (.agg (eHdr X.hdr))=some true:=by rw[NX.hdr,←hbb,eqK_hdr2];simp
   simp[h0,q6,x60,St.seg,o6,s60,o16,hsh,sHX,k1,k5,k6,hq]
   rw[show honV (L 0)=honV (L u) by rw[hu]]
   clear hu hq
  case' inr.inr=>
   have hu2:(1:Nat)<2:=by omega
   have hul:h≤at_ 1:=by rw[hv]at hvh;exact hvh
   have htu:tp=pos 1 h:=by rw[htp,hv]
   obtain⟨u,hu⟩: ∃u:Nat,u=1:=⟨1,rfl⟩
   rw[←hu]at hu2 hul htu
   have hq:eqK (.agg 68) (.agg (eHdr b0.hdr)) (.agg (eHdr X.hdr))=some false:=by
    rw[NX.hdr,eqK_hdr2,decide_eq_false]
    intro e
    have r0:=hdrs 0 b0 (by omega) h0 hb0i
    have r1:=hdrs 1 bX (by omega) h0 (by rw[←hv];exact hbX)
    rw[e,r1,hM0,hM1]at r0
    exact duo_ne (by omega) hh20 r0.symm
   simp[h0,q6,x60,x61,St.seg,o6,s60,s61,o16,hsh,sHX,k1,k5,k6,hq]
   rw[show honV (L 1)=honV (L u) by rw[hu]]
   clear hu hq
  all_goals
   have hlu:=hlen u hu2
   have w4:IntKind.i64.wrap ((h:Int)+1)=(h:Int)+1:=wrap64 (by omega) (by omega)
   simp[St.seg,o16,hsh,w4]
   rw[hon_sl (l:=L u) (h:=h) (by omega)]
   rotate_left
   ·simp
   ·simp
   obtain⟨ls,hls⟩: ∃ls,ls=((L u).drop 1).take h:=⟨_,rfl⟩
   have hll:ls.length=h:=by rw[hls,List.length_take,List.length_drop];omega
   rw[←hls]
   have hlsl:lenSlV (V.sl .some (rowsOf eBlk ls) h)=some (.int .i64 (h:Int)):=rfl
   simp[hlsl]
   have S:Sep (ChA aid (chGen 1)::pt i16 (.cells (eNd X))::TurnL cid i7 i6 i3 L r at_ c st2) st11:=S
   refine vc_joinB (M:=fun env' st'=>∃(a:Ch) (qos:Nat→Nat→Nat) (ta:Nat),Duo L (fun v=>if v=u then h else 0) qos a ta∧Sep (ChA aid a::pt i16 (.cells (eNd X))::TurnL cid i7 i6 i3 L r at_ c st2) st') ?_ ?_
   ·refine vc_loopJ (fun d env' st'=>∃(i:Nat) (a:Ch) (qos:Nat→Nat→Nat) (ta:Nat),i≤h∧d=h-i∧env' 157=.int .i64 (i:Nat)∧Duo L (fun v=>if v=u then i else 0) qos a ta∧Sep (ChA aid a::pt i16 (.cells (eNd X))::TurnL cid i7 i6 i3 L r at_ c st2) st') h
      ⟨0,chGen 1,fun _ _=>0,0,by omega,by omega,by simp,by simpa using duo0 hgenL,S⟩ ?_
    clear S
    rintro J2 hJ2 d env3 st12 hsame ⟨i,a,qos,ta,hi,rfl,h157,A,S⟩
    have p17:=(hsame.get 17 rfl).trans (by simp:_=V.ptr (some (aid,0)))
    have p155:=(hsame.get 155 rfl).trans (by simp:_=V.sl .some (rowsOf eBlk ls) h)
    have p156:=(hsame.get 156 rfl).trans (by simp:_=V.int .i64 (h:Int))
    clear hsame
    by_cases hih:i<h
    ·have w5:IntKind.i64.wrap ((i:Int)+1)=(i:Int)+1:=wrap64 (by omega) (by omega)
     have rd:Rd 69 eBlk (V.sl .some (rowsOf eBlk ls) h) ls st12:=.inl ⟨.some,by rw[hll]⟩
     obtain⟨m1,m2,m3,m4⟩:=rd.row eBlk_len (i:=i) (by omega)
     obtain⟨b,hb⟩: ∃b,b=ls[i]'(by omega):=⟨_,rfl⟩
     rw[←hb]at m3
     have hbi:(L u)[i+1]? =some b:=by
      have:ls[i]? =some b:=by rw[hb];exact List.getElem?_eq_getElem _
      rw[hls,List.getElem?_take_of_lt hih,List.getElem?_drop]at this
      rw[←this]
      congr 1
      omega
     have hfr:=D.fresh A hgenL rfl (by omega) hbi
     obtain⟨l',hadd,hfit,hok,a2,ta2,hbody,A2⟩:=A.step H hu2 (by simp;omega) (by simpa using hbi) hfr
     rw[atOne]at A2
     simp[p155,p156,h157,hih,m1,m3]
     intro i21 h21
     have S:=S.new h21 (.cells z69_adc1)
     have hst:=store_pt (sz:=69) (o:=0) S.get (v:=.agg (eBlk b)) (vs:=eBlk b) rfl (eBlk_len b) (by simp)
     rw[show spliceV z69_adc1 0 (eBlk b)=eBlk b by simp[spliceV,eBlk_len]]at hst
     have S:=S.set (.cells (eBlk b))
     simp[hst]at S⊢
     generalize st12.upd i21 _=st13 at S⊢
     have o21:=S.get
     have S:=S.swap
     obtain⟨mo,tid,bid,uid,R',hgrow⟩:=chGrow (P:=P) S
     have ot:=R'.top
     have hsH:=bsegH b
     have hsA:=bsegAll b
     have hcr:a.r=rulesM 1:=A.toDuoT.r
     have hck:checkM a.r=0:=by rw[hcr];exact genCheck (by omega) (by omega)
     simp[p17,St.seg,ot,cseg0,o21,hsH]
     rw[←hcr]at hadd
     refine(hgrow (F 169) _ (fun v=>v=.tup [.int .i64 (a.l.length:Int),.int .i64 0]) l' (fun h hT=>by
      have:=spec169 oki hT A.toDuoT.wf A.toChG.len hck b.hdr 1099511627776
      rw[hadd]at this
      exact this)).mono ?_
     clear R' ot hgrow
     rintro v3 st14 ⟨rfl,S⟩
     have o21:=S.drop.get
     simp[p17,St.seg,o21,hsA]
     refine(spec273 okc hc S hok b hfit).mono ?_
     rintro v4 st15 ⟨rfl,S⟩
     rw[hbody]at S
     simp[h157,w5]
     exact Round.mk (h-(i+1)) _ (by omega) (sub_self _) (hJ2 _ _ _ ⟨i+1,a2,_,ta2,by omega,rfl,by simp,A2,S.tail fun r h=>h.drop⟩)
    ·have:i=h:=by omega
     subst this
     simp[p156,h157]
     exact⟨a,⟨qos,ta,A⟩,S⟩
   clear S
   rintro env3 st12 hsame ⟨a,qos,ta,A,S⟩
   have p4:=(hsame.get 4 rfl).trans (by simp[q4]:_=V.ptr (some (cid,0)))
   have p17:=(hsame.get 17 rfl).trans (by simp:_=V.ptr (some (aid,0)))
   have p60:=(hsame.get 60 rfl).trans (by simp[q60]:_=V.int .i64 (k:Int))
   clear hsame
   have hKE:KE a.cm c.cm:=by
    obtain⟨v2,h2,e1,e2,e3,-⟩:=A.top
    have e4:=e3 u
    rw[if_pos rfl]at e4
    have hta:ta=qos u h:=by
     by_cases e:v2=u
     ·have:h2=h:=by rw[e,if_pos rfl]at e1;omega
      rw[e2,e,this]
     ·rw[if_neg e]at e1
      have:h=0:=by omega
      have:h2=0:=by omega
      rw[e2,‹h2=0›,‹h=0›,A.p0,A.p0]
    exact A.same D (w:=u) (h:=h) (by rw[if_pos rfl];exact Nat.le_refl _) hul hta htu
   simp[p4,p17]
   refine(spec267 okc hc S).mono ?_
   clear S
   rintro v5 st13 ⟨j1,m1,rfl,hm1,S⟩
   have S:Sep (ChA cid c::All (SetL j1 lone a.cm m1)::ChA aid a::pt i16 (.cells (eNd X))::[pt i7 (.cells (atV at_)),pt i6 (.cells (arr2 fun w=>honV (L w))),pt i3 (.cells (eRl r)),Was st2]) st13:=(S.all).pull 3
   simp[p4]
   refine(spec267 okc hc S).mono ?_
   clear S
   rintro v6 st14 ⟨j2,m2,rfl,hm2,S⟩
   have S:Sep (SetL j1 lone a.cm m1++(SetL j2 lone c.cm m2++(ChA cid c::ChA aid a::pt i16 (.cells (eNd X))::[pt i7 (.cells (atV at_)),pt i6 (.cells (arr2 fun w=>honV (L w))),pt i3 (.cells (eRl r)),Was st2]))) st14:=by
    have S:=((S.all).pull 2).app
    cases m1 with
    | none=>exact S.tail fun r h=>Sep.app (L1:=SetL j2 lone c.cm m2) h
    | some m=>exact S.tail fun r h=>h.tail fun r h=>Sep.app (L1:=SetL j2 lone c.cm m2) h
   simp
   refine(spec263 oke hm1 hm2 S hKE).mono ?_
   clear S
   rintro v7 st15 ⟨rfl,S⟩
   simp[p60,w1]
   exact Round.mk (turns.length-(k+1)) _ (by omega) (sub_self _) (hJ _ _ _ ⟨k+1,at_,pos,c,tp,by omega,rfl,by simp,D,S.tail fun r h=>h.drop.drop⟩)
 rintro env1 st8 hsame-
 simp
 exact⟨_,sub_self _⟩
end
end Go.Ab

import Derived.Test.YtjcpdljfkhbbkaaGreatY8
import Derived.Test.YtjcpdljfkhbbkaaGreatY7
import Derived.Test.YtjcpdljfkhbbkaaGreatY4
import Derived.Test.YtjcpdljfkhbbkaaGreatY6
import Derived.Test.YtjcpdljfkhbbkaaGreatY3
import Derived.Deep.Slices
import Derived.OpenShut
set_option linter.unusedVariables false
set_option linter.unusedSimpArgs false
set_option linter.unusedSectionVars false
namespace Go.Ab
open Go Go.RowKit
set_option maxRecDepth 10000
theorem setF_on {f:Nat→Bool}{l:List Nd}{i k:Nat}:On (setF f l) i k↔On l i k:=by
 unfold On
 rw[setF_hgt,setF_hgt,setF_anc]
theorem On.parOr {l:List Nd}(w:Wf l){k i:Nat}(hi:i<l.length)(h:On l k i):k=i∨(0<i∧On l k (Ab.par l i)):=by
 rcases Nat.eq_or_lt_of_le h.1 with e | e
 ·left
  have:=h.2
  rw[e,anc_self]at this
  exact this.symm
 ·right
  have h0:0<i:=w.pos_of_hgt (i:=i) (by omega)
  have hp:=w.hgt_par h0 hi
  refine⟨h0,by omega,?_⟩
  rw[←w.anc_par hi (by omega)]
  exact h.2
theorem par_nd {l:List Nd}(w:Wf l){i:Nat}(h0:0<i)(hi:i<l.length):(nd l i).parent=(par l i:Nat):=by
 have hs:=w.succ i l[i] h0 (List.getElem?_eq_getElem hi)
 have hp:par l i=(nd l i).parent.toNat:=by
  simp only[par,List.getElem?_eq_getElem hi,Option.map_some,Option.getD_some,nd_at hi]
 rw[nd_at hi]at hp⊢
 rw[hp]
 omega
theorem readyGo_all {c:Ch}{tp:Nat}(h:ChOk c tp): ∀(f i:Nat),i<c.l.length→i≤f→readyGo c (f+1) i=true→∀k,On c.l k i→hasM c k=true
 | f,i,hi,hf,hg,k,hk=>by
   rw[readyGo]at hg
   cases ho:onB c.l (i:Int) c.tip with
   | true=>
     rw[h.tip]at ho
     have:=(onB_on hi h.lt).1 ho
     exact h.way k (On.trans h.wf h.lt hk this)
   | false=>
     rw[ho,if_neg (by decide)]at hg
     cases hh:hasM c (i:Int)with
     | false=>rw[hh,if_neg (by decide)]at hg;cases hg
     | true=>
       rw[hh,if_pos rfl,inI_nat hi]at hg
       rcases On.parOr h.wf hi hk with rfl | ⟨h0,hp⟩
       ·exact hh
       ·rw[par_nd h.wf h0 hi]at hg
        have hlt:=h.wf.par_lt h0 hi
        obtain⟨f',rfl⟩: ∃f',f=f'+1:=⟨f-1,by omega⟩
        exact readyGo_all h f' (par c.l i) (by omega) (by omega) hg k hp
 termination_by f=>f
theorem readyM_all {c:Ch}{tp i:Nat}(h:ChOk c tp)(hi:i<c.l.length)(hg:readyM c i=true): ∀k,On c.l k i→hasM c k=true:=readyGo_all h i i hi (Nat.le_refl _) hg
theorem upWay_some: ∀{r:List Int} {c c2:Ch} {i:Int},upWay c r=(c2,some i)→i∈r
 | [],c,c2,i,h=>by simp[upWay]at h
 | x::r,c,c2,i,h=>by
   rw[upWay]at h
   split at h
   ·exact List.mem_cons_of_mem _ (upWay_some h)
   ·simp only[Prod.mk.injEq,Option.some.injEq]at h
    rw[h.2]
    exact List.mem_cons_self
theorem upWay_W: ∀(r:List Int) {c:Ch},ChW c→ChW (upWay c r).1
 | [],c,h=>h
 | x::r,c,h=>by
   rw[upWay]
   split
   ·exact upWay_W r (h.ups x)
   ·exact h
theorem upWay_tip: ∀(r:List Int) {c c2:Ch},upWay c r=(c2,none)→c2.tip=r.getLast?.getD c.tip
 | [],c,c2,h=>by
   simp only[upWay,Prod.mk.injEq,and_true]at h
   rw[←h];rfl
 | x::r,c,c2,h=>by
   rw[upWay]at h
   split at h
   ·rename_i hf
    have:=upWay_tip r h
    rw[this,ups_tip hf]
    cases r with
    | nil=>rfl
    | cons y r=>simp[List.getLast?_cons]
   ·simp at h
theorem upWay_in: ∀(r:List Int) (c:Ch),(upWay c r).1.tip=c.tip∨(upWay c r).1.tip∈r
 | [],c=>.inl rfl
 | x::r,c=>by
   rw[upWay]
   split
   ·rename_i hf
    rcases upWay_in r (ups c x)with h | h
    ·right
     rw[h,ups_tip hf]
     exact List.mem_cons_self
    ·exact .inr (List.mem_cons_of_mem _ h)
   ·exact .inl rfl
theorem upAll_W: ∀(r:List Int) {c:Ch},ChW c→ChW (upAll c r)
 | [],c,h=>h
 | x::r,c,h=>upAll_W r (h.ups x)
theorem upAll_keep: ∀(r:List Int) (c:Ch),(upAll c r).r=c.r∧(upAll c r).l=c.l∧(upAll c r).bs=c.bs
 | [],c=>⟨rfl,rfl,rfl⟩
 | x::r,c=>by
   obtain⟨h1,h2,h3⟩:=ups_r c x
   obtain⟨k1,k2,k3⟩:=upAll_keep r (ups c x)
   exact⟨k1.trans h1,k2.trans h2,k3.trans h3⟩
theorem upAll_tip: ∀(r:List Int) (c:Ch),(upAll c r).tip=c.tip∨(upAll c r).tip∈r
 | [],c=>.inl rfl
 | x::r,c=>by
   rcases upAll_tip r (ups c x)with h | h
   ·cases hf:fits1 c x with
    | true=>
      right
      rw[upAll,h,ups_tip hf]
      exact List.mem_cons_self
    | false=>
      left
      rw[upAll,h,ups_not hf]
   ·right
    exact List.mem_cons_of_mem _ h
theorem wayM_mem {l:List Nd}(w:Wf l){a b:Nat}(hb:b<l.length){x:Int}(h:x∈wayM l a b): ∃k:Nat,x=k∧On l k b∧k<l.length∧0<k:=by
 obtain⟨j,hj,rfl⟩:=List.mem_iff_getElem.1 h
 obtain⟨h1,h2,h3⟩:=wayM_at w hb hj
 rw[wayM_get]
 refine⟨_,rfl,h1,h2,?_⟩
 have:=w.anc_hgt hb h3
 exact w.pos_of_hgt (i:=anc l b (hgt l a+1+j)) (by omega)
theorem moveM_ok {c:Ch}{tp to:Nat}(h:ChOk c tp)(hto:to<c.l.length)(hr: ∀k,On c.l k to→hasM c k=true):
  (moveM c tp to).1.bs=c.bs∧(moveM c tp to).1.r=c.r∧
  (((moveM c tp to).2=true∧ChOk (moveM c tp to).1 to∧(moveM c tp to).1.l=c.l)∨
   ((moveM c tp to).2=false∧(∃x:Nat,On c.l x to∧0<x∧x<c.l.length∧(moveM c tp to).1.l=(failM c.l x).1)∧∃tp',ChOk (moveM c tp to).1 tp')):=by
 have w:=h.wf
 have htl:=h.lt
 obtain⟨m,hm⟩: ∃m,m=meetM c.l tp to:=⟨_,rfl⟩
 have hM:=meet_spec w htl hto
 rw[←hm]at hM
 have hDm:hgt c.l m≤hgt c.l tp:=hM.on1.1
 obtain⟨c1,hc1⟩: ∃c1,c1=downN (hgt c.l tp-hgt c.l m) c:=⟨_,rfl⟩
 obtain⟨k1,k2,k3⟩:=downN_keep c (hgt c.l tp-hgt c.l m)
 have hW1:=downN_W h.toChW (hgt c.l tp-hgt c.l m)
 have ht1:=downN_tip w h.tip htl (hgt c.l tp-hgt c.l m) (by omega)
 rw[←hc1]at k1 k2 k3 hW1 ht1
 rw[show hgt c.l tp-(hgt c.l tp-hgt c.l m)=hgt c.l m by omega,hM.on1.2]at ht1
 obtain⟨u1,u2,u3⟩:=upWay_keep (wayM c.l m to) c1
 have hWu:=upWay_W (wayM c.l m to) hW1
 have hmv:moveM c tp to=(match upWay c1 (wayM c.l m to)with
   | (c2,none)=>(c2,true)
   | (c2,some i)=>(upAll (downN (hgt c.l c2.tip.toNat-hgt c.l m) {c2 with l:=(failM c2.l i).1}) (wayM c.l m tp),false)):=by
  rw[moveM,←hm,←hc1]
  all_goals rfl
 cases hu:upWay c1 (wayM c.l m to)with
 | mk c2 o=>
   rw[hu]at hmv u1 u2 u3 hWu
   cases o with
   | none=>
     have hmv:moveM c tp to=(c2,true):=hmv
     rw[hmv]
     refine⟨u3.trans k3,u1.trans k1,.inl ⟨rfl,⟨hWu,?_,?_,?_⟩,u2.trans k2⟩⟩
     ·have ht:=upWay_tip _ hu
      rw[ht,ht1]
      by_cases hz:hgt c.l to=hgt c.l m
      ·have:(wayM c.l m to)=[]:=by
         apply List.eq_nil_of_length_eq_zero
         rw[wayM_len];omega
       rw[this]
       have e:=hM.on2.2
       rw[←hz,anc_self]at e
       rw[e];rfl
      ·have hlen:=wayM_len c.l m to
       have h2:=hM.on2.1
       rw[List.getLast?_eq_getElem?,List.getElem?_eq_getElem (by omega),Option.getD_some,wayM_get]
       have e:hgt c.l m+1+((wayM c.l m to).length-1)=hgt c.l to:=by omega
       rw[e,anc_self]
     ·show to<c2.l.length
      rw[u2,k2];exact hto
     ·intro k hk
      have hk:On c.l k to:=by
       have h2:c2.l=c.l:=u2.trans k2
       rw[h2]at hk
       exact hk
      have:=hr k hk
      unfold hasM at this⊢
      show(lk (k:Int) c2.bs).isSome=true
      rw[u3,k3]
      exact this
   | some i=>
     have hmv:moveM c tp to=(upAll (downN (hgt c.l c2.tip.toNat-hgt c.l m) {c2 with l:=(failM c2.l i).1}) (wayM c.l m tp),false):=hmv
     rw[hmv]
     obtain⟨c3,hc3⟩: ∃c3:Ch,c3={c2 with l:=(failM c2.l i).1}:=⟨_,rfl⟩
     rw[←hc3]
     have hW3:ChW c3:=by rw[hc3];exact hWu.failed i
     have hi:=upWay_some hu
     obtain⟨x,rfl,hx1,hx2,hx3⟩:=wayM_mem w hto hi
     have hl2:c2.l=c.l:=u2.trans k2
     have hb2:c2.bs=c.bs:=u3.trans k3
     have hr2:c2.r=c.r:=u1.trans k1
     have hl3:c3.l=(failM c.l x).1:=by rw[hc3];show(failM c2.l x).1=_;rw[hl2]
     have hb3:c3.bs=c.bs:=by rw[hc3];exact hb2
     have hr3:c3.r=c.r:=by rw[hc3];exact hr2
     obtain⟨c4,hc4⟩: ∃c4,c4=downN (hgt c.l c2.tip.toNat-hgt c.l m) c3:=⟨_,rfl⟩
     obtain⟨q1,q2,q3⟩:=downN_keep c3 (hgt c.l c2.tip.toNat-hgt c.l m)
     have hW4:=downN_W hW3 (hgt c.l c2.tip.toNat-hgt c.l m)
     rw[←hc4]at q1 q2 q3 hW4⊢
     obtain⟨a1,a2,a3⟩:=upAll_keep (wayM c.l m tp) c4
     have hW5:=upAll_W (wayM c.l m tp) hW4
     refine⟨by rw[a3,q3,hb3],by rw[a1,q1,hr3],.inr ⟨rfl,⟨x,hx1,hx3,hx2,by rw[a2,q2,hl3]⟩,?_⟩⟩
     obtain⟨fl,hfl⟩:=failM_setF c.l x
     have hl4:c4.l=setF fl c.l:=by rw[q2,hl3,hfl]
     have hl3':c3.l=setF fl c.l:=by rw[hl3,hfl]
     have ht2: ∃t2:Nat,c2.tip=t2∧t2<c.l.length∧hgt c.l m≤hgt c.l t2∧anc c.l t2 (hgt c.l m)=m:=by
      have hin:=upWay_in (wayM c.l m to) c1
      rw[hu]at hin
      rcases hin with e | e
      ·exact⟨m,by rw[←ht1];exact e,hM.lt,Nat.le_refl _,anc_self m⟩
      ·obtain⟨j,hj,e'⟩:=List.mem_iff_getElem.1 e
       obtain⟨y1,y2,y3⟩:=wayM_at w (a:=m) hto hj
       rw[wayM_get]at e'
       refine⟨_,e'.symm,y2,by rw[w.anc_hgt hto y3];omega,?_⟩
       rw[w.anc_anc hto (by omega) y3]
       exact hM.on2.2
     obtain⟨t2,hc2t,ht2l,hgm,ham⟩:=ht2
     have hc3t:c3.tip=t2:=by rw[hc3];exact hc2t
     have hd4:=downN_tip hW3.wf hc3t (by rw[hl3',setF_length];exact ht2l) (hgt c.l c2.tip.toNat-hgt c.l m) (by rw[hc2t,Int.toNat_natCast,hl3',setF_hgt];omega)
     rw[←hc4,hc2t,Int.toNat_natCast,hl3',setF_hgt,setF_anc,show hgt c.l t2-(hgt c.l t2-hgt c.l m)=hgt c.l m by omega,ham]at hd4
     have htip: ∃tp':Nat,(upAll c4 (wayM c.l m tp)).tip=tp'∧On c.l tp' tp∧tp'<c.l.length:=by
      rcases upAll_tip (wayM c.l m tp) c4 with e | e
      ·exact⟨m,by rw[e,hd4],hM.on1,hM.lt⟩
      ·obtain⟨k,hk1,hk2,hk3,hk4⟩:=wayM_mem w htl e
       exact⟨k,hk1,hk2,hk3⟩
     obtain⟨tp',p1,p2,p3⟩:=htip
     refine⟨tp',hW5,p1,by rw[a2,hl4,setF_length];exact p3,fun k hk=>?_⟩
     rw[a2,hl4,setF_on]at hk
     have:=h.way k (On.trans w htl hk p2)
     unfold hasM at this⊢
     rw[a3,q3,hb3]
     exact this
def pickGo (c:Ch):List Nat→Nat→Nat
 | [],b=>b
 | i::r,b=>pickGo c r (if(nd c.l i).failed=false∧0<cmpU (natU (nd c.l i).work) (natU (nd c.l b).work)∧readyM c i=true then i else b)
def pickM (c:Ch)(tp:Nat):Nat:=pickGo c (List.range' 0 c.l.length) tp
theorem pickGo_in (c:Ch): ∀(r:List Nat) (b:Nat),pickGo c r b=b∨(pickGo c r b∈r∧(nd c.l (pickGo c r b)).failed=false∧readyM c (pickGo c r b)=true)
 | [],b=>.inl rfl
 | i::r,b=>by
   rw[pickGo]
   by_cases h:(nd c.l i).failed=false∧0<cmpU (natU (nd c.l i).work) (natU (nd c.l b).work)∧readyM c i=true
   ·rw[if_pos h]
    rcases pickGo_in c r i with e | ⟨e1,e2⟩
    ·right
     rw[e]
     exact⟨List.mem_cons_self,h.1,h.2.2⟩
    ·exact .inr ⟨List.mem_cons_of_mem _ e1,e2⟩
   ·rw[if_neg h]
    rcases pickGo_in c r b with e | ⟨e1,e2⟩
    ·exact .inl e
    ·exact .inr ⟨List.mem_cons_of_mem _ e1,e2⟩
theorem pickM_in (c:Ch)(tp:Nat):pickM c tp=tp∨(pickM c tp<c.l.length∧(nd c.l (pickM c tp)).failed=false∧readyM c (pickM c tp)=true):=by
 rcases pickGo_in c (List.range' 0 c.l.length) tp with e | ⟨e1,e2⟩
 ·exact .inl e
 ·refine .inr ⟨?_,e2⟩
  have:=List.mem_range'_1.1 e1
  unfold pickM
  omega
def sound (l:List Nd):Nat:=(List.range l.length).countP fun k=>!(nd l k).failed
theorem countP_lt {p q:Nat→Bool}: ∀{l:List Nat} {b:Nat},b∈l→(∀a∈l,q a=true→p a=true)→p b=true→q b=false→l.countP q<l.countP p
 | x::l,b,hb,hpq,h1,h2=>by
   rw[List.countP_cons,List.countP_cons]
   have hle:l.countP q≤l.countP p:=List.countP_mono_left fun a ha=>hpq a (List.mem_cons_of_mem _ ha)
   rcases List.mem_cons.1 hb with rfl | hb
   ·rw[h1,h2]
    simp
    omega
   ·have:=countP_lt hb (fun a ha=>hpq a (List.mem_cons_of_mem _ ha)) h1 h2
    have hx:=hpq x List.mem_cons_self
    cases hq:q x with
    | false=>simp;split<;>omega
    | true=>rw[hx hq];simp;omega
theorem nd_setF {f:Nat→Bool}{l:List Nd}{k:Nat}(hk:k<l.length):(nd (setF f l) k).failed=((nd l k).failed||f k):=by
 rw[nd_at (by rw[setF_length];exact hk),setF_get hk,nd_at hk]
 cases hf:f k<;>simp
theorem sound_fail {l:List Nd}(w:Wf l){x b:Nat}(hx0:0<x)(hx:x<l.length)(hb:b<l.length)(ho:On l x b)(hs:(nd l b).failed=false):sound (failM l x).1<sound l:=by
 have hfm:(failM l x).1=setF (fun k=>onB l x k) l:=by
  unfold failM
  rw[if_neg (by omega)]
 rw[hfm]
 unfold sound
 rw[setF_length]
 refine countP_lt (b:=b) (List.mem_range.2 hb) (fun a ha hq=>?_) (by rw[hs];rfl) ?_
 ·rw[nd_setF (List.mem_range.1 ha)]at hq
  cases h:(nd l a).failed with
  | false=>rfl
  | true=>rw[h]at hq;simp at hq
 ·rw[nd_setF hb,(onB_on hx hb).2 ho]
  simp
def followN:Nat→Ch→Ch
 | 0,c=>c
 | n+1,c=>if pickM c c.tip.toNat=c.tip.toNat then c else if(moveM c c.tip.toNat (pickM c c.tip.toNat)).2=true then(moveM c c.tip.toNat (pickM c c.tip.toNat)).1 else followN n (moveM c c.tip.toNat (pickM c c.tip.toNat)).1
def followM (c:Ch):Ch:=followN (sound c.l+1) c
section
variable {P:Program} {F:Fn}
set_option maxHeartbeats 8000000 in
theorem spec274 (ok:OkChain P F)(hc:CloneC P (F 256)){st:St}{cid:Nat}{c:Ch}{L:List Asn}(S:Sep (ChA cid c::L) st){tp:Nat}(h:ChOk c tp):
  ACalls P (F 274) [.ptr (some (cid,0))] st fun v st'=>Sep (ChA cid (followM c)::L) st':=by
 have okl:=ok.toOkLocate
 have oki:=okl.toOkIndexZ.toOkIndex
 have okn:=oki.toOkHead.toOkNum
 refine shows_call ok.mixed ok.h274 (by simp[k274]) ?_
 simp only[k274]
 simp
 refine vc_loopJ (fun n env' st'=>∃(f:Nat) (c2:Ch) (tp2:Nat),n=sound c2.l∧sound c2.l≤f∧followN (f+1) c2=followM c∧ChOk c2 tp2∧Sep (ChA cid c2::L) st') (sound c.l)
  ⟨sound c.l,c,tp,rfl,Nat.le_refl _,rfl,h,S⟩ ?_
 clear S
 rintro J hJ n env1 st1 hsame ⟨f,c2,tp2,rfl,hf,hgo,h2,S⟩
 have g0:=(hsame.get 0 rfl).trans (by simp:_=V.ptr (some (cid,0)))
 clear hsame
 have w:=h2.wf
 have hl:=h2.len
 obtain⟨mo,tid,bid,uid,R⟩:=chRead S
 have o1:=R.top
 have T:=R.tree w.neNil
 rw[h2.tip]at o1
 simp[g0,St.seg,o1,cseg0,cseg4]
 refine(spec159 oki T).mono ?_
 rintro v st2 ⟨rfl,rfl⟩
 clear R T o1
 simp
 refine vc_joinB (M:=fun env' st'=>env' 2=.int .i64 (pickM c2 tp2:Nat)∧Sep (ChA cid c2::L) st') ?_ ?_
 ·refine vc_loopJ (fun n env' st'=>∃i b:Nat,i≤c2.l.length∧b<c2.l.length∧n=c2.l.length-i∧env' 14=.int .i64 (i:Nat)∧env' 2=.int .i64 (b:Nat)∧pickGo c2 (List.range' i (c2.l.length-i)) b=pickM c2 tp2∧Sep (ChA cid c2::L) st') c2.l.length
    ⟨0,tp2,by omega,h2.lt,by omega,by simp,by simp,rfl,S⟩ ?_
  clear S
  rintro J2 hJ2 n env2 st3 hsame ⟨i,b,hi,hb,rfl,h14,h3,hg,S⟩
  have g0:=(hsame.get 0 rfl).trans (by simp[g0]:_=V.ptr (some (cid,0)))
  have g13:=(hsame.get 13 rfl).trans (by simp:_=V.int .i64 (c2.l.length:Int))
  clear hsame
  by_cases hlt:i<c2.l.length
  ·rw[show c2.l.length-i=(c2.l.length-(i+1))+1 by omega,List.range'_succ,pickGo]at hg
   have w1:IntKind.i64.wrap ((i:Int)+1)=(i:Int)+1:=wrap64 (by omega) (by omega)
   obtain⟨mo,tid,bid,uid,R⟩:=chRead S
   have o1:=R.top
   have T:=R.tree w.neNil
   simp[g0,g13,h14,hlt,St.seg,o1,cseg0]
   refine(spec161 oki T w i).mono ?_
   rintro v st4 ⟨rfl,rfl⟩
   rw[inI_nat hlt]
   clear R T o1
   simp
   intro i4 h4
   have S:=S.new h4 (.cells z108_9b14)
   have hz:z108_9b14.length=108:=rfl
   have hst:=store_pt (sz:=108) (o:=0) S.get (v:=.agg (eNd (nd c2.l i))) (vs:=eNd (nd c2.l i)) rfl (eNd_len _) (by rw[hz];omega)
   rw[show spliceV z108_9b14 0 (eNd (nd c2.l i))=eNd (nd c2.l i) by simp[spliceV,eNd_len,hz]]at hst
   have S:=S.set (.cells (eNd (nd c2.l i)))
   simp[hst]at S⊢
   clear hst
   generalize st4.upd i4 _=st5 at S⊢
   have o4:=S.get
   have hfl7:=nseg107 (nd c2.l i)
   obtain⟨mo,tid,bid,uid,R⟩:=chRead S.drop
   have o1:=R.top
   have T:=R.tree w.neNil
   simp[St.seg,o4,hfl7]
   cases hfl:(nd c2.l i).failed with
   | true=>
     rw[if_neg (by rw[hfl];rintro⟨h,-⟩;cases h)]at hg
     simp[hfl,h14,w1]
     exact Round.mk (c2.l.length-(i+1)) _ (by omega) (sub_self _) (hJ2 _ _ _ ⟨i+1,b,by omega,hb,rfl,by simp,by simp[h3],hg,S.drop⟩)
   | false=>
     have hw:=osegWork (nd c2.l i)
     have hwb:=osegWork (nd c2.l b)
     have ew: ∀x,V.agg (eU x)=nU x:=fun x=>rfl
     simp[hfl,g0,h3,o1,cseg0,St.seg,o4,hw]
     refine still_call _ _ _ _ (by simpa using spec161 oki T w b) ?_
     rw[inI_nat hb]
     have hfw:fldV true 103 4 (V.agg (eNd (nd c2.l b)))=some (nU (natU (nd c2.l b).work)):=by
      show(segOf _ 103 4).bind (packV true)=_
      rw[hwb];rfl
     simp[hfw,ew]
     refine still_call _ _ _ _ (by simpa[ew]using spec106 okn st5 (natU (nd c2.l i).work) (natU (nd c2.l b).work)) ?_
     by_cases hcm:0<cmpU (natU (nd c2.l i).work) (natU (nd c2.l b).work)
     ·simp[hcm,g0]
      refine still_call _ _ _ _ (by simpa[g0]using spec275 ok R w h2.tip h2.lt i hlt) ?_
      cases hrd:readyM c2 i with
      | true=>
        rw[if_pos ⟨hfl,hcm,hrd⟩]at hg
        simp[h14,w1]
        exact Round.mk (c2.l.length-(i+1)) _ (by omega) (sub_self _) (hJ2 _ _ _ ⟨i+1,i,by omega,hlt,rfl,by simp,by simp,hg,S.drop⟩)
      | false=>
        rw[if_neg (by rw[hrd];rintro⟨-,-,h⟩;cases h)]at hg
        simp[h14,w1]
        exact Round.mk (c2.l.length-(i+1)) _ (by omega) (sub_self _) (hJ2 _ _ _ ⟨i+1,b,by omega,hb,rfl,by simp,by simp[h3],hg,S.drop⟩)
     ·rw[if_neg (fun h=>hcm h.2.1)]at hg
      simp[hcm,h14,w1]
      exact Round.mk (c2.l.length-(i+1)) _ (by omega) (sub_self _) (hJ2 _ _ _ ⟨i+1,b,by omega,hb,rfl,by simp,by simp[h3],hg,S.drop⟩)
  ·have:i=c2.l.length:=by omega
   subst this
   rw[Nat.sub_self]at hg
   have hg:b=pickM c2 tp2:=hg
   simp[g13,h14]
   exact⟨by rw[h3,hg],S⟩
 clear S
 rintro env2 st3 hsame ⟨h3,S⟩
 have g0:=(hsame.get 0 rfl).trans (by simp[g0]:_=V.ptr (some (cid,0)))
 clear hsame
 have ht2:c2.tip.toNat=tp2:=by rw[h2.tip];exact Int.toNat_natCast _
 rw[followN,ht2]at hgo
 obtain⟨mo,tid,bid,uid,R⟩:=chRead S
 have o1:=R.top
 rw[h2.tip]at o1
 by_cases hp:pickM c2 tp2=tp2
 ·rw[if_pos hp]at hgo
  rw[hp]at h3
  simp[g0,h3,St.seg,o1,cseg4]
  rw[←hgo]
  exact⟨st3,sub_self _,S⟩
 ·rw[if_neg hp]at hgo
  rcases pickM_in c2 tp2 with e | ⟨e1,e2,e3⟩
  ·exact absurd e hp
  have hra:=readyM_all h2 e1 e3
  have hpb:(((pickM c2 tp2:Nat):Int)==(tp2:Int))=false:=beq_eq_false_iff_ne.2 (by omega)
  simp[g0,h3,St.seg,o1,cseg4,hpb]
  refine(spec276 ok hc S h2 (pickM c2 tp2) e1 hra).mono ?_
  clear S R o1
  rintro v st4 ⟨rfl,S⟩
  obtain⟨m1,m2,m3⟩:=moveM_ok h2 e1 hra
  rcases m3 with⟨m3,m4,m5⟩ | ⟨m3,⟨x,x1,x2,x3,x4⟩,tp',m4⟩
  ·rw[if_pos m3]at hgo
   rw[m3]
   simp
   rw[←hgo]
   exact⟨st4,sub_self _,S⟩
  ·rw[if_neg (by rw[m3];decide)]at hgo
   rw[m3]
   simp
   have hlt:=sound_fail w x2 x3 e1 x1 e2
   rw[←x4]at hlt
   obtain⟨f',rfl⟩: ∃f',f=f'+1:=⟨f-1,by omega⟩
   exact Round.mk _ _ hlt (sub_self _) (hJ _ _ _ ⟨f',_,tp',rfl,by omega,hgo,m4,S⟩)
end
def bodyM (c:Ch)(b:Blk1):Ch×Int×Int:=
 match findM c.l (hId b.hdr)with
 | none=>(c,-1,4)
 | some i=>
   if(nd c.l i).hdr≠b.hdr then(c,-1,4)
   else if(nd c.l i).failed=true then(c,-1,101)
   else if hasM c i=true then(c,-1,5)
   else if rootE b≠0 then(c,-1,rootE b)
   else if blkE b≠0 then({c with l:=(failM c.l i).1},-1,blkE b)
   else(followM {c with bs:=aSet (i:Int) (cloneB b) c.bs},i,0)
theorem eqL_hdr2 (x y:Hdr):eqL (eHdr x) (eHdr y)=some (decide (x=y)):=by
 have e: ∀h:Hdr,eHdr h=[w32 h.ver]++(eId h.prev++(eId h.root++([w32 h.time]++([w32 h.bits]++[w32 h.nonce])))):=fun h=>rfl
 rw[e x,e y,eqL_app _ _ _ _ _ _ (eqL_w32 x.ver y.ver) (eqL_app _ _ _ _ _ _ (eqL_id x.prev y.prev) (eqL_app _ _ _ _ _ _ (eqL_id x.root y.root) (eqL_app _ _ _ _ _ _ (eqL_w32 x.time y.time) (eqL_app _ _ _ _ _ _ (eqL_w32 x.bits y.bits) (eqL_w32 x.nonce y.nonce)))))]
 congr 1
 rw[Bool.eq_iff_iff]
 simp only[Bool.and_eq_true,decide_eq_true_eq]
 constructor
 ·rintro⟨h1,h2,h3,h4,h5,h6⟩
  cases x
  cases y
  simp_all
 ·rintro rfl
  simp
theorem eqK_hdr2 (x y:Hdr):eqK (.agg 68) (.agg (eHdr x)) (.agg (eHdr y))=some (decide (x=y)):=by simp[eqK,eHdr_len,eqL_hdr2]
theorem cloneT_ok {t:Tx1}(h:t.ok 100):(cloneT t).ok 100:=by
 refine⟨by simpa[cloneT]using h.1,h.2.1,fun x hx=>?_⟩
 obtain⟨y,hy,rfl⟩:=List.mem_map.1 hx
 exact h.2.2 y hy
theorem ChOk.more {c:Ch}{tp:Nat}(h:ChOk c tp)(i:Int)(b:Blk1)(t:Tx1)(hb:b.txs=[t])(ht:t.ok 100):ChOk {c with bs:=aSet i (cloneB b) c.bs} tp:=by
 refine⟨⟨h.wf,h.len,fun j b' hj=>?_,h.us,h.s1,h.s2⟩,h.tip,h.lt,fun k hk=>?_⟩
 ·have hj:lk j (aSet i (cloneB b) c.bs)=some b':=hj
  rw[lk_aSet]at hj
  split at hj
  ·cases hj
   exact⟨cloneT t,by simp[cloneB,hb],cloneT_ok ht⟩
  ·exact h.one j b' hj
 ·have:=h.way k hk
  unfold hasM at this⊢
  show(lk (k:Int) (aSet i (cloneB b) c.bs)).isSome=true
  rw[lk_aSet]
  split
  ·rfl
  ·exact this
section
variable {P:Program} {F:Fn}
set_option maxHeartbeats 8000000 in
theorem spec273 (ok:OkChain P F)(hc:CloneC P (F 256)){st:St}{cid:Nat}{c:Ch}{L:List Asn}(S:Sep (ChA cid c::L) st){tp:Nat}(h:ChOk c tp)(b:Blk1)(t:Tx1)(hb:b.txs=[t])(ht:t.ok 100):
  ACalls P (F 273) [.ptr (some (cid,0)),.agg (eBlk b)] st fun v st'=>v=.tup [.int .i64 (bodyM c b).2.1,.int .i64 (bodyM c b).2.2]∧Sep (ChA cid (bodyM c b).1::L) st':=by
 have okl:=ok.toOkLocate
 have okz:=okl.toOkIndexZ
 have oki:=okz.toOkIndex
 have okh:=oki.toOkHead
 have okc2:=ok.toOkCoins.toOkCheck2
 refine shows_call ok.mixed ok.h273 (by simp[k273]) ?_
 simp only[k273]
 have w:=h.wf
 have hsH:=bsegH b
 have hsA:=bsegAll b
 have hfH: ∀x,fldV true 0 68 (V.agg (eNd x))=some (.agg (eHdr x.hdr)):=fun x=>by
  show(segOf _ 0 68).bind (packV true)=_
  rw[osegHdr];rfl
 have hfF: ∀x,fldV false 107 1 (V.agg (eNd x))=some (.bool x.failed):=fun x=>by
  show(segOf _ 107 1).bind (packV false)=_
  rw[nseg107];rfl
 simp
 intro i3 h3
 have S:=S.new h3 (.cells (eBlk b))
 generalize st.upd i3 _=st1 at S⊢
 have o3:=S.get
 obtain⟨mo,tid,bid,uid,R⟩:=chRead S.drop
 have o1:=R.top
 have T:=R.tree w.neNil
 simp[St.seg,o1,o3,cseg0,hsH]
 refine still_call _ _ _ _ (by simpa using spec141 okh st1 b.hdr) ?_
 simp
 refine still_call _ _ _ _ (by simpa using spec162 okz T (hId b.hdr)) ?_
 have hbm:bodyM c b=(match findM c.l (hId b.hdr)with
  | none=>(c,-1,4)
  | some i=>
    if(nd c.l i).hdr≠b.hdr then(c,-1,4)
    else if(nd c.l i).failed=true then(c,-1,101)
    else if hasM c i=true then(c,-1,5)
    else if rootE b≠0 then(c,-1,rootE b)
    else if blkE b≠0 then({c with l:=(failM c.l i).1},-1,blkE b)
    else(followM {c with bs:=aSet (i:Int) (cloneB b) c.bs},i,0)):=rfl
 cases hfi:findM c.l (hId b.hdr)with
 | none=>
   rw[hfi]at hbm
   simp only at hbm
   rw[hbm]
   simp
   exact⟨st1,sub_self _,S.drop⟩
 | some i=>
   have hil:=findM_lt hfi
   rw[hfi]at hbm
   simp only at hbm
   simp
   simp[St.seg,o1,cseg0]
   refine still_call _ _ _ _ (by simpa using spec161 oki T w i) ?_
   rw[inI_nat hil]
   simp[hfH,St.seg,o3,hsH]
   rw[eqK_hdr2]
   by_cases hh:(nd c.l i).hdr=b.hdr
   ·rw[if_neg (by simp[hh])]at hbm
    simp[hh,St.seg,o1,cseg0]
    refine(spec161 oki T w i).mono ?_
    rintro v st2 ⟨rfl,rfl⟩
    rw[inI_nat hil]
    cases hfl:(nd c.l i).failed with
    | true=>
      rw[if_pos hfl]at hbm
      rw[hbm]
      simp[hfF,hfl]
      exact⟨st2,sub_self _,S.drop⟩
    | false=>
      rw[if_neg (by rw[hfl];decide)]at hbm
      simp[hfF,hfl]
      refine(spec268 ok R i).mono ?_
      rintro v st3 ⟨rfl,rfl⟩
      cases hha:hasM c (i:Int)with
      | true=>
        rw[if_pos hha]at hbm
        rw[hbm]
        simp
        exact⟨st3,sub_self _,S.drop⟩
      | false=>
        rw[if_neg (by rw[hha];decide)]at hbm
        simp[St.seg,o3,hsA]
        refine(spec252 okc2 st3 b (by rw[hb];simp) (fun t' ht'=>by rw[hb]at ht';rw[List.mem_singleton.1 ht'];exact ht)).mono ?_
        rintro v st4 ⟨rfl,hsub⟩
        clear R T o1
        have S:=S.sub hsub
        have o3:=S.get
        by_cases hre:rootE b=0
        ·rw[if_neg (by rw[hre];simp)]at hbm
         simp[hre,St.seg,o3,hsA]
         refine(spec253 okc2 st4 b (by rw[hb];simp) (fun t' ht'=>by
          rw[hb]at ht'
          rw[List.mem_singleton.1 ht']
          exact⟨Nat.le_trans ht.1 (by decide),Nat.le_trans ht.2.1 (by decide),fun x hx=>Nat.le_trans (ht.2.2 x hx) (by decide)⟩)).mono ?_
         rintro v st5 ⟨rfl,hsub⟩
         have S:=S.sub hsub
         have o3:=S.get
         by_cases hbe:blkE b=0
         ·rw[if_neg (by rw[hbe];simp)]at hbm
          obtain⟨tid,bid,uid,W⟩:=chOpen S.drop
          obtain⟨mo,R⟩:=ChR.at W
          have o1:=R.top
          simp[hbe,St.seg,o1,o3,cseg2,hsA]
          refine still_call _ _ _ _ (by simpa using spec271 ok st5 b (by rw[hb];simp) (fun t' ht'=>by rw[hb]at ht';rw[List.mem_singleton.1 ht'];exact ht)) ?_
          have hms:=mset_enc keyed_int (ev:=vBlk) R.bod (i:Int) (cloneB b)
          simp only[kInt]at hms
          have W3:=SetS.setL (i:=bid) (x:=.mp (encM kInt vBlk c.bs)) (W.tail (L':=pt bid (.mp (encM kInt vBlk c.bs))::TreeS tid c.r c.l::pt uid (.mp (encM kInt vUndo c.us))::L) fun r h=>h.pull 1) (.mp (encM kInt vBlk (aSet (i:Int) (cloneB b) c.bs)))
          obtain⟨st6,hst6⟩: ∃s,s=st5.upd bid (.mp (encM kInt vBlk (aSet (i:Int) (cloneB b) c.bs))):=⟨_,rfl⟩
          rw[←hst6]at W3 hms
          have S6:Sep (ChA cid {c with bs:=aSet (i:Int) (cloneB b) c.bs}::L) st6:=chClose (c:={c with bs:=aSet (i:Int) (cloneB b) c.bs}) (W3.tail fun r h=>h.swap)
          simp[hms]
          refine(spec274 ok hc S6 (h.more i b t hb ht)).mono ?_
          intro v st7 S7
          rw[hbm]
          simp
          exact⟨st7,sub_self _,S7⟩
         ·rw[if_pos hbe]at hbm
          have hbb:(blkE b != 0)=true:=by simpa using hbe
          obtain⟨mo,tid,bid,uid,R,hgrow⟩:=chGrow (P:=P) S.drop
          have o1:=R.top
          simp[hbb,hbe,St.seg,o1,cseg0]
          refine(hgrow (F 170) [.ptr (some (tid,0)),.int .i64 (i:Int)] (fun _=>True) (failM c.l i).1 (fun hp hT=>(spec170 oki hT w h.len i).mono fun v s hh=>⟨trivial,hh.2⟩)).mono ?_
          rintro v st6 ⟨-,S6⟩
          rw[hbm]
          simp
          exact⟨st6,sub_self _,S6⟩
        ·rw[if_pos hre]at hbm
         have hrb:(rootE b != 0)=true:=by simpa using hre
         rw[hbm]
         simp[hrb,hre]
         exact⟨st4,sub_self _,S.drop⟩
   ·rw[if_pos hh]at hbm
    rw[hbm]
    simp[hh]
    exact⟨st1,sub_self _,S.drop⟩
end
theorem chainGo_all (r:Rl)(m:UInt8): ∀(n h:Nat) (out:List Blk1),out≠[]→
  ∃l:List Blk1,chainGo r m n h out=out++l∧l.length≤n∧∀k,k<l.length→∃p b:Blk1,(out++l)[out.length+k-1]? =some p∧(out++l)[out.length+k]? =some b∧b=growB r p.hdr (h+k) m []∧(growR r p.hdr (h+k) m []).2=true
 | 0,h,out,_=>⟨[],by simp[chainGo],by simp,fun k hk=>by cases hk⟩
 | n+1,h,out,ho=>by
   by_cases hg:(growR r (lastH out) h m []).2=true
   ·obtain⟨l,h1,h2,h3⟩:=chainGo_all r m n (h+1) (out++[growB r (lastH out) h m []]) (by simp)
    refine⟨growB r (lastH out) h m []::l,by rw[chainGo,if_pos hg,h1];simp,by simp;omega,fun k hk=>?_⟩
    have hpos:0<out.length:=List.length_pos_iff.2 ho
    cases k with
    | zero=>
      have hlast:=lastH_at (out:=out) (i:=out.length-1) (by omega) (by omega)
      refine⟨out[out.length-1],growB r (lastH out) h m [],?_,?_,?_,?_⟩
      ·rw[List.getElem?_append_left (by omega),List.getElem?_eq_getElem (by omega)];rfl
      ·rw[List.getElem?_append_right (by omega)];simp
      ·rw[hlast];rfl
      ·rw[hlast]at hg;exact hg
    | succ k=>
      obtain⟨p,b,q1,q2,q3,q4⟩:=h3 k (by rw[List.length_cons]at hk;omega)
      rw[List.append_assoc,List.length_append,List.length_singleton]at q1 q2
      refine⟨p,b,?_,?_,?_,?_⟩
      ·rw[←q1,List.singleton_append];congr 1;omega
      ·rw[←q2,List.singleton_append];congr 1;omega
      ·rw[q3];congr 1;omega
      ·rw[←q4];congr 2;omega
   ·exact⟨[],by rw[chainGo,if_neg hg];simp,by simp,fun k hk=>by cases hk⟩
structure HonB (work:Int) (m:UInt8) (n:Nat) (bs:List Blk1):Prop where
 le:bs.length≤n+1
 gen:bs[0]? =some genB
 next: ∀k,k+1<bs.length→∃p b:Blk1,bs[k]? =some p∧bs[k+1]? =some b∧b=growB (rulesM work) p.hdr (k+1) m []∧(growR (rulesM work) p.hdr (k+1) m []).2=true
theorem honB (n:Nat)(work:Int)(m:UInt8):HonB work m n (chainM (rulesM work) genB (n:Int) m):=by
 have hc:chainM (rulesM work) genB (n:Int) m=chainGo (rulesM work) m n 1 [genB]:=by rw[chainM,Int.toNat_natCast]
 obtain⟨l,k1,k2,k3⟩:=chainGo_all (rulesM work) m n 1 [genB] (by simp)
 refine⟨by rw[hc,k1];simp;omega,by rw[hc,k1];rfl,fun k hk=>?_⟩
 rw[hc,k1,List.length_append,List.length_singleton]at hk
 obtain⟨p,b,q1,q2,q3,q4⟩:=k3 k (by omega)
 rw[hc,k1]
 refine⟨p,b,?_,?_,?_,?_⟩
 ·rw[←q1];congr 1;simp
 ·rw[←q2];congr 1;simp;omega
 ·rw[q3,Nat.add_comm]
 ·rw[Nat.add_comm];exact q4
theorem HonB.pos {work:Int}{m:UInt8}{n:Nat}{bs:List Blk1}(H:HonB work m n bs):0<bs.length:=by
 have:=H.gen
 cases bs with
 | nil=>cases this
 | cons a l=>simp
theorem growB_facts {r:Rl}{p:Hdr}{h:Nat}{m:UInt8}(hg:(growR r p h m []).2=true):(growB r p h m []).hdr.prev=hId p∧(growB r p h m []).hdr.root=(rootM (rowsIds [firstM r.subsidy h m])).1∧
  (growB r p h m []).hdr.time=p.time+BitVec.ofInt 32 r.spacing∧(growB r p h m []).hdr.bits=p.bits∧provedN (growB r p h m []).hdr r.limit=0∧(growB r p h m []).txs=[firstM r.subsidy h m]∧(growB r p h m []).tk=.full:=by
 unfold growR at hg
 cases hm:mineN (preM r p [firstM r.subsidy h m]) r.limit 4096 with
 | none=>rw[hm]at hg;cases hg
 | some x=>
   obtain⟨h1,h2,h3,h4,h5,h6⟩:=mineN_some hm
   have e:(growB r p h m []).hdr=x:=by
    show(growR r p h m []).1=x
    unfold growR
    rw[hm]
   rw[e]
   exact⟨h2,h3,h4,h5,h6,rfl,rfl⟩
theorem hon_root (h:Nat)(m:UInt8):rootM (rowsIds [firstM 50 h m])=(txIdM (firstM 50 h m),false):=by
 show rootM [txIdM (firstM 50 h m)]=_
 have:rootM [txIdM (firstM 50 h m)]=([txIdM (firstM 50 h m)].headD id0,false):=rootF_done _ _ _ (by simp)
 rw[this]
 rfl
theorem hon_txM (h:Nat)(m:UInt8):txM (firstM 50 h m) true=0:=by
 have h1:sumM [⟨50,sha [m]⟩]=(50,true):=by simp[sumM,sumGo]
 simp[txM,firstM,insGo,In1.pt,makerP,h1]
theorem hon_txlen (h:Nat)(m:UInt8):(txB (firstM 50 h m)).length=82:=by
 rw[txB_first]
 simp only[List.length_cons,List.length_append,List.length_replicate,outV_len]
 rfl
theorem hon_blk (x:Hdr)(h:Nat)(m:UInt8)(hr:x.root=txIdM (firstM 50 h m)):blkE ⟨x,.full,[firstM 50 h m]⟩=0∧rootE ⟨x,.full,[firstM 50 h m]⟩=0:=by
 have c1:(countB (BitVec.ofNat 64 1)).length=1:=by decide
 have ht:=hon_txlen h m
 have hro:=hon_root h m
 have hb:(blkB ⟨x,.full,[firstM 50 h m]⟩).length=163:=by simp[blkB,hBytes_len,c1,ht]
 have hre:rootE ⟨x,.full,[firstM 50 h m]⟩=0:=by
  rw[rootE,if_neg]
  rintro(⟨t,h1,h2⟩ | h1 | h1)
  ·rw[List.mem_singleton.1 h1,ht]at h2
   cases h2
  ·rw[hro]at h1;cases h1
  ·rw[hro]at h1;exact h1 hr.symm
 refine⟨?_,hre⟩
 unfold blkE
 rw[if_neg (by simp),if_neg (by simp[txsE,hon_txM]),if_neg (by rw[hb];decide),hre]
theorem honTgt:workN ((tgt 545259519#32).getD 0)=2:=by rw[easy_tgt];decide+kernel
structure HonT (bs:List Blk1) (k:Nat) (l:List Nd):Prop where
 wf:Wf l
 len:l.length=k+1
 at_: ∀(j:Nat) (hj:j<l.length),∃b:Blk1,bs[j]? =some b∧l[j].hdr=b.hdr∧l[j].id=hId b.hdr∧l[j].failed=false∧l[j].height=j∧l[j].parent=(j:Int)-1∧l[j].work=2*(j+1)∧b.hdr.bits=545259519#32∧b.hdr.time=BitVec.ofNat 32 (10*j)
theorem honT_gen {work:Int}{m:UInt8}{n:Nat}{bs:List Blk1}(H:HonB work m n bs):HonT bs 0 (newM (rulesM work)):=by
 refine⟨newM_wf _,rfl,fun j hj=>?_⟩
 have:j=0:=by have:j<1:=hj;omega
 subst this
 refine⟨genB,H.gen,rfl,rfl,rfl,rfl,rfl,?_,rfl,rfl⟩
 show workN ((tgt 545259519#32).getD 0)=2
 exact honTgt
theorem hon_next {work:Int}{m:UInt8}{n k:Nat}{bs:List Blk1}(H:HonB work m n bs)(hk:k+1<bs.length): ∃p b:Blk1,bs[k]? =some p∧bs[k+1]? =some b∧b=⟨b.hdr,.full,[firstM 50 (k+1) m]⟩∧
  b.hdr.root=txIdM (firstM 50 (k+1) m)∧provedN b.hdr 545259519#32=0∧b.hdr.prev=hId p.hdr∧b.hdr.bits=p.hdr.bits∧b.hdr.time=p.hdr.time+BitVec.ofInt 32 10:=by
 obtain⟨p,b,hp,hb,e,hg⟩:=H.next k hk
 obtain⟨g1,g2,g3,g4,g5,g6,g7⟩:=growB_facts hg
 rw[←e]at g1 g2 g3 g4 g5 g6 g7
 refine⟨p,b,hp,hb,?_,?_,g5,g1,g4,g3⟩
 ·cases b
  simp only at g6 g7
  rw[g6,g7]
  rfl
 ·rw[g2]
  show(rootM (rowsIds [firstM 50 (k+1) m])).1=_
  rw[hon_root]
theorem honT_add {work:Int}{m:UInt8}{n k:Nat}{bs:List Blk1}{l:List Nd}(H:HonB work m n bs)(T:HonT bs k l)(hk:k+1<bs.length)(hn:n≤40){b:Blk1}(hb:bs[k+1]? =some b)(hfind1:findM l (hId b.hdr)=none):
  addM (rulesM work) l b.hdr 1099511627776=(l++[ndOf l b.hdr k],((k+1:Nat):Int),0)∧HonT bs (k+1) (l++[ndOf l b.hdr k]):=by
 obtain⟨p,b',hp,hb',hbe,hro,g5,g1,g4,g3⟩:=hon_next H hk
 rw[hb]at hb'
 cases hb'
 have hkl:k<l.length:=by rw[T.len];omega
 obtain⟨p',a1,a2,a3,a4,a5,a6,a7,a8,a9⟩:=T.at_ k hkl
 rw[hp]at a1
 cases a1
 have hbits:b.hdr.bits=545259519#32:=by rw[g4];exact a8
 have htime:b.hdr.time=BitVec.ofNat 32 (10*(k+1)):=by
  have hle:=H.le
  rw[g3,a9]
  apply BitVec.eq_of_toNat_eq
  simp
  omega
 have hnd:nd l k=l[k]:=nd_at hkl
 have hle:=H.le
 have hfind2:findM l b.hdr.prev=some k:=by
  rw[g1,←a3,←hnd]
  exact findM_end (by rw[T.len])
 have hmed:medianM l k<b.hdr.time:=by
  have:=middle_mem (timesM_ne (n:=10) hkl)
  obtain⟨j,hj,e'⟩:=timesM_mem this
  obtain⟨q,b1,b2,b3,b4,b5,b6,b7,b8,b9⟩:=T.at_ j hj
  show middle32 (timesM l (10+1) k)<_
  rw[e',b2,b9,htime,BitVec.lt_def,BitVec.toNat_ofNat,BitVec.toNat_ofNat,Nat.mod_eq_of_lt (by rw[T.len]at hj;omega),Nat.mod_eq_of_lt (by omega)]
  rw[T.len]at hj
  omega
 have hfit:fitsM (rulesM work) l b.hdr k 1099511627776=0:=fits_ok hkl g5 (by rw[hnd];exact a4) (by
  rw[hbits]
  have:nextM (rulesM work) l (k:Nat)=(nd l k).hdr.bits:=by simp[nextM,rulesM]
  rw[this,hnd,a2,a8]) hmed (by rw[htime,BitVec.toNat_ofNat,Nat.mod_eq_of_lt (by omega)];omega)
 refine⟨?_,?_⟩
 ·rw[addM_ok hfind1 hfind2 hfit (by rw[T.len];omega),T.len]
 ·refine⟨ndOf_wf T.wf hkl,by simp[T.len],fun j hj=>?_⟩
  by_cases hjl:j<l.length
  ·rw[List.getElem_append_left hjl]
   exact T.at_ j hjl
  ·have:j=k+1:=by rw[List.length_append,List.length_singleton,T.len]at hj;rw[T.len]at hjl;omega
   subst this
   rw[List.getElem_append_right (by rw[T.len];exact Nat.le_refl _)]
   have e1: ∀(x:Nd) (h:k+1-l.length< [x].length),[x][k+1-l.length]'h=x:=fun x h=>by simp[T.len]
   rw[e1]
   refine⟨b,hb,rfl,rfl,rfl,?_,?_,?_,hbits,htime⟩
   ·show hgt l k+1=k+1
    rw[hgt_at hkl,a5]
   ·show((k:Nat):Int)=((k+1:Nat):Int)-1
    omega
   ·show workN ((tgt b.hdr.bits).getD 0)+(nd l k).work=_
    rw[hbits,honTgt,hnd,a7]
    omega
theorem txB_clone (t:Tx1):txB (cloneT t)=txB t:=by
 unfold txB cloneT
 simp only[List.length_map,List.flatMap_map]
 rfl
theorem txId_clone (t:Tx1):txIdM (cloneT t)=txIdM t:=by unfold txIdM;rw[txB_clone]
theorem pickGo_app (c:Ch): ∀(r s:List Nat) (b:Nat),pickGo c (r++s) b=pickGo c s (pickGo c r b)
 | [],s,b=>rfl
 | i::r,s,b=>pickGo_app c r s _
theorem pickGo_stay (c:Ch): ∀(r:List Nat) (b:Nat),(∀i∈r,¬((nd c.l i).failed=false∧0<cmpU (natU (nd c.l i).work) (natU (nd c.l b).work)∧readyM c i=true))→pickGo c r b=b
 | [],b,_=>rfl
 | i::r,b,h=>by
   rw[pickGo,if_neg (h i List.mem_cons_self)]
   exact pickGo_stay c r b fun j hj=>h j (List.mem_cons_of_mem _ hj)
theorem cmpU_small {a b:Nat}(ha:a<1000)(hb:b<1000):0<cmpU (natU a) (natU b)↔b<a:=by
 have h256:(1000:Nat)<2 ^ 256:=by decide+kernel
 have ea:(natU a).toNat=a:=natU_nat (Nat.lt_trans ha h256)
 have eb:(natU b).toNat=b:=natU_nat (Nat.lt_trans hb h256)
 unfold cmpU
 rw[ea,eb]
 by_cases h1:a<b
 ·rw[if_pos h1]
  omega
 ·rw[if_neg h1]
  by_cases h2:natU a=natU b
  ·rw[if_pos h2]
   have:a=b:=by rw[←ea,←eb,h2]
   omega
  ·rw[if_neg h2]
   have:a≠b:=fun e=>h2 (by rw[e])
   omega
def honId (m:UInt8)(j:Nat):Id:=if j=0 then txIdM (firstM 50 0 0)else txIdM (firstM 50 j m)
theorem honId_ne (m:UInt8){i j:Nat}(hi:i≤40)(hj:j≤40)(h:i<j):honId m i≠honId m j:=by
 have hp:=txs_all m
 rw[List.pairwise_cons]at hp
 have hj0:j≠0:=by omega
 unfold honId
 rw[if_neg hj0,txId_W j m]
 by_cases hi0:i=0
 ·subst hi0
  rw[if_pos rfl,txId_W 0 0]
  intro e
  refine hp.1 _ (List.mem_map.2 ⟨j,List.mem_range'_1.2 ⟨by omega,by omega⟩,rfl⟩) ?_
  exact idV_a e
 ·rw[if_neg hi0,txId_W i m]
  intro e
  have h2:=List.pairwise_iff_getElem.1 hp.2 (i-1) (j-1) (by simp;omega) (by simp;omega) (by omega)
  rw[List.getElem_map,List.getElem_map,List.getElem_range',List.getElem_range']at h2
  rw[show 1+1*(i-1)=i by omega,show 1+1*(j-1)=j by omega]at h2
  exact h2 (idV_a e)
structure HonC (work:Int) (m:UInt8) (bs:List Blk1) (k:Nat) (c:Ch):Prop where
 ok:ChOk c k
 r:c.r=rulesM work
 tree:HonT bs k c.l
 has: ∀j:Nat,hasM c j=true↔j≤k
 cm: ∀e∈c.cm,∃j,j≤k∧e.1=(honId m j,0#32)
theorem lk_noKey {K A:Type}[DecidableEq K]{k:K}: ∀{l:List (K×A)},(∀e∈l,e.1≠k)→lk k l=none
 | [],_=>rfl
 | p::l,h=>by
   unfold lk
   rw[List.lookup_cons]
   have:(k==p.1)=false:=by
    have:=h p List.mem_cons_self
    simpa using fun e=>this e.symm
   rw[this]
   exact lk_noKey fun e he=>h e (List.mem_cons_of_mem _ he)
theorem mem_aSet_any {K A:Type}[DecidableEq K]{i:K}{v:A}{e:K×A}: ∀{l:List (K×A)},e∈aSet i v l→e=(i,v)∨e∈l
 | [],h=>.inl (List.mem_singleton.1 h)
 | p::l,h=>by
   rw[aSet]at h
   split at h
   ·rcases List.mem_cons.1 h with h | h
    ·exact .inl h
    ·exact .inr (List.mem_cons_of_mem _ h)
   ·rcases List.mem_cons.1 h with h | h
    ·exact .inr (h ▸List.mem_cons_self)
    ·rcases mem_aSet_any h with h | h
     ·exact .inl h
     ·exact .inr (List.mem_cons_of_mem _ h)
theorem honId_at (m:UInt8){k:Nat}(hk:0<k):honId m k=txIdM (firstM 50 k m):=by
 unfold honId
 rw[if_neg (by omega)]
theorem HonT.nd {bs:List Blk1}{k:Nat}{l:List Nd}(T:HonT bs k l){j:Nat}(hj:j≤k): ∃b:Blk1,bs[j]? =some b∧(Ab.nd l j).hdr=b.hdr∧(Ab.nd l j).failed=false∧hgt l j=j∧(Ab.nd l j).work=2*(j+1):=by
 have hjl:j<l.length:=by rw[T.len];omega
 obtain⟨b,h1,h2,h3,h4,h5,h6,h7,h8,h9⟩:=T.at_ j hjl
 refine⟨b,h1,?_,?_,?_,?_⟩
 ·rw[nd_at hjl];exact h2
 ·rw[nd_at hjl];exact h4
 ·rw[hgt_at hjl];exact h5
 ·rw[nd_at hjl];exact h7
theorem line_on {bs:List Blk1}{k:Nat}{l:List Nd}(T:HonT bs (k+1) l):On l k (k+1):=by
 have w:=T.wf
 have hl:k+1<l.length:=by rw[T.len];omega
 have hp:=par_nd w (i:=k+1) (by omega) hl
 obtain⟨b,h1,h2,h3,h4,h5,h6,h7,h8,h9⟩:=T.at_ (k+1) hl
 rw[nd_at hl,h6]at hp
 have hpk:Ab.par l (k+1)=k:=by omega
 obtain⟨b',-,-,-,g1,-⟩:=T.nd (j:=k) (by omega)
 obtain⟨b'',-,-,-,g2,-⟩:=T.nd (j:=k+1) (by omega)
 refine⟨by omega,?_⟩
 rw[w.anc_par hl (by omega),hpk,anc_self]
set_option maxHeartbeats 1000000 in
theorem honC_step {work:Int}{m:UInt8}{n k:Nat}{bs:List Blk1}{c:Ch}(H:HonB work m n bs)(C:HonC work m bs k c)(hk:k+1<bs.length)(hn:n≤40){b:Blk1}(hb:bs[k+1]? =some b)(hfr:findM c.l (hId b.hdr)=none):
  ∃l':List Nd,addM (rulesM work) c.l b.hdr 1099511627776=(l',((k+1:Nat):Int),0)∧ChOk {c with l:=l'} k∧
   ∃c2:Ch,bodyM {c with l:=l'} b=(c2,((k+1:Nat):Int),0)∧HonC work m bs (k+1) c2:=by
 obtain⟨p,b',hp,hb',hbe,hro,hpr,hpv,-⟩:=hon_next H hk
 rw[hb]at hb'
 cases hb'
 obtain⟨hadd,T⟩:=honT_add H C.tree hk hn hb hfr
 obtain⟨hblk,hroot⟩:=hon_blk b.hdr (k+1) m hro
 rw[←hbe]at hblk hroot
 have htx:b.txs=[firstM 50 (k+1) m]:=by rw[hbe]
 have hle:=H.le
 refine⟨_,hadd,?_⟩
 obtain⟨l',hl'⟩: ∃l',l'=c.l++[ndOf c.l b.hdr k]:=⟨_,rfl⟩
 rw[←hl']at T⊢
 have hlen:c.l.length=k+1:=C.tree.len
 have hkl:k<c.l.length:=by omega
 have hon: ∀j,On l' j k→On c.l j k:=fun j hj=>by
  rw[hl']at hj
  have hjk:j≤k:=On.le (by rw[←hl'];exact T.wf) (by rw[List.length_append];omega) hj
  refine⟨?_,?_⟩
  ·have:=hj.1
   rw[hgt_append (by omega),hgt_append hkl]at this
   exact this
  ·have:=hj.2
   rw[hgt_append (by omega),anc_append C.tree.wf hkl]at this
   exact this
 have hok1:ChOk {c with l:=l'} k:=by
  refine⟨⟨T.wf,by show l'.length≤16384;rw[T.len];omega,C.ok.one,C.ok.us,C.ok.s1,C.ok.s2⟩,C.ok.tip,by show k<l'.length;rw[T.len];omega,fun j hj=>C.ok.way j (hon j hj)⟩
 refine⟨hok1,?_⟩
 have hfind:findM l' (hId b.hdr)=some (k+1):=by
  rw[hl',findM_append,hlen]
  exact if_pos rfl
 have hkl2:k+1<l'.length:=by rw[T.len];omega
 obtain⟨b',hb',n1,n2,n3,n4⟩:=T.nd (j:=k+1) (Nat.le_refl _)
 rw[hb]at hb'
 cases hb'
 have hno:hasM {c with l:=l'} ((k+1:Nat):Int)=false:=by
  cases h:hasM {c with l:=l'} ((k+1:Nat):Int)with
  | false=>rfl
  | true=>
    have:=(C.has (k+1)).1 h
    omega
 obtain⟨c2,hc2⟩: ∃c2:Ch,c2={c with l:=l',bs:=aSet ((k+1:Nat):Int) (cloneB b) c.bs}:=⟨_,rfl⟩
 have hbody:bodyM {c with l:=l'} b=(followM c2,((k+1:Nat):Int),0):=by
  unfold bodyM
  have hfind':findM ({c with l:=l'}:Ch).l (hId b.hdr)=some (k+1):=hfind
  rw[hfind']
  have n1':(nd ({c with l:=l'}:Ch).l (k+1)).hdr=b.hdr:=n1
  have n2':(nd ({c with l:=l'}:Ch).l (k+1)).failed=false:=n2
  simp only[n1',n2',ne_eq,not_true_eq_false,if_false,Bool.false_eq_true,hno,hroot,hblk]
  rw[hc2]
 have hok2:ChOk c2 k:=by rw[hc2];exact hok1.more _ b _ htx (firstM_ok 50 (k+1) m)
 have hl2:c2.l=l':=by rw[hc2]
 have hhas2: ∀j:Nat,hasM c2 j=true↔j≤k+1:=fun j=>by
  have:hasM c2 j=(lk (j:Int) (aSet ((k+1:Nat):Int) (cloneB b) c.bs)).isSome:=by rw[hc2];rfl
  rw[this,lk_aSet]
  by_cases e:(j:Int)=((k+1:Nat):Int)
  ·rw[if_pos e]
   simp
   omega
  ·rw[if_neg e]
   have:=C.has j
   unfold hasM at this
   rw[this]
   omega
 have hready:readyM c2 (k+1)=true:=by
  unfold readyM
  rw[readyGo]
  have ho1:onB c2.l ((k+1:Nat):Int) c2.tip=false:=by
   cases h:onB c2.l ((k+1:Nat):Int) c2.tip with
   | false=>rfl
   | true=>
     rw[hok2.tip,hl2]at h
     have:=On.le T.wf (by omega) ((onB_on hkl2 (by omega)).1 h)
     omega
  rw[ho1,if_neg (by decide),(hhas2 (k+1)).2 (Nat.le_refl _),if_pos rfl,hl2,inI_nat hkl2]
  obtain⟨q,-,-,-,-,-,p6,-⟩:=T.at_ (k+1) hkl2
  rw[nd_at hkl2,p6,show((k+1:Nat):Int)-1=(k:Int) by omega,readyGo]
  have ho2:onB c2.l (k:Int) c2.tip=true:=by
   rw[hok2.tip,hl2]
   exact(onB_on (by omega) (by omega)).2 (On.refl' T.wf k)
  rw[ho2,if_pos rfl]
 obtain⟨bk,-,-,-,-,wk⟩:=T.nd (j:=k) (by omega)
 have hpick:pickM c2 k=k+1:=by
  unfold pickM
  rw[hl2,T.len,show k+1+1=(k+1)+1 from rfl,List.range'_1_concat,pickGo_app,pickGo_stay c2 _ k]
  ·rw[pickGo,if_pos]
   ·rw[Nat.zero_add];rfl
   ·rw[Nat.zero_add,hl2,n4,wk]
    exact⟨n2,(cmpU_small (by omega) (by omega)).2 (by omega),hready⟩
  ·intro j hj
   have hj:=(List.mem_range'_1.1 hj).2
   obtain⟨bj,-,-,-,-,wj⟩:=T.nd (j:=j) (by omega)
   rintro⟨-,h2,-⟩
   rw[hl2,wj,wk]at h2
   have:=(cmpU_small (by omega) (by omega)).1 h2
   omega
 have honk:=line_on T
 have hmeet:meetM c2.l k (k+1)=k:=by
  rw[hl2]
  refine Meets.uniq T.wf (meet_spec T.wf (by omega) hkl2) ⟨by omega,On.refl' T.wf k,honk,fun i h1 _=>h1⟩
 obtain⟨-,-,-,-,hg1,-⟩:=T.nd (j:=k+1) (Nat.le_refl _)
 obtain⟨-,-,-,-,hg0,-⟩:=T.nd (j:=k) (by omega)
 have hway:wayM c2.l k (k+1)=[((k+1:Nat):Int)]:=by
  unfold wayM
  rw[hl2,hg1,hg0,show k+1-k=1 by omega]
  have ha:anc l' (k+1) (k+1)=k+1:=by
   have:=anc_self (l:=l') (k+1)
   rwa [hg1]at this
  simp[ha]
 have htxo:txOf c2 ((k+1:Nat):Int)=cloneT (firstM 50 (k+1) m):=by
  unfold txOf
  have:lk ((k+1:Nat):Int) c2.bs=some (cloneB b):=by
   rw[hc2]
   show lk ((k+1:Nat):Int) (aSet ((k+1:Nat):Int) (cloneB b) c.bs)=_
   rw[lk_aSet,if_pos rfl]
  rw[this]
  show(b.txs.map cloneT).headD tx0=_
  rw[htx]
  rfl
 have hr2:c2.r.subsidy=50:=by rw[hc2];show c.r.subsidy=50;rw[C.r];rfl
 have hcm2:c2.cm=c.cm:=by rw[hc2]
 have hlk:lk (txIdM (firstM 50 (k+1) m),BitVec.ofNat 32 0) c.cm=none:=lk_noKey fun e he=>by
  obtain⟨j,hj,e1⟩:=C.cm e he
  rw[e1]
  intro e2
  have e3:honId m j=txIdM (firstM 50 (k+1) m):=(Prod.mk.inj e2).1
  rw[←honId_at m (k:=k+1) (by omega)]at e3
  exact honId_ne m (by omega) (by omega) (by omega) e3
 obtain⟨hh,hhh⟩: ∃hh:Int,hh=((nd c2.l (inI c2.l ((k+1:Nat):Int))).height:Int):=⟨_,rfl⟩
 have hup:upE c2 ((k+1:Nat):Int) (cloneT (firstM 50 (k+1) m))=(0,aSet (txIdM (firstM 50 (k+1) m),BitVec.ofNat 32 0) (⟨50,sha [m]⟩,hh) c.cm):=by
  unfold upE
  rw[hr2,hcm2,←hhh]
  have ho:(cloneT (firstM 50 (k+1) m)).outs=[⟨50,sha [m]⟩]:=rfl
  have hs:sumM [⟨50,sha [m]⟩]=(50,true):=by simp[sumM,sumGo]
  unfold conn1
  rw[ho,hs,if_neg (by simp)]
  unfold layM
  rw[txId_clone,ho,if_neg]
  ·rfl
  ·simp[layHit,hlk]
 have hfits:fits1 c2 ((k+1:Nat):Int)=true:=by
  unfold fits1
  rw[htxo,hup]
  rfl
 have hups:ups c2 ((k+1:Nat):Int)={c2 with cm:=aSet (txIdM (firstM 50 (k+1) m),BitVec.ofNat 32 0) (⟨50,sha [m]⟩,hh) c.cm,us:=aSet ((k+1:Nat):Int) u00 c2.us,tip:=((k+1:Nat):Int)}:=by
  unfold ups upC
  rw[htxo,hup,if_pos rfl]
 have hmove:moveM c2 k (k+1)=(ups c2 ((k+1:Nat):Int),true):=by
  unfold moveM
  simp only[hmeet,hway,Nat.sub_self,downN]
  rw[upWay,if_pos hfits,upWay]
 have hfollow:followM c2=ups c2 ((k+1:Nat):Int):=by
  unfold followM
  rw[followN,hok2.tip,Int.toNat_natCast,hpick,if_neg (by omega),hmove,if_pos rfl]
 rw[hfollow]at hbody
 refine⟨_,hbody,?_⟩
 have hmo:=moveM_ok hok2 (to:=k+1) (by rw[hl2];exact hkl2) (fun j hj=>(hhas2 j).2 (by
  rw[hl2]at hj
  exact On.le T.wf hkl2 hj))
 rw[hmove]at hmo
 obtain⟨m1,m2,m3⟩:=hmo
 rcases m3 with⟨-,m4,m5⟩ | ⟨m3,-⟩
 ·refine⟨m4,?_,?_,?_,?_⟩
  ·show(ups c2 ((k+1:Nat):Int)).r=_
   rw[m2,hc2]
   exact C.r
  ·rw[m5,hl2]
   exact T
  ·intro j
   have:=hhas2 j
   unfold hasM at this⊢
   rw[m1]
   exact this
  ·intro e he
   rw[hups]at he
   rcases mem_aSet_any he with rfl | he
   ·exact⟨k+1,Nat.le_refl _,by rw[honId_at m (by omega)]⟩
   ·obtain⟨j,hj,e1⟩:=C.cm e he
    exact⟨j,by omega,e1⟩
 ·cases m3
def msVer (nonce:BitVec 64)(height:W32):Ms:={ms0 with kind:=1,nonce:=nonce,height:=height}
def msAck:Ms:={ms0 with kind:=2}
def msHeads (s:V):Ms:={ms0 with kind:=4,heads:=s}
theorem ms_ver (nonce:BitVec 64)(height:W32):fillV z106_9145 [(0,1,.int .i64 1),(1,1,w64 nonce),(2,1,w32 height)]=some (eMs (msVer nonce height)):=rfl
theorem ms_ack:fillV z106_9145 [(0,1,.int .i64 2)]=some (eMs msAck):=rfl
theorem fillM1 (m:Ms):fillV (repV z106_9145 1) [(0,106,.agg (eMs m))]=some (eMs m):=by
 rw[show repV z106_9145 1=z106_9145 by simp[repV]]
 simp[fillV,eMs_len,spliceV]
theorem fillM2 (a b:Ms):fillV (repV z106_9145 2) [(0,106,.agg (eMs a)),(106,106,.agg (eMs b))]=some (rowsOf eMs [a,b]):=by
 rw[show repV z106_9145 2=z106_9145++z106_9145 by simp[repV]]
 have h1:spliceV (z106_9145++z106_9145) 0 (eMs a)=eMs a++z106_9145:=by
  rw[spliceV,List.take_zero,List.nil_append,Nat.zero_add,eMs_len,List.drop_left' z106_9145_len]
 have h2:spliceV (eMs a++z106_9145) 106 (eMs b)=eMs a++eMs b:=by
  rw[spliceV,List.take_left' (eMs_len a),eMs_len,List.drop_of_length_le (by simp[eMs_len]),List.append_nil]
 simp[fillV,eMs_len,h1,h2]
section
variable {P:Program} {F:Fn}
set_option maxHeartbeats 4000000 in
theorem spec194a (ok:OkHonest P F){st:St}{mid:Nat}{nonce:BitVec 64}{l:List Blk1}{L:List Asn}(S:SrvR mid nonce l false L st)(hl:1≤l.length∧l.length≤100000)(m:Ms)(hm:m.kind=1):
  ACalls P (F 194) [.ptr (some (mid,0)),.agg (eMs m)] st fun v st'=>v=.sl .full (rowsOf eMs [msVer nonce (BitVec.ofNat 32 (l.length-1)),msAck]) 2∧SrvR mid nonce l true L st':=by
 refine shows_call ok.mixed ok.h194 (by simp[k194]) ?_
 simp only[k194]
 obtain⟨kb,aid,es,hat,S⟩:=S
 simp
 intro i3 h3
 have S:=S.new h3 (.cells (eMs m))
 generalize st.upd i3 _=st1 at S⊢
 have o3:=S.get
 have hsk:=msegKind m
 rw[hm]at hsk
 have om:=S.mem (i:=mid) (o:=.cells (srvO nonce kb l aid false)) (by simp)
 have hs3:segOf (srvO nonce kb l aid false) 3 1=some [V.bool false]:=rfl
 simp[St.seg,o3,hsk,om,hs3]
 have hst:=store_pt (sz:=1) (o:=3) om (v:=.bool true) (vs:=[.bool true]) rfl rfl (by simp[srvO])
 rw[show spliceV (srvO nonce kb l aid false) 3 [V.bool true]=srvO nonce kb l aid true from rfl]at hst
 have S:=S.setAt (.cells (srvO nonce kb l aid true)) 1 rfl
 simp[hst]
 simp only[List.set_cons_succ,List.set_cons_zero]at S
 generalize st1.upd mid _=st2 at S⊢
 have om:=S.mem (i:=mid) (o:=.cells (srvO nonce kb l aid true)) (by simp)
 have hs0:segOf (srvO nonce kb l aid true) 0 1=some [w64 nonce]:=rfl
 have hs1:segOf (srvO nonce kb l aid true) 1 1=some [blksV kb l]:=rfl
 have hlb:lenSlV (blksV kb l)=some (.int .i64 l.length):=rfl
 have w1:IntKind.i64.wrap ((l.length:Int)-1)=((l.length-1:Nat):Int):=by rw[wrap64 (by omega) (by omega)];omega
 obtain⟨n,hn⟩: ∃n,n=l.length-1:=⟨_,rfl⟩
 rw[←hn]at w1⊢
 have hmax:foldV max2V (V.int .i64 0) [V.int .i64 (n:Int)]=some (.int .i64 (n:Int)):=by
  simp[foldV,max2V]
  omega
 have hv:=ms_ver nonce (BitVec.ofNat 32 n)
 have hf2:=fillM2 (msVer nonce (BitVec.ofNat 32 n)) msAck
 simp[St.seg,om,hs0,hs1,hlb,w1,ms_ack,hmax,hv,hf2]
 exact⟨st2,sub_self _,kb,aid,es,hat,S.drop⟩
set_option maxHeartbeats 4000000 in
theorem spec194b (ok:OkHonest P F){st:St}{mid:Nat}{nonce:BitVec 64}{l:List Blk1}{hello:Bool}{L:List Asn}(S:SrvR mid nonce l hello L st)(hl:l.length≤100000)(m:Ms)(hm:m.kind=3)(k:SK)(names:List Id)(hmn:m.names=idsV k names)(hnl:names.length≤100000):
  ACalls P (F 194) [.ptr (some (mid,0)),.agg (eMs m)] st fun v st'=>∃s,v=.sl .full (eMs (msHeads s)) 1∧SrvR mid nonce l hello (Slx 68 eHdr s (hdM l names m.stop)::L) st':=by
 refine shows_call ok.mixed ok.h194 (by simp[k194]) ?_
 simp only[k194]
 obtain⟨kb,aid,es,hat,S⟩:=S
 simp
 intro i3 h3
 have S:=S.new h3 (.cells (eMs m))
 generalize st.upd i3 _=st1 at S⊢
 have o3:=S.get
 have hsk:=msegKind m
 rw[hm]at hsk
 have hsa:=msegAll m
 simp[St.seg,o3,hsk,hsa]
 refine(spec195 ok (L:=L) ⟨kb,aid,es,hat,S.drop⟩ hl m k names hmn hnl).mono ?_
 rintro v st2 ⟨s,rfl,S⟩
 have e:({ms0 with kind:=4,heads:=s}:Ms)=msHeads s:=rfl
 rw[e]
 simp[fillM1]
 exact⟨st2,sub_self _,s,rfl,S⟩
end
end Go.Ab
namespace Go.Ab
open Go
def k246 (F:Fn):PF:=PF.mk 88 0 [(.t 0)] (.seq (.ops [(po 0 (.mv (.k (.bool false))))]) (.seq (.ops [(po 5 (.call (F 190) [(.k (.int .i64 2))])),(po 6 (.call (F 188) [(.t 5),(.k (.int .i64 2)),(.k (w8 7))])),(pm 1 6)]) (.seq (.ops [(pm 7 1),(po 8 (.call (F 193) [(.k (w64 9)),(.t 7)])),(pm 2 8)]) (.seq (.seq (.ops [(pm 9 2),(po 10 (.eqa .ptr false (.t 9) (.k (.ptr none)))),(pm 11 10),(PO.mk (some 12) (.mv (.t 1)) (some (11,false))),(PO.mk (some 13) (.lenSl (.t 12)) (some (11,false))),(PO.mk (some 14) (.bin .neq (.t 13) (.k (.int .i64 3))) (some (11,false))),(po 15 (.pick (.t 11) (.k (.bool true)) (.t 14))),(pm 16 15),(PO.mk (some 17) (.mv (.t 2)) (some (16,false))),(PO.mk (some 18) (.call (F 196) [(.t 17)]) (some (16,false))),(PO.mk (some 19) (.bin .neq (.t 18) (.k (.int .i64 3))) (some (16,false))),(po 20 (.pick (.t 16) (.k (.bool true)) (.t 19)))]) (.cond (.t 20) (.seq (.ops [(po 0 (.mv (.k (.bool false))))]) .ret) .skip)) (.seq (.ops [(pm 21 2),(po 22 (.build z106_9145 [(0,(1,(.k (.int .i64 1))))])),(po 23 (.call (F 194) [(.t 21),(.t 22)])),(pm 3 23)]) (.seq (.ops [(pm 24 2),(pm 25 1),(po 26 (.idxSl 69 (.t 25) (.k (.int .i64 0)))),(po 27 (.fldA 0 (.t 26))),(po 28 (.load true 68 (.t 27))),(po 29 (.call (F 141) [(.t 28)])),(po 30 (.bsl false 32 1 zR32_w80 [(0,(32,(.t 29)))])),(po 31 (.build z106_9145 [(0,(1,(.k (.int .i64 3)))),(3,(1,(.t 30)))])),(po 32 (.call (F 194) [(.t 24),(.t 31)])),(pm 4 32)]) (.seq (.draw [(.e,(pm 33 3)),(.e,(po 34 (.lenSl (.t 33)))),(.e,(po 35 (.bin .eql (.t 34) (.k (.int .i64 2))))),(.e,(pm 36 35)),(.e,(PO.mk (some 37) (.mv (.t 3)) (some (36,true)))),(.e,(PO.mk (some 38) (.idxSl 106 (.t 37) (.k (.int .i64 0))) (some (36,true)))),(.e,(PO.mk (some 39) (.fldA 1 (.t 38)) (some (36,true)))),(.s,(PO.mk (some 40) (.load false 1 (.t 39)) (some (36,true)))),(.e,(PO.mk (some 41) (.bin .eql (.t 40) (.k (w64 9))) (some (36,true)))),(.e,(po 42 (.pick (.t 36) (.t 41) (.k (.bool false))))),(.e,(pm 43 42)),(.e,(PO.mk (some 44) (.mv (.t 3)) (some (43,true)))),(.e,(PO.mk (some 45) (.idxSl 106 (.t 44) (.k (.int .i64 0))) (some (43,true)))),(.e,(PO.mk (some 46) (.fldA 2 (.t 45)) (some (43,true)))),(.s,(PO.mk (some 47) (.load false 1 (.t 46)) (some (43,true)))),(.e,(PO.mk (some 48) (.bin .eql (.t 47) (.k (w32 2))) (some (43,true)))),(.e,(po 49 (.pick (.t 43) (.t 48) (.k (.bool false))))),(.e,(pm 50 49)),(.e,(PO.mk (some 51) (.mv (.t 3)) (some (50,true)))),(.e,(PO.mk (some 52) (.idxSl 106 (.t 51) (.k (.int .i64 1))) (some (50,true)))),(.e,(PO.mk (some 53) (.fldA 0 (.t 52)) (some (50,true)))),(.s,(PO.mk (some 54) (.load false 1 (.t 53)) (some (50,true)))),(.e,(PO.mk (some 55) (.bin .eql (.t 54) (.k (.int .i64 2))) (some (50,true)))),(.e,(po 56 (.pick (.t 50) (.t 55) (.k (.bool false))))),(.e,(pm 57 56)),(.e,(PO.mk (some 58) (.mv (.t 4)) (some (57,true)))),(.e,(PO.mk (some 59) (.lenSl (.t 58)) (some (57,true)))),(.e,(PO.mk (some 60) (.bin .eql (.t 59) (.k (.int .i64 1))) (some (57,true)))),(.e,(po 61 (.pick (.t 57) (.t 60) (.k (.bool false))))),(.e,(pm 62 61)),(.e,(PO.mk (some 63) (.mv (.t 4)) (some (62,true)))),(.e,(PO.mk (some 64) (.idxSl 106 (.t 63) (.k (.int .i64 0))) (some (62,true)))),(.e,(PO.mk (some 65) (.fldA 36 (.t 64)) (some (62,true)))),(.s,(PO.mk (some 66) (.load false 1 (.t 65)) (some (62,true)))),(.e,(PO.mk (some 67) (.lenSl (.t 66)) (some (62,true)))),(.e,(PO.mk (some 68) (.bin .eql (.t 67) (.k (.int .i64 2))) (some (62,true)))),(.e,(po 69 (.pick (.t 62) (.t 68) (.k (.bool false))))),(.e,(pm 70 69)),(.e,(PO.mk (some 71) (.mv (.t 4)) (some (70,true)))),(.e,(PO.mk (some 72) (.idxSl 106 (.t 71) (.k (.int .i64 0))) (some (70,true)))),(.e,(PO.mk (some 73) (.fldA 36 (.t 72)) (some (70,true)))),(.e,(PO.mk (some 77) (.mv (.t 1)) (some (70,true)))),(.e,(PO.mk (some 78) (.idxSl 69 (.t 77) (.k (.int .i64 2))) (some (70,true)))),(.e,(PO.mk (some 79) (.fldA 0 (.t 78)) (some (70,true)))),(.s,(PO.mk (some 74) (.load false 1 (.t 73)) (some (70,true)))),(.e,(PO.mk (some 75) (.idxSl 68 (.t 74) (.k (.int .i64 1))) (some (70,true)))),(.s,(PO.mk (some 76) (.load true 68 (.t 75)) (some (70,true)))),(.s,(PO.mk (some 80) (.load true 68 (.t 79)) (some (70,true)))),(.e,(PO.mk (some 81) (.eqa (.agg 68) false (.t 76) (.t 80)) (some (70,true)))),(.e,(po 82 (.pick (.t 70) (.t 81) (.k (.bool false))))),(.e,(pm 83 82)),(.x,(PO.mk (some 84) (.call (F 190) [(.k (.int .i64 2))]) (some (83,true)))),(.e,(PO.mk (some 85) (.fld false 4 1 (.t 84)) (some (83,true)))),(.e,(PO.mk (some 86) (.bin .eql (.t 85) (.k (.int .i64 2))) (some (83,true)))),(.e,(po 87 (.pick (.t 83) (.t 86) (.k (.bool false))))),(.e,(pm 0 87))]) .ret)))))))
structure OkServes (P:Program) (F:Fn):Prop where
 mixed:P.follows .mixedOrders=true
 toOkHonest:OkHonest P F
 h246:compFn P ⟨[],[],[],[],[]⟩ (F 246)=some (k246 F)
structure OkLaw19 (P:Program) (F:Fn):Prop where
 mixed:P.follows .mixedOrders=true
 toOkServes:OkServes P F
end Go.Ab
namespace Go.Ab
open Go Go.RowKit
set_option maxRecDepth 10000
def idsB (l:List Blk1):List Id:=l.map fun b=>hId b.hdr
def Apart (l:List Blk1):Prop:=(id0::idsB l).Pairwise (· ≠ ·)
theorem Apart.ne {l:List Blk1}(h:Apart l){i j:Nat}(hi:i<l.length)(hj:j<l.length)(hij:i≠j):hId l[i].hdr≠hId l[j].hdr:=by
 have h1:=(List.pairwise_cons.1 h).2
 rw[idsB,List.pairwise_map,List.pairwise_iff_getElem]at h1
 rcases Nat.lt_or_gt_of_ne hij with hlt | hlt
 ·exact h1 i j hi hj hlt
 ·exact fun e=>h1 j i hj hi hlt e.symm
theorem Apart.nz {l:List Blk1}(h:Apart l){i:Nat}(hi:i<l.length):hId l[i].hdr≠id0:=fun e=>by
 have h1:=(List.pairwise_cons.1 h).1 (hId l[i].hdr) (List.mem_map.2 ⟨l[i],List.getElem_mem hi,rfl⟩)
 exact h1 e.symm
theorem Apart.at {l:List Blk1}(h:Apart l){i:Nat}(hi:i<l.length):atM l (hId l[i].hdr)=some i:=by
 have key: ∀(k:Nat),k≤l.length→i<k→atM (l.take k) (hId l[i].hdr)=some i:=by
  intro k
  induction k with
  | zero=>intro _ h;omega
  | succ k ih=>
    intro hk hik
    rw[List.take_succ_eq_append_getElem (by omega),atM_app]
    by_cases e:i=k
    ·subst e
     rw[if_pos rfl,List.length_take]
     congr 1
     omega
    ·rw[if_neg (h.ne hi (by omega) e)]
     exact ih (by omega) (by omega)
 have:=key l.length (Nat.le_refl _) hi
 rwa [List.take_length]at this
theorem hdGo_apart {l:List Blk1}(h:Apart l): ∀(n i:Nat) (out:List Hdr),l.length≤n+i→out.length≤32→hdGo l id0 n i out=out++((l.drop i).take (32-out.length)).map (·.hdr)
 | 0,i,out,hn,ho=>by
   rw[hdGo,List.drop_of_length_le (by omega)]
   simp
 | n+1,i,out,hn,ho=>by
   rw[hdGo]
   split
   ·rename_i hi
    split
    ·rename_i ho'
     rw[if_neg (h.nz hi),hdGo_apart h n (i+1) _ (by omega) (by simp;omega),List.drop_eq_getElem_cons hi]
     obtain⟨k,hk⟩: ∃k,32-out.length=k+1:=⟨31-out.length,by omega⟩
     have hk2:32-(out++[l[i].hdr]).length=k:=by simp;omega
     rw[hk,hk2,List.take_succ_cons,List.map_cons]
     simp
    ·rename_i ho'
     rw[show 32-out.length=0 by omega]
     simp
   ·rename_i hi
    rw[List.drop_of_length_le (by omega)]
    simp
theorem hdM_apart {l:List Blk1}(h:Apart l){c:Nat}(hc:c<l.length):hdM l [hId l[c].hdr] id0=((l.drop (c+1)).take 32).map (·.hdr):=by
 have e:fromM l [hId l[c].hdr]=c+1:=by
  rw[fromM,List.findSome?_cons,h.at hc]
 rw[hdM,e,hdGo_apart h _ _ _ (by omega) (by simp)]
 simp
theorem chain_apart2 (work:Int)(m:UInt8)(n:Nat)(hn:n≤2):(chainM (rulesM work) genB (n:Int) m).length=n+1∧Apart (chainM (rulesM work) genB (n:Int) m):=by
 obtain⟨h1,h2⟩:=chain_few work m n hn
 exact⟨by simpa using h1,h2⟩
theorem ids_one (k:SK)(x:Id):V.sl k (eId x) 1=idsV k [x]:=by simp[idsV]
def msAsk (x:Id):Ms:={ms0 with kind:=3,names:=idsV .full [x]}
theorem ms_ask (x:Id):fillV z106_9145 [(0,1,.int .i64 3),(3,1,.sl .full (eId x) 1)]=some (eMs (msAsk x)):=by
 rw[ids_one];rfl
theorem ms_hello:fillV z106_9145 [(0,1,.int .i64 1)]=some (eMs {ms0 with kind:=1}):=rfl
theorem fillId1 (x:Id):fillV (repV zR32_w80 1) [(0,32,.agg (eId x))]=some (eId x):=by
 rw[show repV zR32_w80 1=zR32_w80 by simp[repV]]
 have:spliceV zR32_w80 0 (eId x)=eId x:=by simp[spliceV,eId_len]
 simp[fillV,eId_len,this]
theorem msegHeight (m:Ms):segOf (eMs m) 2 1=some [w32 m.height]:=seg_of_drop (cs:=eMs m) (off:=2) rfl rfl (by omega)
theorem rfldWork (r:Rl):fldV false 4 1 (.agg (eRl r))=some (.int .i64 r.work):=rfl
section
variable {P:Program} {F:Fn}
theorem eBlk_hdr (b:Blk1):((eBlk b).drop 0).take 68=eHdr b.hdr:=by rw[List.drop_zero,eBlk,List.take_left' (eHdr_len _)]
theorem blk_hdr {k:SK}{l:List Blk1}{st:St}{i:Nat}(hi:i<l.length):
  idxSlV 69 (.sl k (rowsOf eBlk l) l.length) (.int .i64 (i:Int))=some (rowP 69 (.sl k (rowsOf eBlk l) l.length) i)∧fldAV 0 (rowP 69 (.sl k (rowsOf eBlk l) l.length) i)=some (rowP 69 (.sl k (rowsOf eBlk l) l.length) i)∧
   ldCells st 68 (rowP 69 (.sl k (rowsOf eBlk l) l.length) i)=some (eHdr l[i].hdr):=by
 have rd:Rd 69 eBlk (.sl k (rowsOf eBlk l) l.length) l st:=.inl ⟨k,rfl⟩
 obtain⟨r1,r2,r3,r4⟩:=rd.row eBlk_len hi
 have r5:=(r4 0 68 (by omega)).2
 rw[fldP_zero r2,eBlk_hdr]at r5
 exact⟨r1,r2,r5⟩
theorem eqK_hdr (x:Hdr):eqK (.agg 68) (.agg (eHdr x)) (.agg (eHdr x))=some true:=by simp[eqK,eHdr_len,eqL_hdr]
theorem ms_part {v:V}{ms:List Ms}{st:St}(rd:Rd 106 eMs v ms st){i:Nat}(hi:i<ms.length){o n:Nat}{cs:List V}(hs:segOf (eMs ms[i]) o n=some cs):
  idxSlV 106 v (.int .i64 (i:Int))=some (rowP 106 v i)∧fldAV o (rowP 106 v i)=some (fldP o (rowP 106 v i))∧ldCells st n (fldP o (rowP 106 v i))=some cs:=by
 obtain⟨r1,r2,r3,r4⟩:=rd.row eMs_len hi
 have hl:o+n≤106:=by
  unfold segOf at hs
  split at hs
  ·rename_i h
   rw[eMs_len]at h
   exact h
  ·cases hs
 obtain⟨r5,r6⟩:=r4 o n hl
 refine⟨r1,r5,?_⟩
 rw[r6]
 unfold segOf at hs
 rw[if_pos (by rw[eMs_len];exact hl)]at hs
 exact hs
set_option maxHeartbeats 4000000 in
theorem spec246 (ok:OkServes P F)(st:St):ACalls P (F 246) [] st fun v st'=>v=.bool true∧St.sub st st':=by
 have okh:=ok.toOkHonest
 refine shows_call ok.mixed ok.h246 (by simp[k246]) ?_
 simp only[k246]
 simp
 refine(spec190 okh st 2).mono ?_
 rintro v st1 ⟨rfl,rfl⟩
 simp
 refine(spec188 okh st1 (rulesM 2) genB rfl rfl 2 (by omega) 7).mono ?_
 rintro v st1 ⟨⟨k,rfl⟩,rfl⟩
 obtain⟨hl,ha⟩:=chain_apart2 2 7 2 (by omega)
 rw[show((2:Nat):Int)=2 from rfl]at hl ha
 generalize chainM (rulesM 2) genB 2 7=l at hl ha⊢
 simp
 refine(spec193 okh st1 9 k l (by omega)).mono ?_
 rintro v st2 ⟨mid,rfl,S⟩
 have S0:=S
 obtain⟨k1,aid,es,hat,S1⟩:=S0
 have om:=S1.get
 have hl:l.length=3:=hl
 have hl3:(l.length:Int)=3:=by omega
 have hlen:lenSlV (V.sl k (rowsOf eBlk l) l.length)=some (.int .i64 3):=by rw[←hl3];rfl
 simp[eqK,hlen]
 refine(spec196 okh om).mono ?_
 rintro v st2 ⟨rfl,rfl⟩
 simp[hl3,ms_hello]
 refine(spec194a okh S ⟨by omega,by omega⟩ {ms0 with kind:=1} rfl).mono ?_
 rintro v3 st3 ⟨hv3,S⟩
 obtain⟨p1,p2,p3⟩:=blk_hdr (k:=k) (st:=st3) (show 0<l.length by omega)
 rw[show(((0:Nat):Int))=0 from rfl]at p1
 simp[p1,p2,p3]
 refine(spec141 okh.toOkTx.toOkHead st3 _).mono ?_
 rintro v st3 ⟨rfl,rfl⟩
 simp[fillId1,ms_ask]
 refine(spec194b okh S (by omega) (msAsk (hId l[0].hdr)) rfl .full [hId l[0].hdr] rfl (by simp)).mono ?_
 rintro v4 st4 ⟨s,hv4,S⟩
 rw[show(msAsk (hId l[0].hdr)).stop=id0 from rfl,hdM_apart ha (by omega)]at S
 have el:((l.drop (0+1)).take 32).map (·.hdr)=[l[1].hdr,l[2].hdr]:=by
  rw[List.drop_eq_getElem_cons (by omega),List.drop_eq_getElem_cons (by omega),List.drop_of_length_le (by omega)]
  rfl
 rw[el]at S
 have hsub:St.sub st1 st4:=by
  obtain⟨k1,aid,es,hat,S1⟩:=S
  exact S1.was' (st0:=st1) (by simp)
 obtain⟨a,ha'⟩: ∃a,a=msVer 9 (BitVec.ofNat 32 (l.length-1)):=⟨_,rfl⟩
 rw[←ha']at hv3
 have rda:Rd 106 eMs v3 [a,msAck] st4:=.inl ⟨.full,hv3⟩
 have rdb:Rd 106 eMs v4 [msHeads s] st4:=.inl ⟨.full,by rw[hv4];simp⟩
 have lna:lenSlV v3=some (.int .i64 2):=rda.len
 have lnb:lenSlV v4=some (.int .i64 1):=rdb.len
 have rds:Rd 68 eHdr s [l[1].hdr,l[2].hdr] st4:=by
  obtain⟨k1,aid,es,hat,S1⟩:=S
  exact Sep.rd eHdr_len ((S1.pull 2).head fun h hh=>hh.sl)
 obtain⟨a1,a2,a3⟩:=ms_part rda (i:=0) (by simp) (msegNonce a)
 obtain⟨b1,b2,b3⟩:=ms_part rda (i:=0) (by simp) (msegHeight a)
 obtain⟨c1,c2,c3⟩:=ms_part rda (i:=1) (by simp) (msegKind msAck)
 obtain⟨d1,d2,d3⟩:=ms_part rdb (i:=0) (by simp) (msegHeads (msHeads s))
 obtain⟨e1,e2,e3,e4⟩:=rds.row eHdr_len (i:=1) (by simp)
 obtain⟨q1,q2,q3⟩:=blk_hdr (k:=k) (st:=st4) (show 2<l.length by omega)
 rw[show(((0:Nat):Int))=0 from rfl]at a1 d1
 rw[show(((1:Nat):Int))=1 from rfl]at c1 e1
 rw[show(((2:Nat):Int))=2 from rfl]at q1
 have n9:a.nonce=9#64:=by rw[ha'];rfl
 have n2:a.height=2#32:=by rw[ha',hl];rfl
 rw[n9]at a3
 rw[n2]at b3
 have hls:=rds.len
 have e3:ldCells st4 68 (rowP 68 s 1)=some (eHdr l[2].hdr):=e3
 have hk:=eqK_hdr l[2].hdr
 have hw2:binV .eql (w32 2#32) (w32 2#32)=some (.bool true):=rfl
 have hw9:binV .eql (w64 9#64) (w64 9#64)=some (.bool true):=rfl
 have hc3:ldCells st4 1 (fldP 0 (rowP 106 v3 1))=some [.int .i64 2]:=c3
 have hd3:ldCells st4 1 (fldP 36 (rowP 106 v4 0))=some [s]:=d3
 simp[lna,lnb,a1,a2,a3,b2,b3,c1,c2,hc3,d1,d2,hd3,e1,e3,q1,q2,q3,hls,hk,hw2,hw9]
 refine(spec190 okh st4 2).mono ?_
 rintro v st5 ⟨rfl,rfl⟩
 simp[rfldWork]
 exact⟨_,sub_self _,rfl,hsub⟩
end
def Gh.all (w:World):Gh:={ι:=fun _=>none,pm:=fun b o=>if b<w.heap.size then w.cell? ⟨b,o,none⟩else none,N:=0,fresh:=fun _ _=>rfl}
theorem stRel_all (w:World):StRel w.heap.size w (Gh.all w) (fun _=>none) w:=by
 refine⟨Below.refl _ _,Nat.le_refl _,fun id b x h=>(by cases h),fun b o v h=>?_,fun id ob h=>(by cases h),fun id id' b x x' h=>absurd rfl h⟩
 simp only[Gh.all]at h
 split at h
 ·exact h
 ·cases h
theorem calls_of_acalls {P:Program}{f:FuncId}{args:List V}{w:World}{xs:List Value}(h:ACalls P f args (fun _=>none) fun v _=>v=.bool true)(ha:LRel (Gh.all w) args xs):
  Calls P f xs.toArray w fun e w'=>e=.returned (.bool true)∧Below w.heap.size w w':=by
 refine(h (fun _=>none) (fun _=>.inl rfl) w.heap.size w (Gh.all w) w xs (by rw[St.add_none];exact stRel_all w) ha).mono ?_
 rintro e w' ⟨v,x,G',st',rfl,h1,h2,h3,h4,rfl⟩
 cases h2
 exact⟨rfl,h4.below⟩
theorem eqK_id (x:Id):eqK (.agg 32) (.agg (eId x)) (.agg (eId x))=some true:=by simp[eqK,eId_len,eqL_id]
theorem bsegHdr0 (b:Blk1){o n:Nat}{cs:List V}(h:segOf (eHdr b.hdr) o n=some cs):segOf (eBlk b) o n=some cs:=by
 unfold segOf at h⊢
 split at h
 ·rename_i hle
  rw[eHdr_len]at hle
  rw[if_pos (by rw[eBlk_len];omega)]
  cases h
  rw[eBlk,List.drop_append_of_le_length (by rw[eHdr_len];omega),List.take_append_of_le_length (by rw[List.length_drop,eHdr_len];omega)]
 ·cases h
end Go.Ab
namespace Go.Ab
open Go
def k300 (F:Fn):PF:=PF.mk 142 3 [(.t 6)] (.seq (.ops [(po 6 (.mv (.k (.bool false))))]) (.seq (.seq (.ops [(po 17 (.call (F 246) [])),(po 18 (.not (.t 17)))]) (.cond (.t 18) (.seq (.ops [(po 6 (.mv (.k (.bool false))))]) .ret) .skip)) (.seq (.seq (.ops [(pm 19 0),(po 20 (.bin .lss (.t 19) (.k (.int .i64 0)))),(pm 21 20),(PO.mk (some 22) (.mv (.t 0)) (some (21,false))),(PO.mk (some 23) (.bin .gtr (.t 22) (.k (.int .i64 1000))) (some (21,false))),(po 24 (.pick (.t 21) (.k (.bool true)) (.t 23))),(pm 25 24),(PO.mk (some 26) (.mv (.t 1)) (some (25,false))),(PO.mk (some 27) (.bin .lss (.t 26) (.k (.int .i64 0))) (some (25,false))),(po 28 (.pick (.t 25) (.k (.bool true)) (.t 27))),(pm 29 28),(PO.mk (some 30) (.mv (.t 1)) (some (29,false))),(PO.mk (some 31) (.bin .gtr (.t 30) (.k (.int .i64 30))) (some (29,false))),(po 32 (.pick (.t 29) (.k (.bool true)) (.t 31)))]) (.cond (.t 32) (.seq (.ops [(po 6 (.mv (.k (.bool true))))]) .ret) .skip)) (.seq (.ops [(pm 33 0),(po 34 (.call (F 190) [(.t 33)])),(po 7 (.alloc z74_2f53)),(PO.mk none (.store 74 (.t 7) (.t 34)) none)]) (.seq (.ops [(po 35 (.load true 74 (.t 7))),(pm 36 1),(pm 37 2),(po 38 (.call (F 188) [(.t 35),(.t 36),(.t 37)])),(pm 8 38)]) (.seq (.ops [(po 40 (.load true 74 (.t 7))),(po 41 (.call (F 265) [(.t 40)])),(pm 39 41),(po 42 (.ext 0 (.t 39))),(po 43 (.ext 1 (.t 39))),(pm 9 42),(pm 10 43)]) (.seq (.seq (.ops [(pm 44 9),(po 45 (.eqa .ptr false (.t 44) (.k (.ptr none)))),(pm 46 45),(PO.mk (some 47) (.mv (.t 10)) (some (46,false))),(PO.mk (some 48) (.bin .neq (.t 47) (.k (.int .i64 0))) (some (46,false))),(po 49 (.pick (.t 46) (.k (.bool true)) (.t 48))),(pm 50 49),(PO.mk (some 51) (.mv (.t 8)) (some (50,false))),(PO.mk (some 52) (.lenSl (.t 51)) (some (50,false))),(PO.mk (some 53) (.bin .lss (.t 52) (.k (.int .i64 1))) (some (50,false))),(po 54 (.pick (.t 50) (.k (.bool true)) (.t 53))),(pm 55 54),(PO.mk (some 56) (.mv (.t 8)) (some (55,false))),(PO.mk (some 57) (.lenSl (.t 56)) (some (55,false))),(PO.mk (some 58) (.mv (.t 1)) (some (55,false))),(PO.mk (some 59) (.bin .add (.t 58) (.k (.int .i64 1))) (some (55,false))),(PO.mk (some 60) (.bin .gtr (.t 57) (.t 59)) (some (55,false))),(po 61 (.pick (.t 55) (.k (.bool true)) (.t 60)))]) (.cond (.t 61) (.seq (.ops [(po 6 (.mv (.k (.bool false))))]) .ret) .skip)) (.seq (.seq (.ops [(pm 62 8),(po 63 (.lenSl (.t 62))),(po 64 (.mv (.k (.int .i64 0))))]) (.block 0 (.loop (.seq (.ops [(po 65 (.bin .lss (.t 64) (.t 63)))]) (.seq (.cond (.t 65) .skip (.exit 0)) (.seq (.block 1 (.seq (.ops [(pm 66 64),(po 67 (.idxSl 69 (.t 62) (.t 64))),(po 68 (.load true 69 (.t 67))),(po 12 (.alloc z69_adc1)),(pm 11 66),(PO.mk none (.store 69 (.t 12) (.t 68)) none)]) (.seq (.seq (.draw [(.s,(po 69 (.load true 69 (.t 12)))),(.s,(po 70 (.call (F 253) [(.t 69)]))),(.e,(po 71 (.bin .neq (.t 70) (.k (.int .i64 0))))),(.e,(pm 72 71)),(.e,(PO.mk (some 73) (.mv (.t 11)) (some (72,false)))),(.e,(PO.mk (some 74) (.bin .gtr (.t 73) (.k (.int .i64 0))) (some (72,false)))),(.e,(PO.mk (some 75) (.mv (.t 74)) (some (72,false)))),(.e,(PO.mk (some 76) (.fldA 0 (.t 12)) (some (75,true)))),(.e,(PO.mk (some 77) (.fldA 1 (.t 76)) (some (75,true)))),(.e,(PO.mk (some 79) (.mv (.t 8)) (some (75,true)))),(.e,(PO.mk (some 80) (.mv (.t 11)) (some (75,true)))),(.e,(PO.mk (some 81) (.bin .sub (.t 80) (.k (.int .i64 1))) (some (75,true)))),(.e,(PO.mk (some 82) (.idxSl 69 (.t 79) (.t 81)) (some (75,true)))),(.e,(PO.mk (some 83) (.fldA 0 (.t 82)) (some (75,true)))),(.s,(PO.mk (some 78) (.load true 32 (.t 77)) (some (75,true)))),(.s,(PO.mk (some 84) (.load true 68 (.t 83)) (some (75,true)))),(.s,(PO.mk (some 85) (.call (F 141) [(.t 84)]) (some (75,true)))),(.e,(PO.mk (some 86) (.eqa (.agg 32) true (.t 78) (.t 85)) (some (75,true)))),(.e,(PO.mk (some 87) (.mv (.t 86)) (some (75,true)))),(.e,(PO.mk (some 88) (.fldA 0 (.t 12)) (some (87,false)))),(.e,(PO.mk (some 90) (.fldA 0 (.t 7)) (some (87,false)))),(.s,(PO.mk (some 89) (.load true 68 (.t 88)) (some (87,false)))),(.s,(PO.mk (some 91) (.load false 1 (.t 90)) (some (87,false)))),(.s,(PO.mk (some 92) (.call (F 142) [(.t 89),(.t 91)]) (some (87,false)))),(.e,(PO.mk (some 93) (.bin .neq (.t 92) (.k (.int .i64 0))) (some (87,false)))),(.e,(PO.mk (some 94) (.pick (.t 87) (.k (.bool true)) (.t 93)) (some (75,true)))),(.e,(PO.mk (some 95) (.pick (.t 75) (.t 94) (.k (.bool false))) (some (72,false)))),(.e,(po 96 (.pick (.t 72) (.k (.bool true)) (.t 95))))]) (.cond (.t 96) (.seq (.ops [(po 6 (.mv (.k (.bool false))))]) .ret) .skip)) (.seq (.seq (.ops [(pm 97 11),(po 98 (.bin .eql (.t 97) (.k (.int .i64 0))))]) (.cond (.t 98) (.exit 1) .skip)) (.seq (.seq (.draw [(.e,(pm 100 9)),(.e,(po 101 (.nilck (.t 100)))),(.e,(po 102 (.fldA 0 (.t 101)))),(.e,(po 104 (.fldA 0 (.t 12)))),(.s,(po 103 (.load false 1 (.t 102)))),(.s,(po 105 (.load true 68 (.t 104)))),(.x,(po 106 (.call (F 169) [(.t 103),(.t 105),(.k (.int .i64 1099511627776))]))),(.e,(pm 99 106)),(.e,(po 107 (.ext 0 (.t 99)))),(.e,(po 108 (.ext 1 (.t 99)))),(.e,(pm 13 107)),(.e,(pm 14 108))]) (.seq (.ops [(pm 109 14),(po 110 (.bin .eql (.t 109) (.k (.int .i64 5))))]) (.cond (.t 110) (.seq (.ops [(po 6 (.mv (.k (.bool true))))]) .ret) (.seq (.ops [(pm 111 14),(po 112 (.bin .neq (.t 111) (.k (.int .i64 0))))]) (.cond (.t 112) (.seq (.ops [(po 6 (.mv (.k (.bool false))))]) .ret) .skip))))) (.seq (.ops [(pm 114 9),(po 115 (.load true 69 (.t 12))),(po 116 (.call (F 273) [(.t 114),(.t 115)])),(pm 113 116),(po 117 (.ext 0 (.t 113))),(po 118 (.ext 1 (.t 113))),(pm 15 117),(pm 16 118)]) (.seq (.ops [(pm 119 16),(po 120 (.bin .neq (.t 119) (.k (.int .i64 0))))]) (.cond (.t 120) (.seq (.ops [(pm 121 16),(po 122 (.bin .eql (.t 121) (.k (.int .i64 5)))),(pm 6 122)]) .ret) .skip)))))))) (.ops [(po 123 (.bin .add (.t 64) (.k (.int .i64 1)))),(pm 64 123)]))))))) (.seq (.draw [(.e,(pm 124 9)),(.e,(po 125 (.nilck (.t 124)))),(.e,(po 126 (.fldA 0 (.t 125)))),(.e,(pm 128 9)),(.e,(pm 132 8)),(.e,(po 133 (.lenSl (.t 132)))),(.e,(po 134 (.bin .sub (.t 133) (.k (.int .i64 1))))),(.s,(po 127 (.load false 1 (.t 126)))),(.s,(po 129 (.call (F 266) [(.t 128)]))),(.s,(po 130 (.call (F 161) [(.t 127),(.t 129)]))),(.e,(po 131 (.fld false 102 1 (.t 130)))),(.e,(po 135 (.bin .eql (.t 131) (.t 134)))),(.e,(pm 136 135)),(.e,(PO.mk (some 137) (.fldA 4 (.t 7)) (some (136,true)))),(.e,(PO.mk (some 139) (.mv (.t 0)) (some (136,true)))),(.s,(PO.mk (some 138) (.load false 1 (.t 137)) (some (136,true)))),(.e,(PO.mk (some 140) (.bin .eql (.t 138) (.t 139)) (some (136,true)))),(.e,(po 141 (.pick (.t 136) (.t 140) (.k (.bool false))))),(.e,(pm 6 141))]) .ret)))))))))
structure OkLaw19c (P:Program) (F:Fn):Prop where
 mixed:P.follows .mixedOrders=true
 toOkLaw19:OkLaw19 P F
 toOkChain:OkChain P F
 h300:compFn P ⟨[],[],[],[],[]⟩ (F 300)=some (k300 F)
end Go.Ab
namespace Go.Ab
open Go Go.RowKit
set_option maxRecDepth 10000
theorem hon_check {work:Int}(h0:0≤work)(h1:work≤1000):checkM (rulesM work)=0:=by
 unfold checkM
 rw[if_neg,if_neg]
 ·show¬((0:Int)<0∨(1000:Int)<0∨(10:Int)<1∨(1048576:Int)<10∨(50:Int)<0∨(1125899906842624:Int)<50∨work<0∨1000<work)
  omega
 ·rintro(h | h)
  ·have h:tgt 545259519#32=none:=h
   rw[easy_tgt]at h
   cases h
  ·exact h rfl
theorem hon_conn (m:UInt8):conn1 (firstM 50 0 m) 0 50 []=(0,[((txIdM (firstM 50 0 m),BitVec.ofNat 32 0),(⟨50,sha [m]⟩,0))]):=by
 have hs:sumM [⟨50,sha [m]⟩]=(50,true):=by simp[sumM,sumGo]
 unfold conn1
 rw[show(firstM 50 0 m).outs=[⟨50,sha [m]⟩]from rfl,hs,if_neg (by simp)]
 unfold layM
 rw[show(firstM 50 0 m).outs=[⟨50,sha [m]⟩]from rfl,if_neg (by simp[layHit,lk])]
 rfl
def hon0 (work:Int):Ch:=⟨rulesM work,newM (rulesM work),(conn1 (firstM 50 0 0) 0 50 []).2,[(0,genB)],[],0⟩
theorem hon0_C {work:Int}{m:UInt8}{n:Nat}{bs:List Blk1}(H:HonB work m n bs):HonC work m bs 0 (hon0 work):=by
 have T:=honT_gen H
 have w:=T.wf
 have hlk: ∀{i:Int} {b:Blk1},lk i [((0:Int),genB)]=some b→b=genB:=fun hb=>by
  have:=lk_in hb
  have:=List.mem_singleton.1 this
  exact(Prod.mk.inj this).2
 refine⟨⟨⟨w,by show(newM (rulesM work)).length≤16384;rw[T.len];omega,fun i b hb=>?_,fun e he=>(by cases he),(show(-4611686018427387904:Int)≤50 by decide),(show(50:Int)≤4611686018427387904 by decide)⟩,rfl,w.ne,fun k hk=>?_⟩,rfl,T,?_,?_⟩
 ·rw[hlk hb]
  exact⟨_,rfl,firstM_ok 50 0 0⟩
 ·have hl:k< (newM (rulesM work)).length:=by
    have:=On.le w w.ne hk
    have:=w.ne
    omega
  have h1:k≤0:=On.le w w.ne hk
  have:k=0:=by omega
  subst this
  rfl
 ·intro j
  show(lk (j:Int) [((0:Int),genB)]).isSome=true↔_
  rw[lk_cons]
  by_cases h:j=0
  ·subst h;simp
  ·have:¬(j:Int)=0:=by omega
   simp[h,this,lk]
 ·intro e he
  have he:e∈(conn1 (firstM 50 0 0) 0 50 []).2:=he
  rw[hon_conn]at he
  rw[List.mem_singleton.1 he]
  exact⟨0,by omega,rfl⟩
section
variable {P:Program} {F:Fn}
theorem ACalls.same {f:FuncId}{args:List V}{st:St}{p:V→Prop}(h:ACalls P f args st fun v st'=>p v∧St.sub st st'):ACalls P f args st fun v st'=>p v∧st'=st:=
 fun fr hd B w0 G w xs hs ha=>(h fr hd B w0 G w xs hs ha).mono fun e w' ⟨v,x,G',st',h1,h2,h3,h4,h5,h6,h7⟩=>
  ⟨v,x,G',st,h1,h2,h3,h4.sub h7,h5.sub (sub_add_sub h7 h4),h6,rfl⟩
set_option maxHeartbeats 8000000 in
theorem spec300 (ok:OkLaw19c P F)(hc:CloneC P (F 256))(st:St)(work n:Int)(mark:UInt8):ACalls P (F 300) [.int .i64 work,.int .i64 n,w8 mark] st fun v st'=>v=.bool true:=by
 have oks:=ok.toOkLaw19.toOkServes
 have okh:=oks.toOkHonest
 have okc:=ok.toOkChain
 have oki:=okc.toOkLocate.toOkIndexZ.toOkIndex
 have okk:=okc.toOkCoins.toOkCheck2
 have okd:=okh.toOkTx.toOkHead
 refine shows_call ok.mixed ok.h300 (by simp[k300]) ?_
 simp only[k300]
 have eqp: ∀c,eqK .ptr (V.ptr (some (c,0))) (V.ptr none)=some false:=fun _=>rfl
 have hfH: ∀x,fldV false 102 1 (V.agg (eNd x))=some (.int .i64 x.height):=fun x=>by
  show(segOf _ 102 1).bind (packV false)=_
  rw[osegHgt];rfl
 simp
 refine(spec246 oks st).mono ?_
 rintro v st1 ⟨rfl,-⟩
 simp
 by_cases h1:work<0
 ·simp[h1]
  exact⟨_,sub_self _⟩
 by_cases h2:1000<work
 ·simp[h1,h2]
  exact⟨_,sub_self _⟩
 by_cases h3:n<0
 ·simp[h1,h2,h3]
  exact⟨_,sub_self _⟩
 by_cases h4:30<n
 ·simp[h1,h2,h3,h4]
  exact⟨_,sub_self _⟩
 obtain⟨N,rfl⟩: ∃N:Nat,n=N:=⟨n.toNat,by omega⟩
 have hN:N≤30:=by omega
 simp[h1,h2,h3,h4]
 refine(spec190 okh st1 work).mono ?_
 rintro v st2 ⟨rfl,rfl⟩
 obtain⟨r,hr⟩: ∃r,r=rulesM work:=⟨_,rfl⟩
 rw[←hr]
 simp
 intro i7 h7
 have S:=(Sep.start st2).new h7 (.cells z74_2f53)
 have hst:=store_pt (sz:=74) (o:=0) S.get (v:=.agg (eRl r)) (vs:=eRl r) rfl (eRl_len r) (by simp)
 rw[show spliceV z74_2f53 0 (eRl r)=eRl r by simp[spliceV,eRl_len]]at hst
 have S:=S.set (.cells (eRl r))
 simp[hst]at S⊢
 generalize st2.upd i7 (.cells (eRl r))=st3 at S⊢
 have o7:=S.get
 have hsa:segOf (eRl r) 0 74=some (eRl r):=by simp[segOf,eRl_len,List.take_of_length_le]
 simp[St.seg,o7,hsa]
 refine(spec188 okh st3 r genB (by rw[hr];rfl) (by rw[hr];rfl) N (by omega) mark).mono ?_
 rintro v st3 ⟨⟨k,rfl⟩,rfl⟩
 have H:=honB N work mark
 rw[←hr]at H
 obtain⟨bs,hbs⟩: ∃bs,bs=chainM r genB (N:Int) mark:=⟨_,rfl⟩
 rw[←hbs]at H⊢
 obtain⟨M,hlen⟩: ∃M,bs.length=M+1:=⟨bs.length-1,by have:=H.pos;omega⟩
 have hMN:M≤N:=by have:=H.le;omega
 simp[St.seg,o7,hsa]
 have hg:=hon_blk genM 0 0 (by rfl)
 refine(spec265a okc hc st3 r genB (firstM 50 0 0) (by rw[hr];rfl) (by rw[hr];rfl) rfl (firstM_ok 50 0 0) (by rw[hr];exact hon_check (by omega) (by omega)) hg.1 (by rw[hr];show(conn1 (firstM 50 0 0) 0 50 []).1=0;rw[hon_conn])).mono ?_
 rintro v st4 ⟨cid,rfl,W⟩
 have hc0:(⟨r,newM r,(conn1 (firstM 50 0 0) 0 r.subsidy []).2,[(0,genB)],[],0⟩:Ch)=hon0 work:=by rw[hr];rfl
 rw[hc0]at W
 have S:Sep [ChA cid (hon0 work),pt i7 (.cells (eRl r)),Was st2] st4:=W.asn.ov S
 have C0:HonC work mark bs 0 (hon0 work):=hon0_C (by rw[←hr]at *;exact H)
 clear W o7
 have hln:lenSlV (V.sl k (rowsOf eBlk bs) bs.length)=some (.int .i64 ((M:Int)+1)):=by
  rw[show((M:Int)+1)=((M+1:Nat):Int) by omega,←hlen];rfl
 have w0:IntKind.i64.wrap ((M:Int)+1)=(M:Int)+1:=wrap64 (by omega) (by omega)
 have hlt1:¬(M:Int)+1<1:=by omega
 have hlt2:¬(N:Int)+1< (M:Int)+1:=by omega
 have w00:IntKind.i64.wrap ((N:Int)+1)=(N:Int)+1:=wrap64 (by omega) (by omega)
 simp[eqp,hln,w0,w00,hlt1,hlt2]
 refine vc_joinB (M:=fun env' st'=>∃c:Ch,HonC work mark bs M c∧Sep [ChA cid c,pt i7 (.cells (eRl r)),Was st2] st') ?_ ?_
 ·refine vc_loopJ (fun d env' st'=>∃(i:Nat) (c:Ch),i≤M+1∧d=M+1-i∧env' 64=.int .i64 (i:Nat)∧HonC work mark bs (i-1) c∧Sep [ChA cid c,pt i7 (.cells (eRl r)),Was st2] st') (M+1)
    ⟨0,hon0 work,by omega,by omega,by simp,C0,S⟩ ?_
  clear S C0
  rintro J hJ d env1 st5 hsame ⟨i,c,hi,rfl,h64,C,S⟩
  have g7:=(hsame.get 7 rfl).trans (by simp:_=V.ptr (some (i7,0)))
  have g8:=(hsame.get 8 rfl).trans (by simp:_=V.sl k (rowsOf eBlk bs) bs.length)
  have g9:=(hsame.get 9 rfl).trans (by simp:_=V.ptr (some (cid,0)))
  have g62:=(hsame.get 62 rfl).trans (by simp:_=V.sl k (rowsOf eBlk bs) bs.length)
  have g63:=(hsame.get 63 rfl).trans (by simp:_=V.int .i64 ((M:Int)+1))
  clear hsame
  by_cases hlt:i<M+1
  ·have hlt':(i:Int)< (M:Int)+1:=by omega
   have w1:IntKind.i64.wrap ((i:Int)+1)=(i:Int)+1:=wrap64 (by omega) (by omega)
   have hil:i<bs.length:=by omega
   have rd:Rd 69 eBlk (.sl k (rowsOf eBlk bs) bs.length) bs st5:=.inl ⟨k,rfl⟩
   obtain⟨r1,r2,r3,r4⟩:=rd.row eBlk_len hil
   obtain⟨b,hb⟩: ∃b,b=bs[i]:=⟨_,rfl⟩
   rw[←hb]at r3
   have hbi:bs[i]? =some b:=by rw[List.getElem?_eq_getElem hil,hb]
   simp[g62,g63,h64,hlt',hlt,hil,r1,r3]
   intro i12 h12
   have S:=S.new h12 (.cells z69_adc1)
   have hst:=store_pt (sz:=69) (o:=0) S.get (v:=.agg (eBlk b)) (vs:=eBlk b) rfl (eBlk_len _) (by simp)
   rw[show spliceV z69_adc1 0 (eBlk b)=eBlk b by simp[spliceV,eBlk_len]]at hst
   have S:=S.set (.cells (eBlk b))
   simp[hst]at S⊢
   generalize st5.upd i12 (.cells (eBlk b))=st6 at S⊢
   have o12:=S.get
   have o7:=S.mem (i:=i7) (o:=.cells (eRl r)) (by simp)
   have hsA:=bsegAll b
   have hsH:=bsegH b
   have hsP:segOf (eBlk b) 1 32=some (eId b.hdr.prev):=bsegHdr0 b (hsegPrev _)
   by_cases hi0:i=0
   ·have hbg:b=genB:=by
      rw[hi0,H.gen]at hbi
      exact(Option.some.inj hbi).symm
    have hblk:blkE b=0:=by rw[hbg];exact hg.1
    have htx:b.txs=[firstM 50 0 0]:=by rw[hbg];rfl
    have h253:=ACalls.same (spec253 okk st6 b (by rw[htx];simp) (fun t ht=>by
     rw[htx]at ht
     rw[List.mem_singleton.1 ht]
     have:=firstM_ok 50 0 0
     exact⟨by have:=this.1;omega,by have:=this.2.1;omega,fun x hx=>by have:=this.2.2 x hx;omega⟩))
    rw[hblk]at h253
    simp[St.seg,o12,hsA]
    refine⟨_,h253,?_⟩
    have hz:(i:Int)=0:=by omega
    have hp0:¬0<i:=by omega
    have h64z:env1 64=.int .i64 0:=by rw[h64,hz]
    have wz:IntKind.i64.wrap 1=1:=wrap64 (by omega) (by omega)
    simp[hp0,hi0,h64z,wz]
    exact Round.mk (M+1-(i+1)) _ (by omega) (sub_self _) (hJ _ _ _ ⟨i+1,c,by omega,rfl,by simp[hi0],by rw[hi0]at C;rw[hi0];exact C,S.drop⟩)
   ·obtain⟨j,rfl⟩: ∃j,i=j+1:=⟨i-1,by omega⟩
    rw[Nat.add_sub_cancel]at C
    obtain⟨p,b',hp,q1,hbe,hro,hpr,hpv,-⟩:=hon_next H (k:=j) (by omega)
    rw[hbi]at q1
    cases q1
    obtain⟨hblk,hroot⟩:=hon_blk b.hdr (j+1) mark hro
    rw[←hbe]at hblk hroot
    have htx:b.txs=[firstM 50 (j+1) mark]:=by rw[hbe]
    have hji:((j+1:Nat):Int)-1=(j:Int):=by omega
    have hpos:0< ((j+1:Nat):Int):=by omega
    have hne0:¬((j+1:Nat):Int)=0:=by omega
    obtain⟨ii,hii⟩: ∃ii:Int,ii=((j+1:Nat):Int):=⟨_,rfl⟩
    have w2:IntKind.i64.wrap (ii-1)=(j:Int):=by rw[hii,hji];exact wrap64 (by omega) (by omega)
    have hjl:j<bs.length:=by omega
    have hpj:bs[j]=p:=by
     rw[List.getElem?_eq_getElem hjl]at hp
     exact Option.some.inj hp
    obtain⟨p1,p2,p3⟩:=blk_hdr (k:=k) (l:=bs) (st:=st6) hjl
    rw[hpj]at p3
    have htl: ∀t∈b.txs,t.ins.length≤100000∧t.outs.length≤100000∧∀x∈t.ins,x.key.length≤1000000:=fun t ht=>by
     rw[htx]at ht
     rw[List.mem_singleton.1 ht]
     have:=firstM_ok 50 (j+1) mark
     exact⟨by have:=this.1;omega,by have:=this.2.1;omega,fun x hx=>by have:=this.2.2 x hx;omega⟩
    have h253:=ACalls.same (spec253 okk st6 b (by rw[htx];simp) htl)
    rw[hblk]at h253
    have hid:eqK (.agg 32) (.agg (eId b.hdr.prev)) (.agg (eId (hId p.hdr)))=some true:=by rw[hpv];exact eqK_id _
    rw[←hii]at w1 hpos hne0 h64
    have hii':(j:Int)+1=ii:=by omega
    simp only[←hii]
    simp[St.seg,o12,hsA]
    refine⟨_,h253,?_⟩
    simp[hpos,g7,g8,w2,p1,p2,p3,St.seg,o12,hsP]
    refine⟨_,spec141 okd st6 p.hdr,?_⟩
    simp[hid,g7,St.seg,o12,o7,hsH,rsegLimit]
    refine⟨_,spec142 okd st6 b.hdr r.limit,?_⟩
    have hrl:provedN b.hdr r.limit=0:=by rw[hr];exact hpr
    obtain⟨mo,tid,bid,uid,R,hgrow⟩:=chGrow (P:=P) S.swap
    have ot:=R.top
    have hbe:(ii==0)=false:=beq_eq_false_iff_ne.2 hne0
    simp[hrl,hne0,hbe,g9,St.seg,ot,cseg0,o12,hsH]
    have hcr:c.r=rulesM work:=C.r
    have hck:checkM c.r=0:=by rw[hcr];exact hon_check (by omega) (by omega)
    cases hfr:findM c.l (hId b.hdr)with
    | some y=>
      have hadd:addM c.r c.l b.hdr 1099511627776=(c.l,(y:Int),5):=by
       unfold addM
       rw[hfr]
      refine(hgrow (F 169) _ (fun v=>v=.tup [.int .i64 (y:Int),.int .i64 5]) c.l (fun h hT=>by
       have:=spec169 oki hT C.ok.wf C.ok.len hck b.hdr 1099511627776
       rw[hadd]at this
       exact this)).mono ?_
      rintro v st7 ⟨rfl,S⟩
      simp
      exact⟨_,sub_self _⟩
    | none=>
    obtain⟨l',hadd,hok,c2,hbody,C2⟩:=honC_step H C (by omega:j+1<bs.length) (by omega) hbi hfr
    rw[←hcr]at hadd
    refine(hgrow (F 169) _ (fun v=>v=.tup [.int .i64 ((j+1:Nat):Int),.int .i64 0]) l' (fun h hT=>by
     have:=spec169 oki hT C.ok.wf C.ok.len hck b.hdr 1099511627776
     rw[hadd]at this
     exact this)).mono ?_
    rintro v st7 ⟨rfl,S⟩
    clear R ot hgrow
    have o12:=S.drop.get
    simp[g9,St.seg,o12,hsA]
    refine(spec273 okc hc S hok b _ htx (firstM_ok 50 (j+1) mark)).mono ?_
    rintro v st8 ⟨rfl,S⟩
    rw[hbody]at S⊢
    simp[h64,w1]
    exact Round.mk (M+1-(j+1+1)) _ (by omega) (sub_self _) (hJ _ _ _ ⟨j+1+1,c2,by omega,rfl,by simp;omega,C2,S.tail fun r h=>h.drop⟩)
  ·have:i=M+1:=by omega
   subst this
   rw[Nat.add_sub_cancel]at C
   simp[g63,h64]
   exact⟨c,C,S⟩
 clear S C0
 rintro env1 st5 hsame ⟨c,C,S⟩
 have g0:=(hsame.get 0 rfl).trans (by simp:_=V.int .i64 work)
 have g7:=(hsame.get 7 rfl).trans (by simp:_=V.ptr (some (i7,0)))
 have g8:=(hsame.get 8 rfl).trans (by simp:_=V.sl k (rowsOf eBlk bs) bs.length)
 have g9:=(hsame.get 9 rfl).trans (by simp:_=V.ptr (some (cid,0)))
 clear hsame
 have T:=C.tree
 have w:=T.wf
 obtain⟨mo,tid,bid,uid,R⟩:=chRead S
 have ot:=R.top
 have TR:=R.tree w.neNil
 have o7:=S.drop.get
 have hct:c.tip=(M:Int):=C.ok.tip
 have hNl:M<c.l.length:=by rw[T.len];omega
 obtain⟨bb,-,-,-,hh,-⟩:=T.nd (j:=M) (Nat.le_refl _)
 have hnh:(nd c.l (inI c.l (M:Int))).height=M:=by rw[inI_nat hNl,nd_hgt_eq hNl,hh]
 have hrw:r.work=work:=by rw[hr];rfl
 have w3:IntKind.i64.wrap (M:Int)=(M:Int):=wrap64 (by omega) (by omega)
 simp[g9,g8,hln,w3,St.seg,ot,cseg0]
 refine⟨_,spec266 okc R,?_⟩
 simp[hct]
 refine⟨_,spec161 oki TR w M,?_⟩
 simp[hfH,hnh,g0,g7,St.seg,o7,rsegWork,hrw]
 exact⟨_,sub_self _⟩
theorem spec300b (ok:OkLaw19c P F)(hc:CloneC P (F 256))(st:St)(work n:Int){m:Int}(hm:0≤m∧m≤255):ACalls P (F 300) [.int .i64 work,.int .i64 n,.int .u8 m] st fun v st'=>v=.bool true:=by
 have e:V.int .u8 m=w8 (UInt8.ofNat m.toNat):=by
  show V.int .u8 m=.int .u8 ((UInt8.ofNat m.toNat).toNat:Int)
  congr 1
  rw[UInt8.toNat_ofNat']
  omega
 rw[e]
 exact spec300 ok hc st work n _
end
end Go.Ab

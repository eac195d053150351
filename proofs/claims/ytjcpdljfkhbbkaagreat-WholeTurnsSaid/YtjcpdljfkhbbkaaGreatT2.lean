import Derived.Test.YtjcpdljfkhbbkaaGreatT1
import Derived.Maps.RangeRun
import Derived.Laws.Externs
import Derived.KernelRfl
set_option linter.unusedVariables false
set_option linter.unusedSimpArgs false
set_option linter.unusedSectionVars false
namespace Go.Ab
open Go Go.RowKit
section
variable {P:Program} {B:Nat} {w0:World} {G:Gh} {st:St} {w:World} {n:Nat} {env:Env} {a:Act} {an:An}
def Gives (P:Program)(B:Nat)(w0:World)(G:Gh)(st:St)(v:V)(r:Result Next):Prop:=
 ∃x w' G',r=.ok (.value x) w'∧G.le G'∧VRel G' v x∧StRel B w0 G' st w'
theorem Gives.ret (hs:StRel B w0 G st w){v:V}{s:Sem Value}{x:Value}(h:s.run P w=.ok x w)(hv:VRel G v x):Gives P B w0 G st v ((do pure (Next.value (←s)):Sem Next).run P w):=
 ⟨x,w,G,run_value h,G.le_refl,hv,hs⟩
theorem Gives.now (hs:StRel B w0 G st w){v:V}{x:Value}(hv:VRel G v x):Gives P B w0 G st v ((Pure.pure (Next.value x):Sem Next).run P w):=
 ⟨x,w,G,rfl,G.le_refl,hv,hs⟩
theorem notV_rel {u v:V}{x:Value}(hu:VRel G u x)(h:notV u=some v): ∃y,(Op.unary .not x).run P w=.ok y w∧VRel G v y:=by
 cases hu<;>simp only[notV]at h<;>cases h
 exact⟨_,rfl,.bool _⟩
theorem negV_rel {u v:V}{x:Value}(hu:VRel G u x)(h:negV u=some v): ∃y,(Op.unary .neg x).run P w=.ok y w∧VRel G v y:=by
 cases hu<;>simp only[negV]at h<;>cases h
 exact⟨_,rfl,.int _ _⟩
theorem invV_rel {u v:V}{x:Value}(hu:VRel G u x)(h:invV u=some v): ∃y,(Op.unary .xor x).run P w=.ok y w∧VRel G v y:=by
 cases hu<;>simp only[invV]at h<;>cases h
 exact⟨_,rfl,.int _ _⟩
theorem convV_rel {u v:V}{x:Value}(hu:VRel G u x){k:IntKind}(h:convV k u=some v){s d:TypeId}{sd:TypeDesc}(hs:P.underlying s=some sd)(hd:P.underlying d=some (.int k)): ∃y,(convert s d x).run P w=.ok y w∧VRel G v y:=by
 cases hu<;>simp only[convV]at h<;>cases h
 refine⟨_,?_,.int _ _⟩
 simp[convert,run_underlying hs,run_underlying hd,Conv.intToInt]
theorem nilck_rel {u v:V}{x:Value}(hu:VRel G u x)(h:nilckV u=some v):VRel G v x∧(∀(o:Oper) (y:Operand),o.op=.nilCheck y→a.eval y=x→(execOp a.eval o).run P w=.ok (.value x) w):=by
 have h':=hu
 cases hu<;>simp only[nilckV]at h<;>cases h<;>refine⟨h',fun o y ho hy=>?_⟩<;>simp[execOp,ho,hy]
theorem idxSl_rel {u i v:V}{x y:Value}(hu:VRel G u x)(hi:VRel G i y){sz:Nat}(h:idxSlV sz u i=some v){t e:TypeId}(ht:P.underlying t=some (.slice e))(hsz:szOf P e=some sz):
  ∃r,(Instr.indexAt t x y).run P w=.ok r w∧VRel G v r:=by
 cases hi<;>try (cases u<;>simp only[idxSlV]at h<;>cases h;done)
 rename_i kd ix
 cases hu<;>simp only[idxSlV]at h<;>try (cases h;done)
 ·split at h<;>cases h
  rename_i hb
  omega
 ·split at h<;>cases h
  rename_i hb
  omega
 ·rename_i k cs nn b o cap hk hn hf f hp hw h1
  split at h<;>cases h
  rename_i hb
  refine⟨.pointer (some ⟨b,o+ix.toNat*sz,none⟩),?_,.eptr (cs.drop (ix.toNat*sz)) b _ (fun i=>f (ix.toNat*sz+i)) (fun i hi=>?_) (fun i hi=>?_) (fun i hi=>?_)⟩
  ·simp[Instr.indexAt,asIntOf,run_underlying ht,hb,run_sizeOf hsz,add_lit]
  all_goals rw[List.length_drop]at hi
  ·rw[Nat.add_assoc];exact hp _ (by omega)
  ·rw[getD_drop];exact hw _ (by omega)
  ·exact h1 _ (by omega)
 ·rename_i id off sz' nn b l m cap o hι hn hm hl ho
  split at h<;>cases h
  rename_i hb
  obtain⟨rfl,hb0,hb1⟩:=hb
  have:o=off:=ho (by omega)
  subst this
  refine⟨.pointer (some ⟨b,o+ix.toNat*sz',none⟩),?_,.ptr _ _ _ _ _ hι⟩
  simp[Instr.indexAt,asIntOf,run_underlying ht,hb0,hb1,run_sizeOf hsz,add_lit]
theorem idxArr_rel {u i v:V}{x y:Value}(hu:VRel G u x)(hi:VRel G i y){m sz:Nat}(h:idxArrV m sz u i=some v){t e:TypeId}(ht:P.underlying t=some (.array m e))(hsz:szOf P e=some sz):
  ∃r,(Instr.indexAt t x y).run P w=.ok r w∧VRel G v r:=by
 cases hi<;>simp only[idxArrV]at h<;>try (cases h;done)
 rename_i kd ix
 split at h<;>try (cases h;done)
 rename_i hb
 obtain⟨b,o,rfl,hr⟩:=fldA_rel hu h
 refine⟨_,?_,hr⟩
 simp[Instr.indexAt,asIntOf,run_underlying ht,hb,run_sizeOf hsz,add_lit,Instr.sureAddr]
theorem idx_rel {u i v:V}{x y:Value}(hu:VRel G u x)(hi:VRel G i y){m sz:Nat}{ag:Bool}(h:idxV m ag sz u i=some v){t e:TypeId}(ht:P.underlying t=some (.array m e))(hsz:szOf P e=some sz)(hag:isAg P e=some ag)(h1:ag=true∨sz=1):
  ∃r,(Instr.index t x y).run P w=.ok r w∧VRel G v r:=by
 cases hi<;>try (cases u<;>simp only[idxV]at h<;>cases h;done)
 rename_i kd ix
 cases u<;>simp only[idxV]at h<;>try (cases h;done)
 split at h<;>try (cases h;done)
 rename_i hb
 have hp:packOf P e=some (ag,sz):=by
  unfold packOf
  rw[hag,hsz]
  rcases h1 with rfl | rfl
  ·rfl
  ·cases ag<;>rfl
 obtain⟨C,r,rfl,h2,h3⟩:=fld_sound (w:=w) hu hp h
 refine⟨r,?_,h3⟩
 simp[Instr.index,asIntOf,run_underlying ht,hb,run_sizeOf hsz,h2]
theorem idxStr_rel {u i v:V}{x y:Value}(hu:VRel G u x)(hi:VRel G i y)(h:idxStrV u i=some v){t:TypeId}(ht:P.underlying t=some .string):
  ∃r,(Instr.index t x y).run P w=.ok r w∧VRel G v r:=by
 cases hi<;>try (cases u<;>simp only[idxStrV]at h<;>cases h;done)
 rename_i kd ix
 cases hu<;>simp only[idxStrV]at h<;>try (cases h;done)
 rename_i s
 split at h<;>try (cases h;done)
 rename_i hb
 obtain⟨c,h1,rfl⟩:=Option.map_eq_some_iff.1 h
 refine⟨_,?_,.int _ _⟩
 simp[Instr.index,asIntOf,run_underlying ht,hb,h1]
theorem slStr_rel {lo hi:Option X}{ol oh:Option Operand}(hl:ORel G env a lo ol)(hh:ORel G env a hi oh){s:ByteArray}{v:V}(h:slStrV (bounds env s.size lo hi) (.str s)=some v){t:TypeId}(ht:P.underlying t=some .string):
  ∃r,(Instr.sliceAt t (.string s) (ol.map a.eval) (oh.map a.eval) none).run P w=.ok r w∧VRel G v r:=by
 obtain⟨⟨l,hq⟩,h1,h2⟩:=Option.map_eq_some_iff.1 h
 subst h2
 obtain⟨h3,h4⟩:=bounds_run (P:=P) (w:=w) hl hh h1 (Nat.le_refl _) false
 refine⟨_,?_,.str _⟩
 simp[Instr.sliceAt,Instr.slice,run_underlying ht,h3]
theorem seg_rel {cs:List V}{b o:Nat}{f:Nat→Value}(hp: ∀i,i<cs.length→G.pm b (o+i)=some (f i))(hw: ∀i,i<cs.length→VRel G (cs.getD i .junk) (f i))(h1: ∀i,i<cs.length→(f i).oneCell'=true)(k:SK)(hk:k≠.nil)(c m cap:Nat)(hcap:m≤cap)(hf:k=.full→cap=m)(z:Nat)(o':Nat)(ho:z≠0→o'=o+c):
  VRel G (.sl k ((cs.drop c).take z) m) (.slice (some ⟨b,o',none⟩) m cap):=by
 refine .sl k _ m b o' cap hk hcap hf (fun i=>f (c+i)) (fun i hi=>?_) (fun i hi=>?_) (fun i hi=>?_)<;>rw[List.length_take,List.length_drop]at hi
 ·rw[ho (by omega),Nat.add_assoc];exact hp _ (by omega)
 ·rw[getD_take _ _ _ _ (by omega),getD_drop];exact hw _ (by omega)
 ·exact h1 _ (by omega)
theorem slK_ne {k:SK}(h:k≠.nil)(f:Bool):slK k f≠.nil:=by cases k<;>cases f<;>simp[slK]at h⊢
theorem slK_full {k:SK}{f:Bool}(h:slK k f=.full):k=.full∧f=true:=by cases k<;>cases f<;>simp[slK]at h⊢
theorem sl_rel {u v:V}{x:Value}(hu:VRel G u x){lo hi mx:Option X}{ol oh om:Option Operand}(hl:ORel G env a lo ol)(hh:ORel G env a hi oh)(hm:ORel G env a mx om){sz:Nat}(h:slV env sz lo hi mx u=some v){t e:TypeId}(ht:P.underlying t=some (.slice e))(hsz:szOf P e=some sz):
  ∃r,(Instr.sliceAt t x (ol.map a.eval) (oh.map a.eval) (om.map a.eval)).run P w=.ok r w∧VRel G v r:=by
 cases u with
 | sl k cs nn=>
   simp only[slV]at h
   split at h
   ·rename_i l hq hb
    have hom:om=none:=by cases om with | none=>rfl | some o=>exact hm.elim
    subst hom
    split at h<;>cases h
    rename_i hlen
    cases hu with
    | slnil _ hk=>
      obtain⟨h3,h4,h5⟩:=bounds_run (P:=P) (w:=w) hl hh hb (Nat.le_refl _) true
      have:l=0∧hq=0:=by omega
      obtain⟨rfl,rfl⟩:=this
      refine⟨.slice none 0 0,?_,?_⟩
      ·simp[Instr.sliceAt,Instr.slice,run_underlying ht,h3,run_sizeOf hsz]
      ·simp only[Nat.sub_self,Nat.zero_mul,List.take_zero]
       refine .slnil _ ?_
       rcases hk with rfl | rfl
       ·exact .inl rfl
       ·exact .inr rfl
    | slz a=>
      obtain⟨h3,h4,h5⟩:=bounds_run (P:=P) (w:=w) hl hh hb (Nat.le_refl _) true
      have:l=0∧hq=0:=by omega
      obtain⟨rfl,rfl⟩:=this
      refine⟨.slice (some a) 0 0,?_,?_⟩
      ·simp[Instr.sliceAt,Instr.slice,run_underlying ht,h3,run_sizeOf hsz]
      ·simp only[Nat.sub_self,Nat.zero_mul,List.take_zero]
       exact .slz a
    | sl _ _ _ b o cap hk hn hf f hp hw h1=>
      obtain⟨h3,h4,h5⟩:=bounds_run (P:=P) (w:=w) hl hh hb hn true
      refine⟨.slice (some (if cap=l then⟨b,o,none⟩else⟨b,o+l*sz,none⟩)) (hq-l) (cap-l),?_,?_⟩
      ·simp[Instr.sliceAt,Instr.slice,run_underlying ht,h3,run_sizeOf hsz]
       split<;>simp[add_lit]
      ·have:=seg_rel (G:=G) hp hw h1 (slK k hi.isNone) (slK_ne hk _) (l*sz) (hq-l) (cap-l) (by omega) (fun e=>by
         obtain⟨e1,e2⟩:=slK_full e
         have:=hf e1
         have:hq=nn:=by
          cases hi with
          | none=>
            simp only[bounds,boundOf]at hb
            split at hb<;>try (cases hb;done)
            rename_i q1 q2 q3 q4
            split at hb<;>cases hb
            simpa using q3.symm
          | some x=>cases e2
         omega) ((hq-l)*sz) (if cap=l then o else o+l*sz) (fun hz=>by
          rw[if_neg]
          intro e
          exact hz (by rw[show hq-l=0 by omega,Nat.zero_mul]))
       split<;>rename_i e<;>simpa[e]using this
   ·rename_i mm l hq hb
    split at h<;>try (cases h;done)
    rename_i m hnat
    split at h<;>cases h
    rename_i hc
    obtain⟨hlen,hhi,hhm,hmn,hk1,hk2⟩:=hc
    cases om with
    | none=>exact hm.elim
    | some om=>
      cases hi with
      | none=>cases hhi
      | some xh=>
        cases oh with
        | none=>exact hh.elim
        | some oh=>
          obtain⟨km,im,em,im0,imc⟩:=natOf_rel hm hnat
          cases hu with
          | slnil _ hk=>exact absurd hk (by simp[hk1,hk2])
          | slz a=>exact absurd rfl hk2
          | sl _ _ _ b o cap hk hn hf f hp hw h1=>
            simp only[bounds,boundOf]at hb
            split at hb<;>try (cases hb;done)
            rename_i q1 q2 q3 q4
            split at hb<;>cases hb
            rename_i hle
            obtain⟨kh,ih,eh,ih0,ihc⟩:=natOf_rel hh q3
            have e1:=run_sliceBound' (P:=P) (w:=w) (y:=cap) (k:=km) im0 imc (by omega) .slice3Acap
            have e2:=run_sliceBound' (P:=P) (w:=w) (y:=m) (k:=kh) ih0 ihc (by omega) .slice3B
            have e3:(match ol.map a.eval with | some v=>Instr.sliceBound v hq .slice3C | none=>pure 0:Sem Nat).run P w=.ok l w:=by
             cases lo with
             | none=>
               cases ol with
               | none=>cases q4;rfl
               | some o=>exact hl.elim
             | some x=>
               cases ol with
               | none=>exact hl.elim
               | some o=>
                 obtain⟨k,i,e,i0,ic⟩:=natOf_rel hl q4
                 simp only[Option.map_some,e]
                 exact run_sliceBound' i0 ic (by omega) _
            have hsb:(Instr.sliceBounds true nn cap (ol.map a.eval) (some (.int kh ih)) (some (.int km im))).run P w=.ok (l,hq,m) w:=by
             unfold Instr.sliceBounds
             cases hol:ol.map a.eval with
             | none=>rw[hol]at e3;simp only[Sem.run_pure]at e3;cases e3;simp[e1,e2]
             | some u=>rw[hol]at e3;simp[e1,e2,e3]
            refine⟨.slice (some (if m=l then⟨b,o,none⟩else⟨b,o+l*sz,none⟩)) (hq-l) (m-l),?_,?_⟩
            ·simp[Instr.sliceAt,Instr.slice,run_underlying ht,em,eh,hsb,run_sizeOf hsz]
             split<;>simp[add_lit]
            ·have:=seg_rel (G:=G) hp hw h1 (if m=hq then .full else .some) (by split<;>simp) (l*sz) (hq-l) (m-l) (by omega) (fun e=>by
               split at e
               ·omega
               ·cases e) ((hq-l)*sz) (if m=l then o else o+l*sz) (fun hz=>by
                rw[if_neg]
                intro e
                exact hz (by rw[show hq-l=0 by omega,Nat.zero_mul]))
             by_cases e:m=l<;>simpa[e]using this
   ·cases h
 | hsl id off sz' nn=>
   simp only[slV]at h
   split at h<;>try (cases h;done)
   rename_i l hq hb
   have hom:om=none:=by cases om with | none=>rfl | some o=>exact hm.elim
   subst hom
   split at h<;>cases h
   rename_i hss
   subst hss
   cases hu with
   | hsl _ _ _ _ b ll m cap o hι hn hmm hll ho=>
     obtain⟨h3,h4,h5⟩:=bounds_run (P:=P) (w:=w) hl hh hb hn true
     have hmul:(cap-l)*sz'=cap*sz'-l*sz':=Nat.sub_mul _ _ _
     have hle:l*sz'≤cap*sz':=Nat.mul_le_mul_right _ (by omega)
     refine⟨.slice (some (if cap=l then⟨b,o,none⟩else⟨b,o+l*sz',none⟩)) (hq-l) (cap-l),?_,?_⟩
     ·simp[Instr.sliceAt,Instr.slice,run_underlying ht,h3,run_sizeOf hsz]
      split<;>simp[add_lit]
     ·have:=VRel.hsl (G:=G) id (off+l*sz') sz' (hq-l) b ll m (cap-l) (if cap=l then o else o+l*sz') hι (by omega) (by omega) (by omega) (fun hz=>by
        rw[if_neg (by omega),ho (by omega)])
      split<;>rename_i e<;>simpa[e]using this
 | _=>simp only[slV]at h;cases h
theorem slw_rel (hs:StRel B w0 G st w){u v:V}{x:Value}(hu:VRel G u x){lo hi:Option X}{ol oh:Option Operand}(hl:ORel G env a lo ol)(hh:ORel G env a hi oh){sz:Nat}(h:slwV st env sz lo hi u=some v){t e:TypeId}(ht:P.underlying t=some (.slice e))(hsz:szOf P e=some sz):
  ∃r,(Instr.sliceAt t x (ol.map a.eval) (oh.map a.eval) none).run P w=.ok r w∧VRel G v r:=by
 cases u<;>simp only[slwV]at h<;>try (cases h;done)
 rename_i id off sz' nn
 split at h<;>try (cases h;done)
 rename_i cs hst
 split at h<;>try (cases h;done)
 rename_i hq l q1 q2
 split at h<;>cases h
 rename_i hc
 obtain⟨rfl,hs0,hhi,hlh,hfit⟩:=hc
 cases hu with
 | hsl _ _ _ _ b ll m cap o hι hn hmm hll ho=>
   obtain⟨b',l',m',k1,k2,C,T,k3,k4,k5,k6,k7,k8⟩:=hs.obj id _ hst
   rw[hι]at k1
   obtain⟨rfl,rfl,rfl⟩:b=b'∧ll=l'∧m=m':=by cases k1;exact⟨rfl,rfl,rfl⟩
   have hcap:hq≤cap:=by
    have:hq*sz'≤cap*sz':=by omega
    exact Nat.le_of_mul_le_mul_right this hs0
   cases hi with
   | none=>cases hhi
   | some xh=>
     cases oh with
     | none=>exact hh.elim
     | some oh=>
       have hb:bounds env cap lo (some xh)=some (l,hq):=by
        simp only[bounds,boundOf]at q1 q2⊢
        rw[q1,q2]
        simp[hlh,hcap]
       obtain⟨h3,h4,h5⟩:=bounds_run (P:=P) (w:=w) hl hh hb (Nat.le_refl _) true
       have h3':(Instr.sliceBounds true nn cap (ol.map a.eval) (some (a.eval oh)) none).run P w=.ok (l,hq,cap) w:=h3
       have hmul:(cap-l)*sz'=cap*sz'-l*sz':=Nat.sub_mul _ _ _
       have hle:l*sz'≤cap*sz':=Nat.mul_le_mul_right _ (by omega)
       refine⟨.slice (some (if cap=l then⟨b,o,none⟩else⟨b,o+l*sz',none⟩)) (hq-l) (cap-l),?_,?_⟩
       ·simp[Instr.sliceAt,Instr.slice,run_underlying ht,h3',run_sizeOf hsz]
        split<;>simp[add_lit]
       ·have:=VRel.hsl (G:=G) id (off+l*sz') sz' (hq-l) b ll m (cap-l) (if cap=l then o else o+l*sz') hι (by omega) (by omega) (by omega) (fun hz=>by
          rw[if_neg (by omega),ho (by omega)])
        split<;>rename_i e<;>simpa[e]using this
theorem chk3_rel {u v:V}{x:Value}(hu:VRel G u x){lo hi mx:Option X}{ol oh om:Option Operand}(hl:ORel G env a lo ol)(hh:ORel G env a hi oh)(hm:ORel G env a mx om){sz:Nat}(h:chk3V env lo hi mx u=some v){t e:TypeId}(ht:P.underlying t=some (.slice e))(hsz:szOf P e=some sz):
  ∃r,(Instr.sliceAt t x (ol.map a.eval) (oh.map a.eval) (om.map a.eval)).run P w=.ok r w∧VRel G v r:=by
 cases u<;>simp only[chk3V]at h<;>try (cases h;done)
 rename_i id off sz' nn
 split at h<;>try (cases h;done)
 rename_i m hq l q1 q2 q3
 split at h<;>cases h
 rename_i hc
 obtain⟨hmx,hhi,hlh,hhm,hmn⟩:=hc
 cases hu with
 | hsl _ _ _ _ b ll mm cap o hι hn hmm hll ho=>
   cases mx with
   | none=>cases hmx
   | some xm=>
     cases hi with
     | none=>cases hhi
     | some xh=>
       cases om with
       | none=>exact hm.elim
       | some om=>
         cases oh with
         | none=>exact hh.elim
         | some oh=>
           simp only[boundOf]at q1 q2
           obtain⟨km,im,em,im0,imc⟩:=natOf_rel hm q1
           obtain⟨kh,ih,eh,ih0,ihc⟩:=natOf_rel hh q2
           have e1:=run_sliceBound' (P:=P) (w:=w) (y:=cap) (k:=km) im0 imc (by omega) .slice3Acap
           have e2:=run_sliceBound' (P:=P) (w:=w) (y:=m) (k:=kh) ih0 ihc (by omega) .slice3B
           have e3:(match ol.map a.eval with | some v=>Instr.sliceBound v hq .slice3C | none=>pure 0:Sem Nat).run P w=.ok l w:=by
            cases lo with
            | none=>
              cases ol with
              | none=>cases q3;rfl
              | some o=>exact hl.elim
            | some x=>
              cases ol with
              | none=>exact hl.elim
              | some o=>
                obtain⟨k,i,e,i0,ic⟩:=natOf_rel hl q3
                simp only[Option.map_some,e]
                exact run_sliceBound' i0 ic (by omega) _
           have hsb:(Instr.sliceBounds true nn cap (ol.map a.eval) (some (.int kh ih)) (some (.int km im))).run P w=.ok (l,hq,m) w:=by
            unfold Instr.sliceBounds
            cases hol:ol.map a.eval with
            | none=>rw[hol]at e3;simp only[Sem.run_pure]at e3;cases e3;simp[e1,e2]
            | some u=>rw[hol]at e3;simp[e1,e2,e3]
           refine⟨.slice (some (if m=l then⟨b,o,none⟩else⟨b,o+l*sz,none⟩)) (hq-l) (m-l),?_,.junk _⟩
           simp[Instr.sliceAt,Instr.slice,run_underlying ht,em,eh,hsb,run_sizeOf hsz]
           split<;>simp[add_lit]
theorem slArr_rel (hs:StRel B w0 G st w){u v:V}{x:Value}(hu:VRel G u x){lo hi:Option X}{ol oh:Option Operand}(hl:ORel G env a lo ol)(hh:ORel G env a hi oh){al:Bool}{m sz:Nat}(h:slArrV st env al m sz lo hi u=some v){t e:TypeId}(ht:P.underlying t=some (.array m e))(hsz:szOf P e=some sz):
  ∃r,(Instr.sliceAt t x (ol.map a.eval) (oh.map a.eval) none).run P w=.ok r w∧VRel G v r:=by
 unfold slArrV at h
 split at h<;>try (cases h;done)
 rename_i l hq hb
 obtain⟨h3,h4,h5⟩:=bounds_run (P:=P) (w:=w) hl hh hb (Nat.le_refl _) false
 have hrun: ∀(b o:Nat),(Instr.sliceAt t (.pointer (some ⟨b,o,none⟩)) (ol.map a.eval) (oh.map a.eval) none).run P w=.ok (.slice (some (if m=l then⟨b,o,none⟩else⟨b,o+l*sz,none⟩)) (hq-l) (m-l)) w:=by
  intro b o
  simp[Instr.sliceAt,Instr.sureAddr,run_underlying ht,h3,run_sizeOf hsz]
  split<;>simp[add_lit]
 cases al with
 | true=>
   simp only[if_true]at h
   split at h<;>try (cases h;done)
   rename_i id o
   split at h<;>try (cases h;done)
   rename_i cs hst
   split at h<;>cases h
   rename_i hlen
   cases hu with
   | ptr _ _ b ll mm hι=>
     obtain⟨b',l',m',k1,k2,C,T,k3,k4,k5,k6,k7,k8⟩:=hs.obj id _ hst
     rw[hι]at k1
     cases k1
     refine⟨_,hrun b o,?_⟩
     have hmul:(m-l)*sz=m*sz-l*sz:=Nat.sub_mul _ _ _
     have hle:l*sz≤m*sz:=Nat.mul_le_mul_right _ (by omega)
     have:=VRel.hsl (G:=G) id (o+l*sz) sz (hq-l) b ll mm (m-l) (if m=l then o else o+l*sz) hι (by omega) (by omega) (by omega) (fun hz=>by rw[if_neg (by omega)])
     split<;>rename_i e<;>simpa[e]using this
 | false=>
   simp only[Bool.false_eq_true,if_false]at h
   split at h<;>try (cases h;done)
   ·rename_i id o
    split at h<;>try (cases h;done)
    rename_i cs hst
    obtain⟨c,hc,rfl⟩:=Option.map_eq_some_iff.1 h
    obtain⟨hc1,rfl⟩:=segOf_some hc
    cases hu with
    | ptr _ _ b ll mm hι=>
      obtain⟨b',l',m',k1,k2,k5,k7⟩:=hs.obj id _ hst
      rw[hι]at k1
      cases k1
      refine⟨_,hrun b o,?_⟩
      have hdt:(((cs.drop o).take (m*sz)).drop (l*sz)).take ((hq-l)*sz)=(cs.drop (o+l*sz)).take ((hq-l)*sz):=by
       have hmul:(hq-l)*sz=hq*sz-l*sz:=Nat.sub_mul _ _ _
       have hle:hq*sz≤m*sz:=Nat.mul_le_mul_right _ (by omega)
       rw[List.drop_take,List.drop_drop,List.take_take,Nat.min_eq_left (by omega)]
      rw[hdt]
      let f:Nat→Value:=fun i=>(G.pm b (0+i)).getD undef
      have hf: ∀i,i<cs.length→G.pm b (0+i)=some (f i)∧VRel G (cs.getD i .junk) (f i)∧(f i).oneCell'=true:=fun i hi=>by
       obtain⟨y,e1,e2,e3⟩:=k7 i hi
       have:f i=y:=by show(G.pm b (0+i)).getD undef=y;rw[Nat.zero_add,e1];rfl
       rw[this,Nat.zero_add]
       exact⟨e1,e2,e3⟩
      have:=seg_rel (G:=G) (fun i hi=>(hf i hi).1) (fun i hi=>(hf i hi).2.1) (fun i hi=>(hf i hi).2.2) (if hq=m then .full else .some) (by split<;>simp) (o+l*sz) (hq-l) (m-l) (by omega) (fun e=>by
       split at e
       ·omega
       ·cases e) ((hq-l)*sz) (if m=l then o else o+l*sz) (fun hz=>by
        rw[if_neg,Nat.zero_add]
        intro e
        exact hz (by rw[show hq-l=0 by omega,Nat.zero_mul]))
      by_cases e:m=l<;>simpa[e]using this
   ·rename_i cs
    obtain⟨c,hc,rfl⟩:=Option.map_eq_some_iff.1 h
    obtain⟨hc1,rfl⟩:=segOf_some hc
    cases hu with
    | eptr _ b o f hp hw h1=>
      refine⟨_,hrun b o,?_⟩
      have hdt:(((cs.drop 0).take (m*sz)).drop (l*sz)).take ((hq-l)*sz)=(cs.drop (l*sz)).take ((hq-l)*sz):=by
       have hmul:(hq-l)*sz=hq*sz-l*sz:=Nat.sub_mul _ _ _
       have hle:hq*sz≤m*sz:=Nat.mul_le_mul_right _ (by omega)
       rw[List.drop_take,List.drop_drop,List.take_take,Nat.min_eq_left (by omega),Nat.zero_add]
      rw[hdt]
      have:=seg_rel (G:=G) hp hw h1 (if hq=m then .full else .some) (by split<;>simp) (l*sz) (hq-l) (m-l) (by omega) (fun e=>by
       split at e
       ·omega
       ·cases e) ((hq-l)*sz) (if m=l then o else o+l*sz) (fun hz=>by
        rw[if_neg]
        intro e
        exact hz (by rw[show hq-l=0 by omega,Nat.zero_mul]))
      by_cases e:m=l<;>simpa[e]using this
theorem elems_rel (hs:StRel B w0 G st w){u:V}{x:Value}(hu:VRel G u x){sz:Nat}{ys:List V}{m:Nat}(h:elems st sz u=some (ys,m)):
  (Builtin.lenOf x).run P w=.ok m w∧ys.length=m*sz∧∃xs,CRel G ys xs∧(Builtin.firstCells sz m x).run P w=.ok xs.toArray w:=by
 cases hu<;>simp only[elems]at h<;>try (cases h;done)
 ·rename_i s
  split at h<;>cases h
  rename_i hsz
  subst hsz
  refine⟨rfl,by simp[toBytesV],s.data.toList.map fun b=>.int .u8 b.toNat,?_,?_⟩
  ·refine CRel.mk (by simp[toBytesV]) (fun i hi=>?_) (fun i hi=>?_)<;>simp only[toBytesV,List.length_map]at hi
   ·simp only[toBytesV,List.getD_eq_getElem?_getD,List.getElem?_map,List.getElem?_eq_getElem hi,Option.map_some,Option.getD_some]
    exact .int _ _
   ·simp only[List.getD_eq_getElem?_getD,List.getElem?_map,List.getElem?_eq_getElem hi,Option.map_some,Option.getD_some]
    rfl
  ·have e:s.extract 0 s.size=s:=by
     apply ByteArray.ext
     simp
   simp only[Builtin.firstCells,e,Sem.run_pure]
   congr 1
   apply Array.ext'
   simp
 ·rename_i k hk
  split at h<;>cases h
  exact⟨rfl,by simp,[],CRel.nil,by simp[Builtin.firstCells]⟩
 ·split at h<;>cases h
  exact⟨rfl,by simp,[],CRel.nil,by simp[Builtin.firstCells];exact run_loadCells_list (P:=P) w _ [] (fun j v hv=>by simp at hv)⟩
 ·rename_i k cs nn b o cap hk hn hf f hp hw h1
  split at h<;>cases h
  rename_i hlen
  obtain⟨xs,k1,k2,k3,k4⟩:=pm_cells hs hp hw h1
  refine⟨rfl,hlen,xs,k1,?_⟩
  simp only[Builtin.firstCells]
  have:=run_loadCells_list (P:=P) w ⟨b,o,none⟩ xs (fun j v hv=>by rw[add_lit];exact k4 j v hv)
  rwa [k2,hlen]at this
 ·rename_i id off sz' nn b l m' cap o hι hn hm hl ho
  split at h<;>try (cases h;done)
  rename_i hsz
  subst hsz
  obtain⟨c,hc,he⟩:=Option.map_eq_some_iff.1 h
  cases he
  obtain⟨xs,k1,k2,k3⟩:=seg_cells hs hc hι
  refine⟨rfl,by rw[←k1.length,k2],xs,k1,?_⟩
  simp only[Builtin.firstCells]
  by_cases h0:m*sz'=0
  ·rw[h0]
   have:xs=[]:=List.eq_nil_of_length_eq_zero (by rw[k2,h0])
   subst this
   rfl
  ·have:o=off:=ho (by intro e;apply h0;rw[show m=0 by omega,Nat.zero_mul])
   subst this
   have:=run_loadCells_list (P:=P) w ⟨b,o,none⟩ xs (fun j v hv=>by rw[add_lit];exact k3 j v hv)
   rwa [k2]at this
theorem bytesOf_rel: ∀{ys:List V} {xs:List Value} {bs:List UInt8},LRel G ys xs→bytesOf ys=some bs→∃ns:List Int,xs=ns.map (Value.int .u8)∧bs=ns.map fun n=>UInt8.ofNat n.toNat
 | [],xs,bs,h,hb=>by cases hb;exact⟨[],by rw[h.nil_inv];rfl,rfl⟩
 | y::ys,xs,bs,h,hb=>by
   obtain⟨x,zs,rfl,h1,h2⟩:=h.cons_inv
   unfold bytesOf at hb
   split at hb
   ·rename_i e
    cases e
   ·rename_i i l e
    cases e
    obtain⟨bs',h3,rfl⟩:=Option.map_eq_some_iff.1 hb
    obtain⟨ns,h4,h5⟩:=bytesOf_rel h2 h3
    cases h1
    exact⟨i::ns,by simp[h4],by simp[h5]⟩
   ·cases hb
theorem foldl_push: ∀(ns:List Int) (r:ByteArray),ns.foldl (fun r n=>r.push (UInt8.ofNat n.toNat)) r=⟨r.data++(ns.map fun n=>UInt8.ofNat n.toNat).toArray⟩
 | [],r=>by simp
 | n::ns,r=>by
   simp only[List.foldl_cons,List.map_cons]
   rw[foldl_push ns]
   simp[ByteArray.push]
theorem toStr_rel (hs:StRel B w0 G st w){u v:V}{x:Value}(hu:VRel G u x)(h:toStrV st u=some v){s d e:TypeId}(h1:P.underlying s=some (.slice e))(h2:P.underlying d=some .string)(h3:P.underlying e=some (.int .u8)):
  ∃y,(convert s d x).run P w=.ok y w∧VRel G v y:=by
 have h':(∀s,u≠.str s)∧((elems st 1 u).bind fun l=>(bytesOf l.1).map fun b=>V.str ⟨b.toArray⟩)=some v:=by
  cases u<;>simp only[toStrV]at h<;>first | (cases h;done) | exact⟨fun s e=>(by cases e),h⟩
 obtain⟨hns,h'⟩:=h'
 obtain⟨⟨ys,m⟩,k1,k2⟩:=Option.bind_eq_some_iff.1 h'
 obtain⟨bs,k3,rfl⟩:=Option.map_eq_some_iff.1 k2
 obtain⟨g1,g2,xs,g3,g4⟩:=elems_rel (P:=P) hs hu k1
 obtain⟨ns,e1,e2⟩:=bytesOf_rel g3.1 k3
 refine⟨_,?_,.str _⟩
 have hsl: ∃ao cap,x=.slice ao m cap:=by
  cases hu<;>simp only[elems]at k1<;>try (cases k1;done)
  ·exact absurd rfl (hns _)
  ·split at k1<;>cases k1
   exact⟨_,_,rfl⟩
  ·split at k1<;>cases k1
   exact⟨_,_,rfl⟩
  ·split at k1<;>cases k1
   exact⟨_,_,rfl⟩
  ·split at k1<;>try (cases k1;done)
   obtain⟨c,hc,he⟩:=Option.map_eq_some_iff.1 k1
   cases he
   exact⟨_,_,rfl⟩
 obtain⟨ao,cap,rfl⟩:=hsl
 have hbs:(ByteArray.mk bs.toArray)=ns.foldl (fun r n=>r.push (UInt8.ofNat n.toNat)) ByteArray.empty:=by
  rw[foldl_push,e2]
  simp
 cases ao with
 | none=>
   simp only[Builtin.firstCells,Sem.run_pure]at g4
   have hx0:xs=[]:=by
    injection g4 with g5
    simpa using congrArg Array.toList g5.symm
   subst hx0
   have hn0:ns=[]:=by cases ns with | nil=>rfl | cons a l=>cases e1
   subst hn0
   rw[hbs]
   simp[convert,run_underlying h1,run_underlying h2,run_underlying h3,Conv.bytesToString]
 | some ad=>
   simp only[Builtin.firstCells,Nat.mul_one]at g4
   rw[e1]at g4
   have:=run_bytesToString (P:=P) w ad m cap ns g4
   simp only[convert,Sem.run_bind,run_underlying h1,run_underlying h2,run_underlying h3,Result.andThen_ok,this,hbs]
def bytesX (s:ByteArray):List Value:=s.data.toList.map fun b=>Value.int .u8 b.toNat
theorem bytesX_rel (s:ByteArray):CRel G (toBytesV s) (bytesX s):=by
 refine CRel.mk (by simp[toBytesV,bytesX]) (fun i hi=>?_) (fun i hi=>?_)<;>simp only[toBytesV,List.length_map]at hi
 ·simp only[toBytesV,bytesX,List.getD_eq_getElem?_getD,List.getElem?_map,List.getElem?_eq_getElem hi,Option.map_some,Option.getD_some]
  exact .int _ _
 ·simp only[bytesX,List.getD_eq_getElem?_getD,List.getElem?_map,List.getElem?_eq_getElem hi,Option.map_some,Option.getD_some]
  rfl
theorem toBytes_rel (hs:StRel B w0 G st w)(s:ByteArray){c d e:TypeId}(h1:P.underlying c=some .string)(h2:P.underlying d=some (.slice e))(h3:P.underlying e=some (.int .u8)):
  ∃y w' G',(convert c d (.string s)).run P w=.ok y w'∧G.le G'∧VRel G' (.sl .some (toBytesV s) s.size) y∧StRel B w0 G' st w':=by
 have hrun:=run_bytes_of_string (P:=P) w c d e s h1 h2 h3
 have hs':=hs.ext (below_drew w)
 have hge:=grownCap_ge w s.size 0 e
 have hrow:bytesRow s (grownCap w s.size 0 e)=(bytesX s++List.replicate (grownCap w s.size 0 e-s.size) (Value.int .u8 0)).toArray:=by
  unfold bytesRow bytesX
  apply Array.ext'
  simp
 rw[hrow]at hrun
 obtain⟨g1,g2⟩:=hs'.addPm (bytesX s) e (_,_) (List.replicate (grownCap w s.size 0 e-s.size) (Value.int .u8 0))
 refine⟨_,_,_,hrun,g1,?_,g2⟩
 have hX:=bytesX_rel (G:=Gh.addPm G w.drew.heap.size (bytesX s)) s
 refine .sl .some _ _ w.heap.size 0 _ (by simp) hge (fun e=>by cases e) (fun i=>(bytesX s).getD i undef) (fun i hi=>?_) (fun i hi=>hX.val i hi) (fun i hi=>hX.one i hi)
 show(Gh.addPm G w.drew.heap.size _).pm w.drew.heap.size (0+i)=_
 have hlen:=hX.length
 rw[Gh.addPm_new,Nat.zero_add,List.getD_eq_getElem?_getD,List.getElem?_eq_getElem (by omega)]
 rfl
theorem bsl_rel (hs:StRel B w0 G st w)(he:EnvRel G n env a){t e:TypeId}{len s:Nat}{zs cs:List V}{ops:Array (Nat×Operand)}{ps:List (Nat×Nat×X)}(hz:zeroOf P e=some zs)(hu:P.underlying t=some (.slice e))
  (hsz:szOf P e=some s) (hzl:zs.length=s) (hbig:len*s≤16777216) (hp:parts1 n (fun i=>some (i*s,s)) ops.toList=some ps)
  (hf:fillV (repV zs len) (ps.map fun p=>(p.1,p.2.1,p.2.2.ev env))=some cs):
  ∃y w' G',(Instr.buildSlice t len (ops.map fun(i,x)=>(i,a.eval x))).run P w=.ok y w'∧G.le G'∧VRel G' (.sl .full cs len) y∧StRel B w0 G' st w':=by
 obtain⟨C,h1,h2⟩:=buildSlice_run (w:=w) he hz hu hsz hzl hbig hp hf
 obtain⟨g1,g2⟩:=hs.addPm C.toList e (0,0) []
 simp only[List.append_nil,Array.toArray_toList]at g2
 refine⟨_,_,_,h1,g1,?_,g2⟩
 have hlen:=h2.length
 refine .sl .full _ _ w.heap.size 0 _ (by simp) (Nat.le_refl _) (fun _=>rfl) (fun i=>C.toList.getD i undef) (fun i hi=>?_) (fun i hi=>(h2.val i hi).mono g1) (fun i hi=>h2.one i hi)
 rw[Gh.addPm_new,Nat.zero_add,List.getD_eq_getElem?_getD,List.getElem?_eq_getElem (by omega)]
 rfl
theorem len_rel (hs:StRel B w0 G st w){u v:V}{x:Value}(hu:VRel G u x){t:TypeId}{m:POp}{xx:X}(hm:compBuiltin P n .len [t] [xx]=some m)(hxx:xx.ev env=u)(h:opV m env st=some v)(ty:TypeId):
  ∃y,(Builtin.len_ #[t] ty #[x]).run P w=.ok y w∧VRel G v y:=by
 simp only[compBuiltin]at hm
 split at hm<;>cases hm
 ·rename_i ht
  simp only[opV,hxx]at h
  cases hu<;>simp only[lenStrV]at h<;>cases h
  exact⟨_,by simp[Builtin.len_,run_underlying ht,goInt],.int _ _⟩
 ·rename_i k e ht
  simp only[opV]at h
  cases h
  exact⟨_,by simp[Builtin.len_,run_underlying ht,goInt],.int _ _⟩
 ·rename_i e ht
  simp only[opV,hxx]at h
  cases hu<;>simp only[lenSlV]at h<;>cases h
  ·exact⟨_,by simp[Builtin.len_,run_underlying ht,goInt],.int _ _⟩
  ·exact⟨_,by simp[Builtin.len_,run_underlying ht,goInt],.int _ _⟩
  ·exact⟨_,by simp[Builtin.len_,run_underlying ht,goInt],.int _ _⟩
  ·exact⟨_,by simp[Builtin.len_,run_underlying ht,goInt],.int _ _⟩
 ·rename_i k e ht
  simp only[opV,hxx]at h
  cases hu<;>simp only[lenMapV]at h<;>try (cases h;done)
  ·cases h
   exact⟨_,by simp[Builtin.len_,run_underlying ht,goInt],.int _ _⟩
  ·rename_i id b l m hι
   split at h<;>cases h
   ·rename_i es hst
    obtain⟨b',l',m',k1,k2,E,clk,k3,k4,k5,k6,k7⟩:=hs.obj id _ hst
    rw[hι]at k1
    cases k1
    refine⟨.int .i64 es.length,?_,.int _ _⟩
    simp[Builtin.len_,run_underlying ht,run_getObj k3 (fun a b c e=>by cases e),goInt,k4]
   ·rename_i es bs clk hst
    obtain⟨b',l',m',k1,k2,E,k3,k4,k5,k6,k7⟩:=hs.obj id _ hst
    rw[hι]at k1
    cases k1
    refine⟨.int .i64 es.length,?_,.int _ _⟩
    simp[Builtin.len_,run_underlying ht,run_getObj k3 (fun a b c e=>by cases e),goInt,k4]
theorem foldV_rel (f:V→V→Option V)(g:Value→Value→Sem Value)(hfg: ∀{u v r:V} {x y:Value},VRel G u x→VRel G v y→f u v=some r→∃z,(g x y).run P w=.ok z w∧VRel G r z): ∀{l:List V} {xs:List Value} {u v:V} {x:Value},VRel G u x→LRel G l xs→foldV f u l=some v→
  ∃z,(xs.foldlM g x).run P w=.ok z w∧VRel G v z
 | [],xs,u,v,x,hu,hl,h=>by
   cases h
   rw[hl.nil_inv]
   exact⟨x,rfl,hu⟩
 | y::l,xs,u,v,x,hu,hl,h=>by
   obtain⟨z,zs,rfl,h1,h2⟩:=hl.cons_inv
   simp only[foldV]at h
   obtain⟨r,h3,h4⟩:=Option.bind_eq_some_iff.1 h
   obtain⟨q,h5,h6⟩:=hfg hu h1 h3
   obtain⟨z',h7,h8⟩:=foldV_rel f g hfg h6 h2 h4
   exact⟨z',by simp[List.foldlM_cons,h5,h7],h8⟩
theorem max2_rel {u v r:V}{x y:Value}(hu:VRel G u x)(hv:VRel G v y)(h:max2V u v=some r): ∃z,(Builtin.max2 x y).run P w=.ok z w∧VRel G r z:=by
 cases hu<;>simp only[max2V]at h<;>try (cases h;done)
 cases hv<;>simp only[max2V]at h<;>try (cases h;done)
 split at h<;>cases h
 exact⟨_,rfl,.int _ _⟩
theorem min2_rel {u v r:V}{x y:Value}(hu:VRel G u x)(hv:VRel G v y)(h:min2V u v=some r): ∃z,(Builtin.min2 x y).run P w=.ok z w∧VRel G r z:=by
 cases hu<;>simp only[min2V]at h<;>try (cases h;done)
 cases hv<;>simp only[min2V]at h<;>try (cases h;done)
 split at h<;>cases h
 exact⟨_,rfl,.int _ _⟩
theorem ext_rel {u v:V}{x:Value}(hu:VRel G u x){i:Nat}(h:extV i u=some v): ∃y,(Instr.extract x i).run P w=.ok y w∧VRel G v y:=by
 cases hu<;>simp only[extV]at h<;>try (cases h;done)
 rename_i cs xs hl hv
 obtain⟨hi,rfl⟩:=List.getElem?_eq_some_iff.1 h
 have:=hv i hi
 rw[List.getD_eq_getElem?_getD,List.getElem?_eq_getElem hi]at this
 refine⟨xs.getD i undef,?_,this⟩
 have hx:xs[i]? =some (xs.getD i undef):=by
  rw[Array.getD_eq_getD_getElem?,Array.getElem?_eq_getElem (by omega)];rfl
 show(match xs[i]? with | some v=>(Pure.pure v:Sem Value) | none=>stuck "Extract: no such component").run P w=_
 rw[hx]
 rfl
end
end Go.Ab
namespace Go.Ab
open Go Go.RowKit Go.ChangeMaps
section
variable {P:Program} {B:Nat} {w0:World} {G:Gh} {st:St} {w:World}
theorem heap_same {w:World}{b:Nat}{o:Obj}(h:w.heap[b]? =some o):({w with heap:=w.heap.setIfInBounds b o}:World)=w:=by
 have he:w.heap.setIfInBounds b o=w.heap:=by
  apply Array.ext_getElem?
  intro i
  by_cases hi:i=b
  ·subst hi;simp only[Array.getElem?_setIfInBounds_self_of_lt (lt_of_heap h),h]
  ·rw[Array.getElem?_setIfInBounds_ne (fun e=>hi e.symm)]
 rw[he]
theorem StRel.toMpi (h:StRel B w0 G st w){id:Nat}{es:List (V×V)}{x:Value}(hm:VRel G (.map (some id)) x)(hst:st id=some (.mp es)):
  ∃b l mm bs clk E,x=.map (some b)∧G.ι id=some (b,l,mm)∧w.heap[b]? =some (.map E clk)∧bs.length=es.length∧bs.Pairwise (· < ·)∧(∀y∈bs,y<clk)∧StRel B w0 G (st.upd id (.mpi es bs clk)) w:=by
 obtain⟨b,l,mm,E,clk,rfl,g2,g3,g4,g5,g6⟩:=mp_run h hm hst
 have hlt: ∀y∈E.toList.map (·.born),y<clk:=fun y hy=>by
  obtain⟨e,he,rfl⟩:=List.mem_map.1 hy
  exact g6 e he
 have:=h.setMapI hst (fun cs e=>by cases e) g2 g3 g4 rfl g5 hlt
 rw[heap_same g3]at this
 exact⟨b,l,mm,E.toList.map (·.born),clk,E,rfl,g2,g3,by simp only[List.length_map];exact g4.1,g5,hlt,this⟩
theorem StRel.toMp (h:StRel B w0 G st w){id:Nat}{es:List (V×V)}{bs:List Nat}{clk:Nat}{x:Value}(hm:VRel G (.map (some id)) x)(hst:st id=some (.mpi es bs clk)):StRel B w0 G (st.upd id (.mp es)) w:=by
 obtain⟨b,l,mm,E,rfl,g2,g3,g4,g5,g6,g7⟩:=mpi_run h hm hst
 have hlt:=lt_of_heap g3
 refine h.setObj hst (fun cs e=>by cases e) g2 rfl rfl rfl rfl (fun k hk=>rfl) (fun o=>?_) ⟨E,clk,g3,g4.obj.1,g4.obj.2,by rw[g5];exact g6,fun e he=>g7 _ (by rw[←g5];exact List.mem_map.2 ⟨e,he,rfl⟩)⟩
 cases hp:G.pm b o with
 | none=>rfl
 | some v=>
   have:=h.pm b o v hp
   simp[World.cell?,g3]at this
theorem rngMap_sound (hs:StRel B w0 G st w){t k e:TypeId}(ht:P.underlying t=some (.map k e)){v:V}{x:Value}{K:V→St→Prop}
  (h:match v with
    | .map none=>∀it,st it=none→K (.ptr (some (it,0))) (st.upd it (.mit none 0 [] 0))
    | .map (some id)=>
      match st id with
      | some (.mp es)=>∀it,st it=none→∀(bs:List Nat) (clk:Nat),bs.length=es.length→bs.Pairwise (· < ·)→(∀b∈bs,b<clk)→K (.ptr (some (it,0))) ((st.upd id (.mpi es bs clk)).upd it (.mit (some id) clk [] clk))
      | _=>False
    | _=>False) (hv:VRel G v x):
  ∃r u w' G' st',(Instr.range t x).run P w=.ok r w'∧G.le G'∧VRel G' u r∧StRel B w0 G' st' w'∧K u st':=by
 cases v with
 | map mo=>
   cases mo with
   | none=>
     cases hv
     obtain⟨g1,g2⟩:=hs.addObj (.mapIter none 0 #[] 0) (.mit none 0 [] 0) 0 0 ⟨none,heap_alloc_self _ _,rfl⟩
     refine⟨.pointer (some ⟨w.heap.size,0,none⟩),_,_,_,_,?_,G.addObj_le _,.ptr _ _ _ _ _ (G.addObj_new _),g2,h _ g1⟩
     simp only[Instr.range,Sem.run_bind,run_underlying ht,Result.andThen_ok,Sem.run_pure,run_newObj_alloc]
   | some id=>
     simp only at h
     split at h<;>try exact h.elim
     rename_i es hst
     obtain⟨b,l,mm,bs,clk,E,rfl,k1,k2,k3,k4,k5,k6⟩:=hs.toMpi hv hst
     have hle:=G.addObj_le (w.heap.size,0,0)
     obtain⟨g1,g2⟩:=k6.addObj (.mapIter (some b) clk #[] clk) (.mit (some id) clk [] clk) 0 0 ⟨some b,heap_alloc_self _ _,b,_,hle.ι _ _ k1,rfl⟩
     have g1':st G.N=none:=hs.dom (G.fresh _ (Nat.le_refl _))
     refine⟨.pointer (some ⟨w.heap.size,0,none⟩),_,_,_,_,?_,hle,.ptr _ _ _ _ _ (G.addObj_new _),g2,h _ g1' bs clk k3 k4 k5⟩
     simp only[Instr.range,Sem.run_bind,run_underlying ht,Result.andThen_ok,Sem.run_pure,run_getObj k2 (fun a b c e=>by cases e),run_newObj_alloc]
 | _=>exact h.elim
theorem setObj_iter (hs:StRel B w0 G st w){it b l m:Nat}{ob:AObj}{o:Obj}(hit:st it=some ob)(hro: ∀cs,ob≠.ro cs)(hι:G.ι it=some (b,l,m))(hb:w.heap[b]? =some o)(hc: ∀a b c,o≠.cells a b c){o':Obj}{ob':AObj}
  (hob:ObjRel G {w with heap:=w.heap.setIfInBounds b o'} b l m ob'):StRel B w0 G (st.upd it ob') {w with heap:=w.heap.setIfInBounds b o'}:=by
 refine hs.setObj hit hro hι rfl rfl rfl (by simp) (fun k hk=>?_) (fun c=>?_) hob
 ·simp only[Array.getElem?_setIfInBounds_ne (Ne.symm hk)]
 ·cases hp:G.pm b c with
  | none=>rfl
  | some v=>
    have:=hs.pm b c v hp
    cases o<;>first
     | exact absurd rfl (hc _ _ _)
     | (simp[World.cell?,hb]at this)
theorem nextMap_sound (hs:StRel B w0 G st w){ty:TypeId}{v:V}{x:Value}{K:V→St→Prop}
  (h:match v with
    | .ptr (some (it,0))=>
      match st it with
      | some (.mit none _ _ _)=>K (.tup [.bool false]) st
      | some (.mit (some id) since seen stp)=>
        match st id with
        | some (.mpi es bs clk)=>(∀b∈bs,b<since)∧since≤stp∧bs.length=es.length∧((∀b∈bs,b∈seen)→K (.tup [.bool false]) st)∧
           ∀i,i<es.length→bs.getD i 0∉seen→K (.tup [.bool true,(es.getD i default).1,(es.getD i default).2]) (st.upd it (.mit (some id) since (seen++[bs.getD i 0]) clk))
        | _=>False
      | _=>False
    | _=>False) (hv:VRel G v x):
  ∃r u w' G' st',(Instr.next x false ty).run P w=.ok r w'∧G.le G'∧VRel G' u r∧StRel B w0 G' st' w'∧K u st':=by
 have tupF:VRel G (.tup [.bool false]) (.tuple #[.bool false]):=.tup _ _ rfl (fun i hi=>by
  match i,hi with
  | 0,_=>exact .bool _)
 split at h<;>try exact h.elim
 rename_i it
 cases hv with
 | ptr _ _ b l m hι=>
   split at h<;>try exact h.elim
   ·rename_i since seen stp hit
    obtain⟨b',l',m',k1,k2,bo,k3,k4⟩:=hs.obj it _ hit
    rw[hι]at k1
    cases k1
    subst k4
    refine⟨_,_,w,G,st,?_,G.le_refl,tupF,hs,h⟩
    simp only[Instr.next,Sem.run_bind,run_getObj k3 (fun a b c e=>by cases e),Result.andThen_ok,Sem.run_pure]
   ·rename_i id since seen stp hit
    split at h<;>try exact h.elim
    rename_i es bs clk hst
    obtain⟨h1,h2,h3,h4,h5⟩:=h
    obtain⟨b',l',m',k1,k2,bo,k3,c,z,k4,k5⟩:=hs.obj it _ hit
    rw[hι]at k1
    cases k1
    subst k5
    obtain⟨c',l2,m2,E,j0,j1,j2,j3,j4,j5,j6⟩:=mpi_run hs (.map id c z.1 z.2 k4) hst
    cases j0
    have hold: ∀y∈E.toList,y.born<since:=fun y hy=>h1 _ (by rw[←j4];exact List.mem_map.2 ⟨y,hy,rfl⟩)
    rcases run_next_at (P:=P) w ty b c since stp seen.toArray E clk k3 j2 hold h2 with⟨e1,e2⟩ | ⟨e,he,w1,hw1,hrun⟩
    ·refine⟨_,_,w,G,st,e2,G.le_refl,tupF,hs,h4 fun y hy=>?_⟩
     rw[←j4]at hy
     obtain⟨q,hq,rfl⟩:=List.mem_map.1 hy
     have hnone:leftOf E seen.toArray= #[]:=Array.eq_empty_of_size_eq_zero e1
     unfold leftOf at hnone
     rw[Array.filter_eq_empty_iff]at hnone
     have:=hnone q (by simpa using hq)
     simpa using this
    ·unfold leftOf at he
     have hmem:e∈E.toList:=by simp at he;simpa using he.1
     have hns:e.born∉seen:=by simp at he;exact he.2
     obtain⟨i,hi,hie⟩:=List.getElem_of_mem hmem
     have hlen:E.toList.length=es.length:=j3.1
     have hb:bs.getD i 0=e.born:=by
      rw[←j4,List.getD_eq_getElem?_getD,List.getElem?_map,List.getElem?_eq_getElem hi,hie]
      rfl
     have hEi:E.toList.getD i default=e:=by rw[List.getD_eq_getElem?_getD,List.getElem?_eq_getElem hi,hie];rfl
     have hs1:StRel B w0 G st w1:=by
      rcases hw1 with rfl | rfl
      ·exact hs
      ·exact hs.ext (below_drew w)
     have hh:w1.heap=w.heap:=by rcases hw1 with rfl | rfl<;>rfl
     have hk:=h5 i (by omega) (by rw[hb];exact hns)
     have hv:=j3.2 i (by omega)
     rw[hEi]at hv
     refine⟨_,_,_,G,_,hrun,G.le_refl,.tup _ _ rfl (fun i hi=>by
      match i,hi with
      | 0,_=>exact .bool _
      | 1,_=>exact hv.1
      | 2,_=>exact hv.2),?_,hk⟩
     unfold setBlock
     refine setObj_iter hs1 hit (fun cs e=>by cases e) hι (by rw[hh];exact k3) (fun a b c e=>by cases e) ⟨some c,?_,c,z,k4,rfl⟩
     have:b<w1.heap.size:=by rw[hh];exact lt_of_heap k3
     rw[hb]
     simp[this]
theorem entry_sound (hs:StRel B w0 G st w){v u:V}{x:Value}(hv:VRel G v x)(h:entryV st v=some u): ∃r,(Instr.entry x).run P w=.ok r w∧VRel G u r:=by
 unfold entryV at h
 split at h<;>try (cases h;done)
 rename_i it
 cases hv with
 | ptr _ _ b l m hι=>
   split at h<;>try (cases h;done)
   rename_i id since seen stp hit
   split at h<;>try (cases h;done)
   rename_i es bs clk hst
   split at h<;>try (cases h;done)
   rename_i hstp
   subst hstp
   obtain⟨y,h1,h⟩:=Option.bind_eq_some_iff.1 h
   obtain⟨i,h2,h⟩:=Option.bind_eq_some_iff.1 h
   obtain⟨e,h3,rfl⟩:=Option.map_eq_some_iff.1 h
   obtain⟨b',l',m',k1,k2,bo,k3,c,z,k4,k5⟩:=hs.obj it _ hit
   rw[hι]at k1
   cases k1
   subst k5
   obtain⟨c',l2,m2,E,j0,j1,j2,j3,j4,j5,j6⟩:=mpi_run hs (.map id c z.1 z.2 k4) hst
   cases j0
   have hi:i<es.length:=(List.getElem?_eq_some_iff.1 h3).1
   have hiE:i<E.toList.length:=by rw[j3.1];exact hi
   rw[List.findIdx?_eq_some_iff_getElem]at h2
   obtain⟨hib,hy,_⟩:=h2
   have hborn:(E.toList[i]).born=y:=by
    have e1:bs[i]? =some y:=by rw[List.getElem?_eq_getElem hib];exact congrArg some (by simpa using hy)
    rw[←j4,List.getElem?_map,List.getElem?_eq_getElem hiE]at e1
    simpa using e1
   have hseen:seen.toArray=(seen.dropLast.toArray).push (E.toList[i]).born:=by
    apply Array.ext'
    simp only[Array.toList_push]
    rw[hborn]
    obtain⟨ys,rfl⟩:=List.getLast?_eq_some_iff.1 h1
    simp
   rw[hseen]at k3
   have hnd:(E.toList.map (·.born)).Nodup:=by
    rw[j4]
    exact j5.imp (fun h e=>by omega)
   have hrun:=run_entry_at (P:=P) w b c since seen.dropLast.toArray E stp E.toList[i] k3 j2 (List.getElem_mem hiE) hnd
   have hvv:=j3.2 i hi
   have hEi:E.toList.getD i default=E.toList[i]:=by rw[List.getD_eq_getElem?_getD,List.getElem?_eq_getElem hiE];rfl
   have hei:es.getD i default=e:=by rw[List.getD_eq_getElem?_getD,h3];rfl
   rw[hEi,hei]at hvv
   exact⟨_,hrun,.tup _ _ rfl (fun i hi=>by
    match i,hi with
    | 0,_=>exact hvv.1
    | 1,_=>exact hvv.2)⟩
theorem rngStr_sound (hs:StRel B w0 G st w){t:TypeId}(ht:P.underlying t=some .string)(s:ByteArray):
  ∃x w' G',(Instr.range t (.string s)).run P w=.ok x w'∧st G.N=none∧G.le G'∧VRel G' (.ptr (some (G.N,0))) x∧StRel B w0 G' (st.upd G.N (.siter s 0)) w':=by
 obtain⟨g1,g2⟩:=hs.addObj (.stringIter s 0) (.siter s 0) 0 0 (heap_alloc_self _ _)
 refine⟨.pointer (some ⟨w.heap.size,0,none⟩),_,_,?_,g1,G.addObj_le _,.ptr _ _ _ _ _ (G.addObj_new _),g2⟩
 simp only[Instr.range,Sem.run_bind,run_underlying ht,Result.andThen_ok,Sem.run_pure,run_newObj_alloc]
theorem nextStr_sound (hs:StRel B w0 G st w){ty:TypeId}{v:V}{x:Value}{K:V→St→Prop}
  (h:match v with
    | .ptr (some (it,0))=>
      match st it with
      | some (.siter s pos)=>
        if pos<s.size then K (.tup [.bool true,.int .i64 pos,.int .i32 (Utf8.decode s pos).1]) (st.upd it (.siter s (pos+(Utf8.decode s pos).2)))else K (.tup [.bool false]) st
      | _=>False
    | _=>False) (hv:VRel G v x):
  ∃r u w' G' st',(Instr.next x true ty).run P w=.ok r w'∧G.le G'∧VRel G' u r∧StRel B w0 G' st' w'∧K u st':=by
 split at h<;>try exact h.elim
 rename_i it
 cases hv with
 | ptr _ _ b l m hι=>
   split at h<;>try exact h.elim
   rename_i s pos hit
   obtain⟨b',l',m',k1,k2,k3⟩:=hs.obj it _ hit
   rw[hι]at k1
   cases k1
   have k3':w.heap[b]? =some (.stringIter s pos):=k3
   have hlt:=lt_of_heap k3'
   split at h
   ·rename_i hp
    refine⟨_,_,_,G,_,?_,G.le_refl,.tup _ (#[.bool true,goInt pos,.int .i32 (Utf8.decode s pos).1]) rfl (fun i hi=>by
     match i,hi with
     | 0,_=>exact .bool _
     | 1,_=>exact .int _ _
     | 2,_=>exact .int _ _),setObj_iter (o':=.stringIter s (pos+(Utf8.decode s pos).2)) hs hit (fun cs e=>by cases e) hι k3' (fun a b c e=>by cases e) (by simp[ObjRel,hlt]),h⟩
    simp only[Instr.next,Sem.run_bind,run_getObj k3' (fun a b c e=>by cases e),Result.andThen_ok,if_pos hp,run_setObj k3' (fun a b c e=>by cases e),Sem.run_pure]
   ·rename_i hp
    refine⟨_,_,w,G,st,?_,G.le_refl,.tup _ (#[.bool false]) rfl (fun i hi=>by
     match i,hi with
     | 0,_=>exact .bool _),hs,h⟩
    simp only[Instr.next,Sem.run_bind,run_getObj k3' (fun a b c e=>by cases e),Result.andThen_ok,if_neg hp,Sem.run_pure]
end
end Go.Ab
namespace Go.Ab
open Go Go.RowKit
section
variable {P:Program} {G:Gh} {w:World}
def subEntry:Array Value→Sem Value:=fun args=>do
 let(x,y,b) ←Extern.MathBitsCarry.three "Sub64" args
 pure (Extern.MathBitsCarry.pair ((x+Extern.MathBitsCarry.m64-y-b) % Extern.MathBitsCarry.m64) (if x<y+b then 1 else 0))
theorem run_sub (x y b:Nat)(hb:b≤1):
  (subEntry #[.int .u64 x,.int .u64 y,.int .u64 b]).run P w=
    .ok (.tuple #[.int .u64 (((x+18446744073709551616-y-b) % 18446744073709551616:Nat):Int),.int .u64 ((if x<y+b then 1 else 0:Nat):Int)]) w:=by
 have:b=0∨b=1:=by omega
 rcases this with rfl | rfl<;>rfl
theorem find_name {fn:Func}{s:String}{e:Array Value→Sem Value}(hn:fn.name=s)(h1:Extern.allGenericRows.lookup s=none)(h2:Extern.allTypedRows.lookup s=none)(h3:Extern.allRows.lookup s=some e):Extern.find fn=some e:=by
 simp only[Extern.find,hn,h1,h2,h3]
 rfl
theorem extC_find {f:FuncId}{neg:Bool}(hx:extC P f=some neg): ∃fn,P.funcs[f]? =some fn∧(fn.name== "runtime.NumGoroutine")=false∧fn.body.isNone=true∧Extern.findNext fn=none∧Extern.find fn=some (if neg then subEntry else add64Entry):=by
 unfold extC at hx
 split at hx<;>try (cases hx;done)
 rename_i fn hf
 split at hx<;>try (cases hx;done)
 rename_i hb
 simp only[Bool.and_eq_true,Option.isNone_iff_eq_none]at hb
 split at hx
 ·rename_i h
  cases hx
  have hn:fn.name= "math/bits.Add64" :=by simpa using h
  exact⟨fn,hf,by rw[hn];rfl,by simp[hb.1],hb.2,find_name hn (by kernel_rfl) (by kernel_rfl) (by kernel_rfl)⟩
 ·split at hx<;>try (cases hx;done)
  rename_i h
  cases hx
  have hn:fn.name= "math/bits.Sub64" :=by simpa using h
  exact⟨fn,hf,by rw[hn];rfl,by simp[hb.1],hb.2,find_name hn (by kernel_rfl) (by kernel_rfl) (by kernel_rfl)⟩
theorem carry_run {f:FuncId}{neg:Bool}(hx:extC P f=some neg){l:List Value}{x y z v:V}(hl:LRel G [x,y,z] l)(h:carryV neg x y z=some v): ∃r,(callFunc f l.toArray).run P w=.ok (.value r) w∧VRel G v r:=by
 obtain⟨fn,h1,h2,h3,h4,h5⟩:=extC_find hx
 obtain⟨hlen,hv⟩:=hl
 match l,hlen with
 | [a,b,c],_=>
   have va:VRel G x a:=hv 0 (by simp)
   have vb:VRel G y b:=hv 1 (by simp)
   have vc:VRel G z c:=hv 2 (by simp)
   unfold carryV at h
   split at h<;>try (cases h;done)
   rename_i X Y C
   cases va;cases vb;cases vc
   split at h<;>try (cases h;done)
   rename_i hc
   obtain⟨e1,e2,e3,e4⟩:=hc
   obtain⟨X',rfl⟩:=Int.eq_ofNat_of_zero_le e1
   obtain⟨Y',rfl⟩:=Int.eq_ofNat_of_zero_le e2
   obtain⟨C',rfl⟩:=Int.eq_ofNat_of_zero_le e3
   rw[run_callFunc_extern h1 h2 h3 h4 h5]
   have pairR: ∀p q:Int,VRel G (.tup [.int .u64 p,.int .u64 q]) (.tuple #[.int .u64 p,.int .u64 q]):=fun p q=>.tup _ _ rfl fun i hi=>by
    match i,hi with
    | 0,_=>exact .int _ _
    | 1,_=>exact .int _ _
   cases neg with
   | false=>
     cases h
     simp only[Bool.false_eq_true,if_false]
     rw[run_add64 _ _ _ (by omega) (by omega) (by omega) (by omega)]
     exact⟨_,rfl,pairR _ _⟩
   | true=>
     cases h
     simp only[if_true]
     rw[run_sub X' Y' C' (by omega)]
     refine⟨_,rfl,?_⟩
     have:(if(X':Int)<Y'+C' then(1:Int)else 0)=((if X'<Y'+C' then 1 else 0:Nat):Int):=by
      split<;>split<;>first | rfl | omega
     simp only[Int.toNat_natCast]
     rw[this]
     exact pairR _ _
end
section
variable {P:Program} {B:Nat} {w0:World} {G:Gh} {st:St} {w:World} {n:Nat} {env:Env} {a:Act} {an:An}
theorem bind_some {α β:Type}{x:Option α}{f:α→Option β}{r:β}(h:(x>>= f)=some r): ∃y,x=some y∧f y=some r:=Option.bind_eq_some_iff.1 h
theorem Gives.of {v:V}{s:Sem Value}(h: ∃y w' G',s.run P w=.ok y w'∧G.le G'∧VRel G' v y∧StRel B w0 G' st w'):Gives P B w0 G st v ((do pure (Next.value (←s)):Sem Next).run P w):=by
 obtain⟨y,w',G',h1,h2,h3,h4⟩:=h
 exact⟨y,w',G',run_value h1,h2,h3,h4⟩
theorem Gives.of0 (hs:StRel B w0 G st w){v:V}{s:Sem Value}(h: ∃y,s.run P w=.ok y w∧VRel G v y):Gives P B w0 G st v ((do pure (Next.value (←s)):Sem Next).run P w):=by
 obtain⟨y,h1,h2⟩:=h
 exact⟨y,w,G,run_value h1,G.le_refl,h2,hs⟩
theorem opV_sound {o:Oper}{p:POp}(hc:compOp P n an o=some p)(he:EnvRel G n env a)(hs:StRel B w0 G st w){v:V}(hv:opV p env st=some v):
  Gives P B w0 G st v ((execOp a.eval o).run P w):=by
 obtain⟨dst,op,ty,pos,after,guard⟩:=o
 cases op with
 | move x=>
   obtain⟨y,h1,rfl⟩:=Option.map_eq_some_iff.1 hc
   cases hv
   exact Gives.now hs (ofX_rel he h1)
 | assign x=>
   obtain⟨y,h1,rfl⟩:=Option.map_eq_some_iff.1 hc
   cases hv
   exact Gives.now hs (ofX_rel he h1)
 | pick c x y=>
   obtain⟨c',h1,hc⟩:=bind_some hc
   obtain⟨x',h2,hc⟩:=bind_some hc
   obtain⟨y',h3,hc⟩:=bind_some hc
   cases hc
   have hr:=ofX_rel he h1
   simp only[opV]at hv
   split at hv<;>try (cases hv;done)
   rename_i t ht
   rw[ht]at hr
   cases hv
   have hce:a.eval c=.bool t:=by generalize a.eval c=z at hr;cases hr;rfl
   refine⟨if t then a.eval x else a.eval y,w,G,?_,G.le_refl,?_,hs⟩
   ·simp[execOp,hce,asBool]
   ·cases t
    ·exact ofX_rel he h3
    ·exact ofX_rel he h2
 | alloc e=>obtain⟨y,h1,rfl⟩:=Option.map_eq_some_iff.1 hc;cases hv
 | box e x=>obtain⟨y,h1,rfl⟩:=Option.map_eq_some_iff.1 hc;cases hv
 | build t ps=>
   obtain⟨z,h1,hc⟩:=bind_some hc
   split at hc
   ·rename_i fs hu
    split at hc<;>try (cases hc;done)
    rename_i hall
    obtain⟨q,h2,hc⟩:=bind_some hc
    cases hc
    simp only[opV]at hv
    obtain⟨cs,h3,rfl⟩:=Option.map_eq_some_iff.1 hv
    obtain⟨C,h4,h5⟩:=build_struct (w:=w) he h1 hu hall h2 h3
    exact Gives.ret hs h4 h5
   ·rename_i len e hu
    obtain⟨s,h0,hc⟩:=bind_some hc
    obtain⟨q,h2,hc⟩:=bind_some hc
    cases hc
    simp only[opV]at hv
    obtain⟨cs,h3,rfl⟩:=Option.map_eq_some_iff.1 hv
    obtain⟨C,h4,h5⟩:=build_array (w:=w) he h1 hu h0 h2 h3
    exact Gives.ret hs h4 h5
   ·cases hc
 | buildSlice t len ps=>
   simp only[compOp]at hc
   split at hc<;>try (cases hc;done)
   rename_i e hu
   obtain⟨s,h0,hc⟩:=bind_some hc
   obtain⟨z,h1,hc⟩:=bind_some hc
   split at hc<;>try (cases hc;done)
   rename_i hcond
   simp only[Bool.and_eq_true,decide_eq_true_eq]at hcond
   obtain⟨q,h2,hc⟩:=bind_some hc
   cases hc
   generalize hob:(dst.any fun x=>an.obj.contains x)=ob at hv
   cases ob with
   | true=>cases hv
   | false=>
     simp only[opV]at hv
     obtain⟨cs,h3,rfl⟩:=Option.map_eq_some_iff.1 hv
     exact Gives.of (bsl_rel hs he h1 hu h0 hcond.1.1 hcond.2 h2 h3)
 | load t x=>
   obtain⟨q,h1,hc⟩:=bind_some hc
   have key: ∀y,ofX n x=some y→(ldCells st q.2 (y.ev env)).bind (packV q.1)=some v→Gives P B w0 G st v ((execOp a.eval ⟨dst,.load t x,ty,pos,after,guard⟩).run P w):=fun y h2 hv=>
    Gives.of0 hs (load_sound hs h1 (ofX_rel he h2) hv)
   obtain⟨y,h2,hc⟩:=bind_some hc
   obtain rfl:=Option.some.inj hc
   split at hv
   ·refine key y h2 ?_
    obtain⟨cs,h3,h4⟩:=Option.bind_eq_some_iff.1 (show(ldE q.2 (y.ev env)).bind (packV q.1)=some v from hv)
    unfold ldE at h3
    split at h3<;>try (cases h3;done)
    rename_i l hl
    rw[hl]
    simp only[ldCells,h3,Option.bind_some,h4]
   ·exact key y h2 hv
 | store t x y=>
   obtain⟨q,h1,hc⟩:=bind_some hc
   obtain⟨y,h2,hc⟩:=bind_some hc
   obtain⟨y',h3,hc⟩:=bind_some hc
   cases hc
   cases hv
 | ready g=>cases hc
 | waits g=>cases hc
 | nilCheck x=>
   obtain⟨y,h1,rfl⟩:=Option.map_eq_some_iff.1 hc
   obtain⟨h2,h3⟩:=nilck_rel (P:=P) (w:=w) (a:=a) (ofX_rel he h1) hv
   exact⟨_,w,G,h3 _ x rfl rfl,G.le_refl,h2,hs⟩
 | binOp op t x y u=>
   obtain⟨x',hx1,hc⟩:=bind_some hc
   obtain⟨y',hy1,hc⟩:=bind_some hc
   have hx:=ofX_rel he hx1
   have hy:=ofX_rel he hy1
   have eqcase: ∀(neg:Bool) (e:EK),compEq P t=some (some e)→opV (.eqa e neg x' y') env st=some v→op=(if neg then .neq else .eql)→Gives P B w0 G st v ((execOp a.eval ⟨dst,.binOp op t x y u,ty,pos,after,guard⟩).run P w):=by
    intro neg e hce hv hop
    simp only[opV]at hv
    obtain⟨r,h3,rfl⟩:=Option.map_eq_some_iff.1 hv
    have hf:=compEq_fits hce
    have heq:=eqK_sound (P:=P) (w:=w) hf hx hy h3
    refine Gives.of0 hs ⟨.bool (if neg then !r else r),?_,.bool _⟩
    have hg:(eqGuard op t x y (a.eval x) (a.eval y)).run P w=.ok () w:=by
     cases e with
     | agg m=>
       have hg:=flat_guard hf.1 hf.2
       simp only[eqK]at h3
       generalize hxe:a.eval x=xv at hx
       generalize hye:a.eval y=yv at hy
       generalize X.ev env x'=xa at *
       generalize X.ev env y'=ya at *
       cases xa<;>cases ya<;>first | (cases h3;done) | skip
       obtain⟨xs,rfl,_⟩:=hx.agg_inv
       obtain⟨ys,rfl,_⟩:=hy.agg_inv
       exact run_eqGuard_agg w op t x y xs ys hg
     | _=>
       rw[eqGuard_ok]
       ·rfl
       ·intro xs e
        rw[e]at hx
        generalize X.ev env x'=xa at *
        cases hx<;>cases (X.ev env y')<;>first | (cases h3;done) | (simp only[eqK]at h3;cases h3;done)
       ·intro e
        rw[e]at hx
        generalize X.ev env x'=xa at *
        cases hx
        cases (X.ev env y')<;>first | (cases h3;done) | (simp only[eqK]at h3;cases h3;done)
    have hb:(binOp op t (a.eval x) (a.eval y)).run P w=.ok (.bool (if neg then !r else r)) w:=by
     subst hop
     generalize hxe:a.eval x=xv at *
     generalize hye:a.eval y=yv at *
     generalize X.ev env x'=xa at *
     generalize X.ev env y'=ya at *
     have key: ∀(o:BinOp),(o=.eql∨o=.neq)→binOp o t xv yv=(if o=.eql then(do pure (.bool (←Op.equal t xv yv)))else do pure (.bool (!(←Op.equal t xv yv)))):=by
      intro o ho
      cases e<;>cases hx<;>simp only[eqK]at h3<;>(try (cases h3;done))<;>cases hy<;>simp only[eqK]at h3<;>(try (cases h3;done))<;>rcases ho with rfl | rfl<;>rfl
     rw[key _ (by cases neg<;>simp)]
     cases neg<;>simp[heq]
    simp[hg,hb]
   have bincase:p=.bin op x' y'→Gives P B w0 G st v ((execOp a.eval ⟨dst,.binOp op t x y u,ty,pos,after,guard⟩).run P w):=by
    intro e
    subst e
    have hv':binV op (x'.ev env) (y'.ev env)=some v:=hv
    exact Gives.of0 hs (bin_sound hx hy hv' t x y)
   by_cases h1:op=.eql
   ·subst h1
    obtain⟨r,h3,hc⟩:=bind_some hc
    cases r with
    | none=>exact bincase (Option.some.inj hc).symm
    | some e=>cases hc;exact eqcase false e h3 hv rfl
   ·by_cases h2:op=.neq
    ·subst h2
     obtain⟨r,h3,hc⟩:=bind_some hc
     cases r with
     | none=>exact bincase (Option.some.inj hc).symm
     | some e=>cases hc;exact eqcase true e h3 hv rfl
    ·refine bincase ?_
     cases op<;>first
      | exact absurd rfl h1
      | exact absurd rfl h2
      | exact(Option.some.inj hc).symm
 | unOp op t x=>
   obtain⟨x',h1,hc⟩:=bind_some hc
   have hx:=ofX_rel he h1
   cases op<;>cases hc
   ·exact Gives.of0 hs (negV_rel hx hv)
   ·exact Gives.of0 hs (invV_rel hx hv)
   ·exact Gives.of0 hs (notV_rel hx hv)
 | convert s d x=>
   obtain⟨x',h1,hc⟩:=bind_some hc
   have hx:=ofX_rel he h1
   split at hc
   ·rename_i sd k h2 h3
    cases hc
    exact Gives.of0 hs (convV_rel hx hv h2 h3)
   ·rename_i h2 h3
    cases hc
    simp only[opV]at hv
    split at hv<;>cases hv
    rename_i q hq
    rw[hq]at hx
    refine Gives.of0 hs ⟨a.eval x,?_,hx⟩
    generalize a.eval x=z at hx
    cases hx
    simp[convert,run_underlying h2,run_underlying h3]
   ·rename_i e h2 h3
    split at hc<;>cases hc
    have h4':P.underlying e=some (.int .u8):=by assumption
    exact Gives.of0 hs (toStr_rel hs hx hv h2 h3 h4')
   ·rename_i e h2 h3
    split at hc<;>cases hc
    have h4':P.underlying e=some (.int .u8):=by assumption
    simp only[opV]at hv
    split at hv<;>cases hv
    rename_i q hq
    rw[hq]at hx
    have hxe:a.eval x=.string q:=by generalize a.eval x=z at hx;cases hx;rfl
    have:=toBytes_rel (P:=P) hs q h2 h3 h4'
    rw[←hxe]at this
    exact Gives.of this
   ·cases hc
 | sliceToArrayPointer d x=>cases hc
 | makeInterface t x=>cases hc
 | makeFunc fn first caps=>
   cases fn<;>simp only[compOp]at hc<;>try (cases hc;done)
   rename_i f
   split at hc<;>try (cases hc;done)
   rename_i hfirst
   obtain⟨q,h1,rfl⟩:=Option.map_eq_some_iff.1 hc
   cases hv
   have hl:=ofXs_rel he h1
   refine Gives.of0 hs ⟨.func (.func f) #[] (caps.map a.eval),?_,?_⟩
   ·have:first= #[]:=by simpa using hfirst
    simp[Instr.makeFunc,this]
   ·refine .func f _ _ (by have:=hl.1;simpa using this) (fun i hi=>?_)
    have:=hl.2 i hi
    rw[getD_toList]
    simpa using this
 | makeMap t r=>
   cases r<;>cases hc
   cases hv
 | makeChan t x=>cases hc
 | makeSlice t l c=>
   simp only[compOp]at hc
   split at hc<;>try (cases hc;done)
   obtain⟨i,h1,hc⟩:=bind_some hc
   obtain⟨z,h2,hc⟩:=bind_some hc
   split at hc<;>try (cases hc;done)
   obtain⟨l',h3,hc⟩:=bind_some hc
   obtain⟨c',h4,hc⟩:=bind_some hc
   cases hc
   cases hv
 | slice t x lo hi mx=>
   obtain⟨x',h1,hc⟩:=bind_some hc
   obtain⟨lo',h2,hc⟩:=bind_some hc
   obtain⟨hi',h3,hc⟩:=bind_some hc
   have hx:=ofX_rel he h1
   have hlo:=ofXo_rel he h2
   have hhi:=ofXo_rel he h3
   split at hc
   ·rename_i ht
    split at hc<;>cases hc
    rename_i hmx
    have hm:mx=none:=by cases mx with | none=>rfl | some q=>simp_all
    subst hm
    simp only[opV]at hv
    split at hv<;>try (cases hv;done)
    rename_i s hq
    rw[hq]at hx
    have hxe:a.eval x=.string s:=by generalize a.eval x=z at hx;cases hx;rfl
    have:=slStr_rel (P:=P) (w:=w) hlo hhi hv ht
    rw[←hxe]at this
    exact Gives.of0 hs this
   ·rename_i e ht
    obtain⟨s,h4,hc⟩:=bind_some hc
    obtain⟨mx',h5,hc⟩:=bind_some hc
    split at hc
    ·split at hc
     ·rename_i hmx
      cases hc
      have hm:mx=none:=by simpa using hmx
      subst hm
      exact Gives.of0 hs (slw_rel hs hx hlo hhi hv ht h4)
     ·cases hc
      exact Gives.of0 hs (chk3_rel hx hlo hhi (ofXo_rel he h5) hv ht h4)
    ·cases hc
     exact Gives.of0 hs (sl_rel hx hlo hhi (ofXo_rel he h5) hv ht h4)
   ·rename_i m e ht
    split at hc<;>try (cases hc;done)
    rename_i hmx
    have hm:mx=none:=by simpa using hmx
    subst hm
    obtain⟨s,h4,hc⟩:=bind_some hc
    cases hc
    exact Gives.of0 hs (slArr_rel hs hx hlo hhi hv ht h4)
   ·cases hc
 | fieldAddr t x i=>
   simp only[compOp]at hc
   split at hc<;>try (cases hc;done)
   rename_i fs ht
   split at hc<;>try (cases hc;done)
   rename_i f hf
   split at hc<;>try (cases hc;done)
   rename_i hsz
   obtain⟨x',h1,rfl⟩:=Option.map_eq_some_iff.1 hc
   obtain⟨b,o,h2,h3⟩:=fldA_rel (ofX_rel he h1) hv
   refine Gives.of0 hs ⟨_,?_,h3⟩
   have: ∃s,szOf P f.type=some s∧s≠0:=by
    cases hz:szOf P f.type with
    | none=>rw[hz]at hsz;cases hsz
    | some s=>rw[hz]at hsz;exact⟨s,rfl,by simpa using hsz⟩
   obtain⟨s,h4,h5⟩:=this
   simp[Instr.fieldAt,run_underlying ht,hf,h2,Instr.sureAddr,fieldPlace,run_sizeOf h4,h5,add_lit]
 | field t x i=>
   simp only[compOp]at hc
   split at hc<;>try (cases hc;done)
   rename_i fs ht
   split at hc<;>try (cases hc;done)
   rename_i f hf
   obtain⟨q,h1,hc⟩:=bind_some hc
   obtain⟨x',h2,hc⟩:=bind_some hc
   cases hc
   have hx:=ofX_rel he h2
   simp only[opV]at hv
   generalize X.ev env x'=xa at *
   cases xa<;>simp only[fldV]at hv<;>try (cases hv;done)
   obtain⟨C,r,h3,h4,h5⟩:=fld_sound (w:=w) hx h1 hv
   refine Gives.of0 hs ⟨r,?_,h5⟩
   simp[Instr.field,run_underlying ht,hf,h3,asAgg,h4]
 | indexAddr t x i=>
   obtain⟨x',h1,hc⟩:=bind_some hc
   obtain⟨i',h2,hc⟩:=bind_some hc
   have hx:=ofX_rel he h1
   have hi:=ofX_rel he h2
   split at hc
   ·rename_i m e ht
    obtain⟨s,h3,rfl⟩:=Option.map_eq_some_iff.1 hc
    exact Gives.of0 hs (idxArr_rel hx hi hv ht h3)
   ·rename_i e ht
    obtain⟨s,h3,rfl⟩:=Option.map_eq_some_iff.1 hc
    exact Gives.of0 hs (idxSl_rel hx hi hv ht h3)
   ·cases hc
 | index t x i=>
   obtain⟨x',h1,hc⟩:=bind_some hc
   obtain⟨i',h2,hc⟩:=bind_some hc
   have hx:=ofX_rel he h1
   have hi:=ofX_rel he h2
   split at hc
   ·rename_i m e ht
    obtain⟨s,h3,hc⟩:=bind_some hc
    obtain⟨ag,h4,hc⟩:=bind_some hc
    split at hc<;>cases hc
    rename_i hcond
    exact Gives.of0 hs (idx_rel hx hi hv ht h3 h4 (by simp_all))
   ·rename_i ht
    cases hc
    exact Gives.of0 hs (idxStr_rel hx hi hv ht)
   ·cases hc
 | lookup t m k ok=>
   simp only[compOp]at hc
   split at hc<;>try (cases hc;done)
   rename_i kt e ht
   obtain⟨kk,h1,hc⟩:=bind_some hc
   obtain⟨z,h2,hc⟩:=bind_some hc
   obtain⟨m',h3,hc⟩:=bind_some hc
   obtain⟨k',h4,hc⟩:=bind_some hc
   cases hc
   exact Gives.of0 hs (lookup_run hs ht (compKey_fits h1) h2 (ofX_rel he h3) (ofX_rel he h4) hv)
 | mapUpdate t m k x=>
   simp only[compOp]at hc
   split at hc<;>try (cases hc;done)
   obtain⟨kk,h1,hc⟩:=bind_some hc
   obtain⟨m',h3,hc⟩:=bind_some hc
   obtain⟨k',h4,hc⟩:=bind_some hc
   obtain⟨v',h5,hc⟩:=bind_some hc
   cases hc
   cases hv
 | insert t m k x=>
   simp only[compOp]at hc
   split at hc<;>try (cases hc;done)
   obtain⟨kk,h1,hc⟩:=bind_some hc
   obtain⟨m',h3,hc⟩:=bind_some hc
   obtain⟨k',h4,hc⟩:=bind_some hc
   obtain⟨v',h5,hc⟩:=bind_some hc
   cases hc
   cases hv
 | mapEntry t m k=>
   simp only[compOp]at hc
   split at hc<;>try (cases hc;done)
   obtain⟨kk,h1,hc⟩:=bind_some hc
   obtain⟨z,h2,hc⟩:=bind_some hc
   obtain⟨m',h3,hc⟩:=bind_some hc
   obtain⟨k',h4,hc⟩:=bind_some hc
   cases hc
   cases hv
 | entryStore t m k x=>
   simp only[compOp]at hc
   obtain⟨m',h3,hc⟩:=bind_some hc
   obtain⟨k',h4,hc⟩:=bind_some hc
   obtain⟨v',h5,hc⟩:=bind_some hc
   cases hc
   cases hv
 | range t x=>
   simp only[compOp]at hc
   split at hc<;>try (cases hc;done)
   ·obtain⟨y,h1,rfl⟩:=Option.map_eq_some_iff.1 hc;cases hv
   ·obtain⟨y,h1,rfl⟩:=Option.map_eq_some_iff.1 hc;cases hv
 | next it s=>
   obtain⟨y,h1,rfl⟩:=Option.map_eq_some_iff.1 hc
   cases s<;>cases hv
 | entry it=>
   obtain⟨y,h1,rfl⟩:=Option.map_eq_some_iff.1 hc
   exact Gives.of0 hs (entry_sound hs (ofX_rel he h1) hv)
 | typeAssert x t u ok=>cases hc
 | extract x i=>
   obtain⟨x',h1,rfl⟩:=Option.map_eq_some_iff.1 hc
   exact Gives.of0 hs (ext_rel (ofX_rel he h1) hv)
 | call c=>
   obtain⟨callee,args,tys⟩:=c
   simp only[compOp]at hc
   split at hc
   ·split at hc
    ·obtain⟨q,h1,rfl⟩:=Option.map_eq_some_iff.1 hc
     cases hv
    ·split at hc<;>try (cases hc;done)
     rename_i neg hx
     obtain⟨q,h1,hc⟩:=Option.bind_eq_some_iff.1 hc
     split at hc<;>try (cases hc;done)
     cases hc
     obtain⟨r,e1,e2⟩:=carry_run (w:=w) hx (ofXs_rel he h1) hv
     refine⟨r,w,G,?_,G.le_refl,e2,hs⟩
     have:args.map a.eval=(args.toList.map a.eval).toArray:=by
      apply Array.ext'
      simp
     simp only[execOp,resolve,Sem.run_bind,Act.eval,Deferred.ofValue,Sem.run_pure,Result.andThen_ok,invoke,Array.empty_append,Array.append_empty]
     rw[←e1,←this]
   ·obtain⟨q,h1,hc⟩:=bind_some hc
    obtain⟨q2,h2,hc⟩:=bind_some hc
    cases hc
    cases hv
   ·rename_i b
    obtain⟨p0,hc1,hz⟩:=Option.map_eq_some_iff.1 hc
    have hv0:opV p0 env st=some v:=by
     cases p0<;>first
      | (rw[←hz]at hv;exact hv)
      | (rw[←hz]at hv;unfold POp.turnZ at hv;simp only at hv;split at hv<;>(try split at hv)<;>cases hv)
    clear hv hz hc
    have hc:=hc1
    have hv:=hv0
    clear hc1 hv0
    generalize p0=p at hc hv
    obtain⟨xs,h1,hc⟩:=Option.bind_eq_some_iff.1 hc
    have hl:=ofXs_rel he h1
    have hrun: ∀(s:Sem Value),(∀cs,builtin b tys ty cs (args.map a.eval)=(do pure (Next.value (←s))))→Gives P B w0 G st v ((do pure (Next.value (←s)):Sem Next).run P w)→Gives P B w0 G st v ((execOp a.eval ⟨dst,.call ⟨.builtin b,args,tys⟩,ty,pos,after,guard⟩).run P w):=by
     intro s e h
     show Gives P B w0 G st v ((builtin b tys ty _ (args.map a.eval)).run P w)
     rw[e]
     exact h
    have htys:tys=tys.toList.toArray:=(Array.toArray_toList).symm
    have hargs:args.map a.eval=(args.toList.map a.eval).toArray:=by
     apply Array.ext'
     simp
    have hc0:=hc
    unfold compBuiltin at hc
    split at hc
    ·--len
     rename_i t xx hts _
     have hx: ∃o,args.toList=[o]:=by
      have hlen:=hl.1
      simp only[List.length_map,List.length_cons,List.length_nil]at hlen
      generalize args.toList=al at hlen
      match al,hlen with
      | [o],_=>exact⟨o,rfl⟩
     obtain⟨o,ho⟩:=hx
     rw[ho]at hl hargs
     refine hrun (Builtin.len_ #[t] ty #[a.eval o]) (fun cs=>by simp only[builtin];rw[hargs,htys,hts];rfl) (Gives.of0 hs ?_)
     rw[hts]at hc0
     exact len_rel hs hl.head hc0 rfl hv ty
    ·--max
     rename_i x l
     cases hc
     simp only[opV]at hv
     obtain⟨z,zs,hzs,h3,h4⟩:=hl.cons_inv
     obtain⟨q,h5,h6⟩:=foldV_rel (P:=P) (w:=w) max2V Builtin.max2 max2_rel h3 h4 hv
     refine hrun (Builtin.max_ tys ty (args.map a.eval)) (fun cs=>rfl) (Gives.of0 hs ⟨q,?_,h6⟩)
     rw[hargs,hzs]
     exact h5
    ·--min
     rename_i x l
     cases hc
     simp only[opV]at hv
     obtain⟨z,zs,hzs,h3,h4⟩:=hl.cons_inv
     obtain⟨q,h5,h6⟩:=foldV_rel (P:=P) (w:=w) min2V Builtin.min2 min2_rel h3 h4 hv
     refine hrun (Builtin.min_ tys ty (args.map a.eval)) (fun cs=>rfl) (Gives.of0 hs ⟨q,?_,h6⟩)
     rw[hargs,hzs]
     exact h5
    ·--append
     have: ∃a b c d,p=.app a b c d:=by
      unfold compAppend at hc
      (repeat' split at hc)<;>first
        | (cases hc;done)
        | exact⟨_,_,_,_,(Option.some.inj hc).symm⟩
     obtain⟨_,_,_,_,rfl⟩:=this
     cases hv
    ·--clear
     exfalso
     split at hc<;>try (cases hc;done)
     split at hc<;>try (cases hc;done)
     cases hc
     cases hv
    ·--delete
     exfalso
     split at hc<;>try (cases hc;done)
     obtain⟨kk,h2,rfl⟩:=Option.map_eq_some_iff.1 hc
     cases hv
    ·cases hc
   ·cases hc
 | go c=>cases hc
 | defer c=>cases hc
 | panic x=>cases hc
 | send ch x=>cases hc
 | recv t ch ok=>cases hc
 | select cs b=>cases hc
end
section
variable {P:Program} {B:Nat} {w0:World} {G:Gh} {st:St} {w:World} {n:Nat} {env:Env} {a:Act} {an:An}
theorem StRel.splice (h:StRel B w0 G st w){id b l m o:Nat}{cs vs:List V}{xs:List Value}{C:Array Value}{T:TypeId}(hid:st id=some (.cells cs))(hι:G.ι id=some (b,l,m))(hb:w.heap[b]? =some (.cells C T (0,0)))
  (hv:CRel G vs xs) (ho:o+vs.length≤cs.length):
  StRel B w0 G (st.upd id (.cells (spliceV cs o vs))) (w.setRow b (C.toList.take o++xs++C.toList.drop (o+xs.length)).toArray):=by
 obtain⟨b',l',m',k1,k2,C',T',k3,k4,k5,k6,k7,k8⟩:=h.obj id _ hid
 rw[hι]at k1
 cases k1
 rw[hb]at k3
 cases k3
 have hlen:=hv.length
 have hrow:=setRow_heap w b C (C.toList.take o++xs++C.toList.drop (o+xs.length)).toArray T (0,0) hb
 refine h.setObj hid (fun cs e=>by cases e) hι rfl rfl rfl ?_ (fun k hk=>setRow_other w b k _ hk) k8 ⟨_,T,hrow,?_,?_,k6,?_,k8⟩
 ·simp[World.setRow]
 ·simp;omega
 ·rw[length_spliceV ho];exact k5
 ·have hC:CRel G cs (C.toList.take l):=CRel.mk (by simp;omega) (fun i hi=>by rw[getD_take _ _ _ _ (by omega),←getD_toList];exact(k7 i hi).1)
    (fun i hi=>by rw[getD_take _ _ _ _ (by omega),←getD_toList];exact(k7 i hi).2)
  have hsp:=hC.splice hv o
  intro i hi
  rw[length_spliceV ho]at hi
  have h1:=hsp.val i (by rw[length_spliceV ho];exact hi)
  have h2:=hsp.one i (by rw[length_spliceV ho];exact hi)
  have e:(spliceX (C.toList.take l) o xs).getD i undef=(C.toList.take o++xs++C.toList.drop (o+xs.length)).toArray.getD i undef:=by
   rw[getD_toList]
   simp only[spliceX,List.getD_eq_getElem?_getD,List.getElem?_append,List.getElem?_take,List.getElem?_drop,List.length_append,List.length_take,Array.length_toList]
   congr 1
   have:min o (min l C.size)=min o C.size:=by omega
   simp only[this]
   split
   ·split
    ·split
     ·rw[if_pos (by omega)]
     ·rfl
    ·rfl
   ·rw[if_pos (by omega)]
  rw[e]at h1 h2
  exact⟨h1,h2⟩
theorem setRow_other' (w:World)(g k:Nat)(cs:Array Value)(h:k≠g):(w.setRow g cs).heap[k]? =w.heap[k]?:=setRow_other w g k cs h
theorem store_sound (hs:StRel B w0 G st w){t:TypeId}{sz:Nat}(hsz:szOf P t=some sz){u v:V}{x y:Value}(hu:VRel G u x)(hv:VRel G v y){st':St}(h:storeS st sz u v=some st'):
  ∃w',(Instr.storeAt t x y).run P w=.ok () w'∧StRel B w0 G st' w':=by
 cases hu<;>simp only[storeS]at h<;>try (cases h;done)
 rename_i id o b l m hι
 split at h<;>try (cases h;done)
 rename_i cs hst
 split at h<;>try (cases h;done)
 rename_i vs hvs
 split at h<;>cases h
 rename_i hb
 obtain⟨b',l',m',k1,k2,C,T,k3,k4,k5,k6,k7,k8⟩:=hs.obj id _ hst
 rw[hι]at k1
 cases k1
 have hc:=hv.cells hvs
 have hlen:y.cells.toList.length=sz:=by rw[hc.length,hb.1]
 refine⟨_,?_,hs.splice hst hι k3 hc (by omega)⟩
 have hrun:=run_storeCells_at P b o T y.cells.toList 0 C w k3 (by omega) hc.2
 simp only[Nat.add_zero]at hrun
 simp only[Instr.storeAt,Instr.sureAddr,Sem.run_bind,Sem.run_pure,Result.andThen_ok,storeVar,run_sizeOf hsz]
 rw[if_neg (by simpa using hlen)]
 exact hrun
theorem StRel.newCells (h:StRel B w0 G st w){cs:List V}{xs ys:List Value}(hc:CRel G cs xs)(T:TypeId):
  st G.N=none∧StRel B w0 (G.addObj (w.heap.size,cs.length,xs.length+ys.length)) (st.upd G.N (.cells cs)) (w.alloc (.cells (xs++ys).toArray T)):=by
 have hle:=G.addObj_le (w.heap.size,cs.length,xs.length+ys.length)
 refine h.addObj (.cells (xs++ys).toArray T) (.cells cs) cs.length (xs.length+ys.length) ⟨(xs++ys).toArray,T,heap_alloc_self _ _,by simp,rfl,by have:=hc.length;omega,fun i hi=>?_,fun o=>h.pm_lt (Nat.le_refl _) o⟩
 have hlen:=hc.length
 have e:(xs++ys).toArray.getD i undef=xs.getD i undef:=by
  rw[getD_toList]
  simp only[List.getD_eq_getElem?_getD,List.getElem?_append_left (show i<xs.length by omega)]
 rw[e]
 exact⟨(hc.val i hi).mono hle,hc.one i hi⟩
theorem alloc_sound (hs:StRel B w0 G st w){e:TypeId}{zs:List V}(hz:zeroOf P e=some zs):
  ∃x w' G',(Instr.alloc e true (.tuple #[])).run P w=.ok x w'∧st G.N=none∧G.le G'∧VRel G' (.ptr (some (G.N,0))) x∧StRel B w0 G' (st.upd G.N (.cells zs)) w':=by
 obtain⟨i,z,h1,h2,h3⟩:=zeroOf_rel (G:=G) hz
 obtain⟨g1,g2⟩:=hs.newCells (ys:=[]) h3 e
 simp only[List.append_nil,Array.toArray_toList,List.length_nil,Nat.add_zero]at g2
 refine⟨.pointer (some ⟨w.heap.size,0,none⟩),_,_,?_,g1,G.addObj_le _,.ptr _ _ _ _ _ (G.addObj_new _),g2⟩
 simp only[Instr.alloc,Sem.run_bind,run_zeroValue h1 h2,Result.andThen_ok,newVar,newRow,run_newObj_alloc,Sem.run_pure]
theorem box_sound (hs:StRel B w0 G st w){e:TypeId}{v:V}{y:Value}(hv:VRel G v y){cs:List V}(hc:v.cells? =some cs):
  ∃x w' G',(Instr.box e y).run P w=.ok x w'∧st G.N=none∧G.le G'∧VRel G' (.ptr (some (G.N,0))) x∧StRel B w0 G' (st.upd G.N (.cells cs)) w':=by
 obtain⟨g1,g2⟩:=hs.newCells (ys:=[]) (hv.cells hc) e
 simp only[List.append_nil,Array.toArray_toList,List.length_nil,Nat.add_zero]at g2
 refine⟨.pointer (some ⟨w.heap.size,0,none⟩),_,_,?_,g1,G.addObj_le _,.ptr _ _ _ _ _ (G.addObj_new _),g2⟩
 simp only[Instr.box,Sem.run_bind,newVar,newRow,run_newObj_alloc,Result.andThen_ok,Sem.run_pure]
theorem mkmap_sound (hs:StRel B w0 G st w)(t:TypeId):
  ∃x w' G',(Instr.makeMap t none).run P w=.ok x w'∧st G.N=none∧G.le G'∧VRel G' (.map (some G.N)) x∧StRel B w0 G' (st.upd G.N (.mp [])) w':=by
 obtain⟨g1,g2⟩:=hs.addObj (.map #[] 0) (.mp []) 0 0 ⟨#[],0,heap_alloc_self _ _,rfl,fun i hi=>absurd hi (Nat.not_lt_zero _),by simp,by simp⟩
 refine⟨.map (some w.heap.size),_,_,?_,g1,G.addObj_le _,.map _ _ _ _ (G.addObj_new _),g2⟩
 simp[Instr.makeMap]
theorem bslo_sound (hs:StRel B w0 G st w)(he:EnvRel G n env a){t e:TypeId}{len s:Nat}{zs cs:List V}{ops:Array (Nat×Operand)}{ps:List (Nat×Nat×X)}(hz:zeroOf P e=some zs)(hu:P.underlying t=some (.slice e))
  (hsz:szOf P e=some s) (hzl:zs.length=s) (hbig:len*s≤16777216) (hp:parts1 n (fun i=>some (i*s,s)) ops.toList=some ps)
  (hf:fillV (repV zs len) (ps.map fun p=>(p.1,p.2.1,p.2.2.ev env))=some cs):
  ∃x w' G',(Instr.buildSlice t len (ops.map fun(i,x)=>(i,a.eval x))).run P w=.ok x w'∧st G.N=none∧G.le G'∧VRel G' (.hsl G.N 0 s len) x∧StRel B w0 G' (st.upd G.N (.cells cs)) w':=by
 obtain⟨C,h1,h2⟩:=buildSlice_run (w:=w) he hz hu hsz hzl hbig hp hf
 obtain⟨g1,g2⟩:=hs.newCells (ys:=[]) h2 e
 simp only[List.append_nil,Array.toArray_toList,List.length_nil,Nat.add_zero]at g2
 have hfl:cs.length=len*s:=by
  have key: ∀(l:List (Nat×Nat×V)) (c c':List V),fillV c l=some c'→c'.length=c.length:=by
   intro l
   induction l with
   | nil=>intro c c' h;cases h;rfl
   | cons q l ih=>
     intro c c' h
     obtain⟨off,sz,v⟩:=q
     simp only[fillV]at h
     split at h<;>try (cases h;done)
     split at h<;>try (cases h;done)
     rename_i vs hvs hb
     rw[ih _ _ h,length_spliceV (by omega)]
  rw[key _ _ _ hf,length_repV,hzl]
 refine⟨_,_,_,h1,g1,G.addObj_le _,.hsl _ 0 s len _ _ _ len 0 (G.addObj_new _) (Nat.le_refl _) ?_ ?_ (fun _=>rfl),g2⟩
 ·have:=h2.length
  omega
 ·omega
theorem StRel.free (h:StRel B w0 G st w){b:Nat}(hB:B≤b)(hno: ∀id x,st id≠none→G.ι id≠some (b,x))(hpm: ∀o,G.pm b o=none){w':World}
  (hos:w'.os=w.os) (htape:w'.tape=w.tape) (hout:w'.output=w.output) (hsz:w'.heap.size=w.heap.size) (hk: ∀k,k≠b→w'.heap[k]? =w.heap[k]?):StRel B w0 G st w':=by
 refine⟨⟨hos.trans h.below.os,htape.trans h.below.tape,hout.trans h.below.output,by rw[hsz];exact h.below.size,fun k hkB=>(hk k (by omega)).trans (h.below.block k hkB)⟩,
  by rw[hsz];exact h.size,fun id b x e=>by rw[hsz];exact h.lt id b x e,fun c o v e=>?_,fun i o e=>?_,h.inj⟩
 ·have hc:c≠b:=fun e'=>by
    rw[e',hpm o]at e
    cases e
  have:=h.pm c o v e
  rw[←this]
  exact World.cell?_of_block (w:=w) (a:=⟨c,o,none⟩) (hk c hc)
 ·obtain⟨c,l,m,j1,j2,j3⟩:=h.obj i o e
  refine⟨c,l,m,j1,j2,j3.congr fun _=>hk c fun ec=>?_⟩
  exact hno i (l,m) (by rw[e];simp) (by rw[j1,ec])
theorem StRel.addAt (h:StRel B w0 G st w){b l m:Nat}{ob:AObj}(hB:B≤b)(hlt:b<w.heap.size)(hno: ∀id x,st id≠none→G.ι id≠some (b,x))(hob:ObjRel (G.addObj (b,l,m)) w b l m ob):
  st G.N=none∧StRel B w0 (G.addObj (b,l,m)) (st.upd G.N ob) w:=by
 have hN:st G.N=none:=h.dom (G.fresh _ (Nat.le_refl _))
 have hle:=G.addObj_le (b,l,m)
 refine⟨hN,h.below,h.size,fun id c x e=>?_,h.pm,fun id ob' e=>?_,fun id id' c x x' h1 h2 e1 e2=>?_⟩
 ·by_cases hid:id=G.N
  ·rw[hid,G.addObj_new]at e
   cases e
   exact hlt
  ·rw[G.addObj_old _ hid]at e
   exact h.lt id c x e
 ·by_cases hid:id=G.N
  ·rw[hid,St.upd_same]at e
   cases e
   exact⟨b,l,m,by rw[hid];exact G.addObj_new _,hB,hob⟩
  ·rw[St.upd_other _ _ hid]at e
   obtain⟨c,l',m',k1,k2,k3⟩:=h.obj id ob' e
   exact⟨c,l',m',hle.ι _ _ k1,k2,k3.mono hle (fun _ e=>e)⟩
 ·have key: ∀id x,(st.upd G.N ob) id≠none→(G.addObj (b,l,m)).ι id=some (c,x)→(id=G.N∧c=b)∨(id≠G.N∧st id≠none∧G.ι id=some (c,x)∧c≠b):=by
    intro id x h1 e1
    by_cases hid:id=G.N
    ·left
     refine⟨hid,?_⟩
     rw[hid,G.addObj_new]at e1
     cases e1
     rfl
    ·right
     rw[G.addObj_old _ hid]at e1
     rw[St.upd_other _ _ hid]at h1
     exact⟨hid,h1,e1,fun ec=>hno id x h1 (by rw[e1,ec])⟩
  rcases key id x h1 e1 with⟨k1,k2⟩ | ⟨k1,k2,k3,k4⟩<;>rcases key id' x' h2 e2 with⟨j1,j2⟩ | ⟨j1,j2,j3,j4⟩
  ·rw[k1,j1]
  ·exact absurd k2 j4
  ·exact absurd j2 k4
  ·exact h.inj id id' c x x' k2 j2 k3 j3
theorem St.del_ne {s:St}{id i:Nat}(h:(s.del id) i≠none):i≠id∧s i≠none:=by
 unfold St.del at h
 by_cases e:i=id
 ·rw[if_pos e]at h;exact absurd rfl h
 ·rw[if_neg e]at h;exact⟨e,h⟩
theorem append_grow {x y:Value}{t u ty e:TypeId}{i:TypeInfo}{z:Value}{ao:Option Addr}{sLen sCap m:Nat}{olds news:List Value}(hx:x=.slice ao sLen sCap)(ht:P.underlying t=some (.slice e))
  (hu:(∃e',P.underlying u=some (.slice e'))∨P.underlying u=some .string) (hi:P.info? e=some i) (hz:i.zero=some z) (hlen:(Builtin.lenOf y).run P w=.ok m w)
  (holds:(Builtin.firstCells i.size sLen x).run P w.drew=.ok olds.toArray w.drew) (hnews:(Builtin.firstCells i.size m y).run P w.drew=.ok news.toArray w.drew)
  (hg:sCap<sLen+m) (hb:0<i.bytes) (hfit:(sLen+m)*i.bytes≤140737488355328):
  (Builtin.append_ #[t,u] ty #[x,y]).run P w=.ok (.slice (some ⟨w.heap.size,0,none⟩) (sLen+m) (grownCap w (sLen+m) sCap e))
    (w.drew.alloc (.cells (olds++(news++(Builtin.zeroCells z.cells (grownCap w (sLen+m) sCap e-(sLen+m))).toList)).toArray e)):=by
 subst hx
 have h63:(sLen+m)≤140737488355328:=Nat.le_trans (Nat.le_mul_of_pos_right _ hb) hfit
 have hn:¬(sLen+m≤sCap):=by omega
 have h63':¬(9223372036854775807< ((sLen:Int)+(m:Int))):=by omega
 have h48':¬(281474976710656<Builtin.nextslicecap (sLen+m) sCap*i.bytes):=by have:=growslice_fits hg hfit;omega
 have fin: ∀c:Nat,olds.toArray++news.toArray++Builtin.zeroCells z.cells (c-(sLen+m))=(olds++(news++(Builtin.zeroCells z.cells (c-(sLen+m))).toList)).toArray:=fun c=>by
  apply Array.ext'
  simp
 have fin2:=fin (grownCap w (sLen+m) sCap e)
 rcases hu with⟨e',hu⟩ | hu<;>
 ·simp[Builtin.append_,run_underlying ht,run_underlying hu,sizeOf,typeInfo,zeroValue,hi,hz,hlen,hn,h63',h48',Question.forced,holds,hnews,newRow]
  rw[←fin2]
  unfold grownCap
  simp
  congr 2
  apply Array.ext'
  simp
theorem append_room {x y:Value}{t u ty e:TypeId}{i:TypeInfo}{ao:Option Addr}{sLen sCap m:Nat}{news:List Value}(hx:x=.slice ao sLen sCap)(ht:P.underlying t=some (.slice e))
  (hu:(∃e',P.underlying u=some (.slice e'))∨P.underlying u=some .string) (hi:P.info? e=some i) (hlen:(Builtin.lenOf y).run P w=.ok m w)
  (hnews:(Builtin.firstCells i.size m y).run P w=.ok news.toArray w) (hg:sLen+m≤sCap) {w':World}
  (hst:match ao with | some a=>(storeCells (a.add (sLen*i.size)) news).run P w=.ok () w' | none=>w'=w):
  (Builtin.append_ #[t,u] ty #[x,y]).run P w=.ok (.slice ao (sLen+m) sCap) w':=by
 subst hx
 rcases hu with⟨e',hu⟩ | hu<;>
 ·cases ao with
  | none=>
    subst hst
    simp[Builtin.append_,run_underlying ht,run_underlying hu,sizeOf,typeInfo,hi,hlen,hg,hnews]
  | some ad=>
    simp only at hst
    simp[Builtin.append_,run_underlying ht,run_underlying hu,sizeOf,typeInfo,hi,hlen,hg,hnews,hst]
theorem compAppend_some {t u:TypeId}{x y:X}{p:POp}(h:compAppend P t u x y=some p): ∃e i z,P.underlying t=some (.slice e)∧((∃e',P.underlying u=some (.slice e'))∨P.underlying u=some .string)∧
  P.info? e=some i∧i.zero=some z∧z.cells.size=i.size∧0<i.size∧0<i.bytes∧p=.app i.size i.bytes x y:=by
 unfold compAppend at h
 split at h
 ·rename_i e e' h1 h2
  split at h<;>try (cases h;done)
  rename_i i i' h3 h4
  split at h<;>cases h
  rename_i hc
  simp only[Bool.and_eq_true,decide_eq_true_eq]at hc
  obtain⟨⟨⟨⟨c1,c2⟩,c3⟩,c4⟩,c5⟩:=hc
  obtain⟨z,h5,h6⟩:=Option.map_eq_some_iff.1 c4
  exact⟨e,i,z,h1,.inl ⟨_,h2⟩,h3,h5,h6,c1,c2,rfl⟩
 ·rename_i e h1 h2
  split at h<;>try (cases h;done)
  rename_i i h3
  split at h<;>cases h
  rename_i hc
  simp only[Bool.and_eq_true,decide_eq_true_eq]at hc
  obtain⟨⟨⟨c1,c2⟩,c3⟩,c4⟩:=hc
  obtain⟨z,h5,h6⟩:=Option.map_eq_some_iff.1 c3
  exact⟨e,i,z,h1,.inr h2,h3,h5,by rw[h6,c1],by omega,c2,rfl⟩
 ·cases h
set_option maxHeartbeats 4000000 in
theorem app_sound (hs:StRel B w0 G st w){t u ty e:TypeId}{i:TypeInfo}{z:Value}(ht:P.underlying t=some (.slice e))(hu:(∃e',P.underlying u=some (.slice e'))∨P.underlying u=some .string)(hi:P.info? e=some i)(hz:i.zero=some z)(hzs:z.cells.size=i.size)
  (hsz:0<i.size) (hby:0<i.bytes) {v1 v2:V} {x y:Value} (h2:VRel G v2 y) {ys:List V} {m:Nat} (hy:elems st i.size v2=some (ys,m)) {K:V→St→Prop}
  (hK:match v1 with
    | .sl k cs n=>
      (k=.nil∨k=.full)∧cs.length=n*i.size∧(n+m)*i.bytes≤140737488355328∧
      (m=0→K (.sl k cs n) st)∧(m≠0→∀id,st id=none→K (.hsl id 0 i.size (n+m)) (st.upd id (.cells (cs++ys))))
    | .hsl id off sz' n=>
      match st id with
      | some (.cells cs)=>
        sz'=i.size∧(n+m)*i.bytes≤140737488355328∧
        if off+(n+m)*i.size≤cs.length then K (.hsl id off i.size (n+m)) (st.upd id (.cells (spliceV cs (off+n*i.size) ys)))
        else off=0∧cs.length=n*i.size∧∀id',(st.del id) id'=none→K (.hsl id' 0 i.size (n+m)) ((st.del id).upd id' (.cells (cs++ys)))
      | _=>False
    | _=>False) (h1:VRel G v1 x):
  ∃r v w' G' st',(Builtin.append_ #[t,u] ty #[x,y]).run P w=.ok r w'∧G.le G'∧VRel G' v r∧StRel B w0 G' st' w'∧K v st':=by
 obtain⟨l1,l2,ny,l3,l4⟩:=elems_rel (P:=P) hs h2 hy
 have hsd:=hs.ext (below_drew w)
 obtain⟨_,_,nyd,d3,d4⟩:=elems_rel (P:=P) hsd h2 hy
 have grow: ∀(st2:St) (cs:List V) (nn sCap:Nat) (ao:Option Addr) (olds:List Value),StRel B w0 G st2 w→x=.slice ao nn sCap→CRel G cs olds→cs.length=nn*i.size→(Builtin.firstCells i.size nn x).run P w.drew=.ok olds.toArray w.drew→sCap<nn+m→(nn+m)*i.bytes≤140737488355328→
   (∀id,st2 id=none→K (.hsl id 0 i.size (nn+m)) (st2.upd id (.cells (cs++ys))))→∃r v w' G' st',(Builtin.append_ #[t,u] ty #[x,y]).run P w=.ok r w'∧G.le G'∧VRel G' v r∧StRel B w0 G' st' w'∧K v st':=by
  intro st2 cs nn sCap ao olds hs2 hx hcs hcl hold hg hfit hk
  have hrun:=append_grow (ty:=ty) hx ht hu hi hz l1 hold d4 hg hby hfit
  have hs2d:=hs2.ext (below_drew w)
  have hcat:CRel G (cs++ys) (olds++nyd):=hcs.append d3
  obtain⟨g1,g2⟩:=hs2d.newCells (ys:=(Builtin.zeroCells z.cells (grownCap w (nn+m) sCap e-(nn+m))).toList) hcat e
  have hge:=grownCap_ge w (nn+m) sCap e
  have e1:(olds++nyd++(Builtin.zeroCells z.cells (grownCap w (nn+m) sCap e-(nn+m))).toList)=olds++(nyd++(Builtin.zeroCells z.cells (grownCap w (nn+m) sCap e-(nn+m))).toList):=by rw[List.append_assoc]
  rw[e1]at g2
  have hsize:(olds++nyd).length+(Builtin.zeroCells z.cells (grownCap w (nn+m) sCap e-(nn+m))).toList.length=grownCap w (nn+m) sCap e*i.size:=by
   have q1:=hcs.length
   have q2:=d3.length
   have q3:(Builtin.zeroCells z.cells (grownCap w (nn+m) sCap e-(nn+m))).toList.length=(grownCap w (nn+m) sCap e-(nn+m))*i.size:=by rw[Array.length_toList,size_zeroCells,hzs]
   rw[List.length_append,q3,q1,hcl,q2,l2,←Nat.add_mul,←Nat.add_mul]
   congr 1
   omega
  have hlen:(cs++ys).length=(nn+m)*i.size:=by rw[List.length_append,hcl,l2,Nat.add_mul]
  refine⟨_,_,_,_,_,hrun,G.addObj_le _,.hsl G.N 0 i.size (nn+m) w.heap.size (cs++ys).length _ _ 0 (G.addObj_new _) hge (by rw[hsize];omega) ?_ (fun _=>rfl),g2,hk _ g1⟩
  rw[hlen,Nat.zero_add]
  exact Nat.mul_le_mul_right _ hge
 cases v1 with
 | sl k cs nn=>
   obtain⟨hk,hcl,hfit,hk0,hk1⟩:=hK
   obtain⟨_,_,ox,o3,o4⟩:=elems_rel (P:=P) hsd h1 (sz:=i.size) (ys:=cs) (m:=nn) (by simp[elems,hcl])
   have hcap: ∃ao,x=.slice ao nn nn:=by
    cases h1 with
    | slnil _ hk=>exact⟨none,rfl⟩
    | slz a=>exact⟨some a,rfl⟩
    | sl _ _ _ b o cap hk2 hn hf f hp hw h1=>
      rcases hk with rfl | rfl
      ·exact absurd rfl hk2
      ·exact⟨_,by rw[hf rfl]⟩
   obtain⟨ao,hx⟩:=hcap
   by_cases hm:m=0
   ·subst hm
    have hny:ny=[]:=List.eq_nil_of_length_eq_zero (by rw[l3.length,l2,Nat.zero_mul])
    subst hny
    have hrun:=append_room (ty:=ty) (w':=w) hx ht hu hi l1 l4 (by omega) (by cases ao with | none=>rfl | some ad=>rfl)
    rw[hx]at h1
    exact⟨_,_,w,G,st,hrun,G.le_refl,h1,hs,hk0 rfl⟩
   ·exact grow st cs nn nn ao ox hs hx o3 hcl o4 (by omega) hfit (hk1 hm)
 | hsl id off sz' nn=>
   simp only at hK
   split at hK<;>try (exact hK.elim)
   rename_i cs hst
   obtain⟨hss,hfit,hK⟩:=hK
   subst hss
   have hval:=h1
   cases h1 with
   | hsl _ _ _ _ b l mm cap o hι hn hm hl ho=>
     obtain⟨b',l',mm',k1,k2,C,T,k3,k4,k5,k6,k7,k8⟩:=hs.obj id _ hst
     rw[hι]at k1
     obtain⟨rfl,rfl,rfl⟩:b=b'∧l=l'∧mm=mm':=by cases k1;exact⟨rfl,rfl,rfl⟩
     have hnl:=l3.length
     have room:nn+m≤cap→∀(hfits:off+nn*i.size+ny.length≤C.size),(Builtin.append_ #[t,u] ty #[.slice (some ⟨b,o,none⟩) nn cap,y]).run P w=.ok (.slice (some ⟨b,o,none⟩) (nn+m) cap)
       (w.setRow b (C.toList.take (off+nn*i.size)++ny++C.toList.drop (off+nn*i.size+ny.length)).toArray):=by
      intro hr hfits
      by_cases hcap:cap=0
      ·have:nn=0∧m=0:=by omega
       obtain⟨rfl,rfl⟩:=this
       have hny:ny=[]:=List.eq_nil_of_length_eq_zero (by rw[hnl,l2,Nat.zero_mul])
       subst hny
       have:=append_room (ty:=ty) (w':=w) (x:=.slice (some ⟨b,o,none⟩) 0 cap) rfl ht hu hi l1 l4 (by omega) rfl
       rw[this]
       congr 1
       simp only[List.append_nil,List.length_nil,Nat.add_zero,List.take_append_drop,Array.toArray_toList]
       exact(setRow_self w b C T (0,0) k3).symm
      ·have hoff:=ho hcap
       subst hoff
       have hst:=run_storeCells_at P b (o+nn*i.size) T ny 0 C w k3 (by omega) l3.2
       simp only[Nat.add_zero]at hst
       exact append_room (ty:=ty) rfl ht hu hi l1 l4 hr (by simp only[add_lit];exact hst)
     split at hK
     ·rename_i hin
      have hr:nn+m≤cap:=by
       have:(nn+m)*i.size≤cap*i.size:=by omega
       exact Nat.le_of_mul_le_mul_right this hsz
      have hmul:(nn+m)*i.size=nn*i.size+m*i.size:=Nat.add_mul _ _ _
      have hfit2:off+nn*i.size+ys.length≤cs.length:=by omega
      refine⟨_,_,_,G,_,room hr (by omega),G.le_refl,.hsl id off i.size (nn+m) b l mm cap o hι hr hm hl ho,hs.splice hst hι k3 l3 hfit2,hK⟩
     ·rename_i hout
      obtain⟨h0,hcl,hK⟩:=hK
      subst h0
      by_cases hr:nn+m≤cap
      ·--in the block's own room
       have hmul:(nn+m)*i.size=nn*i.size+m*i.size:=Nat.add_mul _ _ _
       have hle:(nn+m)*i.size≤cap*i.size:=Nat.mul_le_mul_right _ hr
       have hrun:=room hr (by omega)
       have hs1:StRel B w0 G (st.del id) w:=hs.sub (sub_del st id)
       have hno: ∀id' x,(st.del id) id'≠none→G.ι id'≠some (b,x):=fun id' x hne e=>by
        obtain⟨hne1,hne2⟩:=St.del_ne hne
        exact hne1 (hs.inj id' id b x (l,mm) hne2 (by rw[hst];simp) e hι)
       have hrow:=setRow_heap w b C (C.toList.take (0+nn*i.size)++ny++C.toList.drop (0+nn*i.size+ny.length)).toArray T (0,0) k3
       have hs2:=hs1.free (w':=w.setRow b (C.toList.take (0+nn*i.size)++ny++C.toList.drop (0+nn*i.size+ny.length)).toArray) k2 hno k8 rfl rfl rfl (by simp[World.setRow]) (fun k hk=>setRow_other' w b k _ hk)
       have hle2:=G.addObj_le (b,(cs++ys).length,mm)
       have hlen:(cs++ys).length=(nn+m)*i.size:=by rw[List.length_append,hcl,l2,Nat.add_mul]
       have hC:CRel G cs (C.toList.take l):=CRel.mk (by simp;omega) (fun i hi=>by rw[getD_take _ _ _ _ (by omega),←getD_toList];exact(k7 i hi).1)
        (fun i hi=>by rw[getD_take _ _ _ _ (by omega),←getD_toList];exact(k7 i hi).2)
       have hcat:=hC.append l3
       obtain⟨g1,g2⟩:=hs2.addAt (b:=b) (l:=(cs++ys).length) (m:=mm) (ob:=.cells (cs++ys)) k2 (by simpa[World.setRow]using lt_of_heap k3) hno ⟨_,T,hrow,by simp;omega,rfl,by rw[hlen];omega,fun j hj=>by
        have e:(C.toList.take (0+nn*i.size)++ny++C.toList.drop (0+nn*i.size+ny.length)).toArray.getD j undef=(C.toList.take l++ny).getD j undef:=by
         rw[getD_toList]
         simp only[Nat.zero_add,←hcl,k5]
         rw[List.getD_eq_getElem?_getD,List.getElem?_append_left (by simp only[List.length_append,List.length_take,Array.length_toList];rw[List.length_append]at hj;omega),←List.getD_eq_getElem?_getD]
        rw[e]
        exact⟨(hcat.val j hj).mono hle2,hcat.one j hj⟩,k8⟩
       refine⟨_,_,_,_,_,hrun,hle2,.hsl G.N 0 i.size (nn+m) b (cs++ys).length mm cap o (G.addObj_new _) hr hm (by rw[hlen];omega) ho,g2,hK _ g1⟩
      ·obtain⟨_,_,ox,o3,o4⟩:=elems_rel (P:=P) hsd hval (sz:=i.size) (ys:=cs) (m:=nn) (by
         simp only[elems,if_true,St.seg,hst,segOf,Nat.zero_add,←hcl,Nat.le_refl,if_true,List.drop_zero,List.take_length,Option.map_some])
       exact grow (st.del id) cs nn cap _ ox (hs.sub (sub_del st id)) rfl o3 hcl o4 (by omega) hfit hK
 | _=>exact hK.elim
theorem StRel.freezeAll (h:StRel B w0 G st w){id b l m:Nat}{cs cs':List V}{C:Array Value}{T:TypeId}(hid:st id=some (.cells cs))(hι:G.ι id=some (b,l,m))(hb:w.heap[b]? =some (.cells C T (0,0)))
  (hlen:cs'.length=cs.length) (hv: ∀i,i<cs'.length→∀G',G.le G'→VRel G' (cs'.getD i .junk) (C.getD i undef)) (h1: ∀i,i<cs'.length→(C.getD i undef).oneCell'=true):
  G.le (G.addPm b C.toList)∧StRel B w0 (G.addPm b C.toList) (st.upd id (.ro cs')) w:=by
 obtain⟨b',l',m',k1,k2,C',T',k3,k4,k5,k6,k7,k8⟩:=h.obj id _ hid
 rw[hι]at k1
 cases k1
 rw[hb]at k3
 cases k3
 have hle:=Gh.addPm_le (G:=G) (b:=b) k8 C.toList
 have hget: ∀i,i<C.size→C.toList[i]? =some (C.getD i undef):=fun i hi=>by
  rw[Array.getElem?_toList,Array.getD_eq_getD_getElem?,Array.getElem?_eq_getElem hi]
  rfl
 refine⟨hle,h.below,h.size,h.lt,fun c o v e=>?_,fun i o e=>?_,fun i i' c x x' h1 h2 e1 e2=>?_⟩
 ·by_cases hc:c=b
  ·subst hc
   rw[Gh.addPm_new]at e
   simp only[World.cell?,hb,Option.isSome_none,Bool.false_eq_true,if_false]
   rw[←e,Array.getElem?_toList]
  ·exact h.pm c o v (by simpa[Gh.addPm,hc]using e)
 ·by_cases hi:i=id
  ·subst hi
   rw[St.upd_same]at e
   cases e
   exact⟨b,l,m,hι,k2,hlen.trans k5,fun j hj=>⟨C.getD j undef,by rw[Gh.addPm_new];exact hget j (by omega),hv j hj _ hle,h1 j hj⟩⟩
  ·rw[St.upd_other _ _ hi]at e
   obtain⟨c,l',m',j1,j2,j3⟩:=h.obj i o e
   refine⟨c,l',m',j1,j2,j3.mono hle fun o' ho'=>?_⟩
   show(if c=b then C.toList[o']? else G.pm c o')=none
   rw[if_neg]
   ·exact ho'
   ·intro ec
    exact hi (h.inj i id c (l',m') (l,m) (by rw[e];simp) (by rw[hid];simp) j1 (by rw[ec];exact hι))
 ·have key: ∀i,(st.upd id (.ro cs')) i≠none→st i≠none:=fun i hi=>by
    by_cases e:i=id
    ·rw[e,hid];simp
    ·rw[St.upd_other _ _ e]at hi
     exact hi
  exact h.inj i i' c x x' (key i h1) (key i' h2) e1 e2
theorem StRel.beyond (h:StRel B w0 G st w){id b l m:Nat}{cs cs':List V}{C C':Array Value}{T:TypeId}(hid:st id=some (.cells cs))(hι:G.ι id=some (b,l,m))(hb:w.heap[b]? =some (.cells C T (0,0)))
  (hsz:C'.size=C.size) (hlen:cs'.length=cs.length) (hv: ∀i,i<cs'.length→VRel G (cs'.getD i .junk) (C'.getD i undef)∧(C'.getD i undef).oneCell'=true):
  StRel B w0 G (st.upd id (.cells cs')) (w.setRow b C'):=by
 obtain⟨b',l',m',k1,k2,D,T',k3,k4,k5,k6,k7,k8⟩:=h.obj id _ hid
 rw[hι]at k1
 cases k1
 rw[hb]at k3
 cases k3
 have hrow:=setRow_heap w b C C' T (0,0) hb
 exact h.setObj hid (fun cs e=>by cases e) hι rfl rfl rfl (by simp[World.setRow]) (fun k hk=>setRow_other w b k _ hk) k8 ⟨C',T,hrow,hsz.trans k4,hlen.trans k5,k6,hv,k8⟩
set_option maxHeartbeats 4000000 in
theorem appz_sound (hs:StRel B w0 G st w){t u ty e:TypeId}{i:TypeInfo}{z:Value}(ht:P.underlying t=some (.slice e))(hu:(∃e',P.underlying u=some (.slice e'))∨P.underlying u=some .string)(hi:P.info? e=some i)(hz:i.zero=some z)(hzs:z.cells.size=i.size)
  (hsz:0<i.size) (hby:0<i.bytes) {v1 v2:V} {x y:Value} (h2:VRel G v2 y) {ys:List V} {m:Nat} (hy:elems st i.size v2=some (ys,m)) {K:V→St→Prop}
  (hK:match v1 with
    | .sl k cs n=>
      (k=.nil∨k=.full)∧cs.length=n*i.size∧(n+m)*i.bytes≤140737488355328∧(m=0→K (.sl k cs n) st)∧(m≠0→K (.sl .some (cs++ys) (n+m)) st)
    | .hsl id off sz' n=>
      match st id with
      | some (.cells cs)=>
        sz'=i.size∧(n+m)*i.bytes≤140737488355328∧off=0∧n*i.size≤cs.length∧
        K (.sl .some (cs.take (n*i.size)++ys) (n+m)) (st.upd id (.ro (cs.take (n*i.size)++List.replicate (cs.length-n*i.size) .junk)))
      | _=>False
    | _=>False) (h1:VRel G v1 x):
  ∃r v w' G' st',(Builtin.append_ #[t,u] ty #[x,y]).run P w=.ok r w'∧G.le G'∧VRel G' v r∧StRel B w0 G' st' w'∧K v st':=by
 obtain⟨l1,l2,ny,l3,l4⟩:=elems_rel (P:=P) hs h2 hy
 have hsd:=hs.ext (below_drew w)
 obtain⟨_,_,nyd,d3,d4⟩:=elems_rel (P:=P) hsd h2 hy
 have grow: ∀(G2:Gh) (st2:St) (cs:List V) (nn sCap:Nat) (ao:Option Addr) (olds:List Value),G.le G2→StRel B w0 G2 st2 w→x=.slice ao nn sCap→CRel G cs olds→cs.length=nn*i.size→(Builtin.firstCells i.size nn x).run P w.drew=.ok olds.toArray w.drew→sCap<nn+m→(nn+m)*i.bytes≤140737488355328→
   K (.sl .some (cs++ys) (nn+m)) st2→∃r v w' G' st',(Builtin.append_ #[t,u] ty #[x,y]).run P w=.ok r w'∧G.le G'∧VRel G' v r∧StRel B w0 G' st' w'∧K v st':=by
  intro G2 st2 cs nn sCap ao olds hle2 hs2 hx hcs hcl hold hg hfit hk
  have hrun:=append_grow (ty:=ty) hx ht hu hi hz l1 hold d4 hg hby hfit
  have hs2d:=hs2.ext (below_drew w)
  have hcat:CRel G (cs++ys) (olds++nyd):=hcs.append d3
  obtain⟨g1,g2⟩:=hs2d.addPm (olds++nyd) e (0,0) ((Builtin.zeroCells z.cells (grownCap w (nn+m) sCap e-(nn+m))).toList)
  have hge:=grownCap_ge w (nn+m) sCap e
  rw[List.append_assoc]at g2
  have hlen:=hcat.length
  refine⟨_,_,_,_,_,hrun,Gh.le_trans hle2 g1,?_,g2,hk⟩
  refine .sl .some _ _ w.heap.size 0 _ (by simp) hge (fun e=>by cases e) (fun j=>(olds++nyd).getD j undef) (fun j hj=>?_) (fun j hj=>(hcat.val j hj).mono (Gh.le_trans hle2 g1)) (fun j hj=>hcat.one j hj)
  rw[show w.heap.size=w.drew.heap.size from rfl,Gh.addPm_new,Nat.zero_add,List.getD_eq_getElem?_getD,List.getElem?_eq_getElem (by omega)]
  rfl
 cases v1 with
 | sl k cs nn=>
   obtain⟨hk,hcl,hfit,hk0,hk1⟩:=hK
   obtain⟨_,_,ox,o3,o4⟩:=elems_rel (P:=P) hsd h1 (sz:=i.size) (ys:=cs) (m:=nn) (by simp[elems,hcl])
   have hcap: ∃ao,x=.slice ao nn nn:=by
    cases h1 with
    | slnil _ hk=>exact⟨none,rfl⟩
    | slz a=>exact⟨some a,rfl⟩
    | sl _ _ _ b o cap hk2 hn hf f hp hw h1=>
      rcases hk with rfl | rfl
      ·exact absurd rfl hk2
      ·exact⟨_,by rw[hf rfl]⟩
   obtain⟨ao,hx⟩:=hcap
   by_cases hm:m=0
   ·subst hm
    have hny:ny=[]:=List.eq_nil_of_length_eq_zero (by rw[l3.length,l2,Nat.zero_mul])
    subst hny
    have hrun:=append_room (ty:=ty) (w':=w) hx ht hu hi l1 l4 (by omega) (by cases ao with | none=>rfl | some ad=>rfl)
    rw[hx]at h1
    exact⟨_,_,w,G,st,hrun,G.le_refl,h1,hs,hk0 rfl⟩
   ·exact grow G st cs nn nn ao ox G.le_refl hs hx o3 hcl o4 (by omega) hfit (hk1 hm)
 | hsl id off sz' nn=>
   simp only at hK
   split at hK<;>try (exact hK.elim)
   rename_i cs hst
   obtain⟨hss,hfit,h0,hcl,hK⟩:=hK
   subst hss
   subst h0
   have hval:=h1
   cases h1 with
   | hsl _ _ _ _ b l mm cap o hι hn hm hl ho=>
     obtain⟨b',l',mm',k1,k2,C,T,k3,k4,k5,k6,k7,k8⟩:=hs.obj id _ hst
     rw[hι]at k1
     obtain⟨rfl,rfl,rfl⟩:b=b'∧l=l'∧mm=mm':=by cases k1;exact⟨rfl,rfl,rfl⟩
     have hnl:=l3.length
     have hCl:CRel G cs (C.toList.take l):=CRel.mk (by simp;omega) (fun i hi=>by rw[getD_take _ _ _ _ (by omega),←getD_toList];exact(k7 i hi).1)
      (fun i hi=>by rw[getD_take _ _ _ _ (by omega),←getD_toList];exact(k7 i hi).2)
     have hjl:(cs.take (nn*i.size)++List.replicate (cs.length-nn*i.size) V.junk).length=cs.length:=by simp;omega
     have hjunk: ∀j,j<cs.length→(cs.take (nn*i.size)++List.replicate (cs.length-nn*i.size) V.junk).getD j .junk=if j<nn*i.size then cs.getD j .junk else .junk:=fun j hj=>by
      simp only[List.getD_eq_getElem?_getD,List.getElem?_append,List.length_take,List.getElem?_take]
      split
      ·rename_i h1
       rw[if_pos (by omega),if_pos (by omega)]
      ·rename_i h1
       rw[if_neg (by omega)]
       simp only[List.getElem?_replicate]
       split<;>rfl
     by_cases hr:nn+m≤cap
     ·--in the block's own room
      have hmul:(nn+m)*i.size=nn*i.size+m*i.size:=Nat.add_mul _ _ _
      have hle:(nn+m)*i.size≤cap*i.size:=Nat.mul_le_mul_right _ hr
      have hfits:nn*i.size+ny.length≤C.size:=by omega
      let C':Array Value:=(C.toList.take (nn*i.size)++ny++C.toList.drop (nn*i.size+ny.length)).toArray
      have hC':C'.size=C.size:=by simp[C'];omega
      have hlow: ∀j,j<nn*i.size→C'.getD j undef=C.getD j undef:=fun j hj=>by
       rw[getD_toList,getD_toList]
       simp only[C',List.getD_eq_getElem?_getD,List.append_assoc]
       rw[List.getElem?_append_left (by simp;omega),List.getElem?_take,if_pos hj]
      have hmid: ∀j,j<ny.length→C'.getD (nn*i.size+j) undef=ny.getD j undef:=fun j hj=>by
       rw[getD_toList]
       simp only[C',List.getD_eq_getElem?_getD,List.append_assoc]
       rw[List.getElem?_append_right (by simp;omega),List.getElem?_append_left (by simp;omega)]
       congr 2
       simp;omega
      have hone: ∀j,j<C.size→l≤j→True:=fun _ _ _=>trivial
      have hcells: ∀j,j<cs.length→(C'.getD j undef).oneCell'=true:=fun j hj=>by
       by_cases h1:j<nn*i.size
       ·rw[hlow j h1];exact(k7 j hj).2
       ·by_cases h2:j<nn*i.size+ny.length
        ·rw[show j=nn*i.size+(j-nn*i.size) by omega,hmid _ (by omega)]
         exact l3.one _ (by omega)
        ·have:C'.getD j undef=C.getD j undef:=by
           rw[getD_toList,getD_toList]
           simp only[C',List.getD_eq_getElem?_getD,List.append_assoc]
           rw[List.getElem?_append_right (by simp;omega),List.getElem?_append_right (by simp;omega),List.getElem?_drop]
           congr 2
           simp;omega
         rw[this];exact(k7 j hj).2
      have hvals: ∀j,j< (cs.take (nn*i.size)++List.replicate (cs.length-nn*i.size) V.junk).length→VRel G ((cs.take (nn*i.size)++List.replicate (cs.length-nn*i.size) V.junk).getD j .junk) (C'.getD j undef)∧(C'.getD j undef).oneCell'=true:=fun j hj=>by
       rw[hjl]at hj
       refine⟨?_,hcells j hj⟩
       rw[hjunk j hj]
       split
       ·rename_i h1
        rw[hlow j h1];exact(k7 j hj).1
       ·exact .junk _
      have hrun:(Builtin.append_ #[t,u] ty #[.slice (some ⟨b,o,none⟩) nn cap,y]).run P w=.ok (.slice (some ⟨b,o,none⟩) (nn+m) cap) (w.setRow b C'):=by
       by_cases hcap:cap=0
       ·have:nn=0∧m=0:=by omega
        obtain⟨rfl,rfl⟩:=this
        have hny:ny=[]:=List.eq_nil_of_length_eq_zero (by rw[hnl,l2,Nat.zero_mul])
        subst hny
        have:=append_room (ty:=ty) (w':=w) (x:=.slice (some ⟨b,o,none⟩) 0 cap) rfl ht hu hi l1 l4 (by omega) rfl
        rw[this]
        congr 1
        have hCC:C'=C:=by
         simp only[C',List.append_nil,List.length_nil,Nat.add_zero,List.take_append_drop,Array.toArray_toList]
        rw[hCC]
        exact(setRow_self w b C T (0,0) k3).symm
       ·have hoff:=ho hcap
        subst hoff
        have hst:=run_storeCells_at P b (0+nn*i.size) T ny 0 C w k3 (by omega) l3.2
        simp only[Nat.add_zero,Nat.zero_add]at hst
        exact append_room (ty:=ty) rfl ht hu hi l1 l4 hr (by simp only[add_lit,Nat.zero_add];exact hst)
      have hs2:=hs.beyond (C':=C') hst hι k3 hC' hjl hvals
      have hrow:=setRow_heap w b C C' T (0,0) k3
      obtain⟨q1,q2⟩:=hs2.freezeAll (id:=id) (cs':=cs.take (nn*i.size)++List.replicate (cs.length-nn*i.size) V.junk) (St.upd_same _ _ _) hι hrow rfl (fun j hj G' hG=>(hvals j hj).1.mono hG) (fun j hj=>(hvals j hj).2)
      rw[show(st.upd id (.cells (cs.take (nn*i.size)++List.replicate (cs.length-nn*i.size) V.junk))).upd id (.ro (cs.take (nn*i.size)++List.replicate (cs.length-nn*i.size) V.junk))=st.upd id (.ro (cs.take (nn*i.size)++List.replicate (cs.length-nn*i.size) V.junk))from by
       funext j;by_cases e:j=id<;>simp[St.upd,e]]at q2
      refine⟨_,_,_,_,_,hrun,q1,?_,q2,hK⟩
      rcases Nat.eq_zero_or_pos cap with hc0 | hc0
      ·have:nn=0∧m=0:=by omega
       obtain⟨rfl,rfl⟩:=this
       have hys:ys=[]:=List.eq_nil_of_length_eq_zero (by rw[l2,Nat.zero_mul])
       subst hys
       simp only[Nat.zero_mul,List.take_zero,List.append_nil]
       exact .sl .some [] _ b o cap (by simp) hr (fun e=>by cases e) (fun _=>undef) (fun j hj=>absurd hj (Nat.not_lt_zero _)) (fun j hj=>absurd hj (Nat.not_lt_zero _)) (fun j hj=>absurd hj (Nat.not_lt_zero _))
      ·have hoff:=ho (by omega)
       subst hoff
       have hlt:(cs.take (nn*i.size)).length=nn*i.size:=by simp;omega
       have hvv: ∀j,j< (cs.take (nn*i.size)++ys).length→VRel G ((cs.take (nn*i.size)++ys).getD j .junk) (C'.getD j undef)∧(C'.getD j undef).oneCell'=true:=fun j hj=>by
        simp only[List.length_append,hlt]at hj
        by_cases h1:j<nn*i.size
        ·rw[hlow j h1,List.getD_eq_getElem?_getD,List.getElem?_append_left (by omega),List.getElem?_take,if_pos h1,←List.getD_eq_getElem?_getD]
         exact k7 j (by omega)
        ·rw[show j=nn*i.size+(j-nn*i.size) by omega,hmid _ (by omega),List.getD_eq_getElem?_getD,List.getElem?_append_right (by omega),hlt,show nn*i.size+(j-nn*i.size)-nn*i.size=j-nn*i.size by omega,←List.getD_eq_getElem?_getD]
         exact⟨l3.val _ (by omega),l3.one _ (by omega)⟩
       refine .sl .some _ _ b 0 cap (by simp) hr (fun e=>by cases e) (fun j=>C'.getD j undef) (fun j hj=>?_) (fun j hj=>(hvv j hj).1.mono q1) (fun j hj=>(hvv j hj).2)
       simp only[List.length_append,hlt]at hj
       rw[Gh.addPm_new,Nat.zero_add,Array.getElem?_toList,Array.getD_eq_getD_getElem?,Array.getElem?_eq_getElem (by omega)]
       rfl
     ·--it grows:the old block is frozen
      have hvals: ∀j,j< (cs.take (nn*i.size)++List.replicate (cs.length-nn*i.size) V.junk).length→VRel G ((cs.take (nn*i.size)++List.replicate (cs.length-nn*i.size) V.junk).getD j .junk) (C.getD j undef)∧(C.getD j undef).oneCell'=true:=fun j hj=>by
       rw[hjl]at hj
       refine⟨?_,(k7 j hj).2⟩
       rw[hjunk j hj]
       split
       ·exact(k7 j hj).1
       ·exact .junk _
      obtain⟨q1,q2⟩:=hs.freezeAll (id:=id) (cs':=cs.take (nn*i.size)++List.replicate (cs.length-nn*i.size) V.junk) hst hι k3 hjl (fun j hj G' hG=>(hvals j hj).1.mono hG) (fun j hj=>(hvals j hj).2)
      obtain⟨_,_,ox,o3,o4⟩:=elems_rel (P:=P) hsd hval (sz:=i.size) (ys:=cs.take (nn*i.size)) (m:=nn) (by
       simp only[elems,if_true,St.seg,hst,segOf,Nat.zero_add,hcl,if_true,List.drop_zero,Option.map_some])
      exact grow _ _ (cs.take (nn*i.size)) nn cap _ ox q1 q2 rfl o3 (by simp;omega) o4 (by omega) hfit hK
 | _=>exact hK.elim
end
def pureP:POp→Bool
 | .store .. | .mset .. | .mdel .. | .mkmap | .alloc _ | .box _ | .bsl true .. | .mksl .. | .app .. | .clear .. | .call .. | .callv .. | .rngStr _ | .nextStr _ | .rngMap _ | .nextMap _ | .appz .. | .appf .. | .appn .. | .ment .. | .estore .. =>false
 | _=>true
section
variable {P:Program} {B:Nat} {w0:World} {G:Gh} {st:St} {w:World} {n:Nat} {env:Env} {a:Act} {an:An}
theorem stepP_appf {sz b:Nat}{x y:X}{K:V→St→Prop}(h:stepP P (.appf sz b x y) env st K):stepP P (.app sz b x y) env st K:=by
 simp only[stepP]at h⊢
 split at h
 ·exact h
 ·generalize x.ev env=xv at h⊢
  cases xv<;>first | exact h | exact h.elim
theorem stepP_appn {sz b:Nat}{x y:X}{K:V→St→Prop}(h:stepP P (.appn sz b x y) env st K):stepP P (.appz sz b x y) env st K:=by
 simp only[stepP]at h⊢
 split at h
 ·exact h
 ·generalize x.ev env=xv at h⊢
  cases xv<;>first | exact h | exact h.elim
theorem stepP_pure {p:POp}(hp:pureP p=true){K:V→St→Prop}(h:stepP P p env st K): ∃v,opV p env st=some v∧K v st:=by
 have key:(match opV p env st with | some v=>K v st | none=>False)→∃v,opV p env st=some v∧K v st:=by
  intro h
  cases hv:opV p env st with
  | none=>rw[hv]at h;exact h.elim
  | some v=>rw[hv]at h;exact⟨v,rfl,h⟩
 cases p<;>first
  | exact key h
  | (simp only[pureP]at hp;cases hp;done)
  | skip
 ·rename_i obj sz nn zero parts
  cases obj with
  | true=>simp only[pureP]at hp;cases hp
  | false=>exact key h
theorem wp_of_gives {o:Oper}{next:Act→World→Prop}{Q:Exit→Act→World→Prop}{v:V}(h:Gives P B w0 G st v ((execOp a.eval o).run P w))
  (hn: ∀x G' w',G.le G'→VRel G' v x→StRel B w0 G' st w'→next (a.put o.dst x) w'):o.wp P a w next Q:=by
 obtain⟨x,w',G',h1,h2,h3,h4⟩:=h
 unfold Oper.wp
 rw[h1]
 exact hn x G' w' h2 h3 h4
theorem wp_of_value {o:Oper}{next:Act→World→Prop}{Q:Exit→Act→World→Prop}{x:Value}{w':World}(h:(execOp a.eval o).run P w=.ok (.value x) w')(hn:next (a.put o.dst x) w'):o.wp P a w next Q:=by
 unfold Oper.wp
 rw[h]
 exact hn
theorem wp_of_skip {o:Oper}{next:Act→World→Prop}{Q:Exit→Act→World→Prop}{w':World}(h:(execOp a.eval o).run P w=.ok .skip w')(hn:next (a.put o.dst undef) w'):o.wp P a w next Q:=by
 unfold Oper.wp
 rw[h]
 exact hn
theorem run_unit {s:Sem Unit}{w w':World}(h:s.run P w=.ok () w'):((do s;pure Next.skip):Sem Next).run P w=.ok .skip w':=by
 simp[h]
theorem okFn_call {f:FuncId}(h:okFn P f=true)(args:Array Value):(callFunc f args).run P w=.ok (.enter f args) w:=by
 unfold okFn at h
 cases hf:P.funcs[f]? with
 | none=>rw[hf]at h;cases h
 | some fn=>
   rw[hf]at h
   simp only[Option.any_some,Bool.and_eq_true,bne_iff_ne,ne_eq]at h
   obtain⟨c,hc⟩:=Option.isSome_iff_exists.1 h.2
   simp[callFunc,hf,h.1,hc]
theorem St.add_none (st:St):st.add (fun _=>none)=st:=by
 funext i
 simp only[St.add]
 cases st i<;>rfl
theorem call_wp {f:FuncId}{args:List V}{xs:List Value}{K:V→St→Prop}(hs:StRel B w0 G st w)(hl:LRel G args xs)(h:ACalls P f args st K){o:Oper}{next:Act→World→Prop}{Q:Exit→Act→World→Prop}
  (hrun:(execOp a.eval o).run P w=.ok (.enter f xs.toArray) w) (hn: ∀v x G' st' w',G.le G'→VRel G' v x→StRel B w0 G' st' w'→K v st'→next (a.put o.dst x) w'):o.wp P a w next Q:=by
 unfold Oper.wp
 rw[hrun]
 refine(h (fun _=>none) (fun _=>.inr rfl) B w0 G w xs (by rw[St.add_none];exact hs) hl).mono fun e w' ⟨v,x,G',st',he,h1,h2,_,h3,h4⟩=>?_
 subst he
 rw[St.add_none]at h3
 exact hn v x G' st' w' h1 h2 h3 h4
theorem natOf_run {v:V}{x:Value}(hv:VRel G v x){k:Nat}(h:natOf v=some k): ∃kd:IntKind,x=.int kd (k:Int):=by
 obtain⟨kd,i,rfl,h0,h1⟩:=natOf_rel hv h
 exact⟨kd,by rw[←h1,Int.toNat_of_nonneg h0]⟩
theorem repV_add (z:List V)(d:Nat): ∀k,repV z (k+d)=repV z k++repV z d
 | 0=>by simp[repV]
 | k+1=>by rw[show k+1+d=(k+d)+1 by omega];simp only[repV,repV_add z d k,List.append_assoc]
theorem take_repV (z:List V){k c:Nat}(h:k≤c):(repV z c).take (k*z.length)=repV z k:=by
 obtain⟨d,rfl⟩:=Nat.exists_eq_add_of_le h
 rw[repV_add,←length_repV,List.take_left]
theorem mksl_sound (hs:StRel B w0 G st w){t e:TypeId}{i:TypeInfo}{zs:List V}(ht:P.underlying t=some (.slice e))(hi:P.info? e=some i)(hz:zeroOf P e=some zs){v1 v2:V}{x y:Value}(h1:VRel G v1 x)(h2:VRel G v2 y){k c:Nat}(hk:natOf v1=some k)(hc:natOf v2=some c)
  (hle:k≤c) (hb:c*i.bytes≤140737488355328) (hzl:zs.length=i.size) (hc63:c≤9223372036854775807):
  (∃r w' G',(Instr.makeSlice t x y).run P w=.ok r w'∧G.le G'∧VRel G' (.sl .some (repV zs k) k) r∧StRel B w0 G' st w')∧
  ∃r w' G',(Instr.makeSlice t x y).run P w=.ok r w'∧st G.N=none∧G.le G'∧VRel G' (.hsl G.N 0 i.size k) r∧StRel B w0 G' (st.upd G.N (.cells (repV zs k))) w':=by
 obtain⟨kd,rfl⟩:=natOf_run h1 hk
 obtain⟨kd2,rfl⟩:=natOf_run h2 hc
 obtain⟨i',z,g1,g2,g3⟩:=zeroOf_rel (G:=G) hz
 rw[hi]at g1
 cases g1
 have hzs:z.cells.size=i.size:=by have:=g3.length;simp at this;omega
 have hb':(i.bytes:Int)*(c:Int)≤281474976710656:=by
  have:((c*i.bytes:Nat):Int)≤140737488355328:=by omega
  rw[Int.natCast_mul]at this
  rw[Int.mul_comm]
  omega
 have hrun:=run_make (P:=P) w t e i z ht hi g2 kd kd2 (k:Int) (c:Int) (by omega) (by omega) hb' (by omega)
 simp only[Int.toNat_natCast]at hrun
 have hmade:(madeCells z.cells (c*i.size))=zerosX z.cells (c*i.size):=rfl
 have hrel:=zerosX_rel g3 c
 rw[hzs]at hrel
 have hsplit:(zerosX z.cells (c*i.size)).toList=(zerosX z.cells (c*i.size)).toList.take (k*i.size)++(zerosX z.cells (c*i.size)).toList.drop (k*i.size):=(List.take_append_drop _ _).symm
 have hpart:CRel G (repV zs k) ((zerosX z.cells (c*i.size)).toList.take (k*i.size)):=by
  have h1:=hrel.take (k*i.size)
  have h2:(repV zs c).take (k*i.size)=repV zs k:=by
   rw[←hzl]
   exact take_repV zs hle
  rw[h2]at h1
  exact h1
 rw[hmade]at hrun
 have harr:zerosX z.cells (c*i.size)=((zerosX z.cells (c*i.size)).toList.take (k*i.size)++(zerosX z.cells (c*i.size)).toList.drop (k*i.size)).toArray:=by
  apply Array.ext'
  simp
 rw[harr]at hrun
 constructor
 ·obtain⟨q1,q2⟩:=hs.addPm ((zerosX z.cells (c*i.size)).toList.take (k*i.size)) e (0,0) ((zerosX z.cells (c*i.size)).toList.drop (k*i.size))
  refine⟨_,_,_,hrun,q1,?_,q2⟩
  refine .sl .some _ _ w.heap.size 0 _ (by simp) hle (fun e=>by cases e) (fun j=>((zerosX z.cells (c*i.size)).toList.take (k*i.size)).getD j undef) (fun j hj=>?_) (fun j hj=>(hpart.val j hj).mono q1) (fun j hj=>hpart.one j hj)
  have:=hpart.length
  rw[Gh.addPm_new,Nat.zero_add,List.getD_eq_getElem?_getD,List.getElem?_eq_getElem (by omega)]
  rfl
 ·obtain⟨q1,q2⟩:=hs.newCells (ys:=(zerosX z.cells (c*i.size)).toList.drop (k*i.size)) hpart e
  refine⟨_,_,_,hrun,q1,G.addObj_le _,.hsl G.N 0 i.size k w.heap.size _ _ c 0 (G.addObj_new _) hle ?_ ?_ (fun _=>rfl),q2⟩
  ·rw[←List.length_append,List.take_append_drop]
   simp[zerosX]
  ·rw[length_repV,hzl,Nat.zero_add]
   exact Nat.mul_le_mul_right _ hle
theorem clear_sound (hs:StRel B w0 G st w){id off sz nn:Nat}{cs:List V}{x:Value}(hx:VRel G (.hsl id off sz nn) x)(hst:st id=some (.cells cs)){t e ty:TypeId}{zs:List V}(ht:P.underlying t=some (.slice e))(hz:zeroOf P e=some zs)(hzl:zs.length=sz)(hfit:off+nn*sz≤cs.length):
  ∃w',(Builtin.clear_ #[t] ty #[x]).run P w=.ok (.tuple #[]) w'∧StRel B w0 G (st.upd id (.cells (spliceV cs off (repV zs nn)))) w':=by
 obtain⟨i,z,g1,g2,g3⟩:=zeroOf_rel (G:=G) hz
 cases hx with
 | hsl _ _ _ _ b l m cap o hι hn hm hl ho=>
   obtain⟨b',l',m',k1,k2,C,T,k3,k4,k5,k6,k7,k8⟩:=hs.obj id _ hst
   rw[hι]at k1
   obtain⟨rfl,rfl,rfl⟩:b=b'∧l=l'∧m=m':=by cases k1;exact⟨rfl,rfl,rfl⟩
   have hrel:=zerosX_rel g3 nn
   have hzsz:z.cells.size=sz:=by have:=g3.length;simp at this;omega
   have hzc:Builtin.zeroCells z.cells nn=zerosX z.cells (nn*z.cells.size):=rfl
   have hlen:=hrel.length
   rw[length_repV,hzl]at hlen
   have hsp:=hs.splice hst hι k3 hrel (o:=off) (by rw[length_repV,hzl];exact hfit)
   rcases Nat.eq_zero_or_pos nn with h0 | h0
   ·subst h0
    refine⟨w,?_,?_⟩
    ·simp[Builtin.clear_,run_underlying ht]
    ·have:(zerosX z.cells (0*z.cells.size)).toList=[]:=List.eq_nil_of_length_eq_zero (by rw[hlen,Nat.zero_mul])
     rw[this]at hsp
     simp only[List.append_nil,List.length_nil,Nat.add_zero,List.take_append_drop,Array.toArray_toList]at hsp
     rw[setRow_self w b C T (0,0) k3]at hsp
     exact hsp
   ·have hoff:=ho (by omega)
    subst hoff
    refine⟨_,?_,hsp⟩
    have hrun:=run_storeCells_at P b o T (zerosX z.cells (nn*z.cells.size)).toList 0 C w k3 (by rw[hlen];omega) hrel.2
    simp only[Nat.add_zero]at hrun
    obtain⟨q,rfl⟩: ∃q,nn=q+1:=⟨nn-1,by omega⟩
    simp only[Builtin.clear_,List.getElem?_toArray,List.getElem?_cons_zero,Sem.run_bind,run_underlying ht,Result.andThen_ok,run_zeroValue g1 g2,hzc,hrun,Sem.run_pure]
end
section
variable {P:Program} {B:Nat} {w0:World} {G:Gh} {st:St} {w:World} {n:Nat} {env:Env} {a:Act} {an:An}
set_option maxHeartbeats 2000000 in
theorem step_sound {o:Oper}{p:POp}(hc:compOp P n an o=some p)(he:EnvRel G n env a)(hs:StRel B w0 G st w){K:V→St→Prop}(h:stepP P p env st K){next:Act→World→Prop}{Q:Exit→Act→World→Prop}
  (hn: ∀v x G' st' w',G.le G'→VRel G' v x→StRel B w0 G' st' w'→K v st'→next (a.put o.dst x) w'):o.wp P a w next Q:=by
 have pure_case:pureP p=true→o.wp P a w next Q:=fun hp=>by
  obtain⟨v,hv,hK⟩:=stepP_pure hp h
  exact wp_of_gives (opV_sound hc he hs hv) fun x G' w' h1 h2 h3=>hn v x G' st w' h1 h2 h3 hK
 obtain⟨dst,op,ty,pos,after,guard⟩:=o
 cases op with
 | alloc e=>
   obtain⟨z,h1,rfl⟩:=Option.map_eq_some_iff.1 hc
   obtain⟨x,w',G',g1,g2,g3,g4,g5⟩:=alloc_sound hs h1
   exact wp_of_value (run_value g1) (hn _ x G' _ w' g3 g4 g5 (h _ g2))
 | box e x=>
   obtain⟨y,h1,rfl⟩:=Option.map_eq_some_iff.1 hc
   have h':(match((y.ev env).cells?.map fun cs=>((AObj.cells cs,fun id=>V.ptr (some (id,0))):AObj×(Nat→V)))with | some (ob,mk)=>∀id,st id=none→K (mk id) (st.upd id ob) | none=>False):=h
   cases hcs:(y.ev env).cells? with
   | none=>rw[hcs]at h';exact h'.elim
   | some cs=>
     rw[hcs]at h'
     obtain⟨r,w',G',g1,g2,g3,g4,g5⟩:=box_sound (P:=P) (e:=e) hs (ofX_rel he h1) hcs
     exact wp_of_value (run_value g1) (hn _ r G' _ w' g3 g4 g5 (h' _ g2))
 | buildSlice t len ps=>
   have hc0:=hc
   simp only[compOp]at hc
   split at hc<;>try (cases hc;done)
   rename_i e hu
   obtain⟨s,h0,hc⟩:=bind_some hc
   obtain⟨z,h1,hc⟩:=bind_some hc
   split at hc<;>try (cases hc;done)
   rename_i hcond
   simp only[Bool.and_eq_true,decide_eq_true_eq]at hcond
   obtain⟨q,h2,hc⟩:=bind_some hc
   cases hc
   generalize hob:(dst.any fun x=>an.obj.contains x)=ob at h pure_case
   cases ob with
   | false=>exact pure_case rfl
   | true=>
     have h':(match((fillV (repV z len) (q.map fun p=>(p.1,p.2.1,p.2.2.ev env))).map fun cs=>((AObj.cells cs,fun id=>V.hsl id 0 s len):AObj×(Nat→V)))with | some (ob,mk)=>∀id,st id=none→K (mk id) (st.upd id ob) | none=>False):=h
     cases hcs:fillV (repV z len) (q.map fun p=>(p.1,p.2.1,p.2.2.ev env))with
     | none=>rw[hcs]at h';exact h'.elim
     | some cs=>
       rw[hcs]at h'
       obtain⟨r,w',G',g1,g2,g3,g4,g5⟩:=bslo_sound (P:=P) hs he h1 hu h0 hcond.1.1 hcond.2 h2 hcs
       exact wp_of_value (run_value g1) (hn _ r G' _ w' g3 g4 g5 (h' _ g2))
 | store t x y=>
   obtain⟨q,h1,hc⟩:=bind_some hc
   obtain⟨x',h2,hc⟩:=bind_some hc
   obtain⟨y',h3,hc⟩:=bind_some hc
   cases hc
   have h':(match storeS st q (x'.ev env) (y'.ev env)with | some st'=>K .junk st' | none=>False):=h
   cases hst:storeS st q (x'.ev env) (y'.ev env)with
   | none=>rw[hst]at h';exact h'.elim
   | some st'=>
     rw[hst]at h'
     obtain⟨w',g1,g2⟩:=store_sound (P:=P) hs h1 (ofX_rel he h2) (ofX_rel he h3) hst
     exact wp_of_skip (run_unit g1) (hn .junk undef G st' w' G.le_refl (.junk _) g2 h')
 | mapUpdate t m k x=>
   simp only[compOp]at hc
   split at hc<;>try (cases hc;done)
   rename_i kt e ht
   obtain⟨kk,h1,hc⟩:=bind_some hc
   obtain⟨m',h3,hc⟩:=bind_some hc
   obtain⟨k',h4,hc⟩:=bind_some hc
   obtain⟨v',h5,hc⟩:=bind_some hc
   cases hc
   have h':(match msetS st kk (m'.ev env) (k'.ev env) (v'.ev env)with | some st'=>K .junk st' | none=>False):=h
   cases hst:msetS st kk (m'.ev env) (k'.ev env) (v'.ev env)with
   | none=>rw[hst]at h';exact h'.elim
   | some st'=>
     rw[hst]at h'
     obtain⟨w',g1,g2⟩:=mset_run (P:=P) hs ht (compKey_fits h1) (ofX_rel he h3) (ofX_rel he h4) (ofX_rel he h5) hst
     exact wp_of_skip (run_unit g1) (hn .junk undef G st' w' G.le_refl (.junk _) g2 h')
 | insert t m k x=>
   simp only[compOp]at hc
   split at hc<;>try (cases hc;done)
   rename_i kt e ht
   obtain⟨kk,h1,hc⟩:=bind_some hc
   obtain⟨m',h3,hc⟩:=bind_some hc
   obtain⟨k',h4,hc⟩:=bind_some hc
   obtain⟨v',h5,hc⟩:=bind_some hc
   cases hc
   have h':(match msetS st kk (m'.ev env) (k'.ev env) (v'.ev env)with | some st'=>K .junk st' | none=>False):=h
   cases hst:msetS st kk (m'.ev env) (k'.ev env) (v'.ev env)with
   | none=>rw[hst]at h';exact h'.elim
   | some st'=>
     rw[hst]at h'
     obtain⟨w',g1,g2⟩:=mset_run (P:=P) hs ht (compKey_fits h1) (ofX_rel he h3) (ofX_rel he h4) (ofX_rel he h5) hst
     exact wp_of_skip (run_unit g1) (hn .junk undef G st' w' G.le_refl (.junk _) g2 h')
 | makeMap t r=>
   cases r<;>cases hc
   obtain⟨x,w',G',g1,g2,g3,g4,g5⟩:=mkmap_sound (P:=P) hs t
   exact wp_of_value (run_value g1) (hn _ x G' _ w' g3 g4 g5 (h _ g2))
 | makeSlice t l c=>
   simp only[compOp]at hc
   split at hc<;>try (cases hc;done)
   rename_i e ht
   obtain⟨i,h1,hc⟩:=bind_some hc
   obtain⟨z,h2,hc⟩:=bind_some hc
   split at hc<;>try (cases hc;done)
   rename_i hby
   obtain⟨l',h3,hc⟩:=bind_some hc
   obtain⟨c',h4,hc⟩:=bind_some hc
   cases hc
   generalize hob:(dst.any fun x=>an.obj.contains x)=ob at h
   have h':(match natOf (l'.ev env),natOf (c'.ev env)with
    | some n,some c=>n≤c∧c*i.bytes≤140737488355328∧z.length=i.size∧(if ob=true then∀id,st id=none→K (.hsl id 0 i.size n) (st.upd id (.cells (repV z n)))else K (.sl .some (repV z n) n) st)
    | _,_=>False):=h
   split at h'<;>try (exact h'.elim)
   rename_i k cc hk hcc
   obtain⟨e1,e2,e3,e4⟩:=h'
   obtain⟨⟨r,w',G',g1,g2,g3,g4⟩,⟨r2,w2,G2,j1,j2,j3,j4,j5⟩⟩:=mksl_sound (P:=P) hs ht h1 h2 (ofX_rel he h3) (ofX_rel he h4) hk hcc e1 e2 e3 (by
    have:=Nat.le_mul_of_pos_right cc hby
    omega)
   cases ob with
   | false=>exact wp_of_value (run_value g1) (hn _ r G' _ w' g2 g3 g4 (by simpa using e4))
   | true=>exact wp_of_value (run_value j1) (hn _ r2 G2 _ w2 j3 j4 j5 (by simp only[if_true]at e4;exact e4 _ j2))
 | call c=>
   obtain⟨callee,args,tys⟩:=c
   have hc0:=hc
   simp only[compOp]at hc
   split at hc
   ·rename_i f
    split at hc
    rotate_left
    ·split at hc<;>try (cases hc;done)
     obtain⟨q,h1,hc⟩:=Option.bind_eq_some_iff.1 hc
     split at hc<;>try (cases hc;done)
     cases hc
     exact pure_case rfl
    rename_i hok
    obtain⟨q,h1,rfl⟩:=Option.map_eq_some_iff.1 hc
    refine call_wp hs (ofXs_rel he h1) h ?_ hn
    have:args.map a.eval=(args.toList.map a.eval).toArray:=by
     apply Array.ext'
     simp
    simp only[execOp,resolve,Sem.run_bind,Act.eval,Deferred.ofValue,Sem.run_pure,Result.andThen_ok,invoke,okFn_call hok,Array.empty_append,Array.append_empty]
    rw[←this]
   ·obtain⟨x',h1,hc⟩:=bind_some hc
    obtain⟨q,h2,hc⟩:=bind_some hc
    cases hc
    rename_i x hne _
    have h':(match x'.ev env with | .func f cap=>okFn P f=true∧ACalls P f (q.map (·.ev env)++cap) st K | _=>False):=h
    have hx:=ofX_rel he h1
    split at h'<;>try (exact h'.elim)
    rename_i f cap hev
    rw[hev]at hx
    have hl:=ofXs_rel he h2
    generalize hxe:a.eval x=xv at hx
    cases hx with
    | func _ _ xs hlen hv=>
      refine call_wp hs (hl.append (show LRel G cap xs.toList from⟨by simpa using hlen,fun i hi=>by rw[←getD_toList];exact hv i hi⟩)) h'.2 ?_ hn
      have:args.map a.eval=(args.toList.map a.eval).toArray:=by
       apply Array.ext'
       simp
      simp only[execOp,resolve,Sem.run_bind,hxe,Deferred.ofValue,Sem.run_pure,Result.andThen_ok,invoke,okFn_call h'.1,Array.empty_append]
      congr 2
      apply Array.ext'
      simp
   ·rename_i b
    obtain⟨p0,hc1,hz⟩:=Option.map_eq_some_iff.1 hc
    generalize hzz:(Option.any (fun x=>an.apz.contains x) dst)=zz at hz
    generalize hff:(Option.any (fun x=>an.obj.contains x) dst)=ff at hz
    clear hc
    have hc:=hc1
    clear hc1
    have pc2:pureP p0=true→p0.turnZ zz ff=p0→Oper.wp P {dst:=dst,op:=Op.call {callee:=Callee.builtin b,args:=args,argTypes:=tys},type:=ty,pos:=pos,after:=after,guard:=guard} a w next Q:=fun hp hq=>pure_case (by rw[←hz,hq];exact hp)
    clear pure_case hc0
    obtain⟨xs,h1,hc⟩:=Option.bind_eq_some_iff.1 hc
    have hl:=ofXs_rel he h1
    have htys:tys=tys.toList.toArray:=(Array.toArray_toList).symm
    have hargs:args.map a.eval=(args.toList.map a.eval).toArray:=by
     apply Array.ext'
     simp
    have hrun: ∀{s:Sem Value} {r:Value} {w':World},(∀cs,builtin b tys ty cs (args.map a.eval)=(do pure (Next.value (←s))))→s.run P w=.ok r w'→(execOp a.eval ⟨dst,.call ⟨.builtin b,args,tys⟩,ty,pos,after,guard⟩).run P w=.ok (.value r) w':=by
     intro s r w' e h
     show((builtin b tys ty _ (args.map a.eval)).run P w)=_
     rw[e]
     exact run_value h
    have two: ∀{x y:X},xs=[x,y]→∃o1 o2,args.toList=[o1,o2]∧VRel G (x.ev env) (a.eval o1)∧VRel G (y.ev env) (a.eval o2):=by
     intro x y e
     rw[e]at hl
     have hlen:=hl.1
     simp only[List.length_map,List.length_cons,List.length_nil]at hlen
     generalize args.toList=al at hlen hl
     match al,hlen,hl with
     | [o1,o2],_,hl=>exact⟨o1,o2,rfl,hl.head,hl.tail.head⟩
    unfold compBuiltin at hc
    split at hc
    ·have:pureP p0=true∧p0.turnZ zz ff=p0:=by
       split at hc<;>cases hc<;>exact⟨rfl,rfl⟩
     exact pc2 this.1 this.2
    ·cases hc;exact pc2 rfl rfl
    ·cases hc;exact pc2 rfl rfl
    ·rename_i t u x y hts _
     obtain⟨o1,o2,ho,hx,hy⟩:=two rfl
     obtain⟨e,i,z,c1,c2,c3,c4,c5,c6,c7,rfl⟩:=compAppend_some hc
     cases zz with
     | true=>
       replace h:stepP P (.appz i.size i.bytes x y) env st K:=by
        cases ff with
        | false=>
          have hpz:p=.appz i.size i.bytes x y:=hz.symm
          rw[←hpz];exact h
        | true=>
          have hpz:p=.appn i.size i.bytes x y:=hz.symm
          rw[hpz]at h
          exact stepP_appn h
       have h':(match elems st i.size (y.ev env)with
        | none=>False
        | some (ys,m)=>
          match x.ev env with
          | .sl k cs n=>
            (k=.nil∨k=.full)∧cs.length=n*i.size∧(n+m)*i.bytes≤140737488355328∧(m=0→K (.sl k cs n) st)∧(m≠0→K (.sl .some (cs++ys) (n+m)) st)
          | .hsl id off sz' n=>
            match st id with
            | some (.cells cs)=>
              sz'=i.size∧(n+m)*i.bytes≤140737488355328∧off=0∧n*i.size≤cs.length∧
              K (.sl .some (cs.take (n*i.size)++ys) (n+m)) (st.upd id (.ro (cs.take (n*i.size)++List.replicate (cs.length-n*i.size) .junk)))
            | _=>False
          | _=>False):=h
       split at h'<;>try (exact h'.elim)
       rename_i ys m hel
       obtain⟨r,v,w',G',st',g1,g2,g3,g4,g5⟩:=appz_sound (ty:=ty) hs c1 c2 c3 c4 c5 c6 c7 hy hel h' hx
       refine wp_of_value (hrun (fun cs=>?_) g1) (hn v r G' st' w' g2 g3 g4 g5)
       simp only[builtin]
       rw[hargs,ho,htys,hts]
       rfl
     | false=>
     replace h:stepP P (.app i.size i.bytes x y) env st K:=by
      cases ff with
      | false=>
        have hpz:p=.app i.size i.bytes x y:=hz.symm
        rw[←hpz];exact h
      | true=>
        have hpz:p=.appf i.size i.bytes x y:=hz.symm
        rw[hpz]at h
        exact stepP_appf h
     have h':(match elems st i.size (y.ev env)with
      | none=>False
      | some (ys,m)=>
        match x.ev env with
        | .sl k cs n=>
          (k=.nil∨k=.full)∧cs.length=n*i.size∧(n+m)*i.bytes≤140737488355328∧
          (m=0→K (.sl k cs n) st)∧(m≠0→∀id,st id=none→K (.hsl id 0 i.size (n+m)) (st.upd id (.cells (cs++ys))))
        | .hsl id off sz' n=>
          match st id with
          | some (.cells cs)=>
            sz'=i.size∧(n+m)*i.bytes≤140737488355328∧
            if off+(n+m)*i.size≤cs.length then K (.hsl id off i.size (n+m)) (st.upd id (.cells (spliceV cs (off+n*i.size) ys)))
            else off=0∧cs.length=n*i.size∧∀id',(st.del id) id'=none→K (.hsl id' 0 i.size (n+m)) ((st.del id).upd id' (.cells (cs++ys)))
          | _=>False
        | _=>False):=h
     split at h'<;>try (exact h'.elim)
     rename_i ys m hel
     obtain⟨r,v,w',G',st',g1,g2,g3,g4,g5⟩:=app_sound (ty:=ty) hs c1 c2 c3 c4 c5 c6 c7 hy hel h' hx
     refine wp_of_value (hrun (fun cs=>?_) g1) (hn v r G' st' w' g2 g3 g4 g5)
     simp only[builtin]
     rw[hargs,ho,htys,hts]
     rfl
    ·rename_i t x hts _
     split at hc<;>try (cases hc;done)
     rename_i e ht
     split at hc<;>try (cases hc;done)
     rename_i sz zs hsz hz2
     cases hc
     have hpz:p=.clear sz zs x:=hz.symm
     subst hpz
     clear hz
     have hz:=hz2
     have hone: ∃o1,args.toList=[o1]∧VRel G (x.ev env) (a.eval o1):=by
      have hlen:=hl.1
      simp only[List.length_map,List.length_cons,List.length_nil]at hlen
      generalize args.toList=al at hlen hl
      match al,hlen,hl with
      | [o1],_,hl=>exact⟨o1,rfl,hl.head⟩
     obtain⟨o1,ho,hx⟩:=hone
     have h':(match x.ev env with
      | .hsl id off sz' n=>
        match st id with
        | some (.cells cs)=>sz'=sz∧zs.length=sz∧off+n*sz≤cs.length∧K .junk (st.upd id (.cells (spliceV cs off (repV zs n))))
        | _=>False
      | .sl .nil [] 0=>K .junk st
      | _=>False):=h
     have hargs1:args.map a.eval= #[a.eval o1]:=by rw[hargs,ho];rfl
     generalize hxe:x.ev env=xa at h' hx
     cases xa with
     | hsl id off sz' nn=>
       simp only at h'
       split at h'<;>try exact h'.elim
       rename_i cs hst
       obtain⟨e1,e2,e3,e4⟩:=h'
       subst e1
       obtain⟨w',g1,g2⟩:=clear_sound (P:=P) (ty:=ty) hs hx hst ht hz e2 e3
       refine wp_of_value (hrun (fun cs=>?_) g1) (hn .junk _ G _ w' G.le_refl (.junk _) g2 e4)
       simp only[builtin]
       rw[hargs1,htys,hts]
     | sl k cs nn=>
       have hnil:k=.nil∧cs=[]∧nn=0:=by
        cases k<;>cases cs<;>cases nn<;>first | exact h'.elim | exact⟨rfl,rfl,rfl⟩
       obtain⟨rfl,rfl,rfl⟩:=hnil
       generalize hxo:a.eval o1=xo at hx hargs1
       cases hx with
       | slnil _ _=>
         have g1:(Builtin.clear_ #[t] ty #[.slice none 0 0]).run P w=.ok (.tuple #[]) w:=by
          simp[Builtin.clear_,run_underlying ht]
         refine wp_of_value (hrun (fun cs=>?_) g1) (hn .junk _ G _ w G.le_refl (.junk _) hs h')
         simp only[builtin]
         rw[hargs1,htys,hts]
       | sl _ _ _ _ _ _ hk=>exact absurd rfl hk
     | _=>exact h'.elim
    ·rename_i t u m k hts _
     obtain⟨o1,o2,ho,hx,hy⟩:=two rfl
     split at hc<;>try (cases hc;done)
     rename_i kt e ht
     obtain⟨kk,h2,rfl⟩:=Option.map_eq_some_iff.1 hc
     have hpz:p=.mdel kk m k:=hz.symm
     subst hpz
     have h':(match mdelS st kk (m.ev env) (k.ev env)with | some st'=>K .junk st' | none=>False):=h
     cases hst:mdelS st kk (m.ev env) (k.ev env)with
     | none=>rw[hst]at h';exact h'.elim
     | some st'=>
       rw[hst]at h'
       obtain⟨w',g1,g2⟩:=mdel_run (P:=P) (u:=u) (ty:=ty) hs ht (compKey_fits h2) hx hy hst
       refine wp_of_value (hrun (fun cs=>?_) g1) (hn .junk _ G st' w' G.le_refl (.junk _) g2 h')
       simp only[builtin]
       rw[hargs,ho,htys,hts]
       rfl
    ·cases hc
   ·cases hc
 | move x=>obtain⟨y,h1,rfl⟩:=Option.map_eq_some_iff.1 hc;exact pure_case rfl
 | assign x=>obtain⟨y,h1,rfl⟩:=Option.map_eq_some_iff.1 hc;exact pure_case rfl
 | nilCheck x=>obtain⟨y,h1,rfl⟩:=Option.map_eq_some_iff.1 hc;exact pure_case rfl
 | extract x i=>obtain⟨y,h1,rfl⟩:=Option.map_eq_some_iff.1 hc;exact pure_case rfl
 | pick c x y=>
   obtain⟨c',h1,hc⟩:=bind_some hc
   obtain⟨x',h2,hc⟩:=bind_some hc
   obtain⟨y',h3,hc⟩:=bind_some hc
   cases hc
   exact pure_case rfl
 | build t ps=>
   obtain⟨z,h1,hc⟩:=bind_some hc
   split at hc
   ·split at hc<;>try (cases hc;done)
    obtain⟨q,h2,hc⟩:=bind_some hc
    cases hc
    exact pure_case rfl
   ·obtain⟨s,h0,hc⟩:=bind_some hc
    obtain⟨q,h2,hc⟩:=bind_some hc
    cases hc
    exact pure_case rfl
   ·cases hc
 | load t x=>
   obtain⟨q,h1,hc⟩:=bind_some hc
   obtain⟨y,h2,hc⟩:=bind_some hc
   cases hc
   exact pure_case (by split<;>rfl)
 | ready g=>cases hc
 | waits g=>cases hc
 | binOp op t x y u=>
   obtain⟨x',hx1,hc⟩:=bind_some hc
   obtain⟨y',hy1,hc⟩:=bind_some hc
   have bincase:p=.bin op x' y'→pureP p=true:=by intro e;subst e;rfl
   refine pure_case ?_
   by_cases h1:op=.eql
   ·subst h1
    obtain⟨r,h3,hc⟩:=bind_some hc
    cases r with
    | none=>exact bincase (Option.some.inj hc).symm
    | some e=>cases hc;rfl
   ·by_cases h2:op=.neq
    ·subst h2
     obtain⟨r,h3,hc⟩:=bind_some hc
     cases r with
     | none=>exact bincase (Option.some.inj hc).symm
     | some e=>cases hc;rfl
    ·refine bincase ?_
     cases op<;>first
      | exact absurd rfl h1
      | exact absurd rfl h2
      | exact(Option.some.inj hc).symm
 | unOp op t x=>
   obtain⟨x',h1,hc⟩:=bind_some hc
   cases op<;>cases hc<;>exact pure_case rfl
 | convert s d x=>
   obtain⟨x',h1,hc⟩:=bind_some hc
   split at hc
   ·cases hc;exact pure_case rfl
   ·cases hc;exact pure_case rfl
   ·split at hc<;>cases hc
    exact pure_case rfl
   ·split at hc<;>cases hc
    exact pure_case rfl
   ·cases hc
 | sliceToArrayPointer d x=>cases hc
 | makeInterface t x=>cases hc
 | makeFunc fn first caps=>
   cases fn<;>simp only[compOp]at hc<;>try (cases hc;done)
   split at hc<;>try (cases hc;done)
   obtain⟨q,h1,rfl⟩:=Option.map_eq_some_iff.1 hc
   exact pure_case rfl
 | makeChan t x=>cases hc
 | slice t x lo hi mx=>
   obtain⟨x',h1,hc⟩:=bind_some hc
   obtain⟨lo',h2,hc⟩:=bind_some hc
   obtain⟨hi',h3,hc⟩:=bind_some hc
   split at hc
   ·split at hc<;>cases hc
    exact pure_case rfl
   ·obtain⟨s,h4,hc⟩:=bind_some hc
    obtain⟨mx',h5,hc⟩:=bind_some hc
    split at hc
    ·split at hc<;>(cases hc;exact pure_case rfl)
    ·cases hc
     exact pure_case rfl
   ·split at hc<;>try (cases hc;done)
    obtain⟨s,h4,hc⟩:=bind_some hc
    cases hc
    exact pure_case rfl
   ·cases hc
 | fieldAddr t x i=>
   simp only[compOp]at hc
   split at hc<;>try (cases hc;done)
   split at hc<;>try (cases hc;done)
   split at hc<;>try (cases hc;done)
   obtain⟨x',h1,rfl⟩:=Option.map_eq_some_iff.1 hc
   exact pure_case rfl
 | field t x i=>
   simp only[compOp]at hc
   split at hc<;>try (cases hc;done)
   split at hc<;>try (cases hc;done)
   obtain⟨q,h1,hc⟩:=bind_some hc
   obtain⟨x',h2,hc⟩:=bind_some hc
   cases hc
   exact pure_case rfl
 | indexAddr t x i=>
   obtain⟨x',h1,hc⟩:=bind_some hc
   obtain⟨i',h2,hc⟩:=bind_some hc
   split at hc
   ·obtain⟨s,h3,rfl⟩:=Option.map_eq_some_iff.1 hc
    exact pure_case rfl
   ·obtain⟨s,h3,rfl⟩:=Option.map_eq_some_iff.1 hc
    exact pure_case rfl
   ·cases hc
 | index t x i=>
   obtain⟨x',h1,hc⟩:=bind_some hc
   obtain⟨i',h2,hc⟩:=bind_some hc
   split at hc
   ·obtain⟨s,h3,hc⟩:=bind_some hc
    obtain⟨ag,h4,hc⟩:=bind_some hc
    split at hc<;>cases hc
    exact pure_case rfl
   ·cases hc
    exact pure_case rfl
   ·cases hc
 | lookup t m k ok=>
   simp only[compOp]at hc
   split at hc<;>try (cases hc;done)
   obtain⟨kk,h1,hc⟩:=bind_some hc
   obtain⟨z,h2,hc⟩:=bind_some hc
   obtain⟨m',h3,hc⟩:=bind_some hc
   obtain⟨k',h4,hc⟩:=bind_some hc
   cases hc
   exact pure_case rfl
 | mapEntry t m k=>
   simp only[compOp]at hc
   split at hc<;>try (cases hc;done)
   rename_i kt e ht
   obtain⟨kk,h1,hc⟩:=bind_some hc
   obtain⟨z,h2,hc⟩:=bind_some hc
   obtain⟨m',h3,hc⟩:=bind_some hc
   obtain⟨k',h4,hc⟩:=bind_some hc
   cases hc
   obtain⟨r,u,w',st',g1,g2,g3,g4⟩:=ment_run (P:=P) hs ht (compKey_fits h1) h2 h (ofX_rel he h3) (ofX_rel he h4)
   exact wp_of_value (run_value g1) (hn u r G st' w' G.le_refl g2 g3 g4)
 | entryStore t m k x=>
   simp only[compOp]at hc
   obtain⟨m',h3,hc⟩:=bind_some hc
   obtain⟨k',h4,hc⟩:=bind_some hc
   obtain⟨v',h5,hc⟩:=bind_some hc
   cases hc
   have h':(match entS st (m'.ev env) (k'.ev env) (v'.ev env)with | some st'=>K .junk st' | none=>False):=h
   cases hst:entS st (m'.ev env) (k'.ev env) (v'.ev env)with
   | none=>rw[hst]at h';exact h'.elim
   | some st'=>
     rw[hst]at h'
     obtain⟨w',g1,g2⟩:=estore_run (P:=P) (t:=t) hs (ofX_rel he h3) (ofX_rel he h4) (ofX_rel he h5) hst
     exact wp_of_skip (run_unit g1) (hn .junk undef G st' w' G.le_refl (.junk _) g2 h')
 | range t x=>
   simp only[compOp]at hc
   split at hc<;>try (cases hc;done)
   ·rename_i ht
    obtain⟨y,h1,rfl⟩:=Option.map_eq_some_iff.1 hc
    have h':(match(match y.ev env with | .str s=>some ((AObj.siter s 0,fun id=>V.ptr (some (id,0))):AObj×(Nat→V)) | _=>none)with | some (ob,mk)=>∀id,st id=none→K (mk id) (st.upd id ob) | none=>False):=h
    have hx:=ofX_rel he h1
    generalize hxe:a.eval x=xv at hx
    generalize y.ev env=yv at h' hx
    cases yv<;>simp only at h'
    rename_i s
    cases hx
    obtain⟨r,w',G',g1,g2,g3,g4,g5⟩:=rngStr_sound (P:=P) hs ht s
    exact wp_of_value (by simp only[execOp,hxe];exact run_value g1) (hn _ r G' _ w' g3 g4 g5 (h' _ g2))
   ·rename_i ht
    obtain⟨y,h1,rfl⟩:=Option.map_eq_some_iff.1 hc
    obtain⟨r,u,w',G',st',g1,g2,g3,g4,g5⟩:=rngMap_sound (P:=P) hs ht h (ofX_rel he h1)
    exact wp_of_value (run_value g1) (hn u r G' st' w' g2 g3 g4 g5)
 | next it s=>
   obtain⟨y,h1,rfl⟩:=Option.map_eq_some_iff.1 hc
   cases s with
   | true=>
     obtain⟨r,u,w',G',st',g1,g2,g3,g4,g5⟩:=nextStr_sound (P:=P) (ty:=ty) hs h (ofX_rel he h1)
     exact wp_of_value (run_value g1) (hn u r G' st' w' g2 g3 g4 g5)
   | false=>
     obtain⟨r,u,w',G',st',g1,g2,g3,g4,g5⟩:=nextMap_sound (P:=P) (ty:=ty) hs h (ofX_rel he h1)
     exact wp_of_value (run_value g1) (hn u r G' st' w' g2 g3 g4 g5)
 | entry it=>
   obtain⟨y,h1,rfl⟩:=Option.map_eq_some_iff.1 hc
   exact pure_case rfl
 | typeAssert x t u ok=>cases hc
 | go c=>cases hc
 | defer c=>cases hc
 | panic x=>cases hc
 | send ch x=>cases hc
 | recv t ch ok=>cases hc
 | select cs b=>cases hc
end
theorem add_some {st fr:St}{i:Nat}{o:AObj}(h:st i=some o):(st.add fr) i=some o:=by simp[St.add,h]
theorem add_none {st fr:St}{i:Nat}:(st.add fr) i=none↔st i=none∧fr i=none:=by
 unfold St.add
 cases st i<;>simp
theorem sub_add (st fr:St):St.sub st (st.add fr):=fun _ _ h=>add_some h
theorem upd_add (st fr:St)(id:Nat)(o:AObj):(st.upd id o).add fr=(st.add fr).upd id o:=by
 funext i
 by_cases h:i=id<;>simp[St.add,St.upd,h]
theorem Disj.some {st fr:St}(h:Disj st fr){i:Nat}{o:AObj}(hi:st i=some o):fr i=none:=(h i).resolve_left (by rw[hi];simp)
theorem Disj.upd {st fr:St}(h:Disj st fr){id:Nat}(hid:fr id=none)(o:AObj):Disj (st.upd id o) fr:=fun i=>by
 by_cases e:i=id
 ·exact .inr (e ▸hid)
 ·simpa[St.upd,e]using h i
theorem Disj.del {st fr:St}(h:Disj st fr)(id:Nat):Disj (st.del id) fr:=fun i=>by
 by_cases e:i=id
 ·exact .inl (by simp[St.del,e])
 ·simpa[St.del,e]using h i
theorem Disj.sub {st st' fr:St}(h:Disj st' fr)(hs:St.sub st st'):Disj st fr:=fun i=>by
 rcases h i with h | h
 ·cases e:st i with
  | none=>exact .inl rfl
  | some o=>rw[hs i o e]at h;cases h
 ·exact .inr h
theorem sub_add_sub {st st' fr:St}(h:St.sub st st')(hd:Disj st' fr):St.sub (st.add fr) (st'.add fr):=fun i o hi=>by
 cases e:st i with
 | some x=>
   rw[add_some e]at hi
   cases hi
   exact add_some (h i _ e)
 | none=>
   simp only[St.add,e]at hi
   have:st' i=none:=(hd i).resolve_right (by rw[hi];simp)
   simp only[St.add,this,hi]
theorem del_add {st fr:St}{id:Nat}(h:fr id=none):(st.del id).add fr=(st.add fr).del id:=by
 funext i
 by_cases e:i=id
 ·subst e
  simp[St.add,St.del,h]
 ·simp[St.add,St.del,e]
theorem add_assoc (a b c:St):(a.add b).add c=a.add (b.add c):=by
 funext i
 simp only[St.add]
 cases a i<;>rfl
theorem disj_right {a b c:St}(h:Disj a b)(k:Disj (a.add b) c):Disj a (b.add c):=fun i=>by
 rcases k i with e | e
 ·exact .inl (add_none.1 e).1
 ·rcases h i with h | h
  ·exact .inl h
  ·exact .inr (add_none.2 ⟨h,e⟩)
theorem disj_left {a b c:St}(h:Disj a (b.add c)):Disj a b:=fun i=>(h i).imp id fun e=>(add_none.1 e).1
theorem disj_out {a b c:St}(h:Disj a (b.add c))(hbc:Disj b c):Disj (a.add b) c:=fun i=>by
 rcases hbc i with e | e
 ·rcases h i with h | h
  ·exact .inl (add_none.2 ⟨h,e⟩)
  ·exact .inr (add_none.1 h).2
 ·exact .inr e
theorem disj_bc {a b c:St}(k:Disj (a.add b) c):Disj b c:=fun i=>by
 rcases k i with e | e
 ·exact .inl (add_none.1 e).2
 ·exact .inr e
def Beside (fr:St){α:Type}(K:α→St→Prop):α→St→Prop:=fun v s=>∃s',Disj s' fr∧s=s'.add fr∧K v s'
section
variable {P:Program} {st st' fr:St} {env:Env}
theorem seg_sub (h:St.sub st st'){id off sz:Nat}{c:List V}(hc:st.seg id off sz=some c):st'.seg id off sz=some c:=by
 unfold St.seg at *
 cases hid:st id with
 | none=>rw[hid]at hc;cases hc
 | some o=>rw[hid]at hc;rw[h id o hid];exact hc
theorem ldCells_sub (h:St.sub st st'){sz:Nat}{v:V}{c:List V}(hc:ldCells st sz v=some c):ldCells st' sz v=some c:=by
 unfold ldCells at *
 split at hc
 ·exact seg_sub h hc
 ·exact hc
 ·cases hc
theorem elems_sub (h:St.sub st st'){sz:Nat}{v:V}{c:List V×Nat}(hc:elems st sz v=some c):elems st' sz v=some c:=by
 unfold elems at *
 split at hc
 ·exact hc
 ·split at hc<;>try (cases hc;done)
  rename_i e
  rw[if_pos e]
  obtain⟨l,h1,h2⟩:=Option.map_eq_some_iff.1 hc
  rw[seg_sub h h1]
  simpa using h2
 ·exact hc
 ·cases hc
theorem opV_sub (h:St.sub st st'){o:POp}{v:V}(hv:opV o env st=some v):opV o env st'=some v:=by
 cases o
 case bsl b sz n z ps=>cases b<;>exact hv
 case max l=>cases l<;>exact hv
 case min l=>cases l<;>exact hv
 case toStr x=>
  simp only[opV,toStrV]at hv⊢
  split at hv
  ·cases hv
  ·obtain⟨l,h1,h2⟩:=Option.bind_eq_some_iff.1 hv
   rw[elems_sub h h1]
   exact h2
 case load ag sz x=>
  simp only[opV]at hv⊢
  obtain⟨l,h1,h2⟩:=Option.bind_eq_some_iff.1 hv
  rw[ldCells_sub h h1]
  exact h2
 case slArr al n sz x lo hi=>
  simp only[opV,slArrV]at hv⊢
  cases hb:bounds env n lo hi with
  | none=>rw[hb]at hv;cases hv
  | some q=>
    rw[hb]at hv
    obtain⟨l,u⟩:=q
    simp only at hv⊢
    cases al with
    | true=>
      simp only[if_true]at hv⊢
      split at hv<;>try (cases hv;done)
      rename_i id o hx
      split at hv<;>try (cases hv;done)
      rename_i cs hid
      simp only[hx,h id _ hid]
      exact hv
    | false=>
      simp only[Bool.false_eq_true,if_false]at hv⊢
      split at hv<;>try (cases hv;done)
      ·rename_i id o hx
       split at hv<;>try (cases hv;done)
       rename_i cs hid
       simp only[hx,h id _ hid]
       exact hv
      ·rename_i cs hx
       first | exact hv | (simp only[hx];exact hv)
 case slw sz x lo hi=>
  simp only[opV,slwV]at hv⊢
  split at hv<;>try (cases hv;done)
  rename_i id off sz' n hx
  split at hv<;>try (cases hv;done)
  rename_i cs hid
  simp only[hx,h id _ hid]
  exact hv
 case lenMap x=>
  simp only[opV,lenMapV]at hv⊢
  split at hv<;>try (cases hv;done)
  ·rename_i hx
   first | exact hv | (simp only[hx];exact hv)
  ·rename_i id hx
   split at hv<;>try (cases hv;done)
   all_goals
    rename_i hid
    simp only[hx,h id _ hid]
    exact hv
 case entry x=>
  simp only[opV,entryV]at hv⊢
  split at hv<;>try (cases hv;done)
  rename_i it hx
  split at hv<;>try (cases hv;done)
  rename_i id a seen stp hit
  split at hv<;>try (cases hv;done)
  rename_i es bs clk hid
  simp only[hx,h it _ hit,h id _ hid]
  exact hv
 case lookup kk z ok m k=>
  simp only[opV,lookupV]at hv⊢
  split at hv<;>try (cases hv;done)
  rename_i hk
  rw[if_pos hk]
  obtain⟨es,h1,h2⟩:=Option.bind_eq_some_iff.1 hv
  have:mapOf st' (m.ev env)=some es:=by
   unfold mapOf at *
   split at h1<;>try (cases h1;done)
   ·exact h1
   ·rename_i id hx
    split at h1<;>try (cases h1;done)
    all_goals
     rename_i hid
     simp only[h id _ hid]
     exact h1
  refine Option.bind_eq_some_iff.2 ⟨es,this,h2⟩
 all_goals exact hv
theorem opS_add (hd:Disj st fr){o:POp}{s:St}(hs:opS o env st=some s):Disj s fr∧opS o env (st.add fr)=some (s.add fr):=by
 have key: ∀{id:Nat} {ob ob':AObj},st id=some ob→Disj (st.upd id ob') fr∧(st.add fr).upd id ob'=(st.upd id ob').add fr:=fun hid=>⟨hd.upd (hd.some hid) _,(upd_add _ _ _ _).symm⟩
 cases o<;>simp only[opS]at hs<;>try (cases hs;done)
 case store sz x y=>
  simp only[opS,storeS]at hs⊢
  split at hs<;>try (cases hs;done)
  rename_i id o hx
  split at hs<;>try (cases hs;done)
  rename_i cs hid
  split at hs<;>try (cases hs;done)
  rename_i vs hy
  split at hs<;>cases hs
  rename_i hc
  refine⟨(key hid).1,?_⟩
  simp only[hx,add_some hid,hy,if_pos hc,(key hid).2]
 case mset kk m k v=>
  unfold msetS at hs
  split at hs<;>try (cases hs;done)
  rename_i id hx
  split at hs<;>try (cases hs;done)
  rename_i hk
  split at hs<;>try (cases hs;done)
  rename_i es hid
  obtain⟨es',h1,rfl⟩:=Option.map_eq_some_iff.1 hs
  refine⟨(key hid).1,?_⟩
  simp only[opS,msetS,hx,if_pos hk,add_some hid,h1,Option.map_some,(key hid).2]
 case estore m s' v=>
  unfold entS at hs
  split at hs<;>try (cases hs;done)
  rename_i id n hx hy
  split at hs<;>try (cases hs;done)
  rename_i es bs clk hid
  obtain⟨i,h1,h2⟩:=Option.bind_eq_some_iff.1 hs
  obtain⟨e,h3,rfl⟩:=Option.map_eq_some_iff.1 h2
  refine⟨(key hid).1,?_⟩
  simp only[opS,entS,hx,hy,add_some hid,h1,Option.bind_some,h3,Option.map_some,(key hid).2]
 case mdel kk m k=>
  unfold mdelS at hs
  split at hs<;>try (cases hs;done)
  ·rename_i hx
   split at hs<;>cases hs
   rename_i hk
   refine⟨hd,?_⟩
   simp only[opS,mdelS,hx,if_pos hk]
  ·rename_i id hx
   split at hs<;>try (cases hs;done)
   rename_i hk
   split at hs<;>try (cases hs;done)
   ·rename_i es hid
    obtain⟨es',h1,rfl⟩:=Option.map_eq_some_iff.1 hs
    refine⟨(key hid).1,?_⟩
    simp only[opS,mdelS,hx,if_pos hk,add_some hid,h1,Option.map_some,(key hid).2]
   ·rename_i es bs clk hid
    obtain⟨q,h1,h2⟩:=Option.map_eq_some_iff.1 hs
    simp only[opS,mdelS,hx,if_pos hk,add_some hid,h1,Option.map_some]
    cases q with
    | none=>cases h2;exact⟨hd,rfl⟩
    | some j=>
      cases h2
      exact⟨(key hid).1,congrArg some (key hid).2⟩
theorem opA_same {o:POp}(st st':St):opA o env st=opA o env st':=by cases o<;>first | rfl | (rename_i b _ _ _ _;cases b<;>rfl)
theorem ACalls.frame {f:FuncId}{args:List V}{K:V→St→Prop}(hd:Disj st fr)(h:ACalls P f args st K):ACalls P f args (st.add fr) (Beside fr K):=by
 intro fr2 hd2 B w0 G w xs hs ha
 rw[add_assoc]at hs
 refine(h (fr.add fr2) (disj_right hd hd2) B w0 G w xs hs ha).mono fun e w' ⟨v,x,G',s,h1,h2,h3,h4,h5,h6⟩=>?_
 exact⟨v,x,G',s.add fr,h1,h2,h3,disj_out h4 (disj_bc hd2),by rw[add_assoc];exact h5,s,disj_left h4,rfl,h6⟩
theorem stepP_frame (hd:Disj st fr)(o:POp){K:V→St→Prop}(h:stepP P o env st K):stepP P o env (st.add fr) (Beside fr K):=by
 have key: ∀(o:POp),(if o.makes then match opA o env st with | some (ob,mk)=>∀id,st id=none→K (mk id) (st.upd id ob) | none=>False
   else if o.writes then match opS o env st with | some st'=>K .junk st' | none=>False
   else match opV o env st with | some v=>K v st | none=>False)→
   (if o.makes then match opA o env (st.add fr)with | some (ob,mk)=>∀id,(st.add fr) id=none→Beside fr K (mk id) ((st.add fr).upd id ob) | none=>False
   else if o.writes then match opS o env (st.add fr)with | some st'=>Beside fr K .junk st' | none=>False
   else match opV o env (st.add fr)with | some v=>Beside fr K v (st.add fr) | none=>False):=by
  intro o h
  split
  ·rename_i hm
   rw[if_pos hm]at h
   rw[opA_same (st.add fr) st]
   split<;>rename_i hx<;>rw[hx]at h
   ·intro id hid
    obtain⟨h1,h2⟩:=add_none.1 hid
    exact⟨_,hd.upd h2 _,(upd_add _ _ _ _).symm,h id h1⟩
   ·exact h
  ·rename_i hm
   rw[if_neg hm]at h
   split
   ·rename_i hw
    rw[if_pos hw]at h
    cases hx:opS o env st with
    | none=>rw[hx]at h;exact h.elim
    | some s=>
      rw[hx]at h
      obtain⟨h1,h2⟩:=opS_add hd hx
      rw[h2]
      exact⟨s,h1,rfl,h⟩
   ·rename_i hw
    rw[if_neg hw]at h
    cases hx:opV o env st with
    | none=>rw[hx]at h;exact h.elim
    | some v=>
      rw[hx]at h
      rw[opV_sub (sub_add st fr) hx]
      exact⟨st,hd,rfl,h⟩
 have key:=key o
 cases o
 case call f l=>exact ACalls.frame hd h
 case callv f l=>
  simp only[stepP]at h⊢
  split at h
  ·exact⟨h.1,ACalls.frame hd h.2⟩
  ·exact h
 case app sz b x y=>
  simp only[stepP]at h⊢
  cases he:elems st sz (y.ev env)with
  | none=>rw[he]at h;exact h.elim
  | some q=>
    obtain⟨ys,m⟩:=q
    rw[he]at h
    rw[elems_sub (sub_add st fr) he]
    simp only at h⊢
    generalize x.ev env=xv at h⊢
    cases xv with
    | sl k cs n=>
      obtain⟨h1,h2,h3,h4,h5⟩:=h
      refine⟨h1,h2,h3,fun e=>⟨st,hd,rfl,h4 e⟩,fun e id hid=>?_⟩
      obtain⟨g1,g2⟩:=add_none.1 hid
      exact⟨_,hd.upd g2 _,(upd_add _ _ _ _).symm,h5 e id g1⟩
    | hsl id off sz' n=>
      simp only at h⊢
      cases hid:st id with
      | none=>rw[hid]at h;exact h.elim
      | some ob=>
        rw[hid]at h
        rw[add_some hid]
        cases ob with
        | cells cs=>
          simp only at h⊢
          obtain⟨h1,h2,h3⟩:=h
          refine⟨h1,h2,?_⟩
          have hf:=hd.some hid
          split at h3
          ·rename_i hc
           rw[if_pos hc]
           exact⟨_,hd.upd hf _,(upd_add _ _ _ _).symm,h3⟩
          ·rename_i hc
           rw[if_neg hc]
           refine⟨h3.1,h3.2.1,fun id' hid'=>?_⟩
           rw[←del_add hf]at hid'⊢
           obtain⟨g1,g2⟩:=add_none.1 hid'
           exact⟨_,(hd.del id).upd g2 _,(upd_add _ _ _ _).symm,h3.2.2 id' g1⟩
        | _=>exact h.elim
    | _=>exact h.elim
 case mksl ob sz b z x y=>
  simp only[stepP]at h⊢
  split at h<;>try exact h
  obtain⟨h1,h2,h3,h4⟩:=h
  refine⟨h1,h2,h3,?_⟩
  split at h4
  ·rename_i hc
   rw[if_pos hc]
   intro id hid
   obtain⟨g1,g2⟩:=add_none.1 hid
   exact⟨_,hd.upd g2 _,(upd_add _ _ _ _).symm,h4 id g1⟩
  ·rename_i hc
   rw[if_neg hc]
   exact⟨st,hd,rfl,h4⟩
 case clear sz z x=>
  simp only[stepP]at h⊢
  generalize x.ev env=xv at h⊢
  cases xv with
  | hsl id off sz' n=>
    simp only at h⊢
    cases hid:st id with
    | none=>rw[hid]at h;exact h.elim
    | some ob=>
      rw[hid]at h
      rw[add_some hid]
      cases ob with
      | cells cs=>exact⟨h.1,h.2.1,h.2.2.1,_,hd.upd (hd.some hid) _,(upd_add _ _ _ _).symm,h.2.2.2⟩
      | _=>exact h.elim
  | sl k cs n=>cases k<;>cases cs<;>cases n<;>first | exact h.elim | exact⟨st,hd,rfl,h⟩
  | _=>exact h.elim
 case nextStr x=>
  simp only[stepP]at h⊢
  split at h<;>try exact h.elim
  rename_i it hx
  split at h<;>try exact h.elim
  rename_i s pos hit
  simp only[add_some hit]
  split at h
  ·rename_i hc
   rw[if_pos hc]
   exact⟨_,hd.upd (hd.some hit) _,(upd_add _ _ _ _).symm,h⟩
  ·rename_i hc
   rw[if_neg hc]
   exact⟨st,hd,rfl,h⟩
 case rngMap x=>
  simp only[stepP]at h⊢
  split at h<;>try exact h.elim
  ·intro it hit
   obtain⟨g1,g2⟩:=add_none.1 hit
   exact⟨_,hd.upd g2 _,(upd_add _ _ _ _).symm,h it g1⟩
  ·rename_i id hx
   split at h<;>try exact h.elim
   rename_i es hid
   simp only[add_some hid]
   intro it hit bs clk e1 e2 e3
   obtain⟨g1,g2⟩:=add_none.1 hit
   refine⟨_,(hd.upd (hd.some hid) (.mpi es bs clk)).upd g2 _,?_,h it g1 bs clk e1 e2 e3⟩
   rw[upd_add,upd_add]
 case ment kk zero m k=>
  simp only[stepP]at h⊢
  split at h<;>try exact h.elim
  rename_i id hx
  split at h<;>try exact h.elim
  rename_i es hid
  simp only[add_some hid]
  refine⟨h.1,fun bs clk e1 e2 e3=>?_⟩
  have h2:=h.2 bs clk e1 e2 e3
  split at h2<;>try exact h2.elim
  ·exact⟨_,hd.upd (hd.some hid) _,(upd_add _ _ _ _).symm,h2⟩
  ·exact⟨_,hd.upd (hd.some hid) _,(upd_add _ _ _ _).symm,h2⟩
 case nextMap x=>
  simp only[stepP]at h⊢
  split at h<;>try exact h.elim
  rename_i it hx
  split at h<;>try exact h.elim
  ·rename_i hit
   simp only[add_some hit]
   exact⟨st,hd,rfl,h⟩
  ·rename_i id since seen stp hit
   simp only[add_some hit]
   split at h<;>try exact h.elim
   rename_i es bs clk hid
   simp only[add_some hid]
   refine⟨h.1,h.2.1,h.2.2.1,fun e=>⟨st,hd,rfl,h.2.2.2.1 e⟩,fun i hi hn=>⟨_,hd.upd (hd.some hit) _,(upd_add _ _ _ _).symm,h.2.2.2.2 i hi hn⟩⟩
 case appz sz b x y=>
  simp only[stepP]at h⊢
  cases he:elems st sz (y.ev env)with
  | none=>rw[he]at h;exact h.elim
  | some q=>
    obtain⟨ys,m⟩:=q
    rw[he]at h
    rw[elems_sub (sub_add st fr) he]
    simp only at h⊢
    generalize x.ev env=xv at h⊢
    cases xv with
    | sl k cs n=>
      obtain⟨h1,h2,h3,h4,h5⟩:=h
      exact⟨h1,h2,h3,fun e=>⟨st,hd,rfl,h4 e⟩,fun e=>⟨st,hd,rfl,h5 e⟩⟩
    | hsl id off sz' n=>
      simp only at h⊢
      cases hid:st id with
      | none=>rw[hid]at h;exact h.elim
      | some ob=>
        rw[hid]at h
        rw[add_some hid]
        cases ob with
        | cells cs=>
          simp only at h⊢
          obtain⟨h1,h2,h3,h4,h5⟩:=h
          exact⟨h1,h2,h3,h4,_,hd.upd (hd.some hid) _,(upd_add _ _ _ _).symm,h5⟩
        | _=>exact h.elim
    | _=>exact h.elim
 case appf sz b x y=>
  simp only[stepP]at h⊢
  cases he:elems st sz (y.ev env)with
  | none=>rw[he]at h;exact h.elim
  | some q=>
    obtain⟨ys,m⟩:=q
    rw[he]at h
    rw[elems_sub (sub_add st fr) he]
    simp only at h⊢
    generalize x.ev env=xv at h⊢
    cases xv with
    | sl k cs n=>
      obtain⟨h1,h2,h3,h4,h5⟩:=h
      exact⟨h1,h2,h3,fun e=>⟨st,hd,rfl,h4 e⟩,fun e id hid=>⟨_,hd.upd (add_none.1 hid).2 _,(upd_add _ _ _ _).symm,h5 e id (add_none.1 hid).1⟩⟩
    | _=>exact h.elim
 case appn sz b x y=>
  simp only[stepP]at h⊢
  cases he:elems st sz (y.ev env)with
  | none=>rw[he]at h;exact h.elim
  | some q=>
    obtain⟨ys,m⟩:=q
    rw[he]at h
    rw[elems_sub (sub_add st fr) he]
    simp only at h⊢
    generalize x.ev env=xv at h⊢
    cases xv with
    | sl k cs n=>
      obtain⟨h1,h2,h3,h4,h5⟩:=h
      exact⟨h1,h2,h3,fun e=>⟨st,hd,rfl,h4 e⟩,fun e=>⟨st,hd,rfl,h5 e⟩⟩
    | _=>exact h.elim
 all_goals exact key h
theorem stillP_frame (hd:Disj st fr)(o:POp){K:V→Prop}(h:stillP P o env st K):stillP P o env (st.add fr) K:=by
 have key: ∀(o:POp),(match opV o env st with | some v=>K v | none=>False)→(match opV o env (st.add fr)with | some v=>K v | none=>False):=by
  intro o h
  cases hx:opV o env st with
  | none=>rw[hx]at h;exact h.elim
  | some v=>
    rw[hx]at h
    rw[opV_sub (sub_add st fr) hx]
    exact h
 have call: ∀{f:FuncId} {args:List V} {v:V},ACalls P f args st (fun v' st'=>v'=v∧st'=st)→ACalls P f args (st.add fr) (fun v' st'=>v'=v∧st'=st.add fr):=fun h=>
  (h.frame hd).mono fun u s ⟨s',_,h2,h3,h4⟩=>⟨h3,by rw[h2,h4]⟩
 have key:=key o
 cases o
 case call f l=>obtain⟨v,h1,h2⟩:=h;exact⟨v,call h1,h2⟩
 case callv f l=>
  simp only[stillP]at h⊢
  split at h
  ·obtain⟨ho,v,h1,h2⟩:=h
   exact⟨ho,v,call h1,h2⟩
  ·exact h
 case mksl ob sz b z x y=>cases ob with
  | false=>exact h
  | true=>exact h.elim
 all_goals exact key h
theorem still_frame (hd:Disj st fr)(o:POp){K:V→St→Prop}(h:stillP P o env st fun v=>K v st):stillP P o env (st.add fr) fun v=>Beside fr K v (st.add fr):=by
 have h1:=stillP_frame (P:=P) (env:=env) hd o h
 clear h
 cases o
 case call f l=>obtain⟨v,h2,h3⟩:=h1;exact⟨v,h2,st,hd,rfl,h3⟩
 case callv f l=>
  simp only[stillP]at h1⊢
  split at h1
  ·obtain⟨ho,v,h2,h3⟩:=h1
   exact⟨ho,v,h2,st,hd,rfl,h3⟩
  ·exact h1
 case mksl ob sz b z x y=>
  cases ob with
  | false=>
    simp only[stillP]at h1⊢
    split at h1
    ·exact⟨h1.1,st,hd,rfl,h1.2⟩
    ·exact h1
  | true=>exact h1.elim
 all_goals
  simp only[stillP]at h1⊢
  split at h1
  ·exact⟨st,hd,rfl,h1⟩
  ·exact h1
theorem stepC_frame (hd:Disj st fr)(c:Cls)(o:POp){K:V→St→Prop}(h:stepC P c o env st K):stepC P c o env (st.add fr) (Beside fr K):=by
 cases c with
 | x=>exact stepP_frame hd o h
 | a=>exact stepP_frame hd o h
 | _=>exact still_frame hd o h
end
end Go.Ab

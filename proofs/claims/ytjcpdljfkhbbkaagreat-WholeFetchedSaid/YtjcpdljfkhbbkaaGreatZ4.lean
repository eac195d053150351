import Derived.Test.YtjcpdljfkhbbkaaGreatZ3
import Derived.Test.YtjcpdljfkhbbkaaGreatZ1
import Derived.Sort.Grow
set_option linter.unusedVariables false
set_option linter.unusedSimpArgs false
set_option linter.unusedSectionVars false
namespace Go.Ab
open Go Go.RowKit
theorem Same.get {W:List Nat}{env env':Env}(h:Same W env env')(t:Nat)(ht:W.contains t=false):env' t=env t:=h t (by simpa using ht)
def rowsOf {α:Type}(f:α→List V)(l:List α):List V:=l.flatMap f
section
variable {α:Type} {f:α→List V} {sz:Nat}
@[simp] theorem rowsOf_nil:rowsOf f []=[]:=by simp[rowsOf]
@[simp] theorem rowsOf_cons (a:α)(l:List α):rowsOf f (a::l)=f a++rowsOf f l:=by simp[rowsOf]
@[simp] theorem rowsOf_append (a b:List α):rowsOf f (a++b)=rowsOf f a++rowsOf f b:=by simp[rowsOf]
theorem rowsOf_length (hf: ∀a,(f a).length=sz): ∀(l:List α),(rowsOf f l).length=l.length*sz
 | []=>by simp[rowsOf]
 | a::l=>by
   have:=rowsOf_length hf l
   simp only[rowsOf,List.flatMap_cons,List.length_append,List.length_cons,hf,Nat.succ_mul]at this⊢
   omega
theorem rowsOf_drop (hf: ∀a,(f a).length=sz): ∀(i:Nat) (l:List α),(rowsOf f l).drop (i*sz)=rowsOf f (l.drop i)
 | 0,l=>by simp
 | i+1,[]=>by simp
 | i+1,a::l=>by
   have:=rowsOf_drop hf i l
   rw[rowsOf_cons,List.drop_succ_cons,←this,show(i+1)*sz=(f a).length+i*sz by rw[hf,Nat.succ_mul];omega,←List.drop_drop,List.drop_left]
theorem rowsOf_take (hf: ∀a,(f a).length=sz)(i:Nat)(l:List α):(rowsOf f l).take (i*sz)=rowsOf f (l.take i):=by
 by_cases h:i≤l.length
 ·have e:rowsOf f l=rowsOf f (l.take i)++rowsOf f (l.drop i):=by rw[←rowsOf_append,List.take_append_drop]
  have e2:i*sz=(rowsOf f (l.take i)).length:=by rw[rowsOf_length hf,List.length_take,Nat.min_eq_left h]
  rw[e,e2,List.take_left]
 ·have h1:(rowsOf f l).length≤i*sz:=by
    rw[rowsOf_length hf]
    exact Nat.mul_le_mul_right _ (by omega)
  have h2:l.length≤i:=by omega
  rw[List.take_of_length_le h1,List.take_of_length_le h2]
theorem rowsOf_row (hf: ∀a,(f a).length=sz)(l:List α)(sp:List V){i:Nat}(h:i<l.length):((rowsOf f l++sp).drop (i*sz)).take sz=f l[i]:=by
 have hl:=rowsOf_length hf l
 have hle:i*sz≤l.length*sz:=Nat.mul_le_mul_right _ (by omega)
 rw[List.drop_append_of_le_length (by omega),rowsOf_drop hf,List.drop_eq_getElem_cons h,rowsOf_cons,List.append_assoc,←hf l[i],List.take_left]
theorem rowsOf_seg (hf: ∀a,(f a).length=sz)(l:List α)(sp:List V){i:Nat}(h:i<l.length):segOf (rowsOf f l++sp) (i*sz) sz=some (f l[i]):=by
 have hl:=rowsOf_length hf l
 have hle:(i+1)*sz≤l.length*sz:=Nat.mul_le_mul_right _ (by omega)
 rw[Nat.succ_mul]at hle
 unfold segOf
 rw[if_pos (by simp;omega),rowsOf_row hf l sp h]
theorem rowsOf_part (hf: ∀a,(f a).length=sz)(l:List α)(sp:List V){i o n:Nat}(h:i<l.length)(hn:o+n≤sz):segOf (rowsOf f l++sp) (i*sz+o) n=some (((f l[i]).drop o).take n):=by
 have hl:=rowsOf_length hf l
 have hle:(i+1)*sz≤l.length*sz:=Nat.mul_le_mul_right _ (by omega)
 rw[Nat.succ_mul]at hle
 have hr:=rowsOf_row hf l sp h
 unfold segOf
 rw[if_pos (by simp;omega),←List.drop_drop,←hr,List.drop_take,List.take_take,Nat.min_eq_left (by omega)]
theorem rowsOf_eptr (hf: ∀a,(f a).length=sz)(l:List α){i:Nat}(h:i<l.length):segOf ((rowsOf f l).drop (i*sz)) 0 sz=some (f l[i]):=by
 have hs:=rowsOf_row hf l [] h
 have hl:=rowsOf_length hf l
 have hle:(i+1)*sz≤l.length*sz:=Nat.mul_le_mul_right _ (by omega)
 rw[Nat.succ_mul]at hle
 rw[List.append_nil]at hs
 unfold segOf
 rw[if_pos (by simp;omega),List.drop_zero,hs]
theorem rowsOf_splice (hf: ∀a,(f a).length=sz)(l:List α)(sp:List V){i o:Nat}(h:i<l.length){vs:List V}(hn:o+vs.length≤sz){a:α}(ha:f a=spliceV (f l[i]) o vs):
  spliceV (rowsOf f l++sp) (i*sz+o) vs=rowsOf f (l.set i a)++sp:=by
 have hli:=hf l[i]
 have e:rowsOf f l=rowsOf f (l.take i)++(f l[i]++rowsOf f (l.drop (i+1))):=by
  rw[←rowsOf_cons,←List.drop_eq_getElem_cons h,←rowsOf_append,List.take_append_drop]
 have e2:rowsOf f (l.set i a)=rowsOf f (l.take i)++(f a++rowsOf f (l.drop (i+1))):=by
  rw[List.set_eq_take_append_cons_drop,if_pos h,rowsOf_append,rowsOf_cons]
 have e3:(rowsOf f (l.take i)).length=i*sz:=by rw[rowsOf_length hf,List.length_take,Nat.min_eq_left (by omega)]
 have e4:rowsOf f l++sp=rowsOf f (l.take i)++(f l[i]++(rowsOf f (l.drop (i+1))++sp)):=by rw[e];simp only[List.append_assoc]
 rw[e4,e2,ha]
 unfold spliceV
 rw[←e3,List.take_length_add_append,List.take_append_of_le_length (by omega)]
 rw[Nat.add_assoc,List.drop_length_add_append,List.drop_append_of_le_length (by omega)]
 simp only[List.append_assoc]
def Sl (sz:Nat)(f:α→List V)(s:V)(l:List α):Asn:=fun h=>
 ((s=.sl .nil [] 0∨s=.sl .full [] 0)∧l=[])∨∃sid spare,s=.hsl sid 0 sz l.length∧h sid=some (.cells (rowsOf f l++spare))∧sz∣spare.length
def Rd (sz:Nat)(f:α→List V)(s:V)(l:List α)(st:St):Prop:=
 (∃k,s=.sl k (rowsOf f l) l.length)∨∃sid off,s=.hsl sid off sz l.length∧st.seg sid off (l.length*sz)=some (rowsOf f l)
theorem Rd.len {s:V}{l:List α}{st:St}(h:Rd sz f s l st):lenSlV s=some (.int .i64 l.length):=by
 rcases h with⟨k,rfl⟩ | ⟨sid,off,rfl,_⟩<;>rfl
theorem Rd.elems (hf: ∀a,(f a).length=sz){s:V}{l:List α}{st:St}(h:Rd sz f s l st):elems st sz s=some (rowsOf f l,l.length):=by
 rcases h with⟨k,rfl⟩ | ⟨sid,off,rfl,hs⟩
 ·simp[Ab.elems,rowsOf_length hf]
 ·simp[Ab.elems,hs]
theorem Rd.idx (hf: ∀a,(f a).length=sz){s:V}{l:List α}{st:St}(h:Rd sz f s l st){i:Nat}(hi:i<l.length)(k:IntKind): ∃p,idxSlV sz s (.int k i)=some p∧ldCells st sz p=some (f l[i]):=by
 rcases h with⟨k,rfl⟩ | ⟨sid,off,rfl,hs⟩
 ·refine⟨.eptr ((rowsOf f l).drop (i*sz)),?_,?_⟩
  ·simp[hi]
  ·simp[rowsOf_eptr hf l hi]
 ·refine⟨.ptr (some (sid,off+i*sz)),?_,?_⟩
  ·simp[hi]
  ·rw[ld_ptr,seg_at hs hi]
   have:=rowsOf_row hf l [] hi
   rw[List.append_nil]at this
   rw[this]
theorem Rd.sub {s:V}{l:List α}{st st':St}(h:Rd sz f s l st)(hs:St.sub st st'):Rd sz f s l st':=by
 rcases h with⟨k,rfl⟩ | ⟨sid,off,rfl,h⟩
 ·exact .inl ⟨k,rfl⟩
 ·exact .inr ⟨sid,off,rfl,seg_sub hs h⟩
theorem Sl.rd (hf: ∀a,(f a).length=sz){s:V}{l:List α}{h:St}(hs:Sl sz f s l h):Rd sz f s l h:=by
 rcases hs with⟨hs | hs,rfl⟩ | ⟨sid,spare,rfl,h1,_⟩
 ·exact .inl ⟨.nil,by rw[hs];rfl⟩
 ·exact .inl ⟨.full,by rw[hs];rfl⟩
 ·have hl:=rowsOf_length hf l
  refine .inr ⟨sid,0,rfl,?_⟩
  simp only[St.seg,h1,segOf]
  rw[if_pos (by simp;omega),List.drop_zero,←hl,List.take_left]
theorem Sep.rd (hf: ∀a,(f a).length=sz){s:V}{l:List α}{L:List Asn}{st:St}(h:Sep (Sl sz f s l::L) st):Rd sz f s l st:=by
 obtain⟨h',h1,h2⟩:=h.part
 exact(h2.rd hf).sub h1
theorem Sep.put {A:Asn}{L:List Asn}{st:St}(h:Sep L st)(hA:A fun _=>none):Sep (A::L) st:=
 ⟨fun _=>none,st,fun _=>.inl rfl,fun i o e=>by simpa[St.add]using e,hA,h⟩
theorem Sep.slNil {L:List Asn}{st:St}(h:Sep L st):Sep (Sl sz f (.sl .nil [] 0) []::L) st:=h.put (.inl ⟨.inl rfl,rfl⟩)
theorem Sep.app1 (hf: ∀a,(f a).length=sz)(hsz:0<sz){s:V}{l:List α}{L:List Asn}{st:St}(h:Sep (Sl sz f s l::L) st){b:Nat}{a:α}{ys:List V}(hys:ys=f a)(hb:(l.length+1)*b≤140737488355328){K:V→St→Prop}
  (hK: ∀s' st',Sep (Sl sz f s' (l++[a])::L) st'→K s' st'):appS sz b s (some (ys,1)) st K:=by
 subst hys
 obtain⟨a0,r,h1,h2,h3,h4⟩:=h
 have hl:=rowsOf_length hf l
 rcases h3 with⟨hs,rfl⟩ | ⟨sid,spare,rfl,h5,h6⟩
 ·have key: ∀k,(k=.nil∨k=.full)→appS sz b (.sl k [] 0) (some (f a,1)) st K:=fun k hk=>
    app_nil _ _ hk (by omega) (by simpa using hb) (fun id hid=>hK _ _ (by
     have hsub:St.sub r st:=sub_trans (sub_right h1) h2
     have:=(h4.sub hsub).new hid (.cells (f a))
     exact this.head fun h hh=>.inr ⟨id,[],rfl,hh.trans (by simp),by simp⟩))
  rcases hs with rfl | rfl
  ·exact key _ (.inl rfl)
  ·exact key _ (.inr rfl)
 ·have hsid:st sid=some (.cells (rowsOf f l++spare)):=h2 _ _ (add_some h5)
  by_cases hsp:spare=[]
  ·subst hsp
   rw[List.append_nil]at hsid h5
   refine app_grow _ _ hsid hb hl (by rw[hl,Nat.succ_mul];omega) (fun id hid=>hK _ _ ?_)
   have hd:Sep L (st.del sid):=h4.sub fun j x e=>by
    have:j≠sid:=fun e'=>by
     subst e'
     rw[h1.some h5]at e
     cases e
    simp only[St.del,this,if_false]
    exact h2 j x (sub_right h1 j x e)
   exact(hd.new hid (.cells (rowsOf f l++f a))).head fun h hh=>.inr ⟨id,[],by simp,hh.trans (by simp),by simp⟩
  ·have hge:sz≤spare.length:=by
     cases spare with
     | nil=>exact absurd rfl hsp
     | cons x l=>exact Nat.le_of_dvd (by simp) h6
   refine app_room _ _ hsid hb (by simp[hl,Nat.succ_mul];omega) (hK _ _ ?_)
   have hsep:Sep (pt sid (.cells (rowsOf f l++spare))::L) st:=⟨a0,r,h1,h2,h5,h4⟩
   refine(hsep.set _).head fun h hh=>.inr ⟨sid,spare.drop sz,by simp,hh.trans (congrArg (fun c=>some (AObj.cells c)) ?_),?_⟩
   ·rw[List.length_drop]
    exact Nat.dvd_sub h6 (Nat.dvd_refl _)
   ·unfold spliceV
    rw[Nat.zero_add,←hl,List.take_left,hf,List.drop_length_add_append]
    simp
def Slx (sz:Nat)(f:α→List V)(s:V)(l:List α):Asn:=fun h=>
 ((s=.sl .nil [] 0∨s=.sl .full [] 0)∧l=[])∨∃sid,s=.hsl sid 0 sz l.length∧h sid=some (.cells (rowsOf f l))
theorem Slx.sl {s:V}{l:List α}{h:St}(hs:Slx sz f s l h):Sl sz f s l h:=by
 rcases hs with h | ⟨sid,rfl,h⟩
 ·exact .inl h
 ·exact .inr ⟨sid,[],rfl,by rw[h,List.append_nil],by simp⟩
theorem Sep.slxNil {L:List Asn}{st:St}(h:Sep L st):Sep (Slx sz f (.sl .nil [] 0) []::L) st:=h.put (.inl ⟨.inl rfl,rfl⟩)
theorem Sep.slxFull {L:List Asn}{st:St}(h:Sep L st):Sep (Slx sz f (.sl .full [] 0) []::L) st:=h.put (.inl ⟨.inr rfl,rfl⟩)
theorem Sep.appx (hf: ∀a,(f a).length=sz)(hsz:0<sz){s:V}{l:List α}{L:List Asn}{st:St}(h:Sep (Slx sz f s l::L) st){b:Nat}{m:List α}(hb:(l.length+m.length)*b≤140737488355328){K:V→St→Prop}
  (hK: ∀s' st',Sep (Slx sz f s' (l++m)::L) st'→K s' st'):appS sz b s (some (rowsOf f m,m.length)) st K:=by
 have h0:=h
 obtain⟨a0,r,h1,h2,h3,h4⟩:=h
 have hl:=rowsOf_length hf l
 have hm:=rowsOf_length hf m
 rcases h3 with⟨hs,rfl⟩ | ⟨sid,rfl,h5⟩
 ·have key: ∀k,s=.sl k [] 0→(k=.nil∨k=.full)→appS sz b (.sl k [] 0) (some (rowsOf f m,m.length)) st K:=fun k hs hk=>by
    by_cases h0':m=[]
    ·subst h0'
     refine⟨hk,by simp,by simp,fun _=>hK _ _ (by rw[←hs];exact h0),fun e=>absurd rfl e⟩
    ·refine app_nil _ _ hk (by simpa using h0') (by simpa using hb) (fun id hid=>hK _ _ ?_)
     have hsub:St.sub r st:=sub_trans (sub_right h1) h2
     have:=(h4.sub hsub).new hid (.cells (rowsOf f m))
     exact this.head fun h hh=>.inr ⟨id,by simp,hh.trans (by simp)⟩
  rcases hs with rfl | rfl
  ·exact key _ rfl (.inl rfl)
  ·exact key _ rfl (.inr rfl)
 ·have hsid:st sid=some (.cells (rowsOf f l)):=h2 _ _ (add_some h5)
  by_cases h0':m=[]
  ·subst h0'
   refine app_room _ _ hsid hb (by simp[hl]) (hK _ _ ?_)
   have hsep:Sep (pt sid (.cells (rowsOf f l))::L) st:=⟨a0,r,h1,h2,h5,h4⟩
   refine(hsep.set _).head fun h hh=>.inr ⟨sid,by simp,hh.trans (congrArg (fun c=>some (AObj.cells c)) ?_)⟩
   unfold spliceV
   rw[Nat.zero_add,←hl,List.take_length]
   simp
  ·have hpos:0<m.length:=List.length_pos_iff.2 h0'
   refine app_grow _ _ hsid hb hl (by
    rw[hl,Nat.add_mul]
    have:0<m.length*sz:=Nat.mul_pos hpos hsz
    omega) (fun id hid=>hK _ _ ?_)
   have hd:Sep L (st.del sid):=h4.sub fun j x e=>by
    have:j≠sid:=fun e'=>by
     subst e'
     rw[h1.some h5]at e
     cases e
    simp only[St.del,this,if_false]
    exact h2 j x (sub_right h1 j x e)
   exact(hd.new hid (.cells (rowsOf f l++rowsOf f m))).head fun h hh=>.inr ⟨id,by simp,hh.trans (by simp)⟩
theorem Sep.slObj {s:V}{l:List α}{L:List Asn}{st:St}(h:Sep (Sl sz f s l::L) st)(hl:l≠[]): ∃sid spare,s=.hsl sid 0 sz l.length∧sz∣spare.length∧Sep (pt sid (.cells (rowsOf f l++spare))::L) st:=by
 obtain⟨a0,r,h1,h2,h3,h4⟩:=h
 rcases h3 with⟨_,rfl⟩ | ⟨sid,spare,rfl,h5,h6⟩
 ·exact absurd rfl hl
 ·exact⟨sid,spare,rfl,h6,a0,r,h1,h2,h5,h4⟩
theorem Sep.ofObj {l:List α}{L:List Asn}{st:St}{sid:Nat}{spare:List V}(h:Sep (pt sid (.cells (rowsOf f l++spare))::L) st)(hs:sz∣spare.length):Sep (Sl sz f (.hsl sid 0 sz l.length) l::L) st:=
 h.head fun h hh=>.inr ⟨sid,spare,rfl,hh,hs⟩
end
def e1 (n:Int):List V:=[.int .i64 n]
def e2 (r:Int×Int):List V:=[.int .i64 r.1,.int .i64 r.2]
def e3 (r:Int×Int×Int):List V:=[.int .i64 r.1,.int .i64 r.2.1,.int .i64 r.2.2]
theorem e1_len (n:Int):(e1 n).length=1:=rfl
def e8 (b:UInt8):List V:=[.int .u8 b.toNat]
theorem e8_len (b:UInt8):(e8 b).length=1:=rfl
structure CloneC (P:Program) (f:FuncId):Prop where
 nil: ∀st:St,ACalls P f [.map none] st fun v st'=>v=.map none∧st'=st
 some: ∀(st:St) (m:Nat) (es:List (V×V)),st m=some (.mp es)→ACalls P f [.map (some m)] st fun v st'=>∃n,v=.map (some n)∧st n=none∧st'=st.upd n (.mp es)
theorem lrel_one {G:Gh}{v:V}{xs:List Value}(h:LRel G [v] xs): ∃x,xs=[x]∧VRel G v x:=by
 obtain⟨h1,h2⟩:=h
 match xs,h1 with
 | [x],_=>exact⟨x,rfl,by simpa using h2 0 (by simp)⟩
theorem cloneC_of {P:Program}{f:FuncId}(h0: ∀w:World,Calls P f #[.map none] w fun e w'=>e=.returned (.map none)∧w'=w)
  (h1: ∀(w:World) (b:Nat) (E:Array MapEntry) (clk:Nat),w.heap[b]? =some (.map E clk)→Calls P f #[.map (some b)] w fun e w'=>e=.returned (.map (some w.heap.size))∧w'=w.alloc (.map E clk)):CloneC P f:=by
 constructor
 ·intro st fr hd B w0 G w xs hs ha
  obtain⟨x,rfl,hx⟩:=lrel_one ha
  cases hx
  refine(h0 w).mono ?_
  rintro e w' ⟨rfl,rfl⟩
  exact⟨_,_,G,st,rfl,G.le_refl,.nilmap,hd,hs,rfl,rfl⟩
 ·intro st m es hm fr hd B w0 G w xs hs ha
  obtain⟨x,rfl,hx⟩:=lrel_one ha
  cases hx with
  | map id b l k hι=>
    obtain⟨b',l',m',k1,k2,E,clk,k3,k4,k5,k6,k7⟩:=hs.obj m _ (add_some hm)
    rw[hι]at k1
    cases k1
    refine(h1 w b E clk k3).mono ?_
    rintro e w' ⟨rfl,rfl⟩
    obtain⟨g1,g2⟩:=hs.addObj (.map E clk) (.mp es) 0 0 ⟨E,clk,heap_alloc_self _ _,k4,fun i hi=>⟨(k5 i hi).1.mono (G.addObj_le _),(k5 i hi).2.mono (G.addObj_le _)⟩,k6,k7⟩
    have hN:st G.N=none∧fr G.N=none:=by
     simp only[St.add]at g1
     cases h:st G.N with
     | none=>exact⟨rfl,by simpa[h]using g1⟩
     | some o=>simp[h]at g1
    rw[←upd_add]at g2
    exact⟨_,_,_,_,rfl,G.addObj_le _,.map _ _ _ _ (G.addObj_new _),hd.upd hN.2 _,g2,G.N,rfl,hN.1,rfl⟩
end Go.Ab
namespace Go.Ab
open Go Go.RowKit Go.Sort
structure SortC (P:Program) (f:FuncId):Prop where
 nil: ∀st:St,ACalls P f [.sl .nil [] 0] st fun v st'=>st'=st
 row: ∀(st:St) (sid:Nat) (l:List Int),st sid=some (.cells (rowsOf e1 l))→l.length≤1000000→ACalls P f [.hsl sid 0 1 l.length] st fun v st'=>
  ∃l':List Int,l'.Perm l∧l'.Pairwise (· ≤ ·)∧st'=st.upd sid (.cells (rowsOf e1 l'))
theorem SortC.use {P:Program}{f:FuncId}(h:SortC P f){st:St}{s:V}{l:List Int}{L:List Asn}(S:Sep (Slx 1 e1 s l::L) st)(hnil:l=[]→s=.sl .nil [] 0)(hl:l.length≤1000000):
  ACalls P f [s] st fun v st'=>∃l',l'.Perm l∧l'.Pairwise (· ≤ ·)∧Sep (Slx 1 e1 s l'::L) st':=by
 by_cases hl0:l=[]
 ·subst hl0
  rw[hnil rfl]at S⊢
  refine(h.nil st).mono ?_
  rintro v st' rfl
  exact⟨[],List.Perm.refl _,.nil,S⟩
 ·obtain⟨a0,r,h1,h2,h3,h4⟩:=S
  rcases h3 with⟨-,h3⟩ | ⟨sid,rfl,h3⟩
  ·exact absurd h3 hl0
  ·have S:Sep (pt sid (.cells (rowsOf e1 l))::L) st:=⟨a0,r,h1,h2,h3,h4⟩
   refine(h.row st sid l S.get hl).mono ?_
   rintro v st' ⟨l',k1,k2,rfl⟩
   refine⟨l',k1,k2,(S.set _).head fun h hh=>.inr ⟨sid,by rw[k1.length_eq],hh⟩⟩
theorem heap_mod (w:World)(blk:Nat)(f:Array Value→Array Value)(k:Nat)(hk:k≠blk):(mapBlock w blk f).heap[k]? =w.heap[k]?:=by
 simp[mapBlock,Array.getElem?_modify,Ne.symm hk]
theorem heap_mod_at (w:World)(blk:Nat)(f:Array Value→Array Value){C:Array Value}{T:TypeId}{fr:Nat×Nat}(h:w.heap[blk]? =some (.cells C T fr)):(mapBlock w blk f).heap[blk]? =some (.cells (f C) T fr):=by
 simp[mapBlock,Array.getElem?_modify,h,onCells]
theorem below_grow (w:World)(os:Array Obj):Below w.heap.size w (grow w os):=by
 refine⟨rfl,rfl,rfl,by simp[grow],fun k hk=>?_⟩
 show(w.heap++os)[k]? =_
 rw[Array.getElem?_append_left hk]
theorem sortC_of {P:Program}{f:FuncId}(h0: ∀w:World,Calls P f #[.slice none 0 0] w fun e w'=>e=.returned (.tuple #[])∧w'=w)
  (h1: ∀(blk off cap:Nat) (zs:List Int) (w:World),Holds (Value.int .i64) w blk off zs.toArray→blk<w.heap.size→zs.length<4611686018427387904→
    Calls P f #[.slice (some ⟨blk,off,none⟩) zs.length cap] w fun e w'=>e=.returned (.tuple #[])∧∃n os,w'=grow (putRow (Value.int .i64) (Sort.ahead w n) blk off (zs.mergeSort fun x y=>decide (x≤y)).toArray) os):SortC P f:=by
 constructor
 ·intro st fr hd B w0 G w xs hs ha
  obtain⟨x,rfl,hx⟩:=lrel_one ha
  cases hx with
  | slnil k hk=>
    refine(h0 w).mono ?_
    rintro e w' ⟨rfl,rfl⟩
    exact⟨.tup [],_,G,st,rfl,G.le_refl,.tup [] #[] rfl (fun i hi=>by simp at hi),hd,hs,rfl⟩
  | sl k cs n b o cap hk hn hf g hp hv h1'=>exact absurd rfl hk
 ·intro st sid l hm hl fr hd B w0 G w xs hs ha
  obtain⟨x,rfl,hx⟩:=lrel_one ha
  cases hx with
  | hsl id off sz n b lc m cap o hι hn hmm hlc ho=>
    obtain⟨b',l',m',k1,k2,C,T,k3,k4,k5,k6,k7,k8⟩:=hs.obj sid _ (add_some hm)
    rw[hι]at k1
    cases k1
    have hlen:(rowsOf e1 l).length=l.length:=by rw[rowsOf_length e1_len,Nat.mul_one]
    have hCs:l.length≤C.size:=by omega
    have hget: ∀i (hi:i<l.length),C.getD i undef=Value.int .i64 (l[i]):=fun i hi=>by
     have h:=(k7 i (by omega)).1
     have e:(rowsOf e1 l).getD i .junk=.int .i64 l[i]:=by
      have hr:=rowsOf_row e1_len l [] hi
      rw[List.append_nil,Nat.mul_one]at hr
      have:=congrArg (fun x=>x.getD 0 V.junk) hr
      simp[e1,List.getD_eq_getElem?_getD]at this
      rw[List.getD_eq_getElem?_getD]
      exact this
     rw[e]at h
     generalize C.getD i undef=x at h
     cases h
     rfl
    have ho':l≠[]→o=0:=fun h=>ho (by
     have:0<l.length:=List.length_pos_iff.2 h
     omega)
    refine(h1 b o cap l w ?_ (lt_of_heap k3) (by omega)).mono ?_
    ·intro j hj
     have hj:j<l.length:=by simpa using hj
     have o0:=ho' (fun e=>by rw[e]at hj;simp at hj)
     subst o0
     rw[Nat.zero_add]
     have hjC:j<C.size:=by omega
     have hg:=hget j hj
     rw[show C.getD j undef=C[j] by simp[Array.getD,hjC]]at hg
     constructor
     ·simp[World.cell?,k3,hjC,hg,hj]
     ·simp[World.frozen?,k3]
    ·rintro e w' ⟨rfl,n,os,rfl⟩
     obtain⟨z,hz⟩: ∃z,z=l.mergeSort fun x y=>decide (x≤y):=⟨_,rfl⟩
     have hzp:z.Perm l:=by rw[hz];exact List.mergeSort_perm _ _
     have hzs:z.Pairwise (· ≤ ·):=by
      have:=List.pairwise_mergeSort (le:=fun x y:Int=>decide (x≤y)) (fun a b c h1 h2=>by simp at *;omega) (fun a b=>by simp;omega) l
      rw[hz]
      exact this.imp fun h=>by simpa using h
     have hzl:=hzp.length_eq
     rw[←hz]
     obtain⟨fC,hfC⟩: ∃fC,fC=putCells (Value.int .i64) o z.toArray C:=⟨_,rfl⟩
     have hfs:fC.size=C.size:=by rw[hfC];simp[putCells]
     have hat:=heap_mod_at (Sort.ahead w n) b (putCells (Value.int .i64) o z.toArray) (C:=C) (T:=T) (fr:=(0,0)) k3
     rw[←hfC]at hat
     have hfg: ∀i (hi:i<z.length),fC.getD i undef=Value.int .i64 z[i]:=fun i hi=>by
      have o0:=ho' (fun e=>by rw[hzl,e]at hi;simp at hi)
      have hiC:i<C.size:=by omega
      subst o0
      rw[hfC]
      simp[putCells,Array.getD,hiC,hi]
     have g:=hs.setObj (ob':=.cells (rowsOf e1 z)) (add_some hm) (fun cs e=>by cases e) hι (w':=putRow (Value.int .i64) (Sort.ahead w n) b o z.toArray) rfl rfl rfl (by simp[putRow,mapBlock,Sort.ahead]) (fun k hk=>heap_mod (Sort.ahead w n) b _ k hk) k8 ⟨fC,T,hat,by omega,by rw[rowsOf_length e1_len];omega,by omega,fun i hi=>by
      rw[rowsOf_length e1_len,Nat.mul_one]at hi
      have e:(rowsOf e1 z).getD i .junk=.int .i64 z[i]:=by
       have hr:=rowsOf_row e1_len z [] hi
       rw[List.append_nil,Nat.mul_one]at hr
       have:=congrArg (fun x=>x.getD 0 V.junk) hr
       simp[e1,List.getD_eq_getElem?_getD]at this
       rw[List.getD_eq_getElem?_getD]
       exact this
      rw[e,hfg i hi]
      exact⟨.int _ _,rfl⟩,k8⟩
     rw[←upd_add]at g
     exact⟨.tup [],_,G,_,rfl,G.le_refl,.tup [] #[] rfl (fun i hi=>by simp at hi),hd.upd (hd.some hm) _,g.ext (below_grow _ os),z,hzp,hzs,rfl⟩
end Go.Ab
namespace Go.Ab
open Go Go.RowKit
def All (L:List Asn):Asn:=fun h=>Sep L h
theorem Sep.app {L1 L2:List Asn}: ∀{st:St},Sep (All L1::L2) st→Sep (L1++L2) st:=by
 induction L1 with
 | nil=>exact fun h=>h.drop
 | cons A L1 ih=>
   intro st h
   obtain⟨a,r,h1,h2,⟨b,c,k1,k2,k3,k4⟩,h4⟩:=h
   have hcr:Disj c r:=disj_sub h1 (sub_trans (sub_right k1) k2)
   have hbr:Disj b r:=disj_sub h1 (sub_trans (sub_add b c) k2)
   refine⟨b,c.add r,fun i=>?_,fun i o e=>h2 i o ?_,k3,ih ⟨c,r,hcr,St.sub_refl _,k4,h4⟩⟩
   ·rcases k1 i with e | e
    ·exact .inl e
    ·rcases hbr i with e' | e'
     ·exact .inl e'
     ·exact .inr (add_none.2 ⟨e,e'⟩)
   ·simp only[St.add]at e⊢
    cases hb:b i with
    | some x=>
      rw[hb]at e
      cases e
      rw[k2 i o (by simp[St.add,hb])]
    | none=>
      rw[hb]at e
      simp only at e
      cases hc:c i with
      | some x=>
        rw[hc]at e
        cases e
        rw[k2 i o (by simp[St.add,hb,hc])]
      | none=>
        rw[hc]at e
        simp only at e
        have:a i=none:=(h1 i).resolve_right (by rw[e];simp)
        rw[this]
        exact e
theorem Sep.all {L1 L2:List Asn}: ∀{st:St},Sep (L1++L2) st→Sep (All L1::L2) st:=by
 induction L1 with
 | nil=>exact fun h=>h.put trivial
 | cons A L1 ih=>
   intro st h
   obtain⟨a,r,h1,h2,h3,h4⟩:=h
   obtain⟨c,d,k1,k2,k3,k4⟩:=ih h4
   have hac:Disj a c:=disj_symm (disj_sub (disj_symm h1) (sub_trans (sub_add c d) k2))
   have had:Disj a d:=disj_symm (disj_sub (disj_symm h1) (sub_trans (sub_right k1) k2))
   refine⟨a.add c,d,fun i=>?_,fun i o e=>h2 i o ?_,⟨a,c,hac,St.sub_refl _,h3,k3⟩,k4⟩
   ·rcases had i with e | e
    ·rcases k1 i with e' | e'
     ·exact .inl (add_none.2 ⟨e,e'⟩)
     ·exact .inr e'
    ·exact .inr e
   ·simp only[St.add]at e⊢
    cases ha:a i with
    | some x=>rw[ha]at e;exact e
    | none=>
      rw[ha]at e
      simp only at e⊢
      exact k2 i o (by simpa[St.add]using e)
section
variable {K A:Type} [DecidableEq K] (ek:K→V) (ev:A→V)
def encM (l:List (K×A)):List (V×V):=l.map fun p=>(ek p.1,ev p.2)
def aSet (k:K)(v:A):List (K×A)→List (K×A)
 | []=>[(k,v)]
 | p::l=>if k=p.1 then(k,v)::l else p::aSet k v l
def aDel (k:K):List (K×A)→List (K×A)
 | []=>[]
 | p::l=>if k=p.1 then l else p::aDel k l
structure Keyed (kk:KK):Prop where
 key: ∀k,isKey kk (ek k)=true
 eq: ∀a b,keyEq kk (ek a) (ek b)=some (decide (a=b))
variable {ek ev} {kk:KK} (hk:Keyed ek kk)
include hk
theorem mfind_enc (k:K): ∀l:List (K×A),mfind kk (ek k) (encM ek ev l)=some ((l.lookup k).map ev)
 | []=>by simp[mfind,encM]
 | (k',v')::l=>by
   have ih:=mfind_enc k l
   simp only[encM,List.map_cons,mfind,hk.eq,List.lookup_cons]at ih⊢
   by_cases h:k=k'
   ·simp[h]
   ·have:(k==k')=false:=by simp[h]
    simp only[h,decide_false,this]
    exact ih
theorem mput_enc (k:K)(v:A): ∀l:List (K×A),mput kk (ek k) (ev v) (encM ek ev l)=some (encM ek ev (aSet k v l))
 | []=>by simp[mput,encM,aSet]
 | p::l=>by
   have ih:=mput_enc k v l
   simp only[encM,List.map_cons,mput,hk.eq,aSet]at ih⊢
   by_cases h:k=p.1
   ·simp[h]
   ·simp only[h,decide_false,if_false,List.map_cons]
    rw[ih]
    rfl
theorem mrem_enc (k:K): ∀l:List (K×A),mrem kk (ek k) (encM ek ev l)=some (encM ek ev (aDel k l))
 | []=>by simp[mrem,encM,aDel]
 | p::l=>by
   have ih:=mrem_enc k l
   simp only[encM,List.map_cons,mrem,hk.eq,aDel]at ih⊢
   by_cases h:k=p.1
   ·simp[h]
   ·simp only[h,decide_false,if_false,List.map_cons]
    rw[ih]
    rfl
theorem lookup_enc {st:St}{id:Nat}{l:List (K×A)}(h:st id=some (.mp (encM ek ev l)))(z:V)(ok:Bool)(k:K):
  lookupV st kk z ok (.map (some id)) (ek k)=some (if ok then .tup [((l.lookup k).map ev).getD z,.bool (l.lookup k).isSome]else((l.lookup k).map ev).getD z):=by
 simp[lookupV,hk.key,mapOf,h,mfind_enc hk]
theorem lookup_none {st:St}(z:V)(ok:Bool)(k:K):lookupV st kk z ok (.map none) (ek k)=some (if ok then .tup [z,.bool false]else z):=by
 simp[lookupV,hk.key,mapOf,mfind]
theorem mset_enc {st:St}{id:Nat}{l:List (K×A)}(h:st id=some (.mp (encM ek ev l)))(k:K)(v:A):msetS st kk (.map (some id)) (ek k) (ev v)=some (st.upd id (.mp (encM ek ev (aSet k v l)))):=by
 simp[msetS,hk.key,h,mput_enc hk]
theorem mdel_enc {st:St}{id:Nat}{l:List (K×A)}(h:st id=some (.mp (encM ek ev l)))(k:K):mdelS st kk (.map (some id)) (ek k)=some (st.upd id (.mp (encM ek ev (aDel k l)))):=by
 simp[mdelS,hk.key,h,mrem_enc hk]
theorem mdel_none {st:St}(k:K):mdelS st kk (.map none) (ek k)=some st:=by
 simp[mdelS,hk.key]
end
def kInt (n:Int):V:=.int .i64 n
theorem keyed_int:Keyed kInt .int:=⟨fun _=>rfl,fun a b=>by
 simp only[kInt,keyEq,if_true]
 congr 1⟩
abbrev Id:=Vector UInt8 32
def eId (x:Id):List V:=x.toList.map fun b=>V.int .u8 b.toNat
theorem eId_len (x:Id):(eId x).length=32:=by simp[eId]
def kId (x:Id):V:=.agg (eId x)
def eBytes (l:List UInt8):List V:=l.map fun b=>V.int .u8 b.toNat
theorem eqL_bytes: ∀(a b:List UInt8),a.length=b.length→eqL (eBytes a) (eBytes b)=some (decide (a=b))
 | [],[],_=>rfl
 | [],_::_,h=>by simp at h
 | _::_,[],h=>by simp at h
 | x::a,y::b,h=>by
   have ih:=eqL_bytes a b (by simpa using h)
   simp only[eBytes,List.map_cons,eqL,if_true]at ih⊢
   rw[ih]
   simp only[Option.map_some,Option.some.injEq]
   rw[Bool.eq_iff_iff]
   simp only[Bool.and_eq_true,beq_iff_eq,decide_eq_true_eq,List.cons.injEq]
   constructor
   ·rintro⟨h1,h2⟩
    exact⟨UInt8.toNat_inj.1 (by omega),h2⟩
   ·rintro⟨h1,h2⟩
    exact⟨by rw[h1],h2⟩
theorem eqL_id (a b:Id):eqL (eId a) (eId b)=some (decide (a=b)):=by
 have:=eqL_bytes a.toList b.toList (by simp)
 rw[show eId a=eBytes a.toList from rfl,show eId b=eBytes b.toList from rfl,this]
 congr 1
 rw[Bool.eq_iff_iff]
 simp only[decide_eq_true_eq]
 exact⟨fun h=>Vector.toList_inj.1 h,fun h=>by rw[h]⟩
theorem keyed_id:Keyed kId (.agg 32):=⟨fun k=>by simp[isKey,kId,eId],fun a b=>by
 simp only[keyEq,kId]
 rw[if_pos (eId_len a),eqL_id]⟩
def Going (m it:Nat)(l:List ((V×V)×Bool))(last:Option Nat):Asn:=fun h=>
 ∃(bs:List Nat) (clk since:Nat) (seen:List Nat) (stp:Nat),h m=some (.mpi (l.map (·.1)) bs clk)∧h it=some (.mit (some m) since seen stp)∧bs.length=l.length∧bs.Pairwise (· < ·)∧(∀b∈bs,b<since)∧since≤stp∧stp≤clk∧
  (∀i (hi:i<l.length),bs.getD i 0∈seen↔l[i].2=true)∧∀i,last=some i→i<l.length∧seen.getLast? =some (bs.getD i 0)∧stp=clk
theorem pw_inj {bs:List Nat}(h:bs.Pairwise (· < ·)){i j:Nat}(hi:i<bs.length)(hj:j<bs.length)(e:bs.getD i 0=bs.getD j 0):i=j:=by
 have hp:=List.pairwise_iff_getElem.1 h
 simp only[List.getD_eq_getElem?_getD,List.getElem?_eq_getElem hi,List.getElem?_eq_getElem hj,Option.getD_some]at e
 rcases Nat.lt_trichotomy i j with hlt | he | hgt
 ·have:=hp i j hi hj hlt;omega
 ·exact he
 ·have:=hp j i hj hi hgt;omega
theorem Sep.rng {m:Nat}{es:List (V×V)}{L:List Asn}{st:St}(h:Sep (pt m (.mp es)::L) st){K:V→St→Prop}(hK: ∀it st',Sep (Going m it (es.map fun e=>(e,false)) none::L) st'→K (.ptr (some (it,0))) st'):rngMapS (.map (some m)) st K:=by
 simp only[rngMapS,h.get]
 intro it hit bs clk h1 h2 h3
 refine hK it _ ?_
 have hm:=ne_id h.get hit
 obtain⟨a,r,k1,k2,k3,k4⟩:=h
 have hra:a it=none:=by
  cases e:a it with
  | none=>rfl
  | some o=>have:=k2 it o (add_some e);rw[hit]at this;cases this
 have hrr:r it=none:=by
  cases e:r it with
  | none=>rfl
  | some o=>have:=k2 it o (sub_right k1 it o e);rw[hit]at this;cases this
 refine⟨(a.upd m (.mpi es bs clk)).upd it (.mit (some m) clk [] clk),r,(k1.upd (k1.some k3) _).upd hrr _,fun i o e=>?_,?_,k4⟩
 ·rw[upd_add,upd_add]at e
  by_cases e1:i=it
  ·simpa[e1]using e
  ·by_cases e2:i=m
   ·simpa[e1,e2]using e
   ·simp only[st_upd,e1,e2,if_false]at e⊢
    exact k2 i o e
 ·refine⟨bs,clk,clk,[],clk,?_,by simp,by simpa using h1,h2,h3,Nat.le_refl _,Nat.le_refl _,fun i hi=>by simp,fun i e=>by cases e⟩
  have:(es.map fun e=>(e,false)).map (·.1)=es:=by simp[Function.comp_def]
  rw[this]
  simp[hm]
theorem Sep.next {m it:Nat}{l:List ((V×V)×Bool)}{last:Option Nat}{L:List Asn}{st:St}(h:Sep (Going m it l last::L) st){K:V→St→Prop}
  (h1:(∀x∈l,x.2=true)→K (.tup [.bool false]) st)
  (h2: ∀i (hi:i<l.length),l[i].2=false→∀st',Sep (Going m it (l.set i (l[i].1,true)) (some i)::L) st'→K (.tup [.bool true,l[i].1.1,l[i].1.2]) st'):nextMapS (.ptr (some (it,0))) st K:=by
 obtain⟨a,r,k1,k2,⟨bs,clk,since,seen,stp,g1,g2,g3,g4,g5,g6,g7,g8,g9⟩,k4⟩:=h
 have e1:=k2 _ _ (add_some g1)
 have e2:=k2 _ _ (add_some g2)
 simp only[nextMapS,e2,e1]
 refine⟨g5,g6,by simpa using g3,fun hs=>h1 fun x hx=>?_,fun i hi hn=>?_⟩
 ·obtain⟨i,hi,rfl⟩:=List.getElem_of_mem hx
  refine(g8 i hi).1 (hs _ ?_)
  rw[List.getD_eq_getElem?_getD,List.getElem?_eq_getElem (by omega)]
  exact List.getElem_mem _
 ·have hi':i<l.length:=by simpa using hi
  have hf:l[i].2=false:=by
   cases hb:l[i].2 with
   | false=>rfl
   | true=>exact absurd ((g8 i hi').2 hb) hn
  have hd:(l.map (·.1)).getD i default=l[i].1:=by
   rw[List.getD_eq_getElem?_getD,List.getElem?_map,List.getElem?_eq_getElem hi']
   rfl
  rw[hd]
  refine h2 i hi' hf _ ?_
  have hne:m≠it:=fun e=>by rw[e,g2]at g1;cases g1
  refine⟨a.upd it (.mit (some m) since (seen++[bs.getD i 0]) clk),r,k1.upd (k1.some g2) _,fun j o e=>?_,⟨bs,clk,since,seen++[bs.getD i 0],clk,?_,by simp,by simpa using g3,g4,g5,by omega,Nat.le_refl _,fun j hj=>?_,fun j e=>?_⟩,k4⟩
  ·rw[upd_add]at e
   by_cases ej:j=it
   ·simpa[ej]using e
   ·simp only[st_upd,ej,if_false]at e⊢
    exact k2 j o e
  ·have:(l.set i (l[i].1,true)).map (·.1)=l.map (·.1):=by
     rw[List.map_set]
     apply List.ext_getElem
     ·simp
     ·intro j q1 q2
      simp only[List.getElem_set,List.getElem_map]
      split
      ·rename_i e;subst e;rfl
      ·rfl
   rw[this]
   simp[hne,g1]
  ·simp only[List.length_set]at hj
   simp only[List.mem_append,List.mem_singleton,List.getElem_set]
   by_cases e:i=j
   ·subst e;simp
   ·simp only[e,if_false]
    rw[←g8 j hj]
    constructor
    ·rintro(h | h)
     ·exact h
     ·exact absurd (pw_inj g4 (by omega) (by omega) h).symm e
    ·exact .inl
  ·cases e
   exact⟨by simpa using hi',by simp,rfl⟩
theorem Sep.ent {m it i:Nat}{l:List ((V×V)×Bool)}{L:List Asn}{st:St}(h:Sep (Going m it l (some i)::L) st): ∃hi:i<l.length,entryV st (.ptr (some (it,0)))=some (.tup [l[i].1.1,l[i].1.2]):=by
 obtain⟨a,r,k1,k2,⟨bs,clk,since,seen,stp,g1,g2,g3,g4,g5,g6,g7,g8,g9⟩,k4⟩:=h
 have e1:=k2 _ _ (add_some g1)
 have e2:=k2 _ _ (add_some g2)
 obtain⟨hi,q1,q2⟩:=g9 i rfl
 refine⟨hi,?_⟩
 have hib:i<bs.length:=by omega
 have hf:bs.findIdx? (· ==bs.getD i 0)=some i:=by
  rw[List.findIdx?_eq_some_iff_getElem]
  refine⟨hib,by simp[List.getD_eq_getElem?_getD,hib],fun j hj=>?_⟩
  simp only[Bool.not_eq_true,beq_eq_false_iff_ne,ne_eq]
  intro e
  have:=pw_inj g4 (i:=j) (j:=i) (by omega) hib (by simp only[List.getD_eq_getElem?_getD,List.getElem?_eq_getElem (show j<bs.length by omega),Option.getD_some]at e⊢;exact e)
  omega
 simp only[entryV,e2,e1,q2,if_true,q1,Option.bind_some,hf,List.getElem?_map,List.getElem?_eq_getElem hi,Option.map_some]
theorem Sep.gone {m it:Nat}{l:List ((V×V)×Bool)}{last:Option Nat}{L:List Asn}{st:St}(h:Sep (Going m it l last::L) st):
  frzV st (.map (some m))=some (.map (some m),st.upd m (.mp (l.map (·.1))))∧Sep (pt m (.mp (l.map (·.1)))::L) (st.upd m (.mp (l.map (·.1)))):=by
 obtain⟨a,r,k1,k2,⟨bs,clk,since,seen,stp,g1,g2,g3,g4,g5,g6,g7,g8,g9⟩,k4⟩:=h
 have e1:=k2 _ _ (add_some g1)
 refine⟨by simp[frzV,e1],a.upd m (.mp (l.map (·.1))),r,k1.upd (k1.some g1) _,fun j o e=>?_,by simp[pt],k4⟩
 rw[upd_add]at e
 by_cases ej:j=m
 ·simpa[ej]using e
 ·simp only[st_upd,ej,if_false]at e⊢
  exact k2 j o e
def unseen (l:List ((V×V)×Bool)):Nat:=l.countP fun x=>!x.2
theorem unseen_set {l:List ((V×V)×Bool)}{i:Nat}(hi:i<l.length)(hf:l[i].2=false)(x:V×V):unseen (l.set i (x,true))<unseen l:=by
 unfold unseen
 rw[List.countP_set hi]
 have:0<l.countP fun x=>!x.2:=List.countP_pos_iff.2 ⟨l[i],List.getElem_mem _,by simp[hf]⟩
 simp[hf]
 omega
theorem Sep.mem {i:Nat}{o:AObj}: ∀{L:List Asn} {st:St},Sep L st→pt i o∈L→st i=some o
 | [],_,_,h=>by cases h
 | A::L,st,hs,h=>by
   rcases List.mem_cons.1 h with e | h
   ·subst e;exact hs.get
   ·obtain⟨a,r,h1,h2,h3,h4⟩:=hs
    exact h2 _ _ (sub_right h1 _ _ (Sep.mem h4 h))
theorem Sep.memA {A:Asn}: ∀{L:List Asn} {st:St},Sep L st→A∈L→∃h',St.sub h' st∧A h'
 | [],_,_,h=>by cases h
 | B::L,st,hs,h=>by
   rcases List.mem_cons.1 h with e | h
   ·subst e;exact hs.part
   ·obtain⟨a,r,h1,h2,h3,h4⟩:=hs
    obtain⟨h',k1,k2⟩:=Sep.memA h4 h
    exact⟨h',sub_trans k1 (sub_trans (sub_right h1) h2),k2⟩
def w32 (x:BitVec 32):V:=.int .u32 x.toNat
def w64 (x:BitVec 64):V:=.int .u64 x.toNat
def w8 (x:UInt8):V:=.int .u8 x.toNat
theorem wrap_u32 (n:Int):IntKind.u32.wrap n=((BitVec.ofInt 32 n).toNat:Int):=by
 simp[IntKind.wrap,IntKind.bits,IntKind.signed]
 omega
theorem wrap_u64 (n:Int):IntKind.u64.wrap n=((BitVec.ofInt 64 n).toNat:Int):=by
 simp[IntKind.wrap,IntKind.bits,IntKind.signed]
 omega
theorem wrap_u8 (n:Int):IntKind.u8.wrap n=((UInt8.ofBitVec (BitVec.ofInt 8 n)).toNat:Int):=by
 simp[IntKind.wrap,IntKind.bits,IntKind.signed]
 omega
@[simp high] theorem w32_cells (x:BitVec 32):(w32 x).cells? =some [w32 x]:=_root_.id rfl
@[simp high] theorem w64_cells (x:BitVec 64):(w64 x).cells? =some [w64 x]:=_root_.id rfl
@[simp high] theorem w8_cells (x:UInt8):(w8 x).cells? =some [w8 x]:=_root_.id rfl
theorem ofInt_nat {n:Nat}(a:BitVec n):BitVec.ofInt n (a.toNat:Int)=a:=by
 rw[BitVec.ofInt_natCast];simp
theorem shr_nat (n m:Nat):((n:Int).fdiv (2 ^ m))=((n >>> m:Nat):Int):=by
 rw[Nat.shiftRight_eq_div_pow,Int.fdiv_eq_ediv_of_nonneg _ (by exact Int.le_of_lt (Int.pow_pos (by omega)))]
 simp
section
variable (a b:BitVec 32)
@[simp high] theorem bin32_add:binV .add (w32 a) (w32 b)=some (w32 (a+b)):=by
  simp only[w32,binV,binI,if_true,wrap_u32]
  rw[BitVec.ofInt_add,ofInt_nat,ofInt_nat]
theorem bits32 (op:BinOp):bits op .u32 (a.toNat:Int) (b.toNat:Int)=(((match op with | .and=>a &&& b | .or=>a ||| b | .xor=>a ^^^ b | _=>a &&& ~~~b):BitVec 32).toNat:Int):=by
 have key: ∀z:BitVec 32,IntKind.u32.wrap (z.toNat:Int)=(z.toNat:Int):=fun z=>by rw[wrap_u32,ofInt_nat]
 have ha:BitVec.ofInt IntKind.u32.bits (a.toNat:Int)=a:=ofInt_nat a
 have hb:BitVec.ofInt IntKind.u32.bits (b.toNat:Int)=b:=ofInt_nat b
 unfold bits
 rw[ha,hb]
 cases op<;>exact key _
@[simp high] theorem bin32_and:binV .and (w32 a) (w32 b)=some (w32 (a &&& b)):=by
  simp only[w32,binV,binI,if_true,bits32]
@[simp high] theorem bin32_or:binV .or (w32 a) (w32 b)=some (w32 (a ||| b)):=by
  simp only[w32,binV,binI,if_true,bits32]
@[simp high] theorem bin32_xor:binV .xor (w32 a) (w32 b)=some (w32 (a ^^^ b)):=by
  simp only[w32,binV,binI,if_true,bits32]
@[simp high] theorem inv32:invV (w32 a)=some (w32 (~~~a)):=by
  have h:=bits32 (BitVec.allOnes 32) a .xor
  have hm:(if IntKind.u32.signed=true then(-1:Int)else IntKind.u32.max)=((BitVec.allOnes 32).toNat:Int):=by decide
  simp only[w32,invV,hm,h,BitVec.allOnes_xor]
@[simp high] theorem bin32_eql:binV .eql (w32 a) (w32 b)=some (.bool (a==b)):=by
  simp only[w32,binV,binI,if_true]
  congr 2
  by_cases h:a=b
  ·simp[h]
  ·have:(a==b)=false:=by simp[h]
   rw[this]
   have h2:a.toNat≠b.toNat:=fun e=>h (BitVec.eq_of_toNat_eq e)
   simp;omega
@[simp high] theorem bin32_neq:binV .neq (w32 a) (w32 b)=some (.bool (a != b)):=by
  have:=bin32_eql a b
  simp only[w32,binV,binI,if_true,Option.some.injEq,V.bool.injEq]at this⊢
  simp only[bne,this]
@[simp high] theorem bin32_lss:binV .lss (w32 a) (w32 b)=some (.bool (decide (a<b))):=by
  simp[w32,BitVec.lt_def]
@[simp high] theorem bin32_leq:binV .leq (w32 a) (w32 b)=some (.bool (decide (a≤b))):=by
  simp[w32,BitVec.le_def]
@[simp high] theorem bin32_shr (k:IntKind)(n:Nat):binV .shr (w32 a) (.int k (n:Int))=some (w32 (a >>> n)):=by
  have h0:¬((n:Int)<0):=by omega
  simp only[w32,binV,h0,if_false,Int.toNat_natCast]
  congr 2
  rw[shr_nat,BitVec.toNat_ushiftRight]
  congr 1
  by_cases h:n≤32
  ·rw[show Nat.min n IntKind.u32.bits=n from Nat.min_eq_left h]
  ·rw[show Nat.min n IntKind.u32.bits=32 from Nat.min_eq_right (by show 32≤n;omega)]
   have h1:=a.isLt
   rw[Nat.shiftRight_eq_div_pow,Nat.shiftRight_eq_div_pow,Nat.div_eq_of_lt h1,Nat.div_eq_of_lt (Nat.lt_of_lt_of_le h1 (Nat.pow_le_pow_right (by omega) (by omega)))]
@[simp high] theorem bin32_shl (k:IntKind)(n:Nat):binV .shl (w32 a) (.int k (n:Int))=some (w32 (a <<< n)):=by
  have h0:¬((n:Int)<0):=by omega
  simp only[w32,binV,h0,if_false,Int.toNat_natCast,wrap_u32]
  congr 2
  have hp:((a.toNat:Int)*2 ^ (Nat.min n IntKind.u32.bits))=((a.toNat*2 ^ (Nat.min n 32):Nat):Int):=by
   simp[IntKind.bits]
  rw[hp,BitVec.ofInt_natCast,BitVec.toNat_ofNat,BitVec.toNat_shiftLeft,Nat.shiftLeft_eq]
  by_cases h:n≤32
  ·rw[show Nat.min n 32=n from Nat.min_eq_left h]
  ·rw[show Nat.min n 32=32 from Nat.min_eq_right (by omega)]
   rw[show n=32+(n-32) by omega,Nat.pow_add,←Nat.mul_assoc,Nat.mul_right_comm]
   simp
end
section
variable (a b:BitVec 64)
@[simp high] theorem bin64_add:binV .add (w64 a) (w64 b)=some (w64 (a+b)):=by
  simp only[w64,binV,binI,if_true,wrap_u64]
  rw[BitVec.ofInt_add,ofInt_nat,ofInt_nat]
@[simp high] theorem bin64_sub:binV .sub (w64 a) (w64 b)=some (w64 (a-b)):=by
  simp only[w64,binV,binI,if_true,wrap_u64]
  rw[Int.sub_eq_add_neg,BitVec.ofInt_add,BitVec.ofInt_neg,ofInt_nat,ofInt_nat,BitVec.sub_eq_add_neg]
@[simp high] theorem bin64_mul:binV .mul (w64 a) (w64 b)=some (w64 (a*b)):=by
  simp only[w64,binV,binI,if_true,wrap_u64]
  rw[BitVec.ofInt_mul,ofInt_nat,ofInt_nat]
theorem bits64 (op:BinOp):bits op .u64 (a.toNat:Int) (b.toNat:Int)=(((match op with | .and=>a &&& b | .or=>a ||| b | .xor=>a ^^^ b | _=>a &&& ~~~b):BitVec 64).toNat:Int):=by
 have key: ∀z:BitVec 64,IntKind.u64.wrap (z.toNat:Int)=(z.toNat:Int):=fun z=>by rw[wrap_u64,ofInt_nat]
 have ha:BitVec.ofInt IntKind.u64.bits (a.toNat:Int)=a:=ofInt_nat a
 have hb:BitVec.ofInt IntKind.u64.bits (b.toNat:Int)=b:=ofInt_nat b
 unfold bits
 rw[ha,hb]
 cases op<;>exact key _
@[simp high] theorem bin64_and:binV .and (w64 a) (w64 b)=some (w64 (a &&& b)):=by
  simp only[w64,binV,binI,if_true,bits64]
@[simp high] theorem bin64_or:binV .or (w64 a) (w64 b)=some (w64 (a ||| b)):=by
  simp only[w64,binV,binI,if_true,bits64]
@[simp high] theorem inv64:invV (w64 a)=some (w64 (~~~a)):=by
  have h:=bits64 (BitVec.allOnes 64) a .xor
  have hm:(if IntKind.u64.signed=true then(-1:Int)else IntKind.u64.max)=((BitVec.allOnes 64).toNat:Int):=by decide
  simp only[w64,invV,hm,h,BitVec.allOnes_xor]
@[simp high] theorem bin64_eql:binV .eql (w64 a) (w64 b)=some (.bool (a==b)):=by
  simp only[w64,binV,binI,if_true]
  congr 2
  by_cases h:a=b
  ·simp[h]
  ·have:(a==b)=false:=by simp[h]
   rw[this]
   have h2:a.toNat≠b.toNat:=fun e=>h (BitVec.eq_of_toNat_eq e)
   simp;omega
@[simp high] theorem bin64_neq:binV .neq (w64 a) (w64 b)=some (.bool (a != b)):=by
  have:=bin64_eql a b
  simp only[w64,binV,binI,if_true,Option.some.injEq,V.bool.injEq]at this⊢
  simp only[bne,this]
@[simp high] theorem bin64_lss:binV .lss (w64 a) (w64 b)=some (.bool (decide (a<b))):=by
  simp[w64,BitVec.lt_def]
@[simp high] theorem bin64_gtr:binV .gtr (w64 a) (w64 b)=some (.bool (decide (b<a))):=by
  simp[w64,BitVec.lt_def]
@[simp high] theorem bin64_geq:binV .geq (w64 a) (w64 b)=some (.bool (decide (b≤a))):=by
  simp[w64,BitVec.le_def]
@[simp high] theorem bin64_shr (k:IntKind)(n:Nat):binV .shr (w64 a) (.int k (n:Int))=some (w64 (a >>> n)):=by
  have h0:¬((n:Int)<0):=by omega
  simp only[w64,binV,h0,if_false,Int.toNat_natCast]
  congr 2
  rw[shr_nat,BitVec.toNat_ushiftRight]
  congr 1
  by_cases h:n≤64
  ·rw[show Nat.min n IntKind.u64.bits=n from Nat.min_eq_left h]
  ·rw[show Nat.min n IntKind.u64.bits=64 from Nat.min_eq_right (by show 64≤n;omega)]
   have h1:=a.isLt
   rw[Nat.shiftRight_eq_div_pow,Nat.shiftRight_eq_div_pow,Nat.div_eq_of_lt h1,Nat.div_eq_of_lt (Nat.lt_of_lt_of_le h1 (Nat.pow_le_pow_right (by omega) (by omega)))]
@[simp high] theorem bin64_shl (k:IntKind)(n:Nat):binV .shl (w64 a) (.int k (n:Int))=some (w64 (a <<< n)):=by
  have h0:¬((n:Int)<0):=by omega
  simp only[w64,binV,h0,if_false,Int.toNat_natCast,wrap_u64]
  congr 2
  have hp:((a.toNat:Int)*2 ^ (Nat.min n IntKind.u64.bits))=((a.toNat*2 ^ (Nat.min n 64):Nat):Int):=by
   simp[IntKind.bits]
  rw[hp,BitVec.ofInt_natCast,BitVec.toNat_ofNat,BitVec.toNat_shiftLeft,Nat.shiftLeft_eq]
  by_cases h:n≤64
  ·rw[show Nat.min n 64=n from Nat.min_eq_left h]
  ·rw[show Nat.min n 64=64 from Nat.min_eq_right (by omega)]
   rw[show n=64+(n-64) by omega,Nat.pow_add,←Nat.mul_assoc,Nat.mul_right_comm]
   simp
end
@[simp high] theorem bin32_shl_w (a:BitVec 32)(s:BitVec 64):binV .shl (w32 a) (w64 s)=some (w32 (a <<< s.toNat)):=bin32_shl a .u64 s.toNat
@[simp high] theorem bin32_shr_w (a:BitVec 32)(s:BitVec 64):binV .shr (w32 a) (w64 s)=some (w32 (a >>> s.toNat)):=bin32_shr a .u64 s.toNat
@[simp high] theorem bin64_shl_w (a:BitVec 64)(s:BitVec 64):binV .shl (w64 a) (w64 s)=some (w64 (a <<< s.toNat)):=bin64_shl a .u64 s.toNat
@[simp high] theorem bin64_shr_w (a:BitVec 64)(s:BitVec 64):binV .shr (w64 a) (w64 s)=some (w64 (a >>> s.toNat)):=bin64_shr a .u64 s.toNat
@[simp high] theorem conv_8_32 (b:UInt8):convV .u32 (w8 b)=some (w32 (b.toBitVec.setWidth 32)):=by
  simp only[w8,w32,convV,wrap_u32]
  congr 2
  simp[BitVec.ofInt_natCast]
@[simp high] theorem conv_8_64 (b:UInt8):convV .u64 (w8 b)=some (w64 (b.toBitVec.setWidth 64)):=by
  simp only[w8,w64,convV,wrap_u64]
  congr 2
  simp[BitVec.ofInt_natCast]
@[simp high] theorem conv_32_64 (a:BitVec 32):convV .u64 (w32 a)=some (w64 (a.setWidth 64)):=by
  simp only[w32,w64,convV,wrap_u64]
  congr 2
  simp[BitVec.ofInt_natCast]
@[simp high] theorem conv_64_32 (a:BitVec 64):convV .u32 (w64 a)=some (w32 (a.setWidth 32)):=by
  simp only[w32,w64,convV,wrap_u32]
  congr 2
@[simp high] theorem conv_32_8 (a:BitVec 32):convV .u8 (w32 a)=some (w8 (UInt8.ofBitVec (a.setWidth 8))):=by
  simp only[w32,w8,convV,wrap_u8]
  congr 2
@[simp high] theorem conv_64_8 (a:BitVec 64):convV .u8 (w64 a)=some (w8 (UInt8.ofBitVec (a.setWidth 8))):=by
  simp only[w64,w8,convV,wrap_u8]
  congr 2
@[simp high] theorem conv_8_i (b:UInt8):convV .i64 (w8 b)=some (.int .i64 b.toNat):=by
  have:=b.toNat_lt
  simp only[w8,convV]
  rw[wrap64 (by omega) (by omega)]
@[simp high] theorem conv_32_i (b:BitVec 32):convV .i64 (w32 b)=some (.int .i64 b.toNat):=by
  have:=b.isLt
  simp only[w32,convV]
  rw[wrap64 (by omega) (by omega)]
@[simp high] theorem conv_i_8 (n:Int):convV .u8 (.int .i64 n)=some (w8 (UInt8.ofBitVec (BitVec.ofInt 8 n))):=by
  simp only[convV,w8,wrap_u8]
@[simp high] theorem conv_i_32 (n:Int):convV .u32 (.int .i64 n)=some (w32 (BitVec.ofInt 32 n)):=by
  simp only[convV,w32,wrap_u32]
@[simp high] theorem conv_i_64 (n:Int):convV .u64 (.int .i64 n)=some (w64 (BitVec.ofInt 64 n)):=by
  simp only[convV,w64,wrap_u64]
end Go.Ab
namespace Go.Ab
open Go
def zR64_w320:List V:=[(w32 0),(w32 0),(w32 0),(w32 0),(w32 0),(w32 0),(w32 0),(w32 0),(w32 0),(w32 0),(w32 0),(w32 0),(w32 0),(w32 0),(w32 0),(w32 0),(w32 0),(w32 0),(w32 0),(w32 0),(w32 0),(w32 0),(w32 0),(w32 0),(w32 0),(w32 0),(w32 0),(w32 0),(w32 0),(w32 0),(w32 0),(w32 0),(w32 0),(w32 0),(w32 0),(w32 0),(w32 0),(w32 0),(w32 0),(w32 0),(w32 0),(w32 0),(w32 0),(w32 0),(w32 0),(w32 0),(w32 0),(w32 0),(w32 0),(w32 0),(w32 0),(w32 0),(w32 0),(w32 0),(w32 0),(w32 0),(w32 0),(w32 0),(w32 0),(w32 0),(w32 0),(w32 0),(w32 0),(w32 0)]
def zR32_w80:List V:=[(w8 0),(w8 0),(w8 0),(w8 0),(w8 0),(w8 0),(w8 0),(w8 0),(w8 0),(w8 0),(w8 0),(w8 0),(w8 0),(w8 0),(w8 0),(w8 0),(w8 0),(w8 0),(w8 0),(w8 0),(w8 0),(w8 0),(w8 0),(w8 0),(w8 0),(w8 0),(w8 0),(w8 0),(w8 0),(w8 0),(w8 0),(w8 0)]
@[simp] theorem zR32_w80_len:zR32_w80.length=32:=_root_.id rfl
def z68_39b1:List V:=[(w32 0),(w8 0),(w8 0),(w8 0),(w8 0),(w8 0),(w8 0),(w8 0),(w8 0),(w8 0),(w8 0),(w8 0),(w8 0),(w8 0),(w8 0),(w8 0),(w8 0),(w8 0),(w8 0),(w8 0),(w8 0),(w8 0),(w8 0),(w8 0),(w8 0),(w8 0),(w8 0),(w8 0),(w8 0),(w8 0),(w8 0),(w8 0),(w8 0),(w8 0),(w8 0),(w8 0),(w8 0),(w8 0),(w8 0),(w8 0),(w8 0),(w8 0),(w8 0),(w8 0),(w8 0),(w8 0),(w8 0),(w8 0),(w8 0),(w8 0),(w8 0),(w8 0),(w8 0),(w8 0),(w8 0),(w8 0),(w8 0),(w8 0),(w8 0),(w8 0),(w8 0),(w8 0),(w8 0),(w8 0),(w8 0),(w32 0),(w32 0),(w32 0)]
@[simp] theorem z68_39b1_len:z68_39b1.length=68:=_root_.id rfl
def z76_2d2c:List V:=[(w32 0),(.int .i64 0),(.int .i64 0),(.int .i64 0),(.int .i64 0),(w32 0),(w8 0),(w8 0),(w8 0),(w8 0),(w8 0),(w8 0),(w8 0),(w8 0),(w8 0),(w8 0),(w8 0),(w8 0),(w8 0),(w8 0),(w8 0),(w8 0),(w8 0),(w8 0),(w8 0),(w8 0),(w8 0),(w8 0),(w8 0),(w8 0),(w8 0),(w8 0),(w8 0),(w8 0),(w8 0),(w8 0),(w8 0),(w8 0),(w8 0),(w8 0),(w8 0),(w8 0),(w8 0),(w8 0),(w8 0),(w8 0),(w8 0),(w8 0),(w8 0),(w8 0),(w8 0),(w8 0),(w8 0),(w8 0),(w8 0),(w8 0),(w8 0),(w8 0),(w8 0),(w8 0),(w8 0),(w8 0),(w8 0),(w8 0),(w8 0),(w8 0),(w8 0),(w8 0),(w8 0),(w8 0),(w32 0),(w32 0),(w32 0),(.sl .nil [] 0),(.sl .nil [] 0),(.map none)]
def z108_9b14:List V:=[(w32 0),(w8 0),(w8 0),(w8 0),(w8 0),(w8 0),(w8 0),(w8 0),(w8 0),(w8 0),(w8 0),(w8 0),(w8 0),(w8 0),(w8 0),(w8 0),(w8 0),(w8 0),(w8 0),(w8 0),(w8 0),(w8 0),(w8 0),(w8 0),(w8 0),(w8 0),(w8 0),(w8 0),(w8 0),(w8 0),(w8 0),(w8 0),(w8 0),(w8 0),(w8 0),(w8 0),(w8 0),(w8 0),(w8 0),(w8 0),(w8 0),(w8 0),(w8 0),(w8 0),(w8 0),(w8 0),(w8 0),(w8 0),(w8 0),(w8 0),(w8 0),(w8 0),(w8 0),(w8 0),(w8 0),(w8 0),(w8 0),(w8 0),(w8 0),(w8 0),(w8 0),(w8 0),(w8 0),(w8 0),(w8 0),(w32 0),(w32 0),(w32 0),(w8 0),(w8 0),(w8 0),(w8 0),(w8 0),(w8 0),(w8 0),(w8 0),(w8 0),(w8 0),(w8 0),(w8 0),(w8 0),(w8 0),(w8 0),(w8 0),(w8 0),(w8 0),(w8 0),(w8 0),(w8 0),(w8 0),(w8 0),(w8 0),(w8 0),(w8 0),(w8 0),(w8 0),(w8 0),(w8 0),(w8 0),(w8 0),(.int .i64 0),(.int .i64 0),(.int .i64 0),(w64 0),(w64 0),(w64 0),(w64 0),(.bool false)]
def z74_2f53:List V:=[(w32 0),(.int .i64 0),(.int .i64 0),(.int .i64 0),(.int .i64 0),(w32 0),(w8 0),(w8 0),(w8 0),(w8 0),(w8 0),(w8 0),(w8 0),(w8 0),(w8 0),(w8 0),(w8 0),(w8 0),(w8 0),(w8 0),(w8 0),(w8 0),(w8 0),(w8 0),(w8 0),(w8 0),(w8 0),(w8 0),(w8 0),(w8 0),(w8 0),(w8 0),(w8 0),(w8 0),(w8 0),(w8 0),(w8 0),(w8 0),(w8 0),(w8 0),(w8 0),(w8 0),(w8 0),(w8 0),(w8 0),(w8 0),(w8 0),(w8 0),(w8 0),(w8 0),(w8 0),(w8 0),(w8 0),(w8 0),(w8 0),(w8 0),(w8 0),(w8 0),(w8 0),(w8 0),(w8 0),(w8 0),(w8 0),(w8 0),(w8 0),(w8 0),(w8 0),(w8 0),(w8 0),(w8 0),(w32 0),(w32 0),(w32 0),(.sl .nil [] 0)]
@[simp] theorem z74_2f53_len:z74_2f53.length=74:=_root_.id rfl
def z69_adc1:List V:=[(w32 0),(w8 0),(w8 0),(w8 0),(w8 0),(w8 0),(w8 0),(w8 0),(w8 0),(w8 0),(w8 0),(w8 0),(w8 0),(w8 0),(w8 0),(w8 0),(w8 0),(w8 0),(w8 0),(w8 0),(w8 0),(w8 0),(w8 0),(w8 0),(w8 0),(w8 0),(w8 0),(w8 0),(w8 0),(w8 0),(w8 0),(w8 0),(w8 0),(w8 0),(w8 0),(w8 0),(w8 0),(w8 0),(w8 0),(w8 0),(w8 0),(w8 0),(w8 0),(w8 0),(w8 0),(w8 0),(w8 0),(w8 0),(w8 0),(w8 0),(w8 0),(w8 0),(w8 0),(w8 0),(w8 0),(w8 0),(w8 0),(w8 0),(w8 0),(w8 0),(w8 0),(w8 0),(w8 0),(w8 0),(w8 0),(w32 0),(w32 0),(w32 0),(.sl .nil [] 0)]
@[simp] theorem z69_adc1_len:z69_adc1.length=69:=_root_.id rfl
def z34_1838:List V:=[(w8 0),(w8 0),(w8 0),(w8 0),(w8 0),(w8 0),(w8 0),(w8 0),(w8 0),(w8 0),(w8 0),(w8 0),(w8 0),(w8 0),(w8 0),(w8 0),(w8 0),(w8 0),(w8 0),(w8 0),(w8 0),(w8 0),(w8 0),(w8 0),(w8 0),(w8 0),(w8 0),(w8 0),(w8 0),(w8 0),(w8 0),(w8 0),(w32 0),(.sl .nil [] 0)]
@[simp] theorem z34_1838_len:z34_1838.length=34:=_root_.id rfl
def z33_0be4:List V:=[(.int .i64 0),(w8 0),(w8 0),(w8 0),(w8 0),(w8 0),(w8 0),(w8 0),(w8 0),(w8 0),(w8 0),(w8 0),(w8 0),(w8 0),(w8 0),(w8 0),(w8 0),(w8 0),(w8 0),(w8 0),(w8 0),(w8 0),(w8 0),(w8 0),(w8 0),(w8 0),(w8 0),(w8 0),(w8 0),(w8 0),(w8 0),(w8 0),(w8 0)]
@[simp] theorem z33_0be4_len:z33_0be4.length=33:=_root_.id rfl
def z33_1371:List V:=[(w8 0),(w8 0),(w8 0),(w8 0),(w8 0),(w8 0),(w8 0),(w8 0),(w8 0),(w8 0),(w8 0),(w8 0),(w8 0),(w8 0),(w8 0),(w8 0),(w8 0),(w8 0),(w8 0),(w8 0),(w8 0),(w8 0),(w8 0),(w8 0),(w8 0),(w8 0),(w8 0),(w8 0),(w8 0),(w8 0),(w8 0),(w8 0),(w32 0)]
@[simp] theorem z33_1371_len:z33_1371.length=33:=_root_.id rfl
def z34_7943:List V:=[(.int .i64 0),(w8 0),(w8 0),(w8 0),(w8 0),(w8 0),(w8 0),(w8 0),(w8 0),(w8 0),(w8 0),(w8 0),(w8 0),(w8 0),(w8 0),(w8 0),(w8 0),(w8 0),(w8 0),(w8 0),(w8 0),(w8 0),(w8 0),(w8 0),(w8 0),(w8 0),(w8 0),(w8 0),(w8 0),(w8 0),(w8 0),(w8 0),(w8 0),(.int .i64 0)]
@[simp] theorem z34_7943_len:z34_7943.length=34:=_root_.id rfl
def k105 (F:Fn):PF:=PF.mk 5 1 [(PR.cell 2 true 4)] (.seq (.ops [(po 2 (.alloc [(w64 0),(w64 0),(w64 0),(w64 0)]))]) (.seq (.ops [(pm 3 0),(po 4 (.build [(w64 0),(w64 0),(w64 0),(w64 0)] [(0,(1,(.t 3)))])),(PO.mk none (.store 4 (.t 2) (.t 4)) none)]) .ret))
def k106 (F:Fn):PF:=PF.mk 24 2 [(.t 4)] (.seq (.ops [(po 2 (.box (.t 0))),(po 3 (.box (.t 1))),(po 4 (.mv (.k (.int .i64 0))))]) (.seq (.seq (.ops [(po 5 (.mv (.k (.int .i64 3))))]) (.block 0 (.loop (.seq (.seq (.ops [(pm 6 5),(po 7 (.bin .geq (.t 6) (.k (.int .i64 0))))]) (.cond (.t 7) .skip (.exit 0))) (.seq (.block 1 (.seq (.draw [(.e,(pm 10 5)),(.e,(po 11 (.idxArr 4 1 (.t 2) (.t 10)))),(.e,(pm 13 5)),(.e,(po 14 (.idxArr 4 1 (.t 3) (.t 13)))),(.s,(po 12 (.load false 1 (.t 11)))),(.s,(po 15 (.load false 1 (.t 14)))),(.e,(po 16 (.bin .neq (.t 12) (.t 15))))]) (.cond (.t 16) (.seq (.seq (.draw [(.e,(pm 17 5)),(.e,(po 18 (.idxArr 4 1 (.t 2) (.t 17)))),(.e,(pm 20 5)),(.e,(po 21 (.idxArr 4 1 (.t 3) (.t 20)))),(.s,(po 19 (.load false 1 (.t 18)))),(.s,(po 22 (.load false 1 (.t 21)))),(.e,(po 23 (.bin .lss (.t 19) (.t 22))))]) (.cond (.t 23) (.seq (.ops [(po 4 (.mv (.k (.int .i64 (-1)))))]) .ret) .skip)) (.seq (.ops [(po 4 (.mv (.k (.int .i64 1))))]) .ret)) .skip))) (.ops [(pm 8 5),(po 9 (.bin .sub (.t 8) (.k (.int .i64 1)))),(pm 5 9)])))))) (.seq (.ops [(po 4 (.mv (.k (.int .i64 0))))]) .ret)))
def k107 (F:Fn):PF:=PF.mk 6 1 [(.t 2)] (.seq (.ops [(po 1 (.box (.t 0))),(po 2 (.mv (.k (.bool false))))]) (.seq (.ops [(po 3 (.load true 4 (.t 1))),(po 4 (.build [(w64 0),(w64 0),(w64 0),(w64 0)] [])),(po 5 (.eqa (.agg 4) false (.t 3) (.t 4))),(pm 2 5)]) .ret))
def k108 (F:Fn):PF:=PF.mk 41 1 [(PR.cell 2 true 4),(.t 3)] (.seq (.ops [(po 2 (.alloc [(w64 0),(w64 0),(w64 0),(w64 0)])),(po 3 (.mv (.k (.bool false))))]) (.seq (.ops [(po 4 (.alloc [(w64 0),(w64 0),(w64 0),(w64 0)]))]) (.seq (.ops [(po 5 (.mv (.k (.bool false))))]) (.seq (.seq (.ops [(pm 10 0),(po 11 (.lenSl (.t 10))),(po 12 (.mv (.k (.int .i64 0))))]) (.block 0 (.loop (.seq (.ops [(po 13 (.bin .lss (.t 12) (.t 11)))]) (.seq (.cond (.t 13) .skip (.exit 0)) (.seq (.block 1 (.seq (.ops [(po 14 (.idxSl 4 (.t 10) (.t 12))),(po 15 (.load true 4 (.t 14))),(po 7 (.alloc [(w64 0),(w64 0),(w64 0),(w64 0)])),(PO.mk none (.store 4 (.t 7) (.t 15)) none)]) (.seq (.ops [(po 8 (.mv (.k (w64 0))))]) (.seq (.seq (.ops [(po 16 (.mv (.k (.int .i64 0))))]) (.block 2 (.loop (.seq (.ops [(po 17 (.bin .lss (.t 16) (.k (.int .i64 4))))]) (.seq (.cond (.t 17) .skip (.exit 2)) (.seq (.block 3 (.seq (.ops [(pm 18 16),(pm 9 18)]) (.draw [(.e,(pm 20 9)),(.e,(pm 21 9)),(.e,(po 22 (.idxArr 4 1 (.t 4) (.t 21)))),(.e,(pm 24 9)),(.e,(po 25 (.idxArr 4 1 (.t 7) (.t 24)))),(.e,(pm 27 8)),(.s,(po 23 (.load false 1 (.t 22)))),(.s,(po 26 (.load false 1 (.t 25)))),(.e,(po 28 (.carry false (.t 23) (.t 26) (.t 27)))),(.e,(pm 19 28)),(.e,(po 29 (.ext 0 (.t 19)))),(.e,(po 30 (.ext 1 (.t 19)))),(.e,(po 31 (.idxArr 4 1 (.t 4) (.t 20)))),(.x,(PO.mk none (.store 1 (.t 31) (.t 29)) none)),(.e,(pm 8 30))]))) (.ops [(po 32 (.bin .add (.t 16) (.k (.int .i64 1)))),(pm 16 32)]))))))) (.ops [(pm 33 5),(pm 34 33),(PO.mk (some 35) (.mv (.t 8)) (some (34,false))),(PO.mk (some 36) (.bin .neq (.t 35) (.k (w64 0))) (some (34,false))),(po 37 (.pick (.t 34) (.k (.bool true)) (.t 36))),(pm 5 37)]))))) (.ops [(po 38 (.bin .add (.t 12) (.k (.int .i64 1)))),(pm 12 38)]))))))) (.seq (.ops [(po 39 (.load true 4 (.t 4))),(pm 40 5),(PO.mk none (.store 4 (.t 2) (.t 39)) none),(pm 3 40)]) .ret)))))
def k109 (F:Fn):PF:=PF.mk 28 2 [(PR.cell 4 true 4),(.t 5)] (.seq (.ops [(po 2 (.box (.t 0))),(po 3 (.box (.t 1))),(po 4 (.alloc [(w64 0),(w64 0),(w64 0),(w64 0)])),(po 5 (.mv (.k (.bool false))))]) (.seq (.ops [(po 6 (.mv (.k (w64 0))))]) (.seq (.seq (.ops [(po 8 (.mv (.k (.int .i64 0))))]) (.block 0 (.loop (.seq (.ops [(po 9 (.bin .lss (.t 8) (.k (.int .i64 4))))]) (.seq (.cond (.t 9) .skip (.exit 0)) (.seq (.block 1 (.seq (.ops [(pm 10 8),(pm 7 10)]) (.draw [(.e,(pm 12 7)),(.e,(pm 13 7)),(.e,(po 14 (.idxArr 4 1 (.t 2) (.t 13)))),(.e,(pm 16 7)),(.e,(po 17 (.idxArr 4 1 (.t 3) (.t 16)))),(.e,(pm 19 6)),(.s,(po 15 (.load false 1 (.t 14)))),(.s,(po 18 (.load false 1 (.t 17)))),(.e,(po 20 (.carry true (.t 15) (.t 18) (.t 19)))),(.e,(pm 11 20)),(.e,(po 21 (.ext 0 (.t 11)))),(.e,(po 22 (.ext 1 (.t 11)))),(.e,(po 23 (.idxArr 4 1 (.t 2) (.t 12)))),(.x,(PO.mk none (.store 1 (.t 23) (.t 21)) none)),(.e,(pm 6 22))]))) (.ops [(po 24 (.bin .add (.t 8) (.k (.int .i64 1)))),(pm 8 24)]))))))) (.seq (.ops [(po 25 (.load true 4 (.t 2))),(pm 26 6),(po 27 (.bin .neq (.t 26) (.k (w64 0)))),(PO.mk none (.store 4 (.t 4) (.t 25)) none),(pm 5 27)]) .ret))))
def k110 (F:Fn):PF:=PF.mk 39 2 [(PR.cell 4 true 4),(.t 5)] (.seq (.ops [(po 2 (.box (.t 0))),(po 4 (.alloc [(w64 0),(w64 0),(w64 0),(w64 0)])),(po 5 (.mv (.k (.bool false))))]) (.seq (.ops [(po 6 (.mv (.k (w64 0))))]) (.seq (.seq (.ops [(po 12 (.load true 4 (.t 2))),(po 13 (.mv (.k (.int .i64 0))))]) (.block 0 (.loop (.seq (.ops [(po 14 (.bin .lss (.t 13) (.k (.int .i64 4))))]) (.seq (.cond (.t 14) .skip (.exit 0)) (.seq (.block 1 (.seq (.ops [(pm 15 13),(po 16 (.idx 4 false 1 (.t 12) (.t 13))),(pm 7 15),(pm 8 16)]) (.seq (.ops [(pm 18 8),(pm 19 1),(po 20 (.call (F 118) [(.t 18),(.t 19)])),(pm 17 20),(po 21 (.ext 0 (.t 17))),(po 22 (.ext 1 (.t 17))),(pm 9 21),(pm 10 22)]) (.seq (.ops [(pm 24 10),(pm 25 6),(po 26 (.carry false (.t 24) (.t 25) (.k (w64 0)))),(pm 23 26),(po 27 (.ext 0 (.t 23))),(po 28 (.ext 1 (.t 23))),(pm 10 27),(pm 11 28)]) (.ops [(pm 29 7),(pm 30 10),(pm 31 9),(pm 32 11),(po 33 (.bin .add (.t 31) (.t 32))),(po 34 (.idxArr 4 1 (.t 2) (.t 29))),(PO.mk none (.store 1 (.t 34) (.t 30)) none),(pm 6 33)]))))) (.ops [(po 35 (.bin .add (.t 13) (.k (.int .i64 1)))),(pm 13 35)]))))))) (.seq (.ops [(po 36 (.load true 4 (.t 2))),(pm 37 6),(po 38 (.bin .neq (.t 37) (.k (w64 0)))),(PO.mk none (.store 4 (.t 4) (.t 36)) none),(pm 5 38)]) .ret))))
def k111 (F:Fn):PF:=PF.mk 16 1 [(PR.cell 2 true 4)] (.seq (.ops [(po 1 (.box (.t 0))),(po 2 (.alloc [(w64 0),(w64 0),(w64 0),(w64 0)]))]) (.seq (.ops [(po 3 (.idxArr 4 1 (.t 1) (.k (.int .i64 0)))),(po 4 (.load false 1 (.t 3))),(po 5 (.inv (.t 4))),(po 6 (.idxArr 4 1 (.t 1) (.k (.int .i64 1)))),(po 7 (.load false 1 (.t 6))),(po 8 (.inv (.t 7))),(po 9 (.idxArr 4 1 (.t 1) (.k (.int .i64 2)))),(po 10 (.load false 1 (.t 9))),(po 11 (.inv (.t 10))),(po 12 (.idxArr 4 1 (.t 1) (.k (.int .i64 3)))),(po 13 (.load false 1 (.t 12))),(po 14 (.inv (.t 13))),(po 15 (.build [(w64 0),(w64 0),(w64 0),(w64 0)] [(0,(1,(.t 5))),(1,(1,(.t 8))),(2,(1,(.t 11))),(3,(1,(.t 14)))])),(PO.mk none (.store 4 (.t 2) (.t 15)) none)]) .ret))
def k112 (F:Fn):PF:=PF.mk 57 2 [(PR.cell 4 true 4)] (.seq (.ops [(po 2 (.box (.t 0))),(po 4 (.alloc [(w64 0),(w64 0),(w64 0),(w64 0)]))]) (.seq (.seq (.ops [(pm 9 1),(po 10 (.bin .lss (.t 9) (.k (.int .i64 0)))),(pm 11 10),(PO.mk (some 12) (.mv (.t 1)) (some (11,false))),(PO.mk (some 13) (.bin .gtr (.t 12) (.k (.int .i64 255))) (some (11,false))),(po 14 (.pick (.t 11) (.k (.bool true)) (.t 13)))]) (.cond (.t 14) (.seq (.ops [(po 15 (.build [(w64 0),(w64 0),(w64 0),(w64 0)] [])),(PO.mk none (.store 4 (.t 4) (.t 15)) none)]) .ret) .skip)) (.seq (.ops [(po 5 (.alloc [(w64 0),(w64 0),(w64 0),(w64 0)]))]) (.seq (.ops [(pm 16 1),(po 17 (.bin .quo (.t 16) (.k (.int .i64 64)))),(pm 18 1),(po 19 (.bin .rem (.t 18) (.k (.int .i64 64)))),(po 20 (.conv .u64 (.t 19))),(pm 6 17),(pm 7 20)]) (.seq (.seq (.ops [(po 8 (.mv (.k (.int .i64 3))))]) (.block 0 (.loop (.seq (.seq (.ops [(pm 21 8),(pm 22 6),(po 23 (.bin .geq (.t 21) (.t 22)))]) (.cond (.t 23) .skip (.exit 0))) (.seq (.block 1 (.seq (.ops [(pm 26 8),(pm 27 8),(pm 28 6),(po 29 (.bin .sub (.t 27) (.t 28))),(po 30 (.idxArr 4 1 (.t 2) (.t 29))),(po 31 (.load false 1 (.t 30))),(pm 32 7),(po 33 (.bin .shl (.t 31) (.t 32))),(po 34 (.idxArr 4 1 (.t 5) (.t 26))),(PO.mk none (.store 1 (.t 34) (.t 33)) none)]) (.seq (.ops [(pm 35 8),(pm 36 6),(po 37 (.bin .gtr (.t 35) (.t 36))),(pm 38 37),(PO.mk (some 39) (.mv (.t 7)) (some (38,true))),(PO.mk (some 40) (.bin .gtr (.t 39) (.k (w64 0))) (some (38,true))),(po 41 (.pick (.t 38) (.t 40) (.k (.bool false))))]) (.cond (.t 41) (.draw [(.e,(pm 42 8)),(.e,(po 43 (.idxArr 4 1 (.t 5) (.t 42)))),(.e,(pm 45 8)),(.e,(pm 46 6)),(.e,(po 47 (.bin .sub (.t 45) (.t 46)))),(.e,(po 48 (.bin .sub (.t 47) (.k (.int .i64 1))))),(.e,(po 49 (.idxArr 4 1 (.t 2) (.t 48)))),(.e,(pm 51 7)),(.e,(po 52 (.bin .sub (.k (w64 64)) (.t 51)))),(.s,(po 44 (.load false 1 (.t 43)))),(.s,(po 50 (.load false 1 (.t 49)))),(.e,(po 53 (.bin .shr (.t 50) (.t 52)))),(.e,(po 54 (.bin .or (.t 44) (.t 53)))),(.e,(po 55 (.idxArr 4 1 (.t 5) (.t 42)))),(.x,(PO.mk none (.store 1 (.t 55) (.t 54)) none))]) .skip)))) (.ops [(pm 24 8),(po 25 (.bin .sub (.t 24) (.k (.int .i64 1)))),(pm 8 25)])))))) (.seq (.ops [(po 56 (.load true 4 (.t 5))),(PO.mk none (.store 4 (.t 4) (.t 56)) none)]) .ret))))))
def k113 (F:Fn):PF:=PF.mk 59 2 [(PR.cell 4 true 4)] (.seq (.ops [(po 2 (.box (.t 0))),(po 4 (.alloc [(w64 0),(w64 0),(w64 0),(w64 0)]))]) (.seq (.seq (.ops [(pm 9 1),(po 10 (.bin .lss (.t 9) (.k (.int .i64 0)))),(pm 11 10),(PO.mk (some 12) (.mv (.t 1)) (some (11,false))),(PO.mk (some 13) (.bin .gtr (.t 12) (.k (.int .i64 255))) (some (11,false))),(po 14 (.pick (.t 11) (.k (.bool true)) (.t 13)))]) (.cond (.t 14) (.seq (.ops [(po 15 (.build [(w64 0),(w64 0),(w64 0),(w64 0)] [])),(PO.mk none (.store 4 (.t 4) (.t 15)) none)]) .ret) .skip)) (.seq (.ops [(po 5 (.alloc [(w64 0),(w64 0),(w64 0),(w64 0)]))]) (.seq (.ops [(pm 16 1),(po 17 (.bin .quo (.t 16) (.k (.int .i64 64)))),(pm 18 1),(po 19 (.bin .rem (.t 18) (.k (.int .i64 64)))),(po 20 (.conv .u64 (.t 19))),(pm 6 17),(pm 7 20)]) (.seq (.seq (.ops [(po 8 (.mv (.k (.int .i64 0))))]) (.block 0 (.loop (.seq (.seq (.ops [(pm 21 8),(pm 22 6),(po 23 (.bin .sub (.k (.int .i64 4)) (.t 22))),(po 24 (.bin .lss (.t 21) (.t 23)))]) (.cond (.t 24) .skip (.exit 0))) (.seq (.block 1 (.seq (.ops [(pm 27 8),(pm 28 8),(pm 29 6),(po 30 (.bin .add (.t 28) (.t 29))),(po 31 (.idxArr 4 1 (.t 2) (.t 30))),(po 32 (.load false 1 (.t 31))),(pm 33 7),(po 34 (.bin .shr (.t 32) (.t 33))),(po 35 (.idxArr 4 1 (.t 5) (.t 27))),(PO.mk none (.store 1 (.t 35) (.t 34)) none)]) (.seq (.ops [(pm 36 8),(pm 37 6),(po 38 (.bin .add (.t 36) (.t 37))),(po 39 (.bin .lss (.t 38) (.k (.int .i64 3)))),(pm 40 39),(PO.mk (some 41) (.mv (.t 7)) (some (40,true))),(PO.mk (some 42) (.bin .gtr (.t 41) (.k (w64 0))) (some (40,true))),(po 43 (.pick (.t 40) (.t 42) (.k (.bool false))))]) (.cond (.t 43) (.draw [(.e,(pm 44 8)),(.e,(po 45 (.idxArr 4 1 (.t 5) (.t 44)))),(.e,(pm 47 8)),(.e,(pm 48 6)),(.e,(po 49 (.bin .add (.t 47) (.t 48)))),(.e,(po 50 (.bin .add (.t 49) (.k (.int .i64 1))))),(.e,(po 51 (.idxArr 4 1 (.t 2) (.t 50)))),(.e,(pm 53 7)),(.e,(po 54 (.bin .sub (.k (w64 64)) (.t 53)))),(.s,(po 46 (.load false 1 (.t 45)))),(.s,(po 52 (.load false 1 (.t 51)))),(.e,(po 55 (.bin .shl (.t 52) (.t 54)))),(.e,(po 56 (.bin .or (.t 46) (.t 55)))),(.e,(po 57 (.idxArr 4 1 (.t 5) (.t 44)))),(.x,(PO.mk none (.store 1 (.t 57) (.t 56)) none))]) .skip)))) (.ops [(pm 25 8),(po 26 (.bin .add (.t 25) (.k (.int .i64 1)))),(pm 8 26)])))))) (.seq (.ops [(po 58 (.load true 4 (.t 5))),(PO.mk none (.store 4 (.t 4) (.t 58)) none)]) .ret))))))
def k114 (F:Fn):PF:=PF.mk 19 1 [(.t 2)] (.seq (.ops [(po 1 (.box (.t 0))),(po 2 (.mv (.k (.int .i64 0))))]) (.seq (.seq (.ops [(po 3 (.mv (.k (.int .i64 3))))]) (.block 0 (.loop (.seq (.seq (.ops [(pm 4 3),(po 5 (.bin .geq (.t 4) (.k (.int .i64 0))))]) (.cond (.t 5) .skip (.exit 0))) (.seq (.block 1 (.seq (.ops [(pm 8 3),(po 9 (.idxArr 4 1 (.t 1) (.t 8))),(po 10 (.load false 1 (.t 9))),(po 11 (.bin .neq (.t 10) (.k (w64 0))))]) (.cond (.t 11) (.seq (.ops [(pm 12 3),(po 13 (.bin .mul (.k (.int .i64 64)) (.t 12))),(pm 14 3),(po 15 (.idxArr 4 1 (.t 1) (.t 14))),(po 16 (.load false 1 (.t 15))),(po 17 (.call (F 115) [(.t 16)])),(po 18 (.bin .add (.t 13) (.t 17))),(pm 2 18)]) .ret) .skip))) (.ops [(pm 6 3),(po 7 (.bin .sub (.t 6) (.k (.int .i64 1)))),(pm 3 7)])))))) (.seq (.ops [(po 2 (.mv (.k (.int .i64 0))))]) .ret)))
def k116 (F:Fn):PF:=PF.mk 48 2 [(PR.cell 4 true 4),(PR.cell 5 true 4),(.t 6)] (.seq (.ops [(po 2 (.box (.t 0))),(po 3 (.box (.t 1))),(po 4 (.alloc [(w64 0),(w64 0),(w64 0),(w64 0)])),(po 5 (.alloc [(w64 0),(w64 0),(w64 0),(w64 0)])),(po 6 (.mv (.k (.int .i64 0))))]) (.seq (.seq (.ops [(po 10 (.load true 4 (.t 3))),(po 11 (.call (F 107) [(.t 10)]))]) (.cond (.t 11) (.seq (.ops [(po 12 (.build [(w64 0),(w64 0),(w64 0),(w64 0)] [])),(po 13 (.build [(w64 0),(w64 0),(w64 0),(w64 0)] [])),(PO.mk none (.store 4 (.t 4) (.t 12)) none),(PO.mk none (.store 4 (.t 5) (.t 13)) none),(po 6 (.mv (.k (.int .i64 1))))]) .ret) .skip)) (.seq (.ops [(po 7 (.alloc [(w64 0),(w64 0),(w64 0),(w64 0)]))]) (.seq (.seq (.draw [(.s,(po 14 (.load true 4 (.t 2)))),(.s,(po 15 (.call (F 114) [(.t 14)]))),(.s,(po 16 (.load true 4 (.t 3)))),(.s,(po 17 (.call (F 114) [(.t 16)]))),(.e,(po 18 (.bin .sub (.t 15) (.t 17)))),(.e,(pm 8 18))]) (.block 0 (.loop (.seq (.seq (.ops [(pm 19 8),(po 20 (.bin .geq (.t 19) (.k (.int .i64 0))))]) (.cond (.t 20) .skip (.exit 0))) (.seq (.block 1 (.seq (.ops [(po 23 (.load true 4 (.t 3))),(pm 24 8),(po 25 (.call (F 112) [(.t 23),(.t 24)])),(po 9 (.alloc [(w64 0),(w64 0),(w64 0),(w64 0)])),(PO.mk none (.store 4 (.t 9) (.t 25)) none)]) (.seq (.ops [(po 26 (.load true 4 (.t 9))),(po 27 (.load true 4 (.t 2))),(po 28 (.call (F 106) [(.t 26),(.t 27)])),(po 29 (.bin .leq (.t 28) (.k (.int .i64 0))))]) (.cond (.t 29) (.seq (.ops [(po 31 (.load true 4 (.t 2))),(po 32 (.load true 4 (.t 9))),(po 33 (.call (F 109) [(.t 31),(.t 32)])),(pm 30 33),(po 34 (.ext 0 (.t 30))),(po 35 (.ext 1 (.t 30))),(PO.mk none (.store 4 (.t 2) (.t 34)) none)]) (.ops [(pm 36 8),(po 37 (.bin .quo (.t 36) (.k (.int .i64 64)))),(po 38 (.idxArr 4 1 (.t 7) (.t 37))),(po 39 (.load false 1 (.t 38))),(pm 40 8),(po 41 (.bin .rem (.t 40) (.k (.int .i64 64)))),(po 42 (.conv .u64 (.t 41))),(po 43 (.bin .shl (.k (w64 1)) (.t 42))),(po 44 (.bin .or (.t 39) (.t 43))),(po 45 (.idxArr 4 1 (.t 7) (.t 37))),(PO.mk none (.store 1 (.t 45) (.t 44)) none)])) .skip)))) (.ops [(pm 21 8),(po 22 (.bin .sub (.t 21) (.k (.int .i64 1)))),(pm 8 22)])))))) (.seq (.draw2 [(7,4),(7,5),(2,4),(2,5)] [(.s,(po 46 (.load true 4 (.t 7)))),(.s,(po 47 (.load true 4 (.t 2)))),(.x,(PO.mk none (.store 4 (.t 4) (.t 46)) none)),(.x,(PO.mk none (.store 4 (.t 5) (.t 47)) none)),(.e,(po 6 (.mv (.k (.int .i64 0)))))]) .ret)))))
def k117 (F:Fn):PF:=PF.mk 26 1 [(PR.cell 2 true 4)] (.seq (.ops [(po 1 (.box (.t 0))),(po 2 (.alloc [(w64 0),(w64 0),(w64 0),(w64 0)]))]) (.seq (.ops [(po 3 (.alloc [(w64 0),(w64 0),(w64 0),(w64 0)]))]) (.seq (.seq (.ops [(po 6 (.load true 32 (.t 1))),(po 7 (.mv (.k (.int .i64 0))))]) (.block 0 (.loop (.seq (.ops [(po 8 (.bin .lss (.t 7) (.k (.int .i64 32))))]) (.seq (.cond (.t 8) .skip (.exit 0)) (.seq (.block 1 (.seq (.ops [(pm 9 7),(po 10 (.idx 32 false 1 (.t 6) (.t 7))),(pm 4 9),(pm 5 10)]) (.ops [(pm 11 4),(po 12 (.bin .quo (.t 11) (.k (.int .i64 8)))),(po 13 (.idxArr 4 1 (.t 3) (.t 12))),(po 14 (.load false 1 (.t 13))),(pm 15 5),(po 16 (.conv .u64 (.t 15))),(pm 17 4),(po 18 (.bin .rem (.t 17) (.k (.int .i64 8)))),(po 19 (.bin .mul (.k (.int .i64 8)) (.t 18))),(po 20 (.conv .u64 (.t 19))),(po 21 (.bin .shl (.t 16) (.t 20))),(po 22 (.bin .or (.t 14) (.t 21))),(po 23 (.idxArr 4 1 (.t 3) (.t 12))),(PO.mk none (.store 1 (.t 23) (.t 22)) none)]))) (.ops [(po 24 (.bin .add (.t 7) (.k (.int .i64 1)))),(pm 7 24)]))))))) (.seq (.ops [(po 25 (.load true 4 (.t 3))),(PO.mk none (.store 4 (.t 2) (.t 25)) none)]) .ret))))
def k115 (F:Fn):PF:=PF.mk 25 1 [(.t 2)] (.seq (.ops [(po 2 (.mv (.k (.int .i64 0))))]) (.seq (.seq (.ops [(pm 3 0),(po 4 (.bin .geq (.t 3) (.k (w64 4294967296))))]) (.cond (.t 4) (.seq (.ops [(pm 5 0),(po 6 (.bin .shr (.t 5) (.k (w64 32)))),(pm 0 6)]) (.ops [(po 2 (.mv (.k (.int .i64 32))))])) .skip)) (.seq (.seq (.ops [(pm 7 0),(po 8 (.bin .geq (.t 7) (.k (w64 65536))))]) (.cond (.t 8) (.seq (.ops [(pm 9 0),(po 10 (.bin .shr (.t 9) (.k (w64 16)))),(pm 0 10)]) (.ops [(pm 11 2),(po 12 (.bin .add (.t 11) (.k (.int .i64 16)))),(pm 2 12)])) .skip)) (.seq (.seq (.ops [(pm 13 0),(po 14 (.bin .geq (.t 13) (.k (w64 256))))]) (.cond (.t 14) (.seq (.ops [(pm 15 0),(po 16 (.bin .shr (.t 15) (.k (w64 8)))),(pm 0 16)]) (.ops [(pm 17 2),(po 18 (.bin .add (.t 17) (.k (.int .i64 8)))),(pm 2 18)])) .skip)) (.seq (.ops [(pm 19 2),(pm 20 0),(po 21 (.conv .u8 (.t 20))),(po 22 (.idxStr (.k (.str (ByteArray.mk ⟨[0,1,2,2,3,3,3,3,4,4,4,4,4,4,4,4,5,5,5,5,5,5,5,5,5,5,5,5,5,5,5,5,6,6,6,6,6,6,6,6,6,6,6,6,6,6,6,6,6,6,6,6,6,6,6,6,6,6,6,6,6,6,6,6,7,7,7,7,7,7,7,7,7,7,7,7,7,7,7,7,7,7,7,7,7,7,7,7,7,7,7,7,7,7,7,7,7,7,7,7,7,7,7,7,7,7,7,7,7,7,7,7,7,7,7,7,7,7,7,7,7,7,7,7,7,7,7,7,8,8,8,8,8,8,8,8,8,8,8,8,8,8,8,8,8,8,8,8,8,8,8,8,8,8,8,8,8,8,8,8,8,8,8,8,8,8,8,8,8,8,8,8,8,8,8,8,8,8,8,8,8,8,8,8,8,8,8,8,8,8,8,8,8,8,8,8,8,8,8,8,8,8,8,8,8,8,8,8,8,8,8,8,8,8,8,8,8,8,8,8,8,8,8,8,8,8,8,8,8,8,8,8,8,8,8,8,8,8,8,8,8,8,8,8,8,8,8,8,8,8,8,8,8,8,8,8]⟩))) (.t 21))),(po 23 (.conv .i64 (.t 22))),(po 24 (.bin .add (.t 19) (.t 23))),(pm 2 24)]) .ret)))))
def k118 (F:Fn):PF:=PF.mk 51 2 [(.t 4),(.t 5)] (.seq (.ops [(po 4 (.mv (.k (w64 0)))),(po 5 (.mv (.k (w64 0))))]) (.seq (.ops [(pm 14 0),(po 15 (.bin .and (.t 14) (.k (w64 4294967295)))),(pm 6 15)]) (.seq (.ops [(pm 16 0),(po 17 (.bin .shr (.t 16) (.k (w64 32)))),(pm 7 17)]) (.seq (.ops [(pm 18 1),(po 19 (.bin .and (.t 18) (.k (w64 4294967295)))),(pm 8 19)]) (.seq (.ops [(pm 20 1),(po 21 (.bin .shr (.t 20) (.k (w64 32)))),(pm 9 21)]) (.seq (.ops [(pm 22 6),(pm 23 8),(po 24 (.bin .mul (.t 22) (.t 23))),(pm 10 24)]) (.seq (.ops [(pm 25 7),(pm 26 8),(po 27 (.bin .mul (.t 25) (.t 26))),(pm 28 10),(po 29 (.bin .shr (.t 28) (.k (w64 32)))),(po 30 (.bin .add (.t 27) (.t 29))),(pm 11 30)]) (.seq (.ops [(pm 31 11),(po 32 (.bin .and (.t 31) (.k (w64 4294967295)))),(pm 12 32)]) (.seq (.ops [(pm 33 11),(po 34 (.bin .shr (.t 33) (.k (w64 32)))),(pm 13 34)]) (.seq (.ops [(pm 35 12),(pm 36 6),(pm 37 9),(po 38 (.bin .mul (.t 36) (.t 37))),(po 39 (.bin .add (.t 35) (.t 38))),(pm 12 39)]) (.seq (.ops [(pm 40 7),(pm 41 9),(po 42 (.bin .mul (.t 40) (.t 41))),(pm 43 13),(po 44 (.bin .add (.t 42) (.t 43))),(pm 45 12),(po 46 (.bin .shr (.t 45) (.k (w64 32)))),(po 47 (.bin .add (.t 44) (.t 46))),(pm 4 47)]) (.seq (.ops [(pm 48 0),(pm 49 1),(po 50 (.bin .mul (.t 48) (.t 49))),(pm 5 50)]) .ret))))))))))))
structure OkNum (P:Program) (F:Fn):Prop where
 mixed:P.follows .mixedOrders=true
 h105:compFn P ⟨[],[],[],[],[]⟩ (F 105)=some (k105 F)
 h106:compFn P ⟨[],[],[],[],[]⟩ (F 106)=some (k106 F)
 h107:compFn P ⟨[],[],[],[],[]⟩ (F 107)=some (k107 F)
 h108:compFn P ⟨[],[],[],[],[]⟩ (F 108)=some (k108 F)
 h109:compFn P ⟨[],[],[],[],[]⟩ (F 109)=some (k109 F)
 h110:compFn P ⟨[],[],[],[],[]⟩ (F 110)=some (k110 F)
 h111:compFn P ⟨[],[],[],[],[]⟩ (F 111)=some (k111 F)
 h112:compFn P ⟨[],[],[],[],[]⟩ (F 112)=some (k112 F)
 h113:compFn P ⟨[],[],[],[],[]⟩ (F 113)=some (k113 F)
 h114:compFn P ⟨[],[],[],[],[]⟩ (F 114)=some (k114 F)
 h116:compFn P ⟨[],[],[],[],[]⟩ (F 116)=some (k116 F)
 h117:compFn P ⟨[],[],[],[],[]⟩ (F 117)=some (k117 F)
 h115:compFn P ⟨[],[],[],[],[]⟩ (F 115)=some (k115 F)
 h118:compFn P ⟨[],[],[],[],[]⟩ (F 118)=some (k118 F)
def k100 (F:Fn):PF:=PF.mk 30 2 [(.t 4)] (.seq (.ops [(po 4 (.mv (.k (w32 0))))]) (.seq (.draw [(.e,(pm 5 0)),(.e,(pm 6 1)),(.e,(po 7 (.idxStr (.t 5) (.t 6)))),(.e,(po 8 (.conv .u32 (.t 7)))),(.e,(po 9 (.bin .shl (.t 8) (.k (w64 24))))),(.e,(pm 10 0)),(.e,(pm 11 1)),(.e,(po 12 (.bin .add (.t 11) (.k (.int .i64 1))))),(.e,(po 13 (.idxStr (.t 10) (.t 12)))),(.e,(po 14 (.conv .u32 (.t 13)))),(.e,(po 15 (.bin .shl (.t 14) (.k (w64 16))))),(.e,(po 16 (.bin .or (.t 9) (.t 15)))),(.e,(pm 17 0)),(.e,(pm 18 1)),(.e,(po 19 (.bin .add (.t 18) (.k (.int .i64 2))))),(.e,(po 20 (.idxStr (.t 17) (.t 19)))),(.e,(po 21 (.conv .u32 (.t 20)))),(.e,(po 22 (.bin .shl (.t 21) (.k (w64 8))))),(.e,(po 23 (.bin .or (.t 16) (.t 22)))),(.e,(pm 24 0)),(.e,(pm 25 1)),(.e,(po 26 (.bin .add (.t 25) (.k (.int .i64 3))))),(.e,(po 27 (.idxStr (.t 24) (.t 26)))),(.e,(po 28 (.conv .u32 (.t 27)))),(.e,(po 29 (.bin .or (.t 23) (.t 28)))),(.e,(pm 4 29))]) .ret))
def k101 (F:Fn):PF:=PF.mk 172 2 [(PR.cell 4 true 8)] (.seq (.ops [(po 2 (.box (.t 0))),(po 4 (.alloc [(w32 0),(w32 0),(w32 0),(w32 0),(w32 0),(w32 0),(w32 0),(w32 0)]))]) (.seq (.ops [(po 5 (.alloc zR64_w320))]) (.seq (.seq (.ops [(po 21 (.mv (.k (.int .i64 0))))]) (.block 0 (.loop (.seq (.ops [(po 22 (.bin .lss (.t 21) (.k (.int .i64 16))))]) (.seq (.cond (.t 22) .skip (.exit 0)) (.seq (.block 1 (.seq (.ops [(pm 23 21),(pm 6 23)]) (.ops [(pm 24 6),(pm 25 1),(pm 26 6),(po 27 (.bin .mul (.k (.int .i64 4)) (.t 26))),(po 28 (.call (F 100) [(.t 25),(.t 27)])),(po 29 (.idxArr 64 1 (.t 5) (.t 24))),(PO.mk none (.store 1 (.t 29) (.t 28)) none)]))) (.ops [(po 30 (.bin .add (.t 21) (.k (.int .i64 1)))),(pm 21 30)]))))))) (.seq (.seq (.ops [(po 7 (.mv (.k (.int .i64 16))))]) (.block 2 (.loop (.seq (.seq (.ops [(pm 31 7),(po 32 (.bin .lss (.t 31) (.k (.int .i64 64))))]) (.cond (.t 32) .skip (.exit 2))) (.seq (.block 3 (.seq (.draw [(.e,(pm 35 7)),(.e,(po 36 (.bin .sub (.t 35) (.k (.int .i64 15))))),(.e,(po 37 (.idxArr 64 1 (.t 5) (.t 36)))),(.e,(pm 39 7)),(.e,(po 40 (.bin .sub (.t 39) (.k (.int .i64 2))))),(.e,(po 41 (.idxArr 64 1 (.t 5) (.t 40)))),(.s,(po 38 (.load false 1 (.t 37)))),(.e,(pm 8 38)),(.s,(po 42 (.load false 1 (.t 41)))),(.e,(pm 9 42))]) (.seq (.ops [(pm 43 8),(po 44 (.call (F 102) [(.t 43),(.k (.int .i64 (-7)))])),(pm 45 8),(po 46 (.call (F 102) [(.t 45),(.k (.int .i64 (-18)))])),(po 47 (.bin .xor (.t 44) (.t 46))),(pm 48 8),(po 49 (.bin .shr (.t 48) (.k (w64 3)))),(po 50 (.bin .xor (.t 47) (.t 49))),(pm 10 50)]) (.seq (.ops [(pm 51 9),(po 52 (.call (F 102) [(.t 51),(.k (.int .i64 (-17)))])),(pm 53 9),(po 54 (.call (F 102) [(.t 53),(.k (.int .i64 (-19)))])),(po 55 (.bin .xor (.t 52) (.t 54))),(pm 56 9),(po 57 (.bin .shr (.t 56) (.k (w64 10)))),(po 58 (.bin .xor (.t 55) (.t 57))),(pm 11 58)]) (.draw [(.e,(pm 59 7)),(.e,(pm 60 7)),(.e,(po 61 (.bin .sub (.t 60) (.k (.int .i64 16))))),(.e,(po 62 (.idxArr 64 1 (.t 5) (.t 61)))),(.e,(pm 64 10)),(.e,(pm 66 7)),(.e,(po 67 (.bin .sub (.t 66) (.k (.int .i64 7))))),(.e,(po 68 (.idxArr 64 1 (.t 5) (.t 67)))),(.e,(pm 71 11)),(.s,(po 63 (.load false 1 (.t 62)))),(.e,(po 65 (.bin .add (.t 63) (.t 64)))),(.s,(po 69 (.load false 1 (.t 68)))),(.e,(po 70 (.bin .add (.t 65) (.t 69)))),(.e,(po 72 (.bin .add (.t 70) (.t 71)))),(.e,(po 73 (.idxArr 64 1 (.t 5) (.t 59)))),(.x,(PO.mk none (.store 1 (.t 73) (.t 72)) none))]))))) (.ops [(pm 33 7),(po 34 (.bin .add (.t 33) (.k (.int .i64 1)))),(pm 7 34)])))))) (.seq (.ops [(po 74 (.load true 8 (.t 2))),(po 12 (.alloc [(w32 0),(w32 0),(w32 0),(w32 0),(w32 0),(w32 0),(w32 0),(w32 0)])),(PO.mk none (.store 8 (.t 12) (.t 74)) none)]) (.seq (.seq (.ops [(po 75 (.mv (.k (.int .i64 0))))]) (.block 4 (.loop (.seq (.ops [(po 76 (.bin .lss (.t 75) (.k (.int .i64 64))))]) (.seq (.cond (.t 76) .skip (.exit 4)) (.seq (.block 5 (.seq (.ops [(pm 77 75),(pm 13 77)]) (.seq (.draw [(.e,(po 78 (.idxArr 8 1 (.t 12) (.k (.int .i64 0))))),(.e,(po 80 (.idxArr 8 1 (.t 12) (.k (.int .i64 4))))),(.s,(po 79 (.load false 1 (.t 78)))),(.e,(pm 14 79)),(.s,(po 81 (.load false 1 (.t 80)))),(.e,(pm 15 81))]) (.seq (.ops [(pm 82 15),(po 83 (.call (F 102) [(.t 82),(.k (.int .i64 (-6)))])),(pm 84 15),(po 85 (.call (F 102) [(.t 84),(.k (.int .i64 (-11)))])),(po 86 (.bin .xor (.t 83) (.t 85))),(pm 87 15),(po 88 (.call (F 102) [(.t 87),(.k (.int .i64 (-25)))])),(po 89 (.bin .xor (.t 86) (.t 88))),(pm 16 89)]) (.seq (.draw [(.e,(po 90 (.idxArr 8 1 (.t 12) (.k (.int .i64 7))))),(.e,(pm 92 16)),(.e,(pm 94 15)),(.e,(po 95 (.idxArr 8 1 (.t 12) (.k (.int .i64 5))))),(.e,(pm 98 15)),(.e,(po 99 (.inv (.t 98)))),(.e,(po 100 (.idxArr 8 1 (.t 12) (.k (.int .i64 6))))),(.e,(pm 105 13)),(.e,(po 106 (.bin .mul (.k (.int .i64 4)) (.t 105)))),(.e,(pm 109 13)),(.e,(po 110 (.idxArr 64 1 (.t 5) (.t 109)))),(.s,(po 91 (.load false 1 (.t 90)))),(.e,(po 93 (.bin .add (.t 91) (.t 92)))),(.s,(po 96 (.load false 1 (.t 95)))),(.e,(po 97 (.bin .and (.t 94) (.t 96)))),(.s,(po 101 (.load false 1 (.t 100)))),(.e,(po 102 (.bin .and (.t 99) (.t 101)))),(.e,(po 103 (.bin .xor (.t 97) (.t 102)))),(.e,(po 104 (.bin .add (.t 93) (.t 103)))),(.s,(po 107 (.call (F 100) [(.k (.str (ByteArray.mk ⟨[66,138,47,152,113,55,68,145,181,192,251,207,233,181,219,165,57,86,194,91,89,241,17,241,146,63,130,164,171,28,94,213,216,7,170,152,18,131,91,1,36,49,133,190,85,12,125,195,114,190,93,116,128,222,177,254,155,220,6,167,193,155,241,116,228,155,105,193,239,190,71,134,15,193,157,198,36,12,161,204,45,233,44,111,74,116,132,170,92,176,169,220,118,249,136,218,152,62,81,82,168,49,198,109,176,3,39,200,191,89,127,199,198,224,11,243,213,167,145,71,6,202,99,81,20,41,41,103,39,183,10,133,46,27,33,56,77,44,109,252,83,56,13,19,101,10,115,84,118,106,10,187,129,194,201,46,146,114,44,133,162,191,232,161,168,26,102,75,194,75,139,112,199,108,81,163,209,146,232,25,214,153,6,36,244,14,53,133,16,106,160,112,25,164,193,22,30,55,108,8,39,72,119,76,52,176,188,181,57,28,12,179,78,216,170,74,91,156,202,79,104,46,111,243,116,143,130,238,120,165,99,111,132,200,120,20,140,199,2,8,144,190,255,250,164,80,108,235,190,249,163,247,198,113,120,242]⟩))),(.t 106)]))),(.e,(po 108 (.bin .add (.t 104) (.t 107)))),(.s,(po 111 (.load false 1 (.t 110)))),(.e,(po 112 (.bin .add (.t 108) (.t 111)))),(.e,(pm 17 112))]) (.seq (.ops [(pm 113 14),(po 114 (.call (F 102) [(.t 113),(.k (.int .i64 (-2)))])),(pm 115 14),(po 116 (.call (F 102) [(.t 115),(.k (.int .i64 (-13)))])),(po 117 (.bin .xor (.t 114) (.t 116))),(pm 118 14),(po 119 (.call (F 102) [(.t 118),(.k (.int .i64 (-22)))])),(po 120 (.bin .xor (.t 117) (.t 119))),(pm 18 120)]) (.seq (.ops [(pm 121 14),(po 122 (.idxArr 8 1 (.t 12) (.k (.int .i64 1)))),(po 123 (.load false 1 (.t 122))),(po 124 (.bin .and (.t 121) (.t 123))),(pm 125 14),(po 126 (.idxArr 8 1 (.t 12) (.k (.int .i64 2)))),(po 127 (.load false 1 (.t 126))),(po 128 (.bin .and (.t 125) (.t 127))),(po 129 (.bin .xor (.t 124) (.t 128))),(po 130 (.idxArr 8 1 (.t 12) (.k (.int .i64 1)))),(po 131 (.load false 1 (.t 130))),(po 132 (.idxArr 8 1 (.t 12) (.k (.int .i64 2)))),(po 133 (.load false 1 (.t 132))),(po 134 (.bin .and (.t 131) (.t 133))),(po 135 (.bin .xor (.t 129) (.t 134))),(pm 19 135)]) (.ops [(pm 136 17),(pm 137 18),(po 138 (.bin .add (.t 136) (.t 137))),(pm 139 19),(po 140 (.bin .add (.t 138) (.t 139))),(po 141 (.idxArr 8 1 (.t 12) (.k (.int .i64 0)))),(po 142 (.load false 1 (.t 141))),(po 143 (.idxArr 8 1 (.t 12) (.k (.int .i64 1)))),(po 144 (.load false 1 (.t 143))),(po 145 (.idxArr 8 1 (.t 12) (.k (.int .i64 2)))),(po 146 (.load false 1 (.t 145))),(po 147 (.idxArr 8 1 (.t 12) (.k (.int .i64 3)))),(po 148 (.load false 1 (.t 147))),(pm 149 17),(po 150 (.bin .add (.t 148) (.t 149))),(po 151 (.idxArr 8 1 (.t 12) (.k (.int .i64 4)))),(po 152 (.load false 1 (.t 151))),(po 153 (.idxArr 8 1 (.t 12) (.k (.int .i64 5)))),(po 154 (.load false 1 (.t 153))),(po 155 (.idxArr 8 1 (.t 12) (.k (.int .i64 6)))),(po 156 (.load false 1 (.t 155))),(po 157 (.build [(w32 0),(w32 0),(w32 0),(w32 0),(w32 0),(w32 0),(w32 0),(w32 0)] [(0,(1,(.t 140))),(1,(1,(.t 142))),(2,(1,(.t 144))),(3,(1,(.t 146))),(4,(1,(.t 150))),(5,(1,(.t 152))),(6,(1,(.t 154))),(7,(1,(.t 156)))])),(PO.mk none (.store 8 (.t 12) (.t 157)) none)])))))))) (.ops [(po 158 (.bin .add (.t 75) (.k (.int .i64 1)))),(pm 75 158)]))))))) (.seq (.seq (.ops [(po 159 (.mv (.k (.int .i64 0))))]) (.block 6 (.loop (.seq (.ops [(po 160 (.bin .lss (.t 159) (.k (.int .i64 8))))]) (.seq (.cond (.t 160) .skip (.exit 6)) (.seq (.block 7 (.seq (.ops [(pm 161 159),(pm 20 161)]) (.draw [(.e,(pm 162 20)),(.e,(po 163 (.idxArr 8 1 (.t 2) (.t 162)))),(.e,(pm 165 20)),(.e,(po 166 (.idxArr 8 1 (.t 12) (.t 165)))),(.s,(po 164 (.load false 1 (.t 163)))),(.s,(po 167 (.load false 1 (.t 166)))),(.e,(po 168 (.bin .add (.t 164) (.t 167)))),(.e,(po 169 (.idxArr 8 1 (.t 2) (.t 162)))),(.x,(PO.mk none (.store 1 (.t 169) (.t 168)) none))]))) (.ops [(po 170 (.bin .add (.t 159) (.k (.int .i64 1)))),(pm 159 170)]))))))) (.seq (.ops [(po 171 (.load true 8 (.t 2))),(PO.mk none (.store 8 (.t 4) (.t 171)) none)]) .ret))))))))
def k103 (F:Fn):PF:=PF.mk 92 1 [(PR.cell 2 true 32)] (.seq (.ops [(po 2 (.alloc zR32_w80))]) (.seq (.ops [(po 3 (.mv (.k (.sl .nil [] 0))))]) (.seq (.seq (.ops [(pm 13 0),(po 14 (.lenSl (.t 13))),(po 15 (.mv (.k (.int .i64 0))))]) (.block 0 (.loop (.seq (.ops [(po 16 (.bin .lss (.t 15) (.t 14)))]) (.seq (.cond (.t 16) .skip (.exit 0)) (.seq (.block 1 (.seq (.ops [(po 17 (.idxSl 1 (.t 13) (.t 15))),(po 18 (.load false 1 (.t 17))),(pm 5 18)]) (.ops [(pm 19 3),(pm 20 5),(po 21 (.app 1 1 (.t 19) (.t 20))),(pm 3 21)]))) (.ops [(po 22 (.bin .add (.t 15) (.k (.int .i64 1)))),(pm 15 22)]))))))) (.seq (.ops [(pm 23 3),(po 24 (.lenSl (.t 23))),(pm 6 24)]) (.seq (.ops [(pm 25 3),(po 26 (.bsl false 1 1 [(w8 0)] [(0,(1,(.k (w8 128))))])),(po 27 (.app 1 1 (.t 25) (.t 26))),(pm 3 27)]) (.seq (.block 2 (.loop (.seq (.seq (.ops [(pm 28 3),(po 29 (.lenSl (.t 28))),(po 30 (.bin .rem (.t 29) (.k (.int .i64 64)))),(po 31 (.bin .neq (.t 30) (.k (.int .i64 56))))]) (.cond (.t 31) .skip (.exit 2))) (.block 3 (.ops [(pm 32 3),(po 33 (.bsl false 1 1 [(w8 0)] [(0,(1,(.k (w8 0))))])),(po 34 (.app 1 1 (.t 32) (.t 33))),(pm 3 34)]))))) (.seq (.seq (.ops [(po 7 (.mv (.k (.int .i64 56))))]) (.block 4 (.loop (.seq (.seq (.ops [(pm 35 7),(po 36 (.bin .geq (.t 35) (.k (.int .i64 0))))]) (.cond (.t 36) .skip (.exit 4))) (.seq (.block 5 (.ops [(pm 39 3),(pm 40 6),(po 41 (.conv .u64 (.t 40))),(po 42 (.bin .mul (.t 41) (.k (w64 8)))),(pm 43 7),(po 44 (.bin .shr (.t 42) (.t 43))),(po 45 (.conv .u8 (.t 44))),(po 46 (.bsl false 1 1 [(w8 0)] [(0,(1,(.t 45)))])),(po 47 (.app 1 1 (.t 39) (.t 46))),(pm 3 47)])) (.ops [(pm 37 7),(po 38 (.bin .sub (.t 37) (.k (.int .i64 8)))),(pm 7 38)])))))) (.seq (.ops [(po 48 (.build [(w32 0),(w32 0),(w32 0),(w32 0),(w32 0),(w32 0),(w32 0),(w32 0)] [(0,(1,(.k (w32 1779033703)))),(1,(1,(.k (w32 3144134277)))),(2,(1,(.k (w32 1013904242)))),(3,(1,(.k (w32 2773480762)))),(4,(1,(.k (w32 1359893119)))),(5,(1,(.k (w32 2600822924)))),(6,(1,(.k (w32 528734635)))),(7,(1,(.k (w32 1541459225))))])),(po 8 (.alloc [(w32 0),(w32 0),(w32 0),(w32 0),(w32 0),(w32 0),(w32 0),(w32 0)])),(PO.mk none (.store 8 (.t 8) (.t 48)) none)]) (.seq (.seq (.ops [(pm 49 3),(po 50 (.toStr (.t 49))),(pm 9 50)]) (.block 6 (.loop (.seq (.seq (.ops [(pm 51 9),(po 52 (.bin .neq (.t 51) (.k (.str (ByteArray.mk ⟨[]⟩)))))]) (.cond (.t 52) .skip (.exit 6))) (.seq (.block 7 (.draw [(.e,(pm 56 9)),(.e,(po 57 (.slStr (.t 56) none (some (.k (.int .i64 64)))))),(.s,(po 55 (.load true 8 (.t 8)))),(.x,(po 58 (.call (F 101) [(.t 55),(.t 57)]))),(.x,(PO.mk none (.store 8 (.t 8) (.t 58)) none))])) (.ops [(pm 53 9),(po 54 (.slStr (.t 53) (some (.k (.int .i64 64))) none)),(pm 9 54)])))))) (.seq (.ops [(po 10 (.alloc zR32_w80))]) (.seq (.seq (.ops [(po 59 (.load true 8 (.t 8))),(po 60 (.mv (.k (.int .i64 0))))]) (.block 8 (.loop (.seq (.ops [(po 61 (.bin .lss (.t 60) (.k (.int .i64 8))))]) (.seq (.cond (.t 61) .skip (.exit 8)) (.seq (.block 9 (.seq (.ops [(pm 62 60),(po 63 (.idx 8 false 1 (.t 59) (.t 60))),(pm 11 62),(pm 12 63)]) (.ops [(pm 64 11),(po 65 (.bin .mul (.k (.int .i64 4)) (.t 64))),(pm 66 11),(po 67 (.bin .mul (.k (.int .i64 4)) (.t 66))),(po 68 (.bin .add (.t 67) (.k (.int .i64 1)))),(pm 69 11),(po 70 (.bin .mul (.k (.int .i64 4)) (.t 69))),(po 71 (.bin .add (.t 70) (.k (.int .i64 2)))),(pm 72 11),(po 73 (.bin .mul (.k (.int .i64 4)) (.t 72))),(po 74 (.bin .add (.t 73) (.k (.int .i64 3)))),(pm 75 12),(po 76 (.bin .shr (.t 75) (.k (w64 24)))),(po 77 (.conv .u8 (.t 76))),(pm 78 12),(po 79 (.bin .shr (.t 78) (.k (w64 16)))),(po 80 (.conv .u8 (.t 79))),(pm 81 12),(po 82 (.bin .shr (.t 81) (.k (w64 8)))),(po 83 (.conv .u8 (.t 82))),(pm 84 12),(po 85 (.conv .u8 (.t 84))),(po 86 (.idxArr 32 1 (.t 10) (.t 65))),(PO.mk none (.store 1 (.t 86) (.t 77)) none),(po 87 (.idxArr 32 1 (.t 10) (.t 68))),(PO.mk none (.store 1 (.t 87) (.t 80)) none),(po 88 (.idxArr 32 1 (.t 10) (.t 71))),(PO.mk none (.store 1 (.t 88) (.t 83)) none),(po 89 (.idxArr 32 1 (.t 10) (.t 74))),(PO.mk none (.store 1 (.t 89) (.t 85)) none)]))) (.ops [(po 90 (.bin .add (.t 60) (.k (.int .i64 1)))),(pm 60 90)]))))))) (.seq (.ops [(po 91 (.load true 32 (.t 10))),(PO.mk none (.store 32 (.t 2) (.t 91)) none)]) .ret))))))))))))
def k104 (F:Fn):PF:=PF.mk 9 1 [(PR.cell 2 true 32)] (.seq (.ops [(po 2 (.alloc zR32_w80))]) (.seq (.ops [(pm 4 0),(po 5 (.call (F 103) [(.t 4)])),(po 3 (.alloc zR32_w80)),(PO.mk none (.store 32 (.t 3) (.t 5)) none)]) (.seq (.seq (.frz [3]) (.ops [(po 6 (.slArr false 32 1 (.t 3) none none)),(po 7 (.bsl false 1 1 [(.sl .nil [] 0)] [(0,(1,(.t 6)))])),(po 8 (.call (F 103) [(.t 7)])),(PO.mk none (.store 32 (.t 2) (.t 8)) none)])) .ret)))
def k102 (F:Fn):PF:=PF.mk 17 2 [(.t 4)] (.seq (.ops [(po 4 (.mv (.k (w32 0))))]) (.seq (.ops [(pm 6 1),(po 7 (.conv .u64 (.t 6))),(po 8 (.bin .and (.t 7) (.k (w64 31)))),(pm 5 8)]) (.seq (.ops [(pm 9 0),(pm 10 5),(po 11 (.bin .shl (.t 9) (.t 10))),(pm 12 0),(pm 13 5),(po 14 (.bin .sub (.k (w64 32)) (.t 13))),(po 15 (.bin .shr (.t 12) (.t 14))),(po 16 (.bin .or (.t 11) (.t 15))),(pm 4 16)]) .ret)))
structure OkHash (P:Program) (F:Fn):Prop where
 mixed:P.follows .mixedOrders=true
 h100:compFn P ⟨[],[],[],[],[]⟩ (F 100)=some (k100 F)
 h101:compFn P ⟨[],[],[],[],[]⟩ (F 101)=some (k101 F)
 h103:compFn P ⟨[],[],[],[],[]⟩ (F 103)=some (k103 F)
 h104:compFn P ⟨[],[],[(2,[3])],[],[]⟩ (F 104)=some (k104 F)
 h102:compFn P ⟨[],[],[],[],[]⟩ (F 102)=some (k102 F)
def k135 (F:Fn):PF:=PF.mk 47 1 [(PR.cell 2 true 4),(.t 3)] (.seq (.ops [(po 2 (.alloc [(w64 0),(w64 0),(w64 0),(w64 0)])),(po 3 (.mv (.k (.bool false))))]) (.seq (.ops [(pm 7 0),(po 8 (.bin .shr (.t 7) (.k (w64 24)))),(po 9 (.conv .i64 (.t 8))),(pm 10 0),(po 11 (.bin .and (.t 10) (.k (w32 8388607)))),(po 12 (.conv .u64 (.t 11))),(pm 4 9),(pm 5 12)]) (.seq (.seq (.ops [(pm 13 5),(po 14 (.bin .eql (.t 13) (.k (w64 0)))),(pm 15 14),(PO.mk (some 16) (.mv (.t 0)) (some (15,false))),(PO.mk (some 17) (.bin .and (.t 16) (.k (w32 8388608))) (some (15,false))),(PO.mk (some 18) (.bin .neq (.t 17) (.k (w32 0))) (some (15,false))),(po 19 (.pick (.t 15) (.k (.bool true)) (.t 18)))]) (.cond (.t 19) (.seq (.ops [(po 20 (.build [(w64 0),(w64 0),(w64 0),(w64 0)] [])),(PO.mk none (.store 4 (.t 2) (.t 20)) none),(po 3 (.mv (.k (.bool false))))]) .ret) .skip)) (.seq (.ops [(pm 21 5),(po 22 (.call (F 105) [(.t 21)])),(po 6 (.alloc [(w64 0),(w64 0),(w64 0),(w64 0)])),(PO.mk none (.store 4 (.t 6) (.t 22)) none)]) (.seq (.seq (.ops [(pm 23 4),(po 24 (.bin .leq (.t 23) (.k (.int .i64 3))))]) (.cond (.t 24) (.seq (.ops [(po 25 (.load true 4 (.t 6))),(pm 26 4),(po 27 (.bin .sub (.k (.int .i64 3)) (.t 26))),(po 28 (.bin .mul (.k (.int .i64 8)) (.t 27))),(po 29 (.call (F 113) [(.t 25),(.t 28)])),(PO.mk none (.store 4 (.t 6) (.t 29)) none)]) (.seq (.draw [(.s,(po 30 (.load true 4 (.t 6)))),(.s,(po 31 (.load true 4 (.t 6)))),(.s,(po 32 (.call (F 107) [(.t 31)]))),(.e,(po 33 (.not (.t 32)))),(.x,(PO.mk none (.store 4 (.t 2) (.t 30)) none)),(.e,(pm 3 33))]) .ret)) .skip)) (.seq (.seq (.ops [(po 34 (.load true 4 (.t 6))),(po 35 (.call (F 114) [(.t 34)])),(pm 36 4),(po 37 (.bin .sub (.t 36) (.k (.int .i64 3)))),(po 38 (.bin .mul (.k (.int .i64 8)) (.t 37))),(po 39 (.bin .add (.t 35) (.t 38))),(po 40 (.bin .gtr (.t 39) (.k (.int .i64 256))))]) (.cond (.t 40) (.seq (.ops [(po 41 (.build [(w64 0),(w64 0),(w64 0),(w64 0)] [])),(PO.mk none (.store 4 (.t 2) (.t 41)) none),(po 3 (.mv (.k (.bool false))))]) .ret) .skip)) (.seq (.ops [(po 42 (.load true 4 (.t 6))),(pm 43 4),(po 44 (.bin .sub (.t 43) (.k (.int .i64 3)))),(po 45 (.bin .mul (.k (.int .i64 8)) (.t 44))),(po 46 (.call (F 112) [(.t 42),(.t 45)])),(PO.mk none (.store 4 (.t 2) (.t 46)) none),(po 3 (.mv (.k (.bool true))))]) .ret)))))))
def k136 (F:Fn):PF:=PF.mk 37 1 [(.t 2)] (.seq (.ops [(po 1 (.box (.t 0))),(po 2 (.mv (.k (w32 0))))]) (.seq (.ops [(po 5 (.load true 4 (.t 1))),(po 6 (.call (F 114) [(.t 5)])),(po 7 (.bin .add (.t 6) (.k (.int .i64 7)))),(po 8 (.bin .quo (.t 7) (.k (.int .i64 8)))),(pm 3 8)]) (.seq (.ops [(po 4 (.mv (.k (w64 0))))]) (.seq (.seq (.ops [(pm 9 3),(po 10 (.bin .leq (.t 9) (.k (.int .i64 3))))]) (.cond (.t 10) (.ops [(po 11 (.idxArr 4 1 (.t 1) (.k (.int .i64 0)))),(po 12 (.load false 1 (.t 11))),(pm 13 3),(po 14 (.bin .sub (.k (.int .i64 3)) (.t 13))),(po 15 (.bin .mul (.k (.int .i64 8)) (.t 14))),(po 16 (.conv .u64 (.t 15))),(po 17 (.bin .shl (.t 12) (.t 16))),(pm 4 17)]) (.ops [(po 18 (.load true 4 (.t 1))),(pm 19 3),(po 20 (.bin .sub (.t 19) (.k (.int .i64 3)))),(po 21 (.bin .mul (.k (.int .i64 8)) (.t 20))),(po 22 (.call (F 113) [(.t 18),(.t 21)])),(po 23 (.idx 4 false 1 (.t 22) (.k (.int .i64 0)))),(pm 4 23)]))) (.seq (.seq (.ops [(pm 24 4),(po 25 (.bin .and (.t 24) (.k (w64 8388608)))),(po 26 (.bin .neq (.t 25) (.k (w64 0))))]) (.cond (.t 26) (.seq (.ops [(pm 27 4),(po 28 (.bin .shr (.t 27) (.k (w64 8)))),(pm 4 28)]) (.ops [(pm 29 3),(po 30 (.bin .add (.t 29) (.k (.int .i64 1)))),(pm 3 30)])) .skip)) (.seq (.ops [(pm 31 3),(po 32 (.conv .u32 (.t 31))),(po 33 (.bin .shl (.t 32) (.k (w64 24)))),(pm 34 4),(po 35 (.conv .u32 (.t 34))),(po 36 (.bin .or (.t 33) (.t 35))),(pm 2 36)]) .ret))))))
def k137 (F:Fn):PF:=PF.mk 33 1 [(PR.cell 2 true 4)] (.seq (.ops [(po 1 (.box (.t 0))),(po 2 (.alloc [(w64 0),(w64 0),(w64 0),(w64 0)]))]) (.seq (.draw [(.s,(po 9 (.load true 4 (.t 1)))),(.s,(po 10 (.call (F 105) [(.k (w64 1))]))),(.e,(po 11 (.bsl false 4 2 [(w64 0),(w64 0),(w64 0),(w64 0)] [(0,(4,(.t 9))),(4,(4,(.t 10)))]))),(.s,(po 12 (.call (F 108) [(.t 11)]))),(.e,(pm 8 12)),(.e,(po 13 (.ext 0 (.t 8)))),(.e,(po 14 (.ext 1 (.t 8)))),(.a,(po 3 (.alloc [(w64 0),(w64 0),(w64 0),(w64 0)]))),(.x,(PO.mk none (.store 4 (.t 3) (.t 13)) none)),(.e,(pm 4 14))]) (.seq (.seq (.ops [(pm 15 4)]) (.cond (.t 15) (.seq (.ops [(po 16 (.call (F 105) [(.k (w64 1))])),(PO.mk none (.store 4 (.t 2) (.t 16)) none)]) .ret) .skip)) (.seq (.draw [(.s,(po 18 (.load true 4 (.t 1)))),(.s,(po 19 (.call (F 111) [(.t 18)]))),(.s,(po 20 (.load true 4 (.t 3)))),(.s,(po 21 (.call (F 116) [(.t 19),(.t 20)]))),(.e,(pm 17 21)),(.e,(po 22 (.ext 0 (.t 17)))),(.e,(po 23 (.ext 1 (.t 17)))),(.e,(po 24 (.ext 2 (.t 17)))),(.a,(po 5 (.alloc [(w64 0),(w64 0),(w64 0),(w64 0)]))),(.a,(po 6 (.alloc [(w64 0),(w64 0),(w64 0),(w64 0)]))),(.x,(PO.mk none (.store 4 (.t 5) (.t 22)) none)),(.x,(PO.mk none (.store 4 (.t 6) (.t 23)) none)),(.e,(pm 7 24))]) (.seq (.draw [(.s,(po 26 (.load true 4 (.t 5)))),(.s,(po 27 (.call (F 105) [(.k (w64 1))]))),(.e,(po 28 (.bsl false 4 2 [(w64 0),(w64 0),(w64 0),(w64 0)] [(0,(4,(.t 26))),(4,(4,(.t 27)))]))),(.s,(po 29 (.call (F 108) [(.t 28)]))),(.e,(pm 25 29)),(.e,(po 30 (.ext 0 (.t 25)))),(.e,(po 31 (.ext 1 (.t 25)))),(.x,(PO.mk none (.store 4 (.t 5) (.t 30)) none))]) (.seq (.ops [(po 32 (.load true 4 (.t 5))),(PO.mk none (.store 4 (.t 2) (.t 32)) none)]) .ret))))))
def k138 (F:Fn):PF:=PF.mk 80 4 [(.t 8),(.t 9)] (.seq (.ops [(po 7 (.box (.t 3))),(po 8 (.mv (.k (w32 0)))),(po 9 (.mv (.k (.bool false))))]) (.seq (.ops [(pm 15 0),(po 16 (.call (F 135) [(.t 15)])),(pm 14 16),(po 17 (.ext 0 (.t 14))),(po 18 (.ext 1 (.t 14))),(po 10 (.alloc [(w64 0),(w64 0),(w64 0),(w64 0)])),(PO.mk none (.store 4 (.t 10) (.t 17)) none),(pm 11 18)]) (.seq (.seq (.ops [(pm 19 11),(po 20 (.not (.t 19))),(pm 21 20),(PO.mk (some 22) (.mv (.t 2)) (some (21,false))),(PO.mk (some 23) (.bin .lss (.t 22) (.k (.int .i64 1))) (some (21,false))),(po 24 (.pick (.t 21) (.k (.bool true)) (.t 23))),(pm 25 24),(PO.mk (some 26) (.mv (.t 2)) (some (25,false))),(PO.mk (some 27) (.bin .gtr (.t 26) (.k (.int .i64 1099511627776))) (some (25,false))),(po 28 (.pick (.t 25) (.k (.bool true)) (.t 27)))]) (.cond (.t 28) (.seq (.ops [(po 8 (.mv (.k (w32 0)))),(po 9 (.mv (.k (.bool false))))]) .ret) .skip)) (.seq (.ops [(pm 29 2),(po 30 (.bin .quo (.t 29) (.k (.int .i64 4)))),(pm 31 1),(pm 32 2),(po 33 (.bin .mul (.k (.int .i64 4)) (.t 32))),(po 34 (.min [(.t 31),(.t 33)])),(po 35 (.max [(.t 30),(.t 34)])),(pm 1 35)]) (.seq (.ops [(po 37 (.load true 4 (.t 10))),(pm 38 1),(po 39 (.conv .u64 (.t 38))),(po 40 (.call (F 110) [(.t 37),(.t 39)])),(pm 36 40),(po 41 (.ext 0 (.t 36))),(po 42 (.ext 1 (.t 36))),(po 12 (.alloc [(w64 0),(w64 0),(w64 0),(w64 0)])),(PO.mk none (.store 4 (.t 12) (.t 41)) none),(pm 13 42)]) (.seq (.seq (.ops [(pm 43 13)]) (.cond (.t 43) (.seq (.draw [(.e,(pm 46 2)),(.e,(po 47 (.conv .u64 (.t 46)))),(.s,(po 45 (.load true 4 (.t 10)))),(.s,(po 48 (.call (F 105) [(.t 47)]))),(.s,(po 49 (.call (F 116) [(.t 45),(.t 48)]))),(.e,(pm 44 49)),(.e,(po 50 (.ext 0 (.t 44)))),(.e,(po 51 (.ext 1 (.t 44)))),(.e,(po 52 (.ext 2 (.t 44)))),(.x,(PO.mk none (.store 4 (.t 12) (.t 50)) none))]) (.seq (.seq (.ops [(po 54 (.load true 4 (.t 12))),(pm 55 1),(po 56 (.conv .u64 (.t 55))),(po 57 (.call (F 110) [(.t 54),(.t 56)])),(pm 53 57),(po 58 (.ext 0 (.t 53))),(po 59 (.ext 1 (.t 53))),(PO.mk none (.store 4 (.t 12) (.t 58)) none),(pm 13 59)]) (.seq (.ops [(pm 60 13)]) (.cond (.t 60) (.seq (.ops [(po 61 (.load true 4 (.t 7))),(po 62 (.call (F 136) [(.t 61)])),(pm 8 62),(po 9 (.mv (.k (.bool true))))]) .ret) .skip))) (.ops [(po 63 (.load true 4 (.t 12))),(PO.mk none (.store 4 (.t 10) (.t 63)) none)]))) (.draw [(.e,(pm 66 2)),(.e,(po 67 (.conv .u64 (.t 66)))),(.s,(po 65 (.load true 4 (.t 12)))),(.s,(po 68 (.call (F 105) [(.t 67)]))),(.s,(po 69 (.call (F 116) [(.t 65),(.t 68)]))),(.e,(pm 64 69)),(.e,(po 70 (.ext 0 (.t 64)))),(.e,(po 71 (.ext 1 (.t 64)))),(.e,(po 72 (.ext 2 (.t 64)))),(.x,(PO.mk none (.store 4 (.t 10) (.t 70)) none))]))) (.seq (.seq (.ops [(po 73 (.load true 4 (.t 10))),(po 74 (.load true 4 (.t 7))),(po 75 (.call (F 106) [(.t 73),(.t 74)])),(po 76 (.bin .gtr (.t 75) (.k (.int .i64 0))))]) (.cond (.t 76) (.ops [(po 77 (.load true 4 (.t 7))),(PO.mk none (.store 4 (.t 10) (.t 77)) none)]) .skip)) (.seq (.ops [(po 78 (.load true 4 (.t 10))),(po 79 (.call (F 136) [(.t 78)])),(pm 8 79),(po 9 (.mv (.k (.bool true))))]) .ret))))))))
def k139 (F:Fn):PF:=PF.mk 19 2 [(.t 4)] (.seq (.ops [(po 4 (.mv (.k (.sl .nil [] 0))))]) (.seq (.ops [(pm 5 0),(pm 6 1),(po 7 (.conv .u8 (.t 6))),(pm 8 1),(po 9 (.bin .shr (.t 8) (.k (w64 8)))),(po 10 (.conv .u8 (.t 9))),(pm 11 1),(po 12 (.bin .shr (.t 11) (.k (w64 16)))),(po 13 (.conv .u8 (.t 12))),(pm 14 1),(po 15 (.bin .shr (.t 14) (.k (w64 24)))),(po 16 (.conv .u8 (.t 15))),(po 17 (.bsl false 1 4 [(w8 0)] [(0,(1,(.t 7))),(1,(1,(.t 10))),(2,(1,(.t 13))),(3,(1,(.t 16)))])),(po 18 (.app 1 1 (.t 5) (.t 17))),(pm 4 18)]) .ret))
def k140 (F:Fn):PF:=PF.mk 25 1 [(.t 2)] (.seq (.ops [(po 1 (.box (.t 0))),(po 2 (.mv (.k (.sl .nil [] 0))))]) (.seq (.draw2 [] [(.e,(po 5 (.fldA 0 (.t 1)))),(.s,(po 6 (.load false 1 (.t 5)))),(.x,(po 4 (.mksl true 1 1 [(w8 0)] (.k (.int .i64 0)) (.k (.int .i64 80))))),(.x,(po 7 (.call (F 139) [(.t 4),(.t 6)]))),(.e,(pm 3 7))]) (.seq (.seq (.frz [1]) (.draw2 [] [(.e,(pm 8 3)),(.e,(po 9 (.fldA 1 (.t 1)))),(.e,(po 12 (.fldA 33 (.t 1)))),(.s,(po 10 (.slArr false 32 1 (.t 9) none none))),(.s,(po 13 (.slArr false 32 1 (.t 12) none none))),(.x,(po 11 (.app 1 1 (.t 8) (.t 10)))),(.x,(po 14 (.app 1 1 (.t 11) (.t 13)))),(.e,(pm 3 14))])) (.seq (.draw [(.e,(pm 15 3)),(.e,(po 16 (.fldA 65 (.t 1)))),(.e,(po 17 (.loadE false 1 (.t 16)))),(.e,(po 19 (.fldA 66 (.t 1)))),(.e,(po 20 (.loadE false 1 (.t 19)))),(.e,(po 22 (.fldA 67 (.t 1)))),(.e,(po 23 (.loadE false 1 (.t 22)))),(.x,(po 18 (.call (F 139) [(.t 15),(.t 17)]))),(.x,(po 21 (.call (F 139) [(.t 18),(.t 20)]))),(.x,(po 24 (.call (F 139) [(.t 21),(.t 23)]))),(.e,(pm 2 24))]) .ret))))
def k141 (F:Fn):PF:=PF.mk 7 1 [(PR.cell 2 true 32)] (.seq (.ops [(po 1 (.box (.t 0))),(po 2 (.alloc zR32_w80))]) (.seq (.ops [(po 3 (.load true 68 (.t 1))),(po 4 (.call (F 140) [(.t 3)])),(po 5 (.bsl false 1 1 [(.sl .nil [] 0)] [(0,(1,(.t 4)))])),(po 6 (.call (F 104) [(.t 5)])),(PO.mk none (.store 32 (.t 2) (.t 6)) none)]) .ret))
def k142 (F:Fn):PF:=PF.mk 40 2 [(.t 4)] (.seq (.ops [(po 2 (.box (.t 0))),(po 4 (.mv (.k (.int .i64 0))))]) (.seq (.ops [(po 10 (.fldA 66 (.t 2))),(po 11 (.load false 1 (.t 10))),(po 12 (.call (F 135) [(.t 11)])),(pm 9 12),(po 13 (.ext 0 (.t 9))),(po 14 (.ext 1 (.t 9))),(po 5 (.alloc [(w64 0),(w64 0),(w64 0),(w64 0)])),(PO.mk none (.store 4 (.t 5) (.t 13)) none),(pm 6 14)]) (.seq (.ops [(pm 16 1),(po 17 (.call (F 135) [(.t 16)])),(pm 15 17),(po 18 (.ext 0 (.t 15))),(po 19 (.ext 1 (.t 15))),(po 7 (.alloc [(w64 0),(w64 0),(w64 0),(w64 0)])),(PO.mk none (.store 4 (.t 7) (.t 18)) none),(pm 8 19)]) (.seq (.block 0 (.seq (.ops [(pm 21 6),(po 22 (.not (.t 21))),(pm 23 22),(PO.mk (some 24) (.mv (.t 8)) (some (23,false))),(PO.mk (some 25) (.not (.t 24)) (some (23,false))),(po 26 (.pick (.t 23) (.k (.bool true)) (.t 25))),(pm 27 26),(PO.mk (some 28) (.load true 4 (.t 5)) (some (27,false))),(PO.mk (some 29) (.load true 4 (.t 7)) (some (27,false))),(PO.mk (some 30) (.call (F 106) [(.t 28),(.t 29)]) (some (27,false))),(PO.mk (some 31) (.bin .gtr (.t 30) (.k (.int .i64 0))) (some (27,false))),(po 32 (.pick (.t 27) (.k (.bool true)) (.t 31))),(pm 20 32)]) (.cond (.t 20) (.seq (.ops [(po 4 (.mv (.k (.int .i64 30))))]) .ret) (.seq (.draw [(.s,(po 34 (.load true 68 (.t 2)))),(.s,(po 35 (.call (F 141) [(.t 34)]))),(.s,(po 36 (.call (F 117) [(.t 35)]))),(.s,(po 37 (.load true 4 (.t 5)))),(.s,(po 38 (.call (F 106) [(.t 36),(.t 37)]))),(.e,(po 39 (.bin .gtr (.t 38) (.k (.int .i64 0))))),(.e,(pm 33 39))]) (.cond (.t 33) (.seq (.ops [(po 4 (.mv (.k (.int .i64 50))))]) .ret) .skip))))) (.seq (.ops [(po 4 (.mv (.k (.int .i64 0))))]) .ret)))))
def k143 (F:Fn):PF:=PF.mk 24 3 [(PR.cell 6 true 68),(.t 7)] (.seq (.ops [(po 3 (.box (.t 0))),(po 6 (.alloc z68_39b1)),(po 7 (.mv (.k (.bool false))))]) (.seq (.seq (.ops [(pm 8 2),(po 9 (.min [(.t 8),(.k (.int .i64 65536))])),(po 10 (.max [(.k (.int .i64 0)),(.t 9)])),(po 11 (.mv (.k (.int .i64 0))))]) (.block 0 (.loop (.seq (.ops [(po 12 (.bin .lss (.t 11) (.t 10)))]) (.seq (.cond (.t 12) .skip (.exit 0)) (.seq (.block 1 (.seq (.seq (.ops [(po 13 (.load true 68 (.t 3))),(pm 14 1),(po 15 (.call (F 142) [(.t 13),(.t 14)])),(po 16 (.bin .eql (.t 15) (.k (.int .i64 0))))]) (.cond (.t 16) (.seq (.ops [(po 17 (.load true 68 (.t 3))),(PO.mk none (.store 68 (.t 6) (.t 17)) none),(po 7 (.mv (.k (.bool true))))]) .ret) .skip)) (.ops [(po 18 (.fldA 67 (.t 3))),(po 19 (.load false 1 (.t 18))),(po 20 (.bin .add (.t 19) (.k (w32 1)))),(po 21 (.fldA 67 (.t 3))),(PO.mk none (.store 1 (.t 21) (.t 20)) none)]))) (.ops [(po 22 (.bin .add (.t 11) (.k (.int .i64 1)))),(pm 11 22)]))))))) (.seq (.ops [(po 23 (.build z68_39b1 [])),(PO.mk none (.store 68 (.t 6) (.t 23)) none),(po 7 (.mv (.k (.bool false))))]) .ret)))
structure OkHead (P:Program) (F:Fn):Prop where
 mixed:P.follows .mixedOrders=true
 toOkNum:OkNum P F
 toOkHash:OkHash P F
 h135:compFn P ⟨[],[],[],[],[]⟩ (F 135)=some (k135 F)
 h136:compFn P ⟨[],[],[],[],[]⟩ (F 136)=some (k136 F)
 h137:compFn P ⟨[],[],[],[],[]⟩ (F 137)=some (k137 F)
 h138:compFn P ⟨[],[],[],[],[]⟩ (F 138)=some (k138 F)
 h139:compFn P ⟨[],[],[],[],[]⟩ (F 139)=some (k139 F)
 h140:compFn P ⟨[4,17,20,23],[],[(2,[1])],[],[]⟩ (F 140)=some (k140 F)
 h141:compFn P ⟨[],[],[],[],[]⟩ (F 141)=some (k141 F)
 h142:compFn P ⟨[],[],[],[],[]⟩ (F 142)=some (k142 F)
 h143:compFn P ⟨[],[],[],[],[]⟩ (F 143)=some (k143 F)
def k192 (F:Fn):PF:=PF.mk 23 1 [(PR.cell 2 true 32),(.t 3)] (.seq (.ops [(po 2 (.alloc zR32_w80)),(po 3 (.mv (.k (.bool false))))]) (.seq (.ops [(po 4 (.mv (.k (.sl .nil [] 0))))]) (.seq (.seq (.ops [(pm 7 0),(po 8 (.lenSl (.t 7))),(po 9 (.mv (.k (.int .i64 0))))]) (.block 0 (.loop (.seq (.ops [(po 10 (.bin .lss (.t 9) (.t 8)))]) (.seq (.cond (.t 10) .skip (.exit 0)) (.seq (.block 1 (.seq (.ops [(po 11 (.idxSl 2 (.t 7) (.t 9))),(po 12 (.load true 2 (.t 11))),(po 6 (.alloc [(.sl .nil [] 0),(.sl .nil [] 0)])),(PO.mk none (.store 2 (.t 6) (.t 12)) none)]) (.ops [(pm 13 4),(po 14 (.load true 2 (.t 6))),(po 15 (.call (F 198) [(.t 14)])),(po 16 (.bsl false 32 1 zR32_w80 [(0,(32,(.t 15)))])),(po 17 (.app 32 32 (.t 13) (.t 16))),(pm 4 17)]))) (.ops [(po 18 (.bin .add (.t 9) (.k (.int .i64 1)))),(pm 9 18)]))))))) (.seq (.ops [(pm 19 4),(po 20 (.call (F 199) [(.t 19)])),(po 21 (.ext 0 (.t 20))),(po 22 (.ext 1 (.t 20))),(PO.mk none (.store 32 (.t 2) (.t 21)) none),(pm 3 22)]) .ret))))
def k198 (F:Fn):PF:=PF.mk 7 1 [(PR.cell 2 true 32)] (.seq (.ops [(po 1 (.box (.t 0))),(po 2 (.alloc zR32_w80))]) (.seq (.ops [(po 3 (.load true 2 (.t 1))),(po 4 (.call (F 200) [(.t 3)])),(po 5 (.bsl false 1 1 [(.sl .nil [] 0)] [(0,(1,(.t 4)))])),(po 6 (.call (F 104) [(.t 5)])),(PO.mk none (.store 32 (.t 2) (.t 6)) none)]) .ret))
def k200 (F:Fn):PF:=PF.mk 7 1 [(.t 2)] (.seq (.ops [(po 1 (.box (.t 0))),(po 2 (.mv (.k (.sl .nil [] 0))))]) (.seq (.ops [(po 3 (.alloc [(.sl .nil [] 0)]))]) (.seq (.ops [(po 4 (.load true 2 (.t 1))),(po 5 (.call (F 201) [(.t 3),(.t 4)]))]) (.seq (.ops [(po 6 (.call (F 202) [(.t 3)])),(pm 2 6)]) .ret))))
def k201 (F:Fn):PF:=PF.mk 64 2 [] (.seq (.ops [(po 3 (.box (.t 1)))]) (.seq (.ops [(pm 8 0),(po 9 (.fldA 0 (.t 3))),(po 10 (.load false 1 (.t 9))),(po 11 (.lenSl (.t 10))),(po 12 (.conv .u64 (.t 11))),(po 13 (.call (F 203) [(.t 8),(.t 12)]))]) (.seq (.seq (.ops [(po 14 (.fldA 0 (.t 3))),(po 15 (.load false 1 (.t 14))),(po 16 (.lenSl (.t 15))),(po 17 (.mv (.k (.int .i64 0))))]) (.block 0 (.loop (.seq (.ops [(po 18 (.bin .lss (.t 17) (.t 16)))]) (.seq (.cond (.t 18) .skip (.exit 0)) (.seq (.block 1 (.seq (.ops [(po 19 (.idxSl 34 (.t 15) (.t 17))),(po 20 (.load true 34 (.t 19))),(po 5 (.alloc z34_1838)),(PO.mk none (.store 34 (.t 5) (.t 20)) none)]) (.seq (.seq (.frz [5]) (.ops [(pm 21 0),(po 22 (.fldA 0 (.t 5))),(po 23 (.fldA 0 (.t 22))),(po 24 (.slArr false 32 1 (.t 23) none none)),(po 25 (.bsl false 1 1 [(.sl .nil [] 0)] [(0,(1,(.t 24)))])),(po 26 (.call (F 204) [(.t 21),(.t 25)]))])) (.seq (.ops [(pm 27 0),(po 28 (.fldA 0 (.t 5))),(po 29 (.fldA 32 (.t 28))),(po 30 (.load false 1 (.t 29))),(po 31 (.conv .u64 (.t 30))),(po 32 (.bsl false 1 1 [(w64 0)] [(0,(1,(.t 31)))])),(po 33 (.call (F 205) [(.t 27),(.k (.int .i64 4)),(.t 32)]))]) (.ops [(pm 34 0),(po 35 (.fldA 33 (.t 5))),(po 36 (.load false 1 (.t 35))),(po 37 (.call (F 206) [(.t 34),(.t 36)]))]))))) (.ops [(po 38 (.bin .add (.t 17) (.k (.int .i64 1)))),(pm 17 38)]))))))) (.seq (.ops [(pm 39 0),(po 40 (.fldA 1 (.t 3))),(po 41 (.load false 1 (.t 40))),(po 42 (.lenSl (.t 41))),(po 43 (.conv .u64 (.t 42))),(po 44 (.call (F 203) [(.t 39),(.t 43)]))]) (.seq (.ops [(po 45 (.fldA 1 (.t 3))),(po 46 (.load false 1 (.t 45))),(po 47 (.lenSl (.t 46))),(po 48 (.mv (.k (.int .i64 0))))]) (.block 2 (.loop (.seq (.ops [(po 49 (.bin .lss (.t 48) (.t 47)))]) (.seq (.cond (.t 49) .skip (.exit 2)) (.seq (.block 3 (.seq (.ops [(po 50 (.idxSl 33 (.t 46) (.t 48))),(po 51 (.load true 33 (.t 50))),(po 7 (.alloc z33_0be4)),(PO.mk none (.store 33 (.t 7) (.t 51)) none)]) (.seq (.ops [(pm 52 0),(po 53 (.fldA 0 (.t 7))),(po 54 (.load false 1 (.t 53))),(po 55 (.conv .u64 (.t 54))),(po 56 (.bsl false 1 1 [(w64 0)] [(0,(1,(.t 55)))])),(po 57 (.call (F 205) [(.t 52),(.k (.int .i64 8)),(.t 56)]))]) (.seq (.frz [7]) (.ops [(pm 58 0),(po 59 (.fldA 1 (.t 7))),(po 60 (.slArr false 32 1 (.t 59) none none)),(po 61 (.bsl false 1 1 [(.sl .nil [] 0)] [(0,(1,(.t 60)))])),(po 62 (.call (F 204) [(.t 58),(.t 61)]))]))))) (.ops [(po 63 (.bin .add (.t 48) (.k (.int .i64 1)))),(pm 48 63)])))))))))))
def k199 (F:Fn):PF:=PF.mk 72 1 [(PR.cell 2 true 32),(.t 3)] (.seq (.ops [(po 2 (.alloc zR32_w80)),(po 3 (.mv (.k (.bool false))))]) (.seq (.seq (.ops [(pm 8 0),(po 9 (.lenSl (.t 8))),(po 10 (.bin .eql (.t 9) (.k (.int .i64 0))))]) (.cond (.t 10) (.seq (.ops [(po 11 (.build zR32_w80 [])),(PO.mk none (.store 32 (.t 2) (.t 11)) none),(po 3 (.mv (.k (.bool false))))]) .ret) .skip)) (.seq (.ops [(po 4 (.mv (.k (.bool false))))]) (.seq (.ops [(po 12 (.bsl false 32 0 zR32_w80 [])),(pm 13 0),(po 14 (.app 32 32 (.t 12) (.t 13))),(pm 5 14)]) (.seq (.block 0 (.loop (.seq (.seq (.ops [(pm 15 5),(po 16 (.lenSl (.t 15))),(po 17 (.bin .gtr (.t 16) (.k (.int .i64 1))))]) (.cond (.t 17) .skip (.exit 0))) (.block 1 (.seq (.ops [(po 6 (.mv (.k (.sl .nil [] 0))))]) (.seq (.seq (.ops [(po 7 (.mv (.k (.int .i64 0))))]) (.block 2 (.loop (.seq (.seq (.ops [(pm 18 7),(pm 19 5),(po 20 (.lenSl (.t 19))),(po 21 (.bin .lss (.t 18) (.t 20)))]) (.cond (.t 21) .skip (.exit 2))) (.seq (.block 3 (.seq (.seq (.ops [(pm 24 7),(po 25 (.bin .add (.t 24) (.k (.int .i64 1)))),(pm 26 5),(po 27 (.lenSl (.t 26))),(po 28 (.bin .eql (.t 25) (.t 27)))]) (.cond (.t 28) (.seq (.draw [(.e,(pm 29 6)),(.e,(pm 30 5)),(.e,(pm 31 7)),(.e,(po 32 (.idxSl 32 (.t 30) (.t 31)))),(.e,(pm 34 5)),(.e,(pm 35 7)),(.e,(po 36 (.idxSl 32 (.t 34) (.t 35)))),(.s,(po 33 (.load true 32 (.t 32)))),(.s,(po 37 (.load true 32 (.t 36)))),(.x,(po 38 (.call (F 207) [(.t 33),(.t 37)]))),(.e,(po 39 (.bsl false 32 1 zR32_w80 [(0,(32,(.t 38)))]))),(.x,(po 40 (.app 32 32 (.t 29) (.t 39)))),(.e,(pm 6 40))]) (.exit 2)) .skip)) (.seq (.draw [(.e,(pm 41 4)),(.e,(pm 42 41)),(.e,(PO.mk (some 43) (.mv (.t 5)) (some (42,false)))),(.e,(PO.mk (some 44) (.mv (.t 7)) (some (42,false)))),(.e,(PO.mk (some 45) (.idxSl 32 (.t 43) (.t 44)) (some (42,false)))),(.e,(PO.mk (some 47) (.mv (.t 5)) (some (42,false)))),(.e,(PO.mk (some 48) (.mv (.t 7)) (some (42,false)))),(.e,(PO.mk (some 49) (.bin .add (.t 48) (.k (.int .i64 1))) (some (42,false)))),(.e,(PO.mk (some 50) (.idxSl 32 (.t 47) (.t 49)) (some (42,false)))),(.s,(PO.mk (some 46) (.load true 32 (.t 45)) (some (42,false)))),(.s,(PO.mk (some 51) (.load true 32 (.t 50)) (some (42,false)))),(.e,(PO.mk (some 52) (.eqa (.agg 32) false (.t 46) (.t 51)) (some (42,false)))),(.e,(po 53 (.pick (.t 42) (.k (.bool true)) (.t 52)))),(.e,(pm 4 53))]) (.draw [(.e,(pm 54 6)),(.e,(pm 55 5)),(.e,(pm 56 7)),(.e,(po 57 (.idxSl 32 (.t 55) (.t 56)))),(.e,(pm 59 5)),(.e,(pm 60 7)),(.e,(po 61 (.bin .add (.t 60) (.k (.int .i64 1))))),(.e,(po 62 (.idxSl 32 (.t 59) (.t 61)))),(.s,(po 58 (.load true 32 (.t 57)))),(.s,(po 63 (.load true 32 (.t 62)))),(.x,(po 64 (.call (F 207) [(.t 58),(.t 63)]))),(.e,(po 65 (.bsl false 32 1 zR32_w80 [(0,(32,(.t 64)))]))),(.x,(po 66 (.app 32 32 (.t 54) (.t 65)))),(.e,(pm 6 66))])))) (.ops [(pm 22 7),(po 23 (.bin .add (.t 22) (.k (.int .i64 2)))),(pm 7 23)])))))) (.ops [(pm 67 6),(pm 5 67)]))))))) (.seq (.ops [(pm 68 5),(po 69 (.idxSl 32 (.t 68) (.k (.int .i64 0)))),(po 70 (.load true 32 (.t 69))),(pm 71 4),(PO.mk none (.store 32 (.t 2) (.t 70)) none),(pm 3 71)]) .ret))))))
def k207 (F:Fn):PF:=PF.mk 9 2 [(PR.cell 4 true 32)] (.seq (.ops [(po 2 (.box (.t 0))),(po 3 (.box (.t 1))),(po 4 (.alloc zR32_w80))]) (.seq (.seq (.frz [2,3]) (.draw [(.s,(po 5 (.slArr false 32 1 (.t 2) none none))),(.s,(po 6 (.slArr false 32 1 (.t 3) none none))),(.e,(po 7 (.bsl false 1 2 [(.sl .nil [] 0)] [(0,(1,(.t 5))),(1,(1,(.t 6)))]))),(.x,(po 8 (.call (F 104) [(.t 7)]))),(.x,(PO.mk none (.store 32 (.t 4) (.t 8)) none))])) .ret))
def k202 (F:Fn):PF:=PF.mk 9 1 [(.t 2)] (.seq (.ops [(po 2 (.mv (.k (.sl .nil [] 0))))]) (.seq (.ops [(po 3 (.bsl false 1 0 [(w8 0)] [])),(pm 4 0),(po 5 (.nilck (.t 4))),(po 6 (.fldA 0 (.t 5))),(po 7 (.load false 1 (.t 6))),(po 8 (.app 1 1 (.t 3) (.t 7))),(pm 2 8)]) .ret))
def k203 (F:Fn):PF:=PF.mk 38 2 [] (.block 0 (.seq (.ops [(pm 12 1),(po 13 (.bin .lss (.t 12) (.k (w64 253)))),(pm 11 13)]) (.cond (.t 11) (.ops [(pm 14 0),(pm 15 1),(po 16 (.bsl false 1 1 [(w64 0)] [(0,(1,(.t 15)))])),(po 17 (.call (F 205) [(.t 14),(.k (.int .i64 1)),(.t 16)]))]) (.seq (.ops [(pm 19 1),(po 20 (.bin .lss (.t 19) (.k (w64 65536)))),(pm 18 20)]) (.cond (.t 18) (.seq (.ops [(pm 21 0),(po 22 (.bsl false 1 1 [(w64 0)] [(0,(1,(.k (w64 253))))])),(po 23 (.call (F 205) [(.t 21),(.k (.int .i64 1)),(.t 22)]))]) (.ops [(pm 24 0),(pm 25 1),(po 26 (.bsl false 1 1 [(w64 0)] [(0,(1,(.t 25)))])),(po 27 (.call (F 205) [(.t 24),(.k (.int .i64 2)),(.t 26)]))])) (.seq (.ops [(pm 29 1),(po 30 (.bin .lss (.t 29) (.k (w64 4294967296)))),(pm 28 30)]) (.cond (.t 28) (.seq (.ops [(pm 31 0),(po 32 (.bsl false 1 1 [(w64 0)] [(0,(1,(.k (w64 254))))])),(po 33 (.call (F 205) [(.t 31),(.k (.int .i64 1)),(.t 32)]))]) (.ops [(pm 34 0),(pm 35 1),(po 36 (.bsl false 1 1 [(w64 0)] [(0,(1,(.t 35)))])),(po 37 (.call (F 205) [(.t 34),(.k (.int .i64 4)),(.t 36)]))])) (.seq (.ops [(pm 4 0),(po 5 (.bsl false 1 1 [(w64 0)] [(0,(1,(.k (w64 255))))])),(po 6 (.call (F 205) [(.t 4),(.k (.int .i64 1)),(.t 5)]))]) (.ops [(pm 7 0),(pm 8 1),(po 9 (.bsl false 1 1 [(w64 0)] [(0,(1,(.t 8)))])),(po 10 (.call (F 205) [(.t 7),(.k (.int .i64 8)),(.t 9)]))])))))))))
def k204 (F:Fn):PF:=PF.mk 22 2 [] (.seq (.ops [(pm 6 1),(po 7 (.lenSl (.t 6))),(po 8 (.mv (.k (.int .i64 0))))]) (.block 0 (.loop (.seq (.ops [(po 9 (.bin .lss (.t 8) (.t 7)))]) (.seq (.cond (.t 9) .skip (.exit 0)) (.seq (.block 1 (.seq (.ops [(po 10 (.idxSl 1 (.t 6) (.t 8))),(po 11 (.load false 1 (.t 10))),(pm 5 11)]) (.ops [(pm 12 0),(pm 13 0),(po 14 (.nilck (.t 13))),(po 15 (.fldA 0 (.t 14))),(po 16 (.load false 1 (.t 15))),(pm 17 5),(po 18 (.app 1 1 (.t 16) (.t 17))),(po 19 (.nilck (.t 12))),(po 20 (.fldA 0 (.t 19))),(PO.mk none (.store 1 (.t 20) (.t 18)) none)]))) (.ops [(po 21 (.bin .add (.t 8) (.k (.int .i64 1)))),(pm 8 21)])))))))
def k205 (F:Fn):PF:=PF.mk 40 3 [] (.seq (.ops [(pm 9 2),(po 10 (.lenSl (.t 9))),(po 11 (.mv (.k (.int .i64 0))))]) (.block 0 (.loop (.seq (.ops [(po 12 (.bin .lss (.t 11) (.t 10)))]) (.seq (.cond (.t 12) .skip (.exit 0)) (.seq (.block 1 (.seq (.ops [(po 13 (.idxSl 1 (.t 9) (.t 11))),(po 14 (.load false 1 (.t 13))),(pm 7 14)]) (.seq (.ops [(po 8 (.mv (.k (.int .i64 0))))]) (.block 2 (.loop (.seq (.seq (.ops [(pm 15 8),(pm 16 1),(po 17 (.bin .lss (.t 15) (.t 16))),(pm 18 17),(PO.mk (some 19) (.mv (.t 8)) (some (18,true))),(PO.mk (some 20) (.bin .lss (.t 19) (.k (.int .i64 8))) (some (18,true))),(po 21 (.pick (.t 18) (.t 20) (.k (.bool false))))]) (.cond (.t 21) .skip (.exit 2))) (.seq (.block 3 (.ops [(pm 24 0),(pm 25 0),(po 26 (.nilck (.t 25))),(po 27 (.fldA 0 (.t 26))),(po 28 (.load false 1 (.t 27))),(pm 29 7),(pm 30 8),(po 31 (.bin .mul (.k (.int .i64 8)) (.t 30))),(po 32 (.conv .u64 (.t 31))),(po 33 (.bin .shr (.t 29) (.t 32))),(po 34 (.conv .u8 (.t 33))),(po 35 (.bsl false 1 1 [(w8 0)] [(0,(1,(.t 34)))])),(po 36 (.app 1 1 (.t 28) (.t 35))),(po 37 (.nilck (.t 24))),(po 38 (.fldA 0 (.t 37))),(PO.mk none (.store 1 (.t 38) (.t 36)) none)])) (.ops [(pm 22 8),(po 23 (.bin .add (.t 22) (.k (.int .i64 1)))),(pm 8 23)])))))))) (.ops [(po 39 (.bin .add (.t 11) (.k (.int .i64 1)))),(pm 11 39)])))))))
def k206 (F:Fn):PF:=PF.mk 13 2 [] (.seq (.ops [(pm 4 0),(pm 5 1),(po 6 (.lenSl (.t 5))),(po 7 (.conv .u64 (.t 6))),(po 8 (.call (F 203) [(.t 4),(.t 7)]))]) (.ops [(pm 9 0),(pm 10 1),(po 11 (.bsl false 1 1 [(.sl .nil [] 0)] [(0,(1,(.t 10)))])),(po 12 (.call (F 204) [(.t 9),(.t 11)]))]))
def k197 (F:Fn):PF:=PF.mk 2 0 [(PR.cell 0 true 33)] (.seq (.ops [(po 0 (.alloc z33_1371))]) (.seq (.ops [(po 1 (.build z33_1371 [(32,(1,(.k (w32 4294967295))))])),(PO.mk none (.store 33 (.t 0) (.t 1)) none)]) .ret))
structure OkTx (P:Program) (F:Fn):Prop where
 mixed:P.follows .mixedOrders=true
 toOkHead:OkHead P F
 h192:compFn P ⟨[],[],[],[],[]⟩ (F 192)=some (k192 F)
 h198:compFn P ⟨[],[],[],[],[]⟩ (F 198)=some (k198 F)
 h200:compFn P ⟨[],[],[],[],[]⟩ (F 200)=some (k200 F)
 h201:compFn P ⟨[],[],[(5,[5]),(14,[7])],[],[]⟩ (F 201)=some (k201 F)
 h199:compFn P ⟨[],[],[],[],[]⟩ (F 199)=some (k199 F)
 h207:compFn P ⟨[],[],[(1,[2,3])],[],[]⟩ (F 207)=some (k207 F)
 h202:compFn P ⟨[],[],[],[],[]⟩ (F 202)=some (k202 F)
 h203:compFn P ⟨[],[],[],[],[]⟩ (F 203)=some (k203 F)
 h204:compFn P ⟨[],[],[],[],[]⟩ (F 204)=some (k204 F)
 h205:compFn P ⟨[],[],[],[],[]⟩ (F 205)=some (k205 F)
 h206:compFn P ⟨[],[],[],[],[]⟩ (F 206)=some (k206 F)
 h197:compFn P ⟨[],[],[],[],[]⟩ (F 197)=some (k197 F)
def k188 (F:Fn):PF:=PF.mk 39 3 [(.t 6)] (.seq (.ops [(po 3 (.box (.t 0))),(po 6 (.mv (.k (.sl .nil [] 0))))]) (.seq (.ops [(po 11 (.fldA 5 (.t 3))),(po 12 (.load true 69 (.t 11))),(po 13 (.bsl false 69 1 z69_adc1 [(0,(69,(.t 12)))])),(pm 7 13)]) (.seq (.seq (.ops [(po 8 (.mv (.k (.int .i64 1))))]) (.block 0 (.loop (.seq (.seq (.ops [(pm 14 8),(pm 15 1),(po 16 (.bin .leq (.t 14) (.t 15)))]) (.cond (.t 16) .skip (.exit 0))) (.seq (.block 1 (.seq (.draw [(.e,(pm 21 7)),(.e,(pm 22 8)),(.e,(po 23 (.bin .sub (.t 22) (.k (.int .i64 1))))),(.e,(po 24 (.idxSl 69 (.t 21) (.t 23)))),(.e,(po 25 (.fldA 0 (.t 24)))),(.e,(pm 27 8)),(.e,(pm 28 2)),(.s,(po 20 (.load true 74 (.t 3)))),(.s,(po 26 (.load true 68 (.t 25)))),(.x,(po 29 (.call (F 189) [(.t 20),(.t 26),(.t 27),(.t 28),(.k (.sl .nil [] 0))]))),(.e,(pm 19 29)),(.e,(po 30 (.ext 0 (.t 19)))),(.e,(po 31 (.ext 1 (.t 19)))),(.a,(po 9 (.alloc z69_adc1))),(.x,(PO.mk none (.store 69 (.t 9) (.t 30)) none)),(.e,(pm 10 31))]) (.seq (.seq (.ops [(pm 32 10),(po 33 (.not (.t 32)))]) (.cond (.t 33) (.exit 0) .skip)) (.ops [(pm 34 7),(po 35 (.load true 69 (.t 9))),(po 36 (.bsl false 69 1 z69_adc1 [(0,(69,(.t 35)))])),(po 37 (.app 69 104 (.t 34) (.t 36))),(pm 7 37)])))) (.ops [(pm 17 8),(po 18 (.bin .add (.t 17) (.k (.int .i64 1)))),(pm 8 18)])))))) (.seq (.seq (.frz [7]) (.ops [(pm 38 7),(pm 6 38)])) .ret))))
def k190 (F:Fn):PF:=PF.mk 23 1 [(PR.cell 2 true 74)] (.seq (.ops [(po 2 (.alloc z74_2f53))]) (.seq (.ops [(pm 5 0),(po 6 (.build z74_2f53 [(0,(1,(.k (w32 545259519)))),(2,(1,(.k (.int .i64 10)))),(3,(1,(.k (.int .i64 50)))),(4,(1,(.t 5)))])),(po 3 (.alloc z74_2f53)),(PO.mk none (.store 74 (.t 3) (.t 6)) none)]) (.seq (.ops [(po 7 (.build z68_39b1 [(66,(1,(.k (w32 545259519))))])),(po 8 (.load true 74 (.t 3))),(po 9 (.call (F 191) [(.t 8),(.k (.int .i64 0)),(.k (w8 0))])),(po 10 (.bsl false 2 1 [(.sl .nil [] 0),(.sl .nil [] 0)] [(0,(2,(.t 9)))])),(po 11 (.build z69_adc1 [(0,(68,(.t 7))),(68,(1,(.t 10)))])),(po 4 (.alloc z69_adc1)),(PO.mk none (.store 69 (.t 4) (.t 11)) none)]) (.seq (.ops [(po 13 (.fldA 68 (.t 4))),(po 14 (.load false 1 (.t 13))),(po 15 (.call (F 192) [(.t 14)])),(pm 12 15),(po 16 (.ext 0 (.t 12))),(po 17 (.ext 1 (.t 12))),(po 18 (.fldA 0 (.t 4))),(po 19 (.fldA 33 (.t 18))),(PO.mk none (.store 32 (.t 19) (.t 16)) none)]) (.seq (.ops [(po 20 (.load true 69 (.t 4))),(po 21 (.fldA 5 (.t 3))),(PO.mk none (.store 69 (.t 21) (.t 20)) none)]) (.seq (.ops [(po 22 (.load true 74 (.t 3))),(PO.mk none (.store 74 (.t 2) (.t 22)) none)]) .ret))))))
def k189 (F:Fn):PF:=PF.mk 55 5 [(PR.cell 10 true 69),(.t 11)] (.seq (.ops [(po 5 (.box (.t 0))),(po 6 (.box (.t 1))),(po 10 (.alloc z69_adc1)),(po 11 (.mv (.k (.bool false))))]) (.seq (.ops [(po 15 (.load true 74 (.t 5))),(pm 16 2),(pm 17 3),(po 18 (.call (F 191) [(.t 15),(.t 16),(.t 17)])),(po 19 (.bsl false 2 1 [(.sl .nil [] 0),(.sl .nil [] 0)] [(0,(2,(.t 18)))])),(pm 20 4),(po 21 (.appz 2 48 (.t 19) (.t 20))),(po 22 (.build z69_adc1 [(68,(1,(.t 21)))])),(po 12 (.alloc z69_adc1)),(PO.mk none (.store 69 (.t 12) (.t 22)) none)]) (.seq (.draw [(.e,(po 25 (.fldA 65 (.t 6)))),(.e,(po 27 (.fldA 2 (.t 5)))),(.e,(po 31 (.fldA 66 (.t 6)))),(.s,(po 23 (.load true 68 (.t 6)))),(.s,(po 24 (.call (F 141) [(.t 23)]))),(.s,(po 26 (.load false 1 (.t 25)))),(.s,(po 28 (.load false 1 (.t 27)))),(.e,(po 29 (.conv .u32 (.t 28)))),(.e,(po 30 (.bin .add (.t 26) (.t 29)))),(.s,(po 32 (.load false 1 (.t 31)))),(.e,(po 33 (.build z68_39b1 [(0,(1,(.k (w32 1)))),(1,(32,(.t 24))),(65,(1,(.t 30))),(66,(1,(.t 32)))]))),(.e,(po 34 (.fldA 0 (.t 12)))),(.x,(PO.mk none (.store 68 (.t 34) (.t 33)) none))]) (.seq (.ops [(po 36 (.fldA 68 (.t 12))),(po 37 (.load false 1 (.t 36))),(po 38 (.call (F 192) [(.t 37)])),(pm 35 38),(po 39 (.ext 0 (.t 35))),(po 40 (.ext 1 (.t 35))),(po 41 (.fldA 0 (.t 12))),(po 42 (.fldA 33 (.t 41))),(PO.mk none (.store 32 (.t 42) (.t 39)) none)]) (.seq (.ops [(po 44 (.fldA 0 (.t 12))),(po 45 (.load true 68 (.t 44))),(po 46 (.fldA 0 (.t 5))),(po 47 (.load false 1 (.t 46))),(po 48 (.call (F 143) [(.t 45),(.t 47),(.k (.int .i64 4096))])),(pm 43 48),(po 49 (.ext 0 (.t 43))),(po 50 (.ext 1 (.t 43))),(po 13 (.alloc z68_39b1)),(PO.mk none (.store 68 (.t 13) (.t 49)) none),(pm 14 50)]) (.seq (.ops [(po 51 (.load true 68 (.t 13))),(po 52 (.fldA 0 (.t 12))),(PO.mk none (.store 68 (.t 52) (.t 51)) none)]) (.seq (.ops [(po 53 (.load true 69 (.t 12))),(pm 54 14),(PO.mk none (.store 69 (.t 10) (.t 53)) none),(pm 11 54)]) .ret)))))))
def k191 (F:Fn):PF:=PF.mk 26 3 [(PR.cell 6 true 2)] (.seq (.ops [(po 3 (.box (.t 0))),(po 6 (.alloc [(.sl .nil [] 0),(.sl .nil [] 0)]))]) (.seq (.draw [(.e,(pm 8 1)),(.e,(po 9 (.conv .u8 (.t 8)))),(.e,(pm 10 1)),(.e,(po 11 (.bin .shr (.t 10) (.k (w64 8))))),(.e,(po 12 (.conv .u8 (.t 11)))),(.e,(pm 13 2)),(.e,(po 14 (.bsl false 1 3 [(w8 0)] [(0,(1,(.t 9))),(1,(1,(.t 12))),(2,(1,(.t 13)))]))),(.e,(po 17 (.fldA 3 (.t 3)))),(.e,(pm 19 2)),(.e,(po 20 (.bsl false 1 1 [(w8 0)] [(0,(1,(.t 19)))]))),(.e,(po 21 (.bsl false 1 1 [(.sl .nil [] 0)] [(0,(1,(.t 20)))]))),(.s,(po 7 (.call (F 197) []))),(.e,(po 15 (.build z34_1838 [(0,(33,(.t 7))),(33,(1,(.t 14)))]))),(.e,(po 16 (.bsl false 34 1 z34_1838 [(0,(34,(.t 15)))]))),(.s,(po 18 (.load false 1 (.t 17)))),(.s,(po 22 (.call (F 103) [(.t 21)]))),(.e,(po 23 (.build z33_0be4 [(0,(1,(.t 18))),(1,(32,(.t 22)))]))),(.e,(po 24 (.bsl false 33 1 z33_0be4 [(0,(33,(.t 23)))]))),(.e,(po 25 (.build [(.sl .nil [] 0),(.sl .nil [] 0)] [(0,(1,(.t 16))),(1,(1,(.t 24)))]))),(.x,(PO.mk none (.store 2 (.t 6) (.t 25)) none))]) .ret))
structure OkHonest (P:Program) (F:Fn):Prop where
 mixed:P.follows .mixedOrders=true
 toOkTx:OkTx P F
 h188:compFn P ⟨[],[],[(8,[7])],[],[]⟩ (F 188)=some (k188 F)
 h190:compFn P ⟨[],[],[],[],[]⟩ (F 190)=some (k190 F)
 h189:compFn P ⟨[],[],[],[],[21]⟩ (F 189)=some (k189 F)
 h191:compFn P ⟨[],[],[],[],[]⟩ (F 191)=some (k191 F)
def k250 (F:Fn):PF:=PF.mk 29 1 [(.t 2),(.t 3)] (.seq (.ops [(po 2 (.mv (.k (.int .i64 0)))),(po 3 (.mv (.k (.bool false))))]) (.seq (.ops [(po 4 (.mv (.k (.int .i64 0))))]) (.seq (.seq (.ops [(pm 7 0),(po 8 (.lenSl (.t 7))),(po 9 (.mv (.k (.int .i64 0))))]) (.block 0 (.loop (.seq (.ops [(po 10 (.bin .lss (.t 9) (.t 8)))]) (.seq (.cond (.t 10) .skip (.exit 0)) (.seq (.block 1 (.seq (.ops [(po 11 (.idxSl 33 (.t 7) (.t 9))),(po 12 (.load true 33 (.t 11))),(po 6 (.alloc z33_0be4)),(PO.mk none (.store 33 (.t 6) (.t 12)) none)]) (.seq (.seq (.ops [(po 13 (.fldA 0 (.t 6))),(po 14 (.load false 1 (.t 13))),(po 15 (.bin .lss (.t 14) (.k (.int .i64 0)))),(pm 16 15),(PO.mk (some 17) (.fldA 0 (.t 6)) (some (16,false))),(PO.mk (some 18) (.load false 1 (.t 17)) (some (16,false))),(PO.mk (some 19) (.bin .gtr (.t 18) (.k (.int .i64 1125899906842624))) (some (16,false))),(po 20 (.pick (.t 16) (.k (.bool true)) (.t 19)))]) (.cond (.t 20) (.seq (.ops [(po 2 (.mv (.k (.int .i64 0)))),(po 3 (.mv (.k (.bool false))))]) .ret) .skip)) (.seq (.ops [(pm 21 4),(po 22 (.fldA 0 (.t 6))),(po 23 (.load false 1 (.t 22))),(po 24 (.bin .add (.t 21) (.t 23))),(pm 4 24)]) (.seq (.ops [(pm 25 4),(po 26 (.bin .gtr (.t 25) (.k (.int .i64 1125899906842624))))]) (.cond (.t 26) (.seq (.ops [(po 2 (.mv (.k (.int .i64 0)))),(po 3 (.mv (.k (.bool false))))]) .ret) .skip)))))) (.ops [(po 27 (.bin .add (.t 9) (.k (.int .i64 1)))),(pm 9 27)]))))))) (.seq (.ops [(pm 28 4),(pm 2 28),(po 3 (.mv (.k (.bool true))))]) .ret))))
def k249 (F:Fn):PF:=PF.mk 69 2 [(.t 4)] (.seq (.ops [(po 2 (.box (.t 0))),(po 4 (.mv (.k (.int .i64 0))))]) (.seq (.seq (.ops [(po 10 (.fldA 0 (.t 2))),(po 11 (.load false 1 (.t 10))),(po 12 (.lenSl (.t 11))),(po 13 (.bin .eql (.t 12) (.k (.int .i64 0)))),(pm 14 13),(PO.mk (some 15) (.fldA 1 (.t 2)) (some (14,false))),(PO.mk (some 16) (.load false 1 (.t 15)) (some (14,false))),(PO.mk (some 17) (.lenSl (.t 16)) (some (14,false))),(PO.mk (some 18) (.bin .eql (.t 17) (.k (.int .i64 0))) (some (14,false))),(po 19 (.pick (.t 14) (.k (.bool true)) (.t 18))),(pm 20 19),(PO.mk (some 21) (.fldA 0 (.t 2)) (some (20,false))),(PO.mk (some 22) (.load false 1 (.t 21)) (some (20,false))),(PO.mk (some 23) (.lenSl (.t 22)) (some (20,false))),(PO.mk (some 24) (.bin .gtr (.t 23) (.k (.int .i64 32))) (some (20,false))),(po 25 (.pick (.t 20) (.k (.bool true)) (.t 24))),(pm 26 25),(PO.mk (some 27) (.fldA 1 (.t 2)) (some (26,false))),(PO.mk (some 28) (.load false 1 (.t 27)) (some (26,false))),(PO.mk (some 29) (.lenSl (.t 28)) (some (26,false))),(PO.mk (some 30) (.bin .gtr (.t 29) (.k (.int .i64 32))) (some (26,false))),(po 31 (.pick (.t 26) (.k (.bool true)) (.t 30)))]) (.cond (.t 31) (.seq (.ops [(po 4 (.mv (.k (.int .i64 120))))]) .ret) .skip)) (.seq (.ops [(PO.mk (some 32) POp.mkmap none),(pm 5 32)]) (.seq (.seq (.ops [(po 33 (.fldA 0 (.t 2))),(po 34 (.load false 1 (.t 33))),(po 35 (.lenSl (.t 34))),(po 36 (.mv (.k (.int .i64 0))))]) (.block 0 (.loop (.seq (.ops [(po 37 (.bin .lss (.t 36) (.t 35)))]) (.seq (.cond (.t 37) .skip (.exit 0)) (.seq (.block 1 (.seq (.ops [(po 38 (.idxSl 34 (.t 34) (.t 36))),(po 39 (.load true 34 (.t 38))),(po 7 (.alloc z34_1838)),(PO.mk none (.store 34 (.t 7) (.t 39)) none)]) (.seq (.block 2 (.seq (.ops [(po 41 (.fldA 33 (.t 7))),(po 42 (.load false 1 (.t 41))),(po 43 (.lenSl (.t 42))),(po 44 (.bin .gtr (.t 43) (.k (.int .i64 100)))),(pm 40 44)]) (.cond (.t 40) (.seq (.ops [(po 4 (.mv (.k (.int .i64 2))))]) .ret) (.seq (.draw [(.e,(po 46 (.fldA 0 (.t 7)))),(.e,(pm 50 1)),(.s,(po 47 (.load true 33 (.t 46)))),(.s,(po 48 (.call (F 197) []))),(.e,(po 49 (.eqa (.agg 33) false (.t 47) (.t 48)))),(.e,(po 51 (.eqa .bool true (.t 49) (.t 50)))),(.e,(pm 45 51))]) (.cond (.t 45) (.seq (.ops [(po 4 (.mv (.k (.int .i64 120))))]) .ret) (.seq (.ops [(pm 53 5),(po 54 (.fldA 0 (.t 7))),(po 55 (.load true 33 (.t 54))),(po 56 (.lookup (.agg 33) (.bool false) false (.t 53) (.t 55))),(pm 52 56)]) (.cond (.t 52) (.seq (.ops [(po 4 (.mv (.k (.int .i64 5))))]) .ret) .skip))))))) (.ops [(pm 57 5),(po 58 (.fldA 0 (.t 7))),(po 59 (.load true 33 (.t 58))),(PO.mk none (.mset (.agg 33) (.t 57) (.t 59) (.k (.bool true))) none)])))) (.ops [(po 60 (.bin .add (.t 36) (.k (.int .i64 1)))),(pm 36 60)]))))))) (.seq (.seq (.ops [(po 62 (.fldA 1 (.t 2))),(po 63 (.load false 1 (.t 62))),(po 64 (.call (F 250) [(.t 63)])),(pm 61 64),(po 65 (.ext 0 (.t 61))),(po 66 (.ext 1 (.t 61))),(pm 8 65),(pm 9 66)]) (.seq (.ops [(pm 67 9),(po 68 (.not (.t 67)))]) (.cond (.t 68) (.seq (.ops [(po 4 (.mv (.k (.int .i64 121))))]) .ret) .skip))) (.seq (.ops [(po 4 (.mv (.k (.int .i64 0))))]) .ret))))))
structure OkCheck (P:Program) (F:Fn):Prop where
 mixed:P.follows .mixedOrders=true
 toOkTx:OkTx P F
 h250:compFn P ⟨[],[],[],[],[]⟩ (F 250)=some (k250 F)
 h249:compFn P ⟨[],[],[],[],[]⟩ (F 249)=some (k249 F)
def k251 (F:Fn):PF:=PF.mk 27 1 [(.t 2)] (.seq (.ops [(po 1 (.box (.t 0))),(po 2 (.mv (.k (.sl .nil [] 0))))]) (.seq (.ops [(po 3 (.alloc [(.sl .nil [] 0)]))]) (.seq (.ops [(po 6 (.fldA 0 (.t 1))),(po 7 (.load true 68 (.t 6))),(po 8 (.call (F 140) [(.t 7)])),(po 9 (.bsl false 1 1 [(.sl .nil [] 0)] [(0,(1,(.t 8)))])),(po 10 (.call (F 204) [(.t 3),(.t 9)]))]) (.seq (.ops [(po 11 (.fldA 68 (.t 1))),(po 12 (.load false 1 (.t 11))),(po 13 (.lenSl (.t 12))),(po 14 (.conv .u64 (.t 13))),(po 15 (.call (F 203) [(.t 3),(.t 14)]))]) (.seq (.seq (.ops [(po 16 (.fldA 68 (.t 1))),(po 17 (.load false 1 (.t 16))),(po 18 (.lenSl (.t 17))),(po 19 (.mv (.k (.int .i64 0))))]) (.block 0 (.loop (.seq (.ops [(po 20 (.bin .lss (.t 19) (.t 18)))]) (.seq (.cond (.t 20) .skip (.exit 0)) (.seq (.block 1 (.seq (.ops [(po 21 (.idxSl 2 (.t 17) (.t 19))),(po 22 (.load true 2 (.t 21))),(po 5 (.alloc [(.sl .nil [] 0),(.sl .nil [] 0)])),(PO.mk none (.store 2 (.t 5) (.t 22)) none)]) (.ops [(po 23 (.load true 2 (.t 5))),(po 24 (.call (F 201) [(.t 3),(.t 23)]))]))) (.ops [(po 25 (.bin .add (.t 19) (.k (.int .i64 1)))),(pm 19 25)]))))))) (.seq (.ops [(po 26 (.call (F 202) [(.t 3)])),(pm 2 26)]) .ret))))))
def k252 (F:Fn):PF:=PF.mk 33 1 [(.t 2)] (.seq (.ops [(po 1 (.box (.t 0))),(po 2 (.mv (.k (.int .i64 0))))]) (.seq (.seq (.ops [(po 7 (.fldA 68 (.t 1))),(po 8 (.load false 1 (.t 7))),(po 9 (.lenSl (.t 8))),(po 10 (.mv (.k (.int .i64 0))))]) (.block 0 (.loop (.seq (.ops [(po 11 (.bin .lss (.t 10) (.t 9)))]) (.seq (.cond (.t 11) .skip (.exit 0)) (.seq (.block 1 (.seq (.ops [(po 12 (.idxSl 2 (.t 8) (.t 10))),(po 13 (.load true 2 (.t 12))),(po 4 (.alloc [(.sl .nil [] 0),(.sl .nil [] 0)])),(PO.mk none (.store 2 (.t 4) (.t 13)) none)]) (.seq (.ops [(po 14 (.load true 2 (.t 4))),(po 15 (.call (F 200) [(.t 14)])),(po 16 (.lenSl (.t 15))),(po 17 (.bin .eql (.t 16) (.k (.int .i64 64))))]) (.cond (.t 17) (.seq (.ops [(po 2 (.mv (.k (.int .i64 40))))]) .ret) .skip)))) (.ops [(po 18 (.bin .add (.t 10) (.k (.int .i64 1)))),(pm 10 18)]))))))) (.seq (.seq (.ops [(po 20 (.fldA 68 (.t 1))),(po 21 (.load false 1 (.t 20))),(po 22 (.call (F 192) [(.t 21)])),(pm 19 22),(po 23 (.ext 0 (.t 19))),(po 24 (.ext 1 (.t 19))),(po 5 (.alloc zR32_w80)),(PO.mk none (.store 32 (.t 5) (.t 23)) none),(pm 6 24)]) (.seq (.ops [(pm 25 6),(pm 26 25),(PO.mk (some 27) (.load true 32 (.t 5)) (some (26,false))),(PO.mk (some 28) (.fldA 0 (.t 1)) (some (26,false))),(PO.mk (some 29) (.fldA 33 (.t 28)) (some (26,false))),(PO.mk (some 30) (.load true 32 (.t 29)) (some (26,false))),(PO.mk (some 31) (.eqa (.agg 32) true (.t 27) (.t 30)) (some (26,false))),(po 32 (.pick (.t 26) (.k (.bool true)) (.t 31)))]) (.cond (.t 32) (.seq (.ops [(po 2 (.mv (.k (.int .i64 40))))]) .ret) .skip))) (.seq (.ops [(po 2 (.mv (.k (.int .i64 0))))]) .ret))))
def k253 (F:Fn):PF:=PF.mk 38 1 [(.t 2)] (.seq (.ops [(po 1 (.box (.t 0))),(po 2 (.mv (.k (.int .i64 0))))]) (.seq (.seq (.ops [(po 6 (.fldA 68 (.t 1))),(po 7 (.load false 1 (.t 6))),(po 8 (.lenSl (.t 7))),(po 9 (.bin .eql (.t 8) (.k (.int .i64 0)))),(pm 10 9),(PO.mk (some 11) (.fldA 68 (.t 1)) (some (10,false))),(PO.mk (some 12) (.load false 1 (.t 11)) (some (10,false))),(PO.mk (some 13) (.lenSl (.t 12)) (some (10,false))),(PO.mk (some 14) (.bin .gtr (.t 13) (.k (.int .i64 32))) (some (10,false))),(po 15 (.pick (.t 10) (.k (.bool true)) (.t 14)))]) (.cond (.t 15) (.seq (.ops [(po 2 (.mv (.k (.int .i64 120))))]) .ret) .skip)) (.seq (.seq (.ops [(po 16 (.fldA 68 (.t 1))),(po 17 (.load false 1 (.t 16))),(po 18 (.lenSl (.t 17))),(po 19 (.mv (.k (.int .i64 0))))]) (.block 0 (.loop (.seq (.ops [(po 20 (.bin .lss (.t 19) (.t 18)))]) (.seq (.cond (.t 20) .skip (.exit 0)) (.seq (.block 1 (.seq (.ops [(pm 21 19),(po 22 (.idxSl 2 (.t 17) (.t 19))),(po 23 (.load true 2 (.t 22))),(po 4 (.alloc [(.sl .nil [] 0),(.sl .nil [] 0)])),(pm 3 21),(PO.mk none (.store 2 (.t 4) (.t 23)) none)]) (.seq (.ops [(po 24 (.load true 2 (.t 4))),(pm 25 3),(po 26 (.bin .eql (.t 25) (.k (.int .i64 0)))),(po 27 (.call (F 249) [(.t 24),(.t 26)])),(pm 5 27)]) (.seq (.ops [(pm 28 5),(po 29 (.bin .neq (.t 28) (.k (.int .i64 0))))]) (.cond (.t 29) (.seq (.ops [(pm 30 5),(pm 2 30)]) .ret) .skip))))) (.ops [(po 31 (.bin .add (.t 19) (.k (.int .i64 1)))),(pm 19 31)]))))))) (.seq (.seq (.ops [(po 32 (.load true 69 (.t 1))),(po 33 (.call (F 251) [(.t 32)])),(po 34 (.lenSl (.t 33))),(po 35 (.bin .gtr (.t 34) (.k (.int .i64 8192))))]) (.cond (.t 35) (.seq (.ops [(po 2 (.mv (.k (.int .i64 2))))]) .ret) .skip)) (.seq (.ops [(po 36 (.load true 69 (.t 1))),(po 37 (.call (F 252) [(.t 36)])),(pm 2 37)]) .ret)))))
structure OkCheck2 (P:Program) (F:Fn):Prop where
 mixed:P.follows .mixedOrders=true
 toOkCheck:OkCheck P F
 h251:compFn P ⟨[],[],[],[],[]⟩ (F 251)=some (k251 F)
 h252:compFn P ⟨[],[],[],[],[]⟩ (F 252)=some (k252 F)
 h253:compFn P ⟨[],[],[],[],[]⟩ (F 253)=some (k253 F)
def k255 (F:Fn):PF:=PF.mk 10 1 [(.t 2)] (.seq (.ops [(po 2 (.mv (.k (.ptr none))))]) (.seq (.ops [(pm 3 0),(po 4 (.nilck (.t 3))),(po 5 (.fldA 0 (.t 4))),(po 6 (.load false 1 (.t 5))),(po 7 (.call (F 256) [(.t 6)])),(po 8 (.build [(.map none)] [(0,(1,(.t 7)))])),(po 9 (.box (.t 8))),(pm 2 9)]) .ret))
def k258 (F:Fn):PF:=PF.mk 64 3 [(.t 6)] (.seq (.ops [(po 4 (.box (.t 1))),(po 6 (.mv (.k (.int .i64 0))))]) (.seq (.seq (.ops [(pm 13 0),(po 14 (.nilck (.t 13))),(po 15 (.fldA 0 (.t 14))),(po 16 (.load false 1 (.t 15))),(po 17 (.eqa .map false (.t 16) (.k (.map none))))]) (.cond (.t 17) (.ops [(pm 18 0),(PO.mk (some 19) POp.mkmap none),(po 20 (.nilck (.t 18))),(po 21 (.fldA 0 (.t 20))),(PO.mk none (.store 1 (.t 21) (.t 19)) none)]) .skip)) (.seq (.ops [(po 22 (.load true 2 (.t 4))),(po 23 (.call (F 198) [(.t 22)])),(po 7 (.alloc zR32_w80)),(PO.mk none (.store 32 (.t 7) (.t 23)) none)]) (.seq (.seq (.ops [(po 24 (.fldA 1 (.t 4))),(po 25 (.load false 1 (.t 24))),(po 26 (.lenSl (.t 25))),(po 27 (.mv (.k (.int .i64 0))))]) (.block 0 (.loop (.seq (.ops [(po 28 (.bin .lss (.t 27) (.t 26)))]) (.seq (.cond (.t 28) .skip (.exit 0)) (.seq (.block 1 (.seq (.ops [(pm 29 27),(pm 8 29)]) (.seq (.draw [(.e,(pm 31 0)),(.e,(po 32 (.nilck (.t 31)))),(.e,(po 33 (.fldA 0 (.t 32)))),(.e,(pm 36 8)),(.e,(po 37 (.conv .u32 (.t 36)))),(.s,(po 34 (.load false 1 (.t 33)))),(.s,(po 35 (.load true 32 (.t 7)))),(.e,(po 38 (.build z33_1371 [(0,(32,(.t 35))),(32,(1,(.t 37)))]))),(.s,(po 39 (.lookup (.agg 33) (.agg z34_7943) true (.t 34) (.t 38)))),(.e,(pm 30 39)),(.e,(po 40 (.ext 0 (.t 30)))),(.e,(po 41 (.ext 1 (.t 30)))),(.a,(po 9 (.alloc z34_7943))),(.x,(PO.mk none (.store 34 (.t 9) (.t 40)) none)),(.e,(pm 10 41))]) (.seq (.ops [(pm 42 10)]) (.cond (.t 42) (.seq (.ops [(po 6 (.mv (.k (.int .i64 5))))]) .ret) .skip))))) (.ops [(po 43 (.bin .add (.t 27) (.k (.int .i64 1)))),(pm 27 43)]))))))) (.seq (.seq (.ops [(po 44 (.fldA 1 (.t 4))),(po 45 (.load false 1 (.t 44))),(po 46 (.lenSl (.t 45))),(po 47 (.mv (.k (.int .i64 0))))]) (.block 2 (.loop (.seq (.ops [(po 48 (.bin .lss (.t 47) (.t 46)))]) (.seq (.cond (.t 48) .skip (.exit 2)) (.seq (.block 3 (.seq (.ops [(pm 49 47),(po 50 (.idxSl 33 (.t 45) (.t 47))),(po 51 (.load true 33 (.t 50))),(po 12 (.alloc z33_0be4)),(pm 11 49),(PO.mk none (.store 33 (.t 12) (.t 51)) none)]) (.draw [(.e,(pm 52 0)),(.e,(po 53 (.nilck (.t 52)))),(.e,(po 54 (.fldA 0 (.t 53)))),(.e,(pm 57 11)),(.e,(po 58 (.conv .u32 (.t 57)))),(.e,(pm 61 2)),(.s,(po 55 (.load false 1 (.t 54)))),(.s,(po 56 (.load true 32 (.t 7)))),(.e,(po 59 (.build z33_1371 [(0,(32,(.t 56))),(32,(1,(.t 58)))]))),(.s,(po 60 (.load true 33 (.t 12)))),(.e,(po 62 (.build z34_7943 [(0,(33,(.t 60))),(33,(1,(.t 61)))]))),(.x,(PO.mk none (.mset (.agg 33) (.t 55) (.t 59) (.t 62)) none))]))) (.ops [(po 63 (.bin .add (.t 47) (.k (.int .i64 1)))),(pm 47 63)]))))))) (.seq (.ops [(po 6 (.mv (.k (.int .i64 0))))]) .ret))))))
def k259 (F:Fn):PF:=PF.mk 102 4 [(PR.cell 8 true 2),(.t 9)] (.seq (.ops [(po 5 (.box (.t 1))),(po 8 (.alloc [(.sl .nil [] 0),(.sl .nil [] 0)])),(po 9 (.mv (.k (.int .i64 0))))]) (.seq (.ops [(po 10 (.alloc [(.sl .nil [] 0),(.sl .nil [] 0)]))]) (.seq (.ops [(po 11 (.mv (.k (.int .i64 0))))]) (.seq (.seq (.ops [(po 21 (.fldA 68 (.t 5))),(po 22 (.load false 1 (.t 21))),(po 23 (.lenSl (.t 22))),(po 24 (.mv (.k (.int .i64 0))))]) (.block 0 (.loop (.seq (.ops [(po 25 (.bin .lss (.t 24) (.t 23)))]) (.seq (.cond (.t 25) .skip (.exit 0)) (.seq (.block 1 (.seq (.ops [(pm 26 24),(po 27 (.idxSl 2 (.t 22) (.t 24))),(po 28 (.load true 2 (.t 27))),(po 13 (.alloc [(.sl .nil [] 0),(.sl .nil [] 0)])),(pm 12 26),(PO.mk none (.store 2 (.t 13) (.t 28)) none)]) (.seq (.seq (.ops [(pm 29 12),(po 30 (.bin .eql (.t 29) (.k (.int .i64 0))))]) (.cond (.t 30) (.exit 1) .skip)) (.seq (.ops [(pm 32 0),(po 33 (.fldA 0 (.t 13))),(po 34 (.load false 1 (.t 33))),(po 35 (.call (F 257) [(.t 32),(.t 10),(.t 34)])),(pm 31 35),(po 36 (.ext 0 (.t 31))),(po 37 (.ext 1 (.t 31))),(pm 14 36),(pm 15 37)]) (.seq (.seq (.ops [(pm 38 15),(po 39 (.bin .neq (.t 38) (.k (.int .i64 0))))]) (.cond (.t 39) (.seq (.ops [(po 40 (.load true 2 (.t 10))),(pm 41 15),(PO.mk none (.store 2 (.t 8) (.t 40)) none),(pm 9 41)]) .ret) .skip)) (.seq (.ops [(po 43 (.fldA 1 (.t 13))),(po 44 (.load false 1 (.t 43))),(po 45 (.call (F 250) [(.t 44)])),(pm 42 45),(po 46 (.ext 0 (.t 42))),(po 47 (.ext 1 (.t 42))),(pm 16 46),(pm 17 47)]) (.seq (.seq (.ops [(pm 48 17),(po 49 (.not (.t 48))),(pm 50 49),(PO.mk (some 51) (.mv (.t 16)) (some (50,false))),(PO.mk (some 52) (.mv (.t 14)) (some (50,false))),(PO.mk (some 53) (.bin .gtr (.t 51) (.t 52)) (some (50,false))),(po 54 (.pick (.t 50) (.k (.bool true)) (.t 53)))]) (.cond (.t 54) (.seq (.ops [(po 55 (.load true 2 (.t 10))),(PO.mk none (.store 2 (.t 8) (.t 55)) none),(po 9 (.mv (.k (.int .i64 121))))]) .ret) .skip)) (.seq (.seq (.ops [(pm 56 0),(po 57 (.load true 2 (.t 13))),(pm 58 2),(po 59 (.call (F 258) [(.t 56),(.t 57),(.t 58)])),(pm 18 59)]) (.seq (.ops [(pm 60 18),(po 61 (.bin .neq (.t 60) (.k (.int .i64 0))))]) (.cond (.t 61) (.seq (.ops [(po 62 (.load true 2 (.t 10))),(pm 63 18),(PO.mk none (.store 2 (.t 8) (.t 62)) none),(pm 9 63)]) .ret) .skip))) (.ops [(pm 64 11),(pm 65 14),(pm 66 16),(po 67 (.bin .sub (.t 65) (.t 66))),(po 68 (.bin .add (.t 64) (.t 67))),(pm 11 68)]))))))))) (.ops [(po 69 (.bin .add (.t 24) (.k (.int .i64 1)))),(pm 24 69)]))))))) (.seq (.seq (.ops [(po 70 (.fldA 68 (.t 5))),(po 71 (.load false 1 (.t 70))),(po 72 (.lenSl (.t 71))),(po 73 (.bin .eql (.t 72) (.k (.int .i64 0))))]) (.cond (.t 73) (.seq (.ops [(po 74 (.load true 2 (.t 10))),(PO.mk none (.store 2 (.t 8) (.t 74)) none),(po 9 (.mv (.k (.int .i64 120))))]) .ret) .skip)) (.seq (.seq (.ops [(po 76 (.fldA 68 (.t 5))),(po 77 (.load false 1 (.t 76))),(po 78 (.idxSl 2 (.t 77) (.k (.int .i64 0)))),(po 79 (.fldA 1 (.t 78))),(po 80 (.load false 1 (.t 79))),(po 81 (.call (F 250) [(.t 80)])),(pm 75 81),(po 82 (.ext 0 (.t 75))),(po 83 (.ext 1 (.t 75))),(pm 19 82),(pm 20 83)]) (.seq (.ops [(pm 84 20),(po 85 (.not (.t 84))),(pm 86 85),(PO.mk (some 87) (.mv (.t 19)) (some (86,false))),(PO.mk (some 88) (.mv (.t 3)) (some (86,false))),(PO.mk (some 89) (.bin .sub (.t 87) (.t 88)) (some (86,false))),(PO.mk (some 90) (.mv (.t 11)) (some (86,false))),(PO.mk (some 91) (.bin .gtr (.t 89) (.t 90)) (some (86,false))),(po 92 (.pick (.t 86) (.k (.bool true)) (.t 91)))]) (.cond (.t 92) (.seq (.ops [(po 93 (.load true 2 (.t 10))),(PO.mk none (.store 2 (.t 8) (.t 93)) none),(po 9 (.mv (.k (.int .i64 121))))]) .ret) .skip))) (.seq (.seq (.frz [10,10]) (.draw [(.e,(po 94 (.loadE true 2 (.t 10)))),(.e,(pm 95 0)),(.e,(po 96 (.fldA 68 (.t 5)))),(.e,(pm 100 2)),(.s,(po 97 (.load false 1 (.t 96)))),(.e,(po 98 (.idxSl 2 (.t 97) (.k (.int .i64 0))))),(.s,(po 99 (.load true 2 (.t 98)))),(.x,(po 101 (.call (F 258) [(.t 95),(.t 99),(.t 100)]))),(.x,(PO.mk none (.store 2 (.t 8) (.t 94)) none)),(.e,(pm 9 101))])) .ret)))))))
def k260 (F:Fn):PF:=PF.mk 35 4 [(PR.cell 8 true 2),(.t 9)] (.seq (.ops [(po 5 (.box (.t 1))),(po 8 (.alloc [(.sl .nil [] 0),(.sl .nil [] 0)])),(po 9 (.mv (.k (.int .i64 0))))]) (.seq (.ops [(pm 13 0),(po 14 (.call (F 255) [(.t 13)])),(pm 10 14)]) (.seq (.ops [(pm 16 10),(po 17 (.load true 69 (.t 5))),(pm 18 2),(pm 19 3),(po 20 (.call (F 259) [(.t 16),(.t 17),(.t 18),(.t 19)])),(pm 15 20),(po 21 (.ext 0 (.t 15))),(po 22 (.ext 1 (.t 15))),(po 11 (.alloc [(.sl .nil [] 0),(.sl .nil [] 0)])),(PO.mk none (.store 2 (.t 11) (.t 21)) none),(pm 12 22)]) (.seq (.seq (.ops [(pm 23 12),(po 24 (.bin .neq (.t 23) (.k (.int .i64 0))))]) (.cond (.t 24) (.seq (.ops [(po 25 (.build [(.sl .nil [] 0),(.sl .nil [] 0)] [])),(pm 26 12),(PO.mk none (.store 2 (.t 8) (.t 25)) none),(pm 9 26)]) .ret) .skip)) (.seq (.ops [(pm 27 0),(pm 28 10),(po 29 (.nilck (.t 28))),(po 30 (.fldA 0 (.t 29))),(po 31 (.load false 1 (.t 30))),(po 32 (.nilck (.t 27))),(po 33 (.fldA 0 (.t 32))),(PO.mk none (.store 1 (.t 33) (.t 31)) none)]) (.seq (.ops [(po 34 (.load true 2 (.t 11))),(PO.mk none (.store 2 (.t 8) (.t 34)) none),(po 9 (.mv (.k (.int .i64 0))))]) .ret))))))
def k261 (F:Fn):PF:=PF.mk 23 2 [] (.seq (.ops [(po 3 (.box (.t 1)))]) (.seq (.ops [(po 6 (.load true 2 (.t 3))),(po 7 (.call (F 198) [(.t 6)])),(po 4 (.alloc zR32_w80)),(PO.mk none (.store 32 (.t 4) (.t 7)) none)]) (.seq (.ops [(po 8 (.fldA 1 (.t 3))),(po 9 (.load false 1 (.t 8))),(po 10 (.lenSl (.t 9))),(po 11 (.mv (.k (.int .i64 0))))]) (.block 0 (.loop (.seq (.ops [(po 12 (.bin .lss (.t 11) (.t 10)))]) (.seq (.cond (.t 12) .skip (.exit 0)) (.seq (.block 1 (.seq (.ops [(pm 13 11),(pm 5 13)]) (.draw [(.e,(pm 14 0)),(.e,(po 15 (.nilck (.t 14)))),(.e,(po 16 (.fldA 0 (.t 15)))),(.e,(pm 19 5)),(.e,(po 20 (.conv .u32 (.t 19)))),(.s,(po 17 (.load false 1 (.t 16)))),(.s,(po 18 (.load true 32 (.t 4)))),(.e,(po 21 (.build z33_1371 [(0,(32,(.t 18))),(32,(1,(.t 20)))]))),(.x,(PO.mk none (.mdel (.agg 33) (.t 17) (.t 21)) none))]))) (.ops [(po 22 (.bin .add (.t 11) (.k (.int .i64 1)))),(pm 11 22)])))))))))
def k262 (F:Fn):PF:=PF.mk 111 3 [(.t 6)] (.seq (.ops [(po 4 (.box (.t 1))),(po 5 (.box (.t 2))),(po 6 (.mv (.k (.int .i64 0))))]) (.seq (.ops [(po 7 (.mv (.k (.int .i64 0))))]) (.seq (.seq (.ops [(po 12 (.fldA 68 (.t 4))),(po 13 (.load false 1 (.t 12))),(po 14 (.lenSl (.t 13))),(po 15 (.mv (.k (.int .i64 0))))]) (.block 0 (.loop (.seq (.ops [(po 16 (.bin .lss (.t 15) (.t 14)))]) (.seq (.cond (.t 16) .skip (.exit 0)) (.seq (.block 1 (.seq (.ops [(pm 17 15),(po 18 (.idxSl 2 (.t 13) (.t 15))),(po 19 (.load true 2 (.t 18))),(po 9 (.alloc [(.sl .nil [] 0),(.sl .nil [] 0)])),(pm 8 17),(PO.mk none (.store 2 (.t 9) (.t 19)) none)]) (.seq (.ops [(pm 20 8),(po 21 (.bin .gtr (.t 20) (.k (.int .i64 0))))]) (.cond (.t 21) (.ops [(pm 22 7),(po 23 (.fldA 0 (.t 9))),(po 24 (.load false 1 (.t 23))),(po 25 (.lenSl (.t 24))),(po 26 (.bin .add (.t 22) (.t 25))),(pm 7 26)]) .skip)))) (.ops [(po 27 (.bin .add (.t 15) (.k (.int .i64 1)))),(pm 15 27)]))))))) (.seq (.seq (.ops [(po 28 (.fldA 68 (.t 4))),(po 29 (.load false 1 (.t 28))),(po 30 (.lenSl (.t 29))),(po 31 (.bin .eql (.t 30) (.k (.int .i64 0)))),(pm 32 31),(PO.mk (some 33) (.mv (.t 7)) (some (32,false))),(PO.mk (some 34) (.fldA 0 (.t 5)) (some (32,false))),(PO.mk (some 35) (.load false 1 (.t 34)) (some (32,false))),(PO.mk (some 36) (.lenSl (.t 35)) (some (32,false))),(PO.mk (some 37) (.bin .neq (.t 33) (.t 36)) (some (32,false))),(po 38 (.pick (.t 32) (.k (.bool true)) (.t 37))),(pm 39 38),(PO.mk (some 40) (.mv (.t 7)) (some (39,false))),(PO.mk (some 41) (.fldA 1 (.t 5)) (some (39,false))),(PO.mk (some 42) (.load false 1 (.t 41)) (some (39,false))),(PO.mk (some 43) (.lenSl (.t 42)) (some (39,false))),(PO.mk (some 44) (.bin .neq (.t 40) (.t 43)) (some (39,false))),(po 45 (.pick (.t 39) (.k (.bool true)) (.t 44)))]) (.cond (.t 45) (.seq (.ops [(po 6 (.mv (.k (.int .i64 120))))]) .ret) .skip)) (.seq (.ops [(pm 46 0),(po 47 (.call (F 255) [(.t 46)])),(pm 10 47)]) (.seq (.seq (.ops [(pm 48 10),(po 49 (.nilck (.t 48))),(po 50 (.fldA 0 (.t 49))),(po 51 (.load false 1 (.t 50))),(po 52 (.eqa .map false (.t 51) (.k (.map none))))]) (.cond (.t 52) (.ops [(pm 53 10),(PO.mk (some 54) POp.mkmap none),(po 55 (.nilck (.t 53))),(po 56 (.fldA 0 (.t 55))),(PO.mk none (.store 1 (.t 56) (.t 54)) none)]) .skip)) (.seq (.ops [(pm 57 10),(po 58 (.fldA 68 (.t 4))),(po 59 (.load false 1 (.t 58))),(po 60 (.idxSl 2 (.t 59) (.k (.int .i64 0)))),(po 61 (.load true 2 (.t 60))),(po 62 (.call (F 261) [(.t 57),(.t 61)]))]) (.seq (.seq (.ops [(po 63 (.fldA 68 (.t 4))),(po 64 (.load false 1 (.t 63))),(po 65 (.lenSl (.t 64))),(po 66 (.bin .sub (.t 65) (.k (.int .i64 1)))),(pm 11 66)]) (.block 2 (.loop (.seq (.seq (.ops [(pm 67 11),(po 68 (.bin .gtr (.t 67) (.k (.int .i64 0))))]) (.cond (.t 68) .skip (.exit 2))) (.seq (.block 3 (.seq (.ops [(pm 71 10),(po 72 (.fldA 68 (.t 4))),(po 73 (.load false 1 (.t 72))),(pm 74 11),(po 75 (.idxSl 2 (.t 73) (.t 74))),(po 76 (.load true 2 (.t 75))),(po 77 (.call (F 261) [(.t 71),(.t 76)]))]) (.seq (.ops [(po 78 (.fldA 68 (.t 4))),(po 79 (.load false 1 (.t 78))),(pm 80 11),(po 81 (.idxSl 2 (.t 79) (.t 80))),(po 82 (.fldA 0 (.t 81))),(po 83 (.load false 1 (.t 82))),(po 84 (.lenSl (.t 83))),(po 85 (.mv (.k (.int .i64 0))))]) (.block 4 (.loop (.seq (.ops [(po 86 (.bin .lss (.t 85) (.t 84)))]) (.seq (.cond (.t 86) .skip (.exit 4)) (.seq (.block 5 (.seq (.ops [(pm 87 7),(po 88 (.bin .sub (.t 87) (.k (.int .i64 1)))),(pm 7 88)]) (.draw [(.e,(pm 89 10)),(.e,(po 90 (.nilck (.t 89)))),(.e,(po 91 (.fldA 0 (.t 90)))),(.e,(po 93 (.fldA 0 (.t 5)))),(.e,(pm 95 7)),(.e,(po 98 (.fldA 1 (.t 5)))),(.e,(pm 100 7)),(.s,(po 92 (.load false 1 (.t 91)))),(.s,(po 94 (.load false 1 (.t 93)))),(.e,(po 96 (.idxSl 33 (.t 94) (.t 95)))),(.s,(po 97 (.load true 33 (.t 96)))),(.s,(po 99 (.load false 1 (.t 98)))),(.e,(po 101 (.idxSl 34 (.t 99) (.t 100)))),(.s,(po 102 (.load true 34 (.t 101)))),(.x,(PO.mk none (.mset (.agg 33) (.t 92) (.t 97) (.t 102)) none))]))) (.ops [(po 103 (.bin .add (.t 85) (.k (.int .i64 1)))),(pm 85 103)]))))))))) (.ops [(pm 69 11),(po 70 (.bin .sub (.t 69) (.k (.int .i64 1)))),(pm 11 70)])))))) (.seq (.ops [(pm 104 0),(pm 105 10),(po 106 (.nilck (.t 105))),(po 107 (.fldA 0 (.t 106))),(po 108 (.load false 1 (.t 107))),(po 109 (.nilck (.t 104))),(po 110 (.fldA 0 (.t 109))),(PO.mk none (.store 1 (.t 110) (.t 108)) none)]) (.seq (.ops [(po 6 (.mv (.k (.int .i64 0))))]) .ret))))))))))
structure OkCoins (P:Program) (F:Fn):Prop where
 mixed:P.follows .mixedOrders=true
 toOkCheck2:OkCheck2 P F
 h255:compFn P ⟨[],[],[],[],[]⟩ (F 255)=some (k255 F)
 h258:compFn P ⟨[],[],[],[],[]⟩ (F 258)=some (k258 F)
 h259:compFn P ⟨[94],[],[(23,[10,10])],[],[]⟩ (F 259)=some (k259 F)
 h260:compFn P ⟨[],[],[],[],[]⟩ (F 260)=some (k260 F)
 h261:compFn P ⟨[],[],[],[],[]⟩ (F 261)=some (k261 F)
 h262:compFn P ⟨[],[],[],[],[]⟩ (F 262)=some (k262 F)
end Go.Ab

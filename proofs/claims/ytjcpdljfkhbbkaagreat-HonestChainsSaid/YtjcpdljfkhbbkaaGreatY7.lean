import Derived.Test.YtjcpdljfkhbbkaaGreatY6
import Derived.Test.YtjcpdljfkhbbkaaGreatY4
import Derived.Test.YtjcpdljfkhbbkaaGreatY5
set_option linter.unusedVariables false
set_option linter.unusedSimpArgs false
set_option linter.unusedSectionVars false
namespace Go.Ab
open Go Go.RowKit
set_option maxRecDepth 10000
def firstM (sub:Int)(h:Nat)(mark:UInt8):Tx1:=
 ⟨.full,[⟨id0,4294967295#32,.full,[UInt8.ofNat h,UInt8.ofNat (h / 256),mark]⟩],.full,[⟨sub,sha [mark]⟩]⟩
theorem firstM_ok (sub:Int)(h:Nat)(mark:UInt8):(firstM sub h mark).ok 100:=by
 refine⟨by simp[firstM],by simp[firstM],?_⟩
 intro x hx
 simp[firstM]at hx
 rw[hx]
 simp
section
variable {P:Program} {F:Fn}
set_option maxHeartbeats 1000000 in
theorem spec191 (ok:OkHonest P F)(st:St)(r:Rl)(h:Nat)(hh:h≤100000)(mark:UInt8):ACalls P (F 191) [.agg (eRl r),.int .i64 (h:Int),w8 mark] st fun v st'=>v=.agg (eTx (firstM r.subsidy h mark))∧st'=st:=by
 refine shows_call ok.mixed ok.h191 (by simp[k191]) ?_
 simp only[k191]
 simp
 intro bid hb
 have S:=(Sep.start st).new hb (.cells (eRl r))
 generalize st.upd bid _=st1 at S⊢
 simp
 intro rid hr
 have S:=S.new hr (.cells [.sl .nil [] 0,.sl .nil [] 0])
 generalize st1.upd rid _=st2 at S⊢
 obtain⟨H2,hH2⟩: ∃H2,H2=h / 256:=⟨_,rfl⟩
 have hs:binV .shr (V.int .i64 (h:Int)) (w64 8#64)=some (.int .i64 (H2:Int)):=by
  show binV .shr (V.int .i64 (h:Int)) (.int .u64 (8:Int))=_
  rw[binV_int]
  have e:(h:Int).fdiv (2 ^ 8)=(H2:Int):=by
   rw[shr_nat,Nat.shiftRight_eq_div_pow,hH2]
  have e1:Nat.min (8:Int).toNat IntKind.i64.bits=8:=rfl
  simp only[e1,e]
  rfl
 obtain⟨K3,hK3⟩: ∃K3,K3=[(OfNat.ofNat h:UInt8),(OfNat.ofNat H2:UInt8),mark]:=⟨_,rfl⟩
 obtain⟨K1,hK1⟩: ∃K1,K1=[mark]:=⟨_,rfl⟩
 have hl3:K3.length=3:=by rw[hK3];rfl
 have hl1:K1.length=1:=by rw[hK1];rfl
 have hf3:fillV (repV [w8 0] 3) [(0,1,w8 (OfNat.ofNat h)),(1,1,w8 (OfNat.ofNat H2)),(2,1,w8 mark)]=some (rowsOf e8 K3):=by rw[hK3];rfl
 have hf1:fillV (repV [w8 0] 1) [(0,1,w8 mark)]=some (rowsOf e8 K1):=by rw[hK1];rfl
 have hfs:fillV (repV [V.sl SK.nil [] 0] 1) [(0,1,V.sl .full (rowsOf e8 K1) 1)]=some [.sl .full (rowsOf e8 K1) 1]:=rfl
 simp[hs,hf3,hf1,hfs]
 refine⟨_,spec197 ok.toOkTx st2,?_⟩
 obtain⟨x,hx⟩: ∃x:In1,x=⟨id0,4294967295#32,.full,K3⟩:=⟨_,rfl⟩
 have hfi:fillV z34_1838 [(0,33,.agg (eId id0++[w32 4294967295#32])),(33,1,.sl .full (rowsOf e8 K3) 3)]=some (eIn x):=by
  rw[hx,←hl3];rfl
 have hfi2:fillV (repV z34_1838 1) [(0,34,.agg (eIn x))]=some (eIn x):=by
  rw[show repV z34_1838 1=z34_1838 by simp[repV]]
  simp[fillV,eIn_len,spliceV]
 have o:=S.mem (i:=bid) (o:=.cells (eRl r)) (by simp)
 have hp:Parts st2 [.sl .full (rowsOf e8 K1) 1] [K1]:=.cons (.inl ⟨.full,by rw[hl1]⟩) .nil
 simp[hfi,hfi2,St.seg,o,rsegSubsidy]
 have hsp:=spec103 ok.toOkTx.toOkHead.toOkHash st2 hp .full (by simp[hl1]) (by simp)
 rw[show [K1].flatten=K1 by simp]at hsp
 refine⟨_,hsp,?_⟩
 obtain⟨y,hy⟩: ∃y:Out1,y=⟨r.subsidy,sha K1⟩:=⟨_,rfl⟩
 have hfo:fillV z33_0be4 [(0,1,.int .i64 r.subsidy),(1,32,.agg (eId (sha K1)))]=some (eOut y):=by
  rw[hy];rfl
 have hfo2:fillV (repV z33_0be4 1) [(0,33,.agg (eOut y))]=some (eOut y):=by
  rw[show repV z33_0be4 1=z33_0be4 by simp[repV]]
  simp[fillV,eOut_len,spliceV]
 simp[hfo,hfo2]
 obtain⟨t,ht⟩: ∃t,t=firstM r.subsidy h mark:=⟨_,rfl⟩
 have ei:V.sl .full (eIn x) 1=insV t:=by
  have:t.ins=[x]:=by rw[ht,hx,hK3,hH2];rfl
  have h2:t.ik=.full:=by rw[ht];rfl
  rw[insV,this,h2]
  simp
 have eo:V.sl .full (eOut y) 1=outsV t:=by
  have:t.outs=[y]:=by rw[ht,hy,hK1];rfl
  have h2:t.uk=.full:=by rw[ht];rfl
  rw[outsV,this,h2]
  simp
 rw[ei,eo,←ht]
 have hft:fillV [V.sl SK.nil [] 0,V.sl SK.nil [] 0] [(0,1,insV t),(1,1,outsV t)]=some (eTx t):=rfl
 have hst:=store_pt (sz:=2) (o:=0) S.get (v:=.agg (eTx t)) (vs:=eTx t) rfl rfl (by simp)
 rw[show spliceV [V.sl SK.nil [] 0,V.sl SK.nil [] 0] 0 (eTx t)=eTx t from rfl]at hst
 have S:=S.set (.cells (eTx t))
 have hsg:segOf (eTx t) 0 2=some (eTx t):=rfl
 simp[hft,hst,St.seg,hsg]
 exact S.was' (st0:=st) (by simp)
structure Blk1 where
 hdr:Hdr
 tk:SK
 txs:List Tx1
def txsV (k:SK)(l:List Tx1):V:=.sl k (rowsOf eTx l) l.length
def eBlk (b:Blk1):List V:=eHdr b.hdr++[txsV b.tk b.txs]
theorem eBlk_len (b:Blk1):(eBlk b).length=69:=by simp[eBlk,eHdr_len]
theorem bsegH (b:Blk1):segOf (eBlk b) 0 68=some (eHdr b.hdr):=seg_of_drop (zs:=[txsV b.tk b.txs]) rfl (eHdr_len _) (by omega)
theorem bdrop68 (b:Blk1):(eBlk b).drop 68=[txsV b.tk b.txs]:=by rw[eBlk,List.drop_left' (eHdr_len _)]
theorem bsegT (b:Blk1):segOf (eBlk b) 68 1=some [txsV b.tk b.txs]:=seg_of_drop (zs:=[]) (bdrop68 b) rfl (by omega)
theorem bsegAll (b:Blk1):segOf (eBlk b) 0 69=some (eBlk b):=by simp[segOf,eBlk_len,List.take_of_length_le]
theorem bsplH (b:Blk1)(h:Hdr):spliceV (eBlk b) 0 (eHdr h)=eBlk {b with hdr:=h}:=by
 rw[spliceV,List.take_zero,List.nil_append,Nat.zero_add,eHdr_len,bdrop68]
 rfl
theorem splRoot (h:Hdr)(x:Id)(zs:List V):spliceV (eHdr h++zs) 33 (eId x)=eHdr {h with root:=x}++zs:=by
 have e:eHdr h++zs=(w32 h.ver::eId h.prev)++(eId h.root++([w32 h.time,w32 h.bits,w32 h.nonce]++zs)):=by simp[eHdr]
 have hl:(w32 h.ver::eId h.prev).length=33:=by simp[eId_len]
 have e2:33+(eId x).length=(w32 h.ver::eId h.prev).length+32:=by rw[eId_len,hl]
 rw[spliceV,e2,e,←List.drop_drop,List.drop_left,List.drop_left' (eId_len _),←hl,List.take_left]
 simp[eHdr]
theorem bsplRoot (b:Blk1)(x:Id):spliceV (eBlk b) 33 (eId x)=eBlk {b with hdr:={b.hdr with root:=x}}:=splRoot b.hdr x _
theorem blkFill (h:Hdr)(k:SK)(l:List Tx1):fillV z69_adc1 [(0,68,.agg (eHdr h)),(68,1,txsV k l)]=some (eBlk ⟨h,k,l⟩):=by
 have e1:z69_adc1=eBlk ⟨hdr0,.nil,[]⟩:=rfl
 have hc1:(V.agg (eHdr h)).cells? =some (eHdr h):=rfl
 have hc2:(txsV k l).cells? =some [txsV k l]:=rfl
 simp only[fillV,hc1,hc2]
 rw[if_pos ⟨eHdr_len h,by rw[z69_adc1_len];omega⟩,e1,bsplH]
 rw[if_pos ⟨rfl,by rw[eBlk_len];omega⟩]
 congr 1
 rw[spliceV,eBlk,List.take_left' (eHdr_len _),show 68+[txsV k l].length=69 from rfl,List.drop_of_length_le (by simp[eHdr_len])]
 simp[eBlk]
theorem rsplGen (r:Rl)(b:Blk1):spliceV (eRl r) 5 (eBlk b)=eRl {r with gen:=b.hdr,txs:=txsV b.tk b.txs}:=by
 rw[spliceV,eBlk_len,List.drop_of_length_le (by rw[eRl_len];omega)]
 simp[eRl,eBlk]
def genM:Hdr:={hdr0 with bits:=545259519#32,root:=txIdM (firstM 50 0 0)}
def rulesM (work:Int):Rl:=⟨545259519#32,0,10,50,work,genM,txsV .full [firstM 50 0 0]⟩
set_option maxHeartbeats 1000000 in
theorem spec190 (ok:OkHonest P F)(st:St)(work:Int):ACalls P (F 190) [.int .i64 work] st fun v st'=>v=.agg (eRl (rulesM work))∧st'=st:=by
 refine shows_call ok.mixed ok.h190 (by simp[k190]) ?_
 simp only[k190]
 simp
 intro rid hr
 have S:=(Sep.start st).new hr (.cells z74_2f53)
 generalize st.upd rid _=st1 at S⊢
 obtain⟨r0,hr0⟩: ∃r0:Rl,r0=⟨545259519#32,0,10,50,work,hdr0,.sl .nil [] 0⟩:=⟨_,rfl⟩
 have hf0:fillV z74_2f53 [(0,1,w32 545259519#32),(2,1,V.int .i64 10),(3,1,V.int .i64 50),(4,1,V.int .i64 work)]=some (eRl r0):=by rw[hr0];rfl
 simp[hf0]
 intro i3 h3
 have S:=S.new h3 (.cells z74_2f53)
 have hst:=store_pt (sz:=74) (o:=0) S.get (v:=.agg (eRl r0)) (vs:=eRl r0) rfl (eRl_len r0) (by simp)
 rw[show spliceV z74_2f53 0 (eRl r0)=eRl r0 by simp[spliceV,eRl_len]]at hst
 have S:=S.set (.cells (eRl r0))
 simp[hst]at S⊢
 generalize st1.upd i3 (.cells (eRl r0))=st2 at S⊢
 have o3:=S.get
 have hsg:segOf (eRl r0) 0 74=some (eRl r0):=by simp[segOf,eRl_len,List.take_of_length_le]
 obtain⟨g0,hg0⟩: ∃g0:Hdr,g0={hdr0 with bits:=545259519#32}:=⟨_,rfl⟩
 have hfg:fillV z68_39b1 [(66,1,w32 545259519#32)]=some (eHdr g0):=by rw[hg0];rfl
 simp[hfg,St.seg,o3,hsg]
 refine(spec191 ok st2 r0 0 (by omega) 0).mono ?_
 rintro v st2 ⟨rfl,rfl⟩
 obtain⟨t,ht⟩: ∃t,t=firstM 50 0 0:=⟨_,rfl⟩
 have ht0:firstM r0.subsidy 0 0=t:=by rw[hr0,ht]
 rw[ht0]
 have hft:fillV (repV [V.sl SK.nil [] 0,V.sl SK.nil [] 0] 1) [(0,2,.agg (eTx t))]=some (eTx t):=rfl
 obtain⟨b0,hb0⟩: ∃b0:Blk1,b0=⟨g0,.full,[t]⟩:=⟨_,rfl⟩
 have etx:V.sl .full (eTx t) 1=txsV .full [t]:=by simp[txsV]
 have hfb:=blkFill g0 .full [t]
 rw[←hb0]at hfb
 simp[hft,etx,hfb]
 intro i4 h4
 have S:=S.new h4 (.cells z69_adc1)
 have hst:=store_pt (sz:=69) (o:=0) S.get (v:=.agg (eBlk b0)) (vs:=eBlk b0) rfl (eBlk_len b0) (by simp)
 rw[show spliceV z69_adc1 0 (eBlk b0)=eBlk b0 by simp[spliceV,eBlk_len]]at hst
 have S:=S.set (.cells (eBlk b0))
 simp[hst]at S⊢
 generalize st2.upd i4 (.cells (eBlk b0))=st3 at S⊢
 have o4:=S.get
 have hsx:=bsegT b0
 have e0t:txsV b0.tk b0.txs=txsV .full [t]:=by rw[hb0]
 rw[e0t]at hsx
 simp[St.seg,o4,hsx]
 have htk:t.ok 100:=by rw[ht];exact firstM_ok _ _ _
 refine(spec192 ok.toOkTx st3 (s:=txsV .full [t]) (l:=[t]) (.inl ⟨.full,rfl⟩) (by simp) (by simpa using htk)).mono ?_
 rintro v st3 ⟨rfl,rfl⟩
 have hrt:rootM (rowsIds [t])=(txIdM t,false):=rfl
 rw[hrt]
 obtain⟨b1,hb1⟩: ∃b1:Blk1,b1={b0 with hdr:={b0.hdr with root:=txIdM t}}:=⟨_,rfl⟩
 have hst:=store_pt (sz:=32) (o:=33) S.get (v:=.agg (eId (txIdM t))) (vs:=eId (txIdM t)) rfl (eId_len _) (by simp[eBlk_len])
 rw[bsplRoot,←hb1]at hst
 have S:=S.set (.cells (eBlk b1))
 simp[hst]
 generalize st3.upd i4 (.cells (eBlk b1))=st4 at S⊢
 have o4:=S.get
 obtain⟨r1,hr1⟩: ∃r1:Rl,r1={r0 with gen:=b1.hdr,txs:=txsV b1.tk b1.txs}:=⟨_,rfl⟩
 have hst:=store_pt (sz:=69) (o:=5) (S.mem (i:=i3) (o:=.cells (eRl r0)) (by simp)) (v:=.agg (eBlk b1)) (vs:=eBlk b1) rfl (eBlk_len b1) (by simp[eRl_len])
 rw[rsplGen,←hr1]at hst
 have S:=S.setAt (.cells (eRl r1)) 1 rfl
 simp only[List.set_cons_succ,List.set_cons_zero]at S
 simp[St.seg,o4,bsegAll,hst]
 generalize st4.upd i3 (.cells (eRl r1))=st5 at S⊢
 have o3:=S.mem (i:=i3) (o:=.cells (eRl r1)) (by simp)
 have hsg1:segOf (eRl r1) 0 74=some (eRl r1):=by simp[segOf,eRl_len,List.take_of_length_le]
 have hst:=store_pt (sz:=74) (o:=0) (S.mem (i:=rid) (o:=.cells z74_2f53) (by simp)) (v:=.agg (eRl r1)) (vs:=eRl r1) rfl (eRl_len r1) (by simp)
 rw[show spliceV z74_2f53 0 (eRl r1)=eRl r1 by simp[spliceV,eRl_len]]at hst
 have S:=S.setAt (.cells (eRl r1)) 2 rfl
 have hr2:r1=rulesM work:=by rw[hr1,hb1,hb0,hr0,hg0,ht];rfl
 simp[St.seg,o3,hsg1,hst]
 exact⟨S.was' (st0:=st) (by simp),by rw[hr2]⟩
end
end Go.Ab
namespace Go.Ab
def mix (x y:BitVec 32):BitVec 32:=x <<< 16 ||| y >>> 16
theorem mix_be (a b:BitVec 32):be4 (UInt8.ofBitVec ((a >>> 8).setWidth 8)) (UInt8.ofBitVec (a.setWidth 8)) (UInt8.ofBitVec ((b >>> 24).setWidth 8)) (UInt8.ofBitVec ((b >>> 16).setWidth 8))=mix a b:=by
 unfold be4 mix
 apply BitVec.eq_of_getLsbD_eq
 intro j hj
 simp only[BitVec.getLsbD_or,BitVec.getLsbD_shiftLeft,BitVec.getLsbD_setWidth,BitVec.getLsbD_ushiftRight]
 by_cases h8:j<8
 ·simp[show j-8<32 by omega,show j-16<32 by omega,show j-24<32 by omega,h8,hj,show j<16 by omega,show j<24 by omega]
 ·by_cases h16:j<16
  ·simp[show j-8<32 by omega,show j-16<32 by omega,show j-24<32 by omega,h8,hj,h16,show j<24 by omega,show j-8<8 by omega,show 24+(j-8)=16+j by omega]
  ·by_cases h24:j<24
   ·simp[show j-8<32 by omega,show j-16<32 by omega,show j-24<32 by omega,BitVec.getLsbD_of_ge b (16+j) (by omega),h8,hj,h16,h24,show¬j-8<8 by omega,show j-16<8 by omega,show¬16+j<32 by omega]
   ·simp[show j-8<32 by omega,show j-16<32 by omega,show j-24<32 by omega,BitVec.getLsbD_of_ge b (16+j) (by omega),h8,hj,h16,h24,show¬j-8<8 by omega,show¬j-16<8 by omega,show j-24<8 by omega,show 8+(j-24)=j-16 by omega,show¬16+j<32 by omega]
theorem blksW_one (v:V8)(w:List (BitVec 32))(h:w.length=16):blksW 1 v w=blkW v w:=by
 rw[blksW,blksW,List.take_of_length_le (by omega)]
def lockW (mark:UInt8):V8:=blkW iv [be4 mark 128 0 0,0,0,0,0,0,0,0,0,0,0,0,0,0,0,8]
theorem lock_W (mark:UInt8):sha [mark]=idV (lockW mark):=by
 have e:padM [mark]=mark::128::(List.replicate 54 0++[0,0,0,0,0,0,0,8]):=by
  unfold padM
  rw[show [mark].length=1 from rfl]
  rfl
 have hl:(mark::128::(List.replicate 54 (0:UInt8)++[0,0,0,0,0,0,0,8])).length / 64=1:=by
  simp only[List.length_cons,List.length_append,List.length_replicate,List.length_nil]
 have hw:words (mark::128::(List.replicate 54 (0:UInt8)++[0,0,0,0,0,0,0,8]))=[be4 mark 128 0 0,0,0,0,0,0,0,0,0,0,0,0,0,0,0,8]:=rfl
 rw[sha_W,e,hl,hw,blksW_one _ _ rfl]
 rfl
def txW (lo hi mark:UInt8):V8:=
 let L:=lockW mark
 secW (blkW (blkW iv [0x01000000,0,0,0,0,0,0,0,0x00ffffff,be4 255 3 lo hi,be4 mark 1 50 0,0,mix 0 L.a,mix L.a L.b,mix L.b L.c,mix L.c L.d])
  [mix L.d L.e,mix L.e L.f,mix L.f L.g,mix L.g L.h,mix L.h 0x80000000,0,0,0,0,0,0,0,0,0,0,656])
theorem txB_first (h:Nat)(mark:UInt8):txB (firstM 50 h mark)=1::(List.replicate 32 0++([255,255,255,255,3,UInt8.ofNat h,UInt8.ofNat (h / 256),mark,1,50,0,0,0,0,0,0,0]++outV (lockW mark))):=by
 have e:(sha [mark]).toList=outV (lockW mark):=by rw[lock_W];rfl
 have h1:txB (firstM 50 h mark)=1::(List.replicate 32 0++([255,255,255,255,3,UInt8.ofNat h,UInt8.ofNat (h / 256),mark,1,50,0,0,0,0,0,0,0]++(sha [mark]).toList)):=by
  obtain⟨l,hl⟩: ∃l,l=sha [mark]:=⟨_,rfl⟩
  unfold firstM
  rw[←hl]
  simp[txB,inB,outB,textB,countB,putB,byteAt,List.range_succ,id0]
 rw[h1,e]
theorem words_mix (p q:UInt8)(a:BitVec 32)(r:List UInt8):words (p::q::(out4 a++r))=be4 p q (UInt8.ofBitVec ((a >>> 24).setWidth 8)) (UInt8.ofBitVec ((a >>> 16).setWidth 8))::words (UInt8.ofBitVec ((a >>> 8).setWidth 8)::UInt8.ofBitVec (a.setWidth 8)::r):=rfl
theorem words_mixs (a b:BitVec 32)(r:List UInt8):words (UInt8.ofBitVec ((a >>> 8).setWidth 8)::UInt8.ofBitVec (a.setWidth 8)::(out4 b++r))=mix a b::words (UInt8.ofBitVec ((b >>> 8).setWidth 8)::UInt8.ofBitVec (b.setWidth 8)::r):=by
 rw[words_mix,mix_be]
theorem words_mixV (v:V8)(r:List UInt8):words (0::0::(outV v++(128::0::r)))=mix 0 v.a::mix v.a v.b::mix v.b v.c::mix v.c v.d::mix v.d v.e::mix v.e v.f::mix v.f v.g::mix v.g v.h::mix v.h 0x80000000::words r:=by
 have e:outV v++(128::0::r)=out4 v.a++(out4 v.b++(out4 v.c++(out4 v.d++(out4 v.e++(out4 v.f++(out4 v.g++(out4 v.h++(128::0::r)))))))):=by simp[outV,V8.list]
 have z:(0:UInt8)::0::(out4 v.a++(out4 v.b++(out4 v.c++(out4 v.d++(out4 v.e++(out4 v.f++(out4 v.g++(out4 v.h++(128::0::r)))))))))=UInt8.ofBitVec (((0:BitVec 32) >>> 8).setWidth 8)::UInt8.ofBitVec ((0:BitVec 32).setWidth 8)::(out4 v.a++(out4 v.b++(out4 v.c++(out4 v.d++(out4 v.e++(out4 v.f++(out4 v.g++(out4 v.h++(128::0::r))))))))):=rfl
 rw[e,z,words_mixs,words_mixs,words_mixs,words_mixs,words_mixs,words_mixs,words_mixs,words_mixs]
 have l:words (UInt8.ofBitVec ((v.h >>> 8).setWidth 8)::UInt8.ofBitVec (v.h.setWidth 8)::128::0::r)=mix v.h 0x80000000::words r:=by
  rw[words,←mix_be]
  rfl
 rw[l]
theorem txId_W (h:Nat)(mark:UInt8):txIdM (firstM 50 h mark)=idV (txW (UInt8.ofNat h) (UInt8.ofNat (h / 256)) mark):=by
 have hl:(txB (firstM 50 h mark)).length=82:=by
  rw[txB_first]
  simp only[List.length_cons,List.length_append,List.length_replicate,outV_len]
  rfl
 have e:padM (txB (firstM 50 h mark))=1::(List.replicate 32 0++([255,255,255,255,3,UInt8.ofNat h,UInt8.ofNat (h / 256),mark,1,50,0,0,0,0,0]++(0::0::(outV (lockW mark)++(128::0::(List.replicate 36 0++[0,0,0,0,0,0,2,144])))))):=by
  unfold padM
  rw[hl,txB_first]
  simp only[List.append_assoc,List.cons_append,List.nil_append]
  rfl
 have hp:(padM (txB (firstM 50 h mark))).length=128:=by
  rw[e]
  simp only[List.length_cons,List.length_append,List.length_replicate,outV_len]
  rfl
 have ew:words (padM (txB (firstM 50 h mark)))=[0x01000000,0,0,0,0,0,0,0,0x00ffffff,be4 255 3 (UInt8.ofNat h) (UInt8.ofNat (h / 256)),be4 mark 1 50 0,0]++words (0::0::(outV (lockW mark)++(128::0::(List.replicate 36 0++[0,0,0,0,0,0,2,144])))):=by
  rw[e]
  rfl
 rw[txIdM,sha2_W,hp,ew,words_mixV]
 rfl
theorem packL_ln (n:Nat): ∀k,k+n≤1000000→∀i,i<n→ln (packL n k) i=k+i:=by
 induction n with
 | zero=>intro k _ i hi;omega
 | succ n ih=>
   intro k hk i hi
   rw[packL]
   cases i with
   | zero=>rw[ln_zero];omega
   | succ i=>
     rw[ln_succ,show(k+18446744073709551616*packL n (k+1)) / 2 ^ 64=packL n (k+1) by omega,ih (k+1) (by omega) i (by omega)]
     omega
theorem RL.const (k:Nat)(hk:k<4294967296):RL (k*oneL) fun _=>BitVec.ofNat 32 k:=(mulL k (by omega)).to fun i _=>by
 rw[BitVec.toNat_ofNat,Nat.mod_eq_of_lt (by omega)]
theorem RL.mix {X Y:Nat}{x y:Nat→BitVec 32}(hX:RL X x)(hY:RL Y y):RL (lmix maskL X Y) fun i=>mix (x i) (y i):=RL.masked fun i j hi hj=>by
 have h1:(X <<< 16).testBit (64*i+j)=(x i <<< 16).getLsbD j:=by
  rw[Nat.testBit_shiftLeft,BitVec.getLsbD_shiftLeft,decide_eq_true hj,Bool.true_and]
  by_cases hjr:j<16
  ·rw[decide_eq_true hjr]
   by_cases hge:64*i+j≥16
   ·obtain⟨k,rfl⟩: ∃k,i=k+1:=⟨i-1,by omega⟩
    rw[show 64*(k+1)+j-16=64*k+(48+j) by omega,hX.bit (by omega) (by omega),BitVec.getLsbD_of_ge _ _ (by omega)]
    simp
   ·rw[decide_eq_false hge];rfl
  ·rw[decide_eq_false hjr,decide_eq_true (show 64*i+j≥16 by omega),show 64*i+j-16=64*i+(j-16) by omega,hX.bit hi (by omega)]
   rfl
 rw[Nat.testBit_or,h1,lshr_bit hY hi hj (by omega),Ab.mix,BitVec.getLsbD_or]
theorem QL.mul {X:Nat}{f:Nat→Nat}(hX:QL X f): ∀k:Nat,(∀i,i<256→k*f i<2 ^ 64)→QL (k*X) fun i=>k*f i
 | 0,_=>fun i hi=>by
   show ln (0*X) i=0*f i
   rw[Nat.zero_mul,Nat.zero_mul,ln];simp
 | k+1,h=>by
   have ih:=QL.mul hX k fun i hi=>by
    have:=h i hi
    rw[Nat.add_mul]at this
    omega
   rw[Nat.add_mul,Nat.one_mul]
   refine(ih.add hX fun i hi=>?_).to fun i hi=>?_
   ·have:=h i hi
    rwa [Nat.add_mul,Nat.one_mul]at this
   ·rw[Nat.add_mul,Nat.one_mul]
theorem RS.to {s:LS}{v w:Nat→V8}(h:RS s v)(e: ∀i,v i=w i):RS s w:=by
 have:v=w:=funext e
 rwa [←this]
theorem lblk_to {s:LS}{v:Nat→V8}{r:List Nat}{w:List (Nat→BitVec 32)}(m:Nat→List (BitVec 32))(hs:RS s v)(hr:RW r w)(hl:16≤w.length)(e: ∀i,(w.map fun x=>x i).reverse=m i):
 RS (lblk maskL oneL s r) fun i=>blkW (v i) (m i):=(lblk_ok hs hr hl).to fun i=>by rw[e i]
theorem lIV_ok:RS (lIV oneL) fun _=>iv:=
 ⟨RL.const _ (by decide),RL.const _ (by decide),RL.const _ (by decide),RL.const _ (by decide),RL.const _ (by decide),RL.const _ (by decide),RL.const _ (by decide),RL.const _ (by decide)⟩
theorem lsec_ok {s:LS}{v:Nat→V8}(h:RS s v):RS (lsec maskL oneL (lIV oneL) s) fun i=>secW (v i):=
 lblk_to (fun i=>(v i).list++[0x80000000,0,0,0,0,0,0,256]) lIV_ok
  (.cons (RL.const 256 (by decide)) (.cons .zero (.cons .zero (.cons .zero (.cons .zero (.cons .zero (.cons .zero (.cons (RL.const 0x80000000 (by decide))
    (.cons h.h (.cons h.g (.cons h.f (.cons h.e (.cons h.d (.cons h.c (.cons h.b (.cons h.a .nil)))))))))))))))) (by simp) (fun i=>rfl)
theorem mk_word {mk c:Nat}{m:Nat→UInt8}(hm:QL mk fun i=>(m i).toNat)(hc:c<16777216){w:Nat→BitVec 32}(e: ∀i,(w i).toNat=16777216*(m i).toNat+c):RL (16777216*mk+c*oneL) w:=by
 refine(QL.add (hm.mul 16777216 fun i _=>?_) (mulL c (by omega)) fun i _=>?_).to fun i _=>(e i).symm
 ·have:=(m i).toNat_lt
  omega
 ·have:=(m i).toNat_lt
  omega
theorem llock_ok {mk:Nat}{m:Nat→UInt8}(hm:QL mk fun i=>(m i).toNat):RS (llock maskL oneL (lIV oneL) mk) fun i=>lockW (m i):=
 lblk_to (fun i=>[be4 (m i) 128 0 0,0,0,0,0,0,0,0,0,0,0,0,0,0,0,8]) lIV_ok
  (.cons (RL.const 8 (by decide)) (.cons .zero (.cons .zero (.cons .zero (.cons .zero (.cons .zero (.cons .zero (.cons .zero
    (.cons .zero (.cons .zero (.cons .zero (.cons .zero (.cons .zero (.cons .zero (.cons .zero (.cons (mk_word (w:=fun i=>be4 (m i) 128 0 0) hm (by decide) (fun i=>by rw[be4_nat];simp;omega)) .nil)))))))))))))))) (by simp) (fun i=>rfl)
theorem ltx_ok {mk h:Nat}{m:Nat→UInt8}(hm:QL mk fun i=>(m i).toNat){L:LS}(hL:RS L fun i=>lockW (m i))(hh:h<256):
  RS (ltx maskL oneL (lIV oneL) mk L h) fun i=>txW (UInt8.ofNat h) (UInt8.ofNat (h / 256)) (m i):=by
 rw[ltx,lbind_eq,lbind_eq]
 have h1:RL ((0xff030000+256*h)*oneL) fun _=>be4 255 3 (UInt8.ofNat h) (UInt8.ofNat (h / 256)):=by
  refine(mulL _ (by omega)).to fun i _=>?_
  rw[be4_nat,show h / 256=0 by omega]
  have e:(UInt8.ofNat h).toNat=h:=by simp;omega
  rw[e]
  simp
  omega
 have h2:RL (16777216*mk+0x13200*oneL) fun i=>be4 (m i) 1 50 0:=mk_word hm (by decide) fun i=>by rw[be4_nat];simp;omega
 have z:RL 0 fun _=>(0:BitVec 32):=.zero
 refine lsec_ok (lblk_to (v:=fun i=>blkW iv [0x01000000,0,0,0,0,0,0,0,0x00ffffff,be4 255 3 (UInt8.ofNat h) (UInt8.ofNat (h / 256)),be4 (m i) 1 50 0,0,mix 0 (lockW (m i)).a,mix (lockW (m i)).a (lockW (m i)).b,mix (lockW (m i)).b (lockW (m i)).c,mix (lockW (m i)).c (lockW (m i)).d])
  (fun i=>[mix (lockW (m i)).d (lockW (m i)).e,mix (lockW (m i)).e (lockW (m i)).f,mix (lockW (m i)).f (lockW (m i)).g,mix (lockW (m i)).g (lockW (m i)).h,mix (lockW (m i)).h 0x80000000,0,0,0,0,0,0,0,0,0,0,656]) ?_
  (.cons (RL.const 656 (by decide)) (.cons z (.cons z (.cons z (.cons z (.cons z (.cons z (.cons z (.cons z (.cons z (.cons z
    (.cons (hL.h.mix (RL.const 0x80000000 (by decide))) (.cons (hL.g.mix hL.h) (.cons (hL.f.mix hL.g) (.cons (hL.e.mix hL.f) (.cons (hL.d.mix hL.e) .nil)))))))))))))))) (by simp) (fun i=>rfl))
 exact lblk_to (fun i=>[0x01000000,0,0,0,0,0,0,0,0x00ffffff,be4 255 3 (UInt8.ofNat h) (UInt8.ofNat (h / 256)),be4 (m i) 1 50 0,0,mix 0 (lockW (m i)).a,mix (lockW (m i)).a (lockW (m i)).b,mix (lockW (m i)).b (lockW (m i)).c,mix (lockW (m i)).c (lockW (m i)).d]) lIV_ok
  (.cons (hL.c.mix hL.d) (.cons (hL.b.mix hL.c) (.cons (hL.a.mix hL.b) (.cons (z.mix hL.a) (.cons z (.cons h2 (.cons h1 (.cons (RL.const 0x00ffffff (by decide))
    (.cons z (.cons z (.cons z (.cons z (.cons z (.cons z (.cons z (.cons (RL.const 0x01000000 (by decide)) .nil)))))))))))))))) (by simp) (fun i=>rfl)
theorem bsw_nat (n:Nat):bsw (BitVec.ofNat 32 n)=BitVec.ofNat 32 (bswN n):=by
 apply BitVec.eq_of_toNat_eq
 have e: ∀y:BitVec 32,(UInt8.ofBitVec (y.setWidth 8)).toNat=y.toNat % 256:=fun y=>by
  rw[UInt8.toNat_ofBitVec,BitVec.toNat_setWidth]
 have e2: ∀(y:BitVec 32) (k:Nat),(y >>> k).toNat=y.toNat / 2 ^ k:=fun y k=>by
  rw[BitVec.toNat_ushiftRight,Nat.shiftRight_eq_div_pow]
 rw[bsw,be4_nat,bswN,e,e,e,e,e2,e2,e2,BitVec.toNat_ofNat,BitVec.toNat_ofNat]
 have b0:n % 2 ^ 32 % 256=n % 256:=by omega
 have b1:n % 2 ^ 32 / 2 ^ 8 % 256=n / 256 % 256:=by omega
 have b2:n % 2 ^ 32 / 2 ^ 16 % 256=n / 65536 % 256:=by omega
 have b3:n % 2 ^ 32 / 2 ^ 24 % 256=n / 16777216 % 256:=by omega
 rw[b0,b1,b2,b3]
 have h0:n % 256<256:=Nat.mod_lt _ (by decide)
 have h1:n / 256 % 256<256:=Nat.mod_lt _ (by decide)
 have h2:n / 65536 % 256<256:=Nat.mod_lt _ (by decide)
 have h3:n / 16777216 % 256<256:=Nat.mod_lt _ (by decide)
 generalize n % 256=x0 at *
 generalize n / 256 % 256=x1 at *
 generalize n / 65536 % 256=x2 at *
 generalize n / 16777216 % 256=x3 at *
 omega
theorem bswN_lt (n:Nat):bswN n<4294967296:=by
 unfold bswN
 omega
theorem lmid_ok {ver:Nat}(hv:ver<4294967296){A T:LS}{p t:Nat→V8}(hP:RS A p)(hT:RS T t):
  RS (lmid maskL oneL (lIV oneL) ver A T) fun i=>blkW iv (BitVec.ofNat 32 ver::((p i).list++[(t i).a,(t i).b,(t i).c,(t i).d,(t i).e,(t i).f,(t i).g])):=
 lblk_to (fun i=>BitVec.ofNat 32 ver::((p i).list++[(t i).a,(t i).b,(t i).c,(t i).d,(t i).e,(t i).f,(t i).g])) lIV_ok
  (.cons hT.g (.cons hT.f (.cons hT.e (.cons hT.d (.cons hT.c (.cons hT.b (.cons hT.a (.cons hP.h (.cons hP.g (.cons hP.f (.cons hP.e (.cons hP.d (.cons hP.c (.cons hP.b (.cons hP.a (.cons (RL.const ver hv) .nil)))))))))))))))) (by simp) (fun i=>rfl)
theorem lhdr_ok {time bits nonce th:Nat}(h1:time<4294967296)(h2:bits<4294967296)(h3:nonce<4294967296){mid:LS}{vm:Nat→V8}{q:Nat→BitVec 32}(hM:RS mid vm)(hq:RL th q):
  RS (lhdr maskL oneL (lIV oneL) mid th time bits nonce) fun i=>secW (blkW (vm i) [q i,BitVec.ofNat 32 time,BitVec.ofNat 32 bits,BitVec.ofNat 32 nonce,0x80000000,0,0,0,0,0,0,0,0,0,0,640]):=by
 rw[lhdr,lbind_eq]
 have z:RL 0 fun _=>(0:BitVec 32):=.zero
 exact lsec_ok (lblk_to (fun i=>[q i,BitVec.ofNat 32 time,BitVec.ofNat 32 bits,BitVec.ofNat 32 nonce,0x80000000,0,0,0,0,0,0,0,0,0,0,640]) hM
  (.cons (RL.const 640 (by decide)) (.cons z (.cons z (.cons z (.cons z (.cons z (.cons z (.cons z (.cons z (.cons z (.cons z (.cons (RL.const 0x80000000 (by decide))
    (.cons (RL.const nonce h3) (.cons (RL.const bits h2) (.cons (RL.const time h1) (.cons hq .nil)))))))))))))))) (by simp) (fun i=>rfl))
theorem lhdrW_ok {ver time bits nonce:Nat}{A T:LS}{p t:Nat→V8}(hP:RS A p)(hT:RS T t):
  RS (lhdr maskL oneL (lIV oneL) (lmid maskL oneL (lIV oneL) (bswN ver) A T) T.h (bswN time) (bswN bits) (bswN nonce)) fun i=>hdrW (BitVec.ofNat 32 ver) (BitVec.ofNat 32 time) (BitVec.ofNat 32 bits) (BitVec.ofNat 32 nonce) (p i) (t i):=
 (lhdr_ok (bswN_lt _) (bswN_lt _) (bswN_lt _) (lmid_ok (bswN_lt _) hP hT) hT.h).to fun i=>by
   rw[hdrW,bsw_nat,bsw_nat,bsw_nat,bsw_nat]
def FQ (X:Nat)(f:Nat→Bool):Prop:=QL X fun i=>(f i).toNat
theorem ln_or (X Y i:Nat):ln (X ||| Y) i=ln X i ||| ln Y i:=by
 rw[ln,Nat.shiftRight_or_distrib,Nat.or_mod_two_pow];rfl
theorem QL.or {X Y:Nat}{f g:Nat→Nat}(hX:QL X f)(hY:QL Y g):QL (X ||| Y) fun i=>f i ||| g i:=fun i hi=>by rw[ln_or,hX i hi,hY i hi]
theorem FQ.and {X Y:Nat}{f g:Nat→Bool}(hX:FQ X f)(hY:FQ Y g):FQ (X &&& Y) fun i=>f i&&g i:=(QL.and hX hY).to fun i _=>by
 show(f i).toNat &&& (g i).toNat=(f i&&g i).toNat
 cases f i<;>cases g i<;>rfl
theorem FQ.or {X Y:Nat}{f g:Nat→Bool}(hX:FQ X f)(hY:FQ Y g):FQ (X ||| Y) fun i=>f i||g i:=(QL.or hX hY).to fun i _=>by
 show(f i).toNat ||| (g i).toNat=(f i||g i).toNat
 cases f i<;>cases g i<;>rfl
theorem FQ.not {X:Nat}{f:Nat→Bool}(hX:FQ X f):FQ (oneL ^^^ X) fun i=>!f i:=(QL.xor oneL_ln hX).to fun i _=>by
 show 1 ^^^ (f i).toNat=(!f i).toNat
 cases f i<;>rfl
theorem FQ.bit {X:Nat}{f:Nat→Nat}(h:QL X f)(r:Nat)(hr:r<64){g:Nat→Bool}(e: ∀i,i<256→(f i).testBit r=g i):FQ ((X >>> r) &&& oneL) g:=fun i hi=>by
 show ln (X >>> r &&& oneL) i=(g i).toNat
 rw[ln_and,oneL_ln i hi,Nat.and_one_is_mod,←e i hi,←h i hi,ln_bit X i r hr]
 have h0:(ln (X >>> r) i).testBit 0=X.testBit (64*i+r):=by
  rw[ln_bit _ _ _ (by omega),Nat.testBit_shiftRight,Nat.add_zero,Nat.add_comm]
 rw[←h0,Nat.testBit_zero]
 by_cases h1:ln (X >>> r) i % 2=1
 ·rw[decide_eq_true h1,h1];rfl
 ·rw[decide_eq_false h1]
  show ln (X >>> r) i % 2=0
  omega
theorem FQ.all {X:Nat}{f:Nat→Bool}(h:FQ X f)(e:Nat.beq X oneL=true): ∀i,i<256→f i=true:=fun i hi=>by
 have e1:X=oneL:=Nat.eq_of_beq_eq_true e
 have h1:=h i hi
 rw[e1,oneL_ln i hi]at h1
 have h1:1=(f i).toNat:=h1
 cases hf:f i with
 | true=>rfl
 | false=>rw[hf]at h1;cases h1
theorem bit_high {n k:Nat}(h:n<2 ^ (k+1)):n.testBit k=decide (2 ^ k≤n):=by
 rw[Nat.testBit_eq_decide_div_mod_eq]
 have h2:n / 2 ^ k<2:=by
  rw[Nat.div_lt_iff_lt_mul (Nat.two_pow_pos _),Nat.mul_comm,←Nat.pow_succ]
  exact h
 by_cases hc:2 ^ k≤n
 ·have:1≤n / 2 ^ k:=(Nat.le_div_iff_mul_le (Nat.two_pow_pos _)).2 (by omega)
  rw[decide_eq_true hc,decide_eq_true (by omega)]
 ·have:n / 2 ^ k=0:=Nat.div_eq_of_lt (by omega)
  rw[decide_eq_false hc,this]
  rfl
theorem xor_zero {a b:Nat}(h:a ^^^ b=0):a=b:=by
 refine Nat.eq_of_testBit_eq fun j=>?_
 have:(a ^^^ b).testBit j=false:=by rw[h];exact Nat.zero_testBit j
 rw[Nat.testBit_xor]at this
 revert this
 cases a.testBit j<;>cases b.testBit j<;>simp
def nzB (x:BitVec 32):Bool:=decide (x.toNat % 16777216≠16777087)
theorem lnz_ok {X:Nat}{x:Nat→BitVec 32}(h:RL X x):FQ (lnz oneL X) fun i=>nzB (x i):=by
 have h1:=(QL.and h (mulL 0xffffff (by decide))).xor (mulL 0xffff7f (by decide))
 have hlt: ∀n:Nat,(n &&& 0xffffff) ^^^ 0xffff7f<16777216:=fun n=>
  Nat.xor_lt_two_pow (n:=24) (Nat.lt_of_le_of_lt Nat.and_le_right (by decide)) (by decide)
 have h2:=h1.add (mulL 0xffffff (by decide)) fun i _=>by
  have:=hlt (x i).toNat
  omega
 refine FQ.bit h2 24 (by decide) fun i _=>?_
 have h3:=hlt (x i).toNat
 rw[bit_high (by omega),nzB]
 have h4:(x i).toNat &&& 0xffffff=(x i).toNat % 16777216:=Nat.and_two_pow_sub_one_eq_mod _ 24
 apply decide_eq_decide.2
 constructor
 ·intro hc he
  rw[h4,he]at hc
  revert hc
  decide
 ·intro hn
  have:((x i).toNat &&& 0xffffff) ^^^ 0xffff7f≠0:=fun e=>hn (by rw[←h4];exact xor_zero e)
  omega
theorem top_ok {X:Nat}{f:Nat→Nat}(h:QL X f)(hf: ∀i,i<256→f i<4294967296):FQ (((X+maskL) >>> 32) &&& oneL) fun i=>decide (f i≠0):=by
 refine FQ.bit (h.add maskL_ln fun i hi=>?_) 32 (by decide) fun i hi=>?_
 ·have:=hf i hi
  omega
 ·have:=hf i hi
  rw[bit_high (by omega)]
  apply decide_eq_decide.2
  omega
theorem lsure_ok {nz A:Nat}{f:Nat→Bool}{a:Nat→BitVec 32}(hn:FQ nz f)(ha:RL A a)(e:lsure maskL oneL nz A=true): ∀i,i<256→(a i).toNat≠0∨f i=true:=fun i hi=>by
 have h1:=((top_ok ha fun i _=>(a i).isLt).or hn).all e i hi
 simpa using h1
theorem lunlike_ok {X Y:Nat}{x y:Nat→BitVec 32}(hx:RL X x)(hy:RL Y y)(e:lunlike maskL oneL X Y=true): ∀i,i<256→x i≠y i:=fun i hi he=>by
 have h1:=(top_ok (hx.xor hy) fun i _=>Nat.xor_lt_two_pow (n:=32) (x i).isLt (y i).isLt).all e i hi
 rw[he]at h1
 simp at h1
theorem pick1 {R H m:Nat}{r h:Nat→BitVec 32}{g:Nat→Bool}(hR:RL R r)(hH:RL H h)(hm:QL m fun i=>(g i).toNat*4294967295)(h0: ∀i,i<256→g i=true→r i=0):RL (R ||| (H &&& m)) fun i=>if g i=true then h i else r i:=by
 refine(hR.or (hH.and hm)).to fun i hi=>?_
 show(r i).toNat ||| ((h i).toNat &&& (g i).toNat*4294967295)=(if g i=true then h i else r i).toNat
 cases hg:g i with
 | true=>
   rw[h0 i hi hg,if_pos rfl]
   show 0 ||| ((h i).toNat &&& 4294967295)=_
   rw[Nat.zero_or,show(4294967295:Nat)=2 ^ 32-1 from rfl,Nat.and_two_pow_sub_one_eq_mod,Nat.mod_eq_of_lt (h i).isLt]
 | false=>
   rw[if_neg (by simp)]
   show(r i).toNat ||| ((h i).toNat &&& (0*4294967295))=_
   rw[Nat.zero_mul,Nat.and_zero,Nat.or_zero]
def v80:V8:=⟨0,0,0,0,0,0,0,0⟩
theorem lpick_ok {R H:LS}{m:Nat}{r h:Nat→V8}{g:Nat→Bool}(hR:RS R r)(hH:RS H h)(hm:FQ m g)(h0: ∀i,i<256→g i=true→r i=v80):RS (lpick R H (m*4294967295)) fun i=>if g i=true then h i else r i:=by
 have hm':QL (m*4294967295) fun i=>(g i).toNat*4294967295:=by
  rw[Nat.mul_comm]
  refine(QL.mul hm 4294967295 fun i _=>?_).to fun i _=>Nat.mul_comm _ _
  cases g i<;>decide
 have e:lpick R H (m*4294967295)=⟨R.a ||| (H.a &&& m*4294967295),R.b ||| (H.b &&& m*4294967295),R.c ||| (H.c &&& m*4294967295),R.d ||| (H.d &&& m*4294967295),R.e ||| (H.e &&& m*4294967295),R.f ||| (H.f &&& m*4294967295),R.g ||| (H.g &&& m*4294967295),R.h ||| (H.h &&& m*4294967295)⟩:=by
  simp only[lpick,frc_eq]
 rw[e]
 constructor
 ·exact(pick1 hR.a hH.a hm' fun i hi hg=>by rw[h0 i hi hg];rfl).to fun i _=>by dsimp only;split<;>rfl
 ·exact(pick1 hR.b hH.b hm' fun i hi hg=>by rw[h0 i hi hg];rfl).to fun i _=>by dsimp only;split<;>rfl
 ·exact(pick1 hR.c hH.c hm' fun i hi hg=>by rw[h0 i hi hg];rfl).to fun i _=>by dsimp only;split<;>rfl
 ·exact(pick1 hR.d hH.d hm' fun i hi hg=>by rw[h0 i hi hg];rfl).to fun i _=>by dsimp only;split<;>rfl
 ·exact(pick1 hR.e hH.e hm' fun i hi hg=>by rw[h0 i hi hg];rfl).to fun i _=>by dsimp only;split<;>rfl
 ·exact(pick1 hR.f hH.f hm' fun i hi hg=>by rw[h0 i hi hg];rfl).to fun i _=>by dsimp only;split<;>rfl
 ·exact(pick1 hR.g hH.g hm' fun i hi hg=>by rw[h0 i hi hg];rfl).to fun i _=>by dsimp only;split<;>rfl
 ·exact(pick1 hR.h hH.h hm' fun i hi hg=>by rw[h0 i hi hg];rfl).to fun i _=>by dsimp only;split<;>rfl
def AccW (v:V8):Prop:=nzB v.h=true∧v.h.toNat.testBit 7=false
def RejW (v:V8):Prop:=(v.a.toNat≠0∨nzB v.h=true)∧¬AccW v
def Fnd (f:Nat→V8)(N:Nat)(v:V8):Prop:=∃k,k<N∧f k=v∧AccW (f k)∧∀j,j<k→RejW (f j)
set_option maxRecDepth 100000 in
theorem lmine_succ (M O:Nat)(iv mid:LS)(th time bits n nonce D:Nat)(R:LS):lmine M O iv mid th time bits (n+1) nonce D R=
  cond (lsure M O (lnz O (lhdr M O iv mid th time bits (bswN nonce)).h) (lhdr M O iv mid th time bits (bswN nonce)).a)
   (cond (Nat.beq (D ||| ((lnz O (lhdr M O iv mid th time bits (bswN nonce)).h &&& (O ^^^ (((lhdr M O iv mid th time bits (bswN nonce)).h >>> 7) &&& O))) &&& (O ^^^ D))) O)
     (some (lpick R (lhdr M O iv mid th time bits (bswN nonce)) (((lnz O (lhdr M O iv mid th time bits (bswN nonce)).h &&& (O ^^^ (((lhdr M O iv mid th time bits (bswN nonce)).h >>> 7) &&& O))) &&& (O ^^^ D))*4294967295)))
     (lmine M O iv mid th time bits n (nonce+1) (D ||| ((lnz O (lhdr M O iv mid th time bits (bswN nonce)).h &&& (O ^^^ (((lhdr M O iv mid th time bits (bswN nonce)).h >>> 7) &&& O))) &&& (O ^^^ D))) (lpick R (lhdr M O iv mid th time bits (bswN nonce)) (((lnz O (lhdr M O iv mid th time bits (bswN nonce)).h &&& (O ^^^ (((lhdr M O iv mid th time bits (bswN nonce)).h >>> 7) &&& O))) &&& (O ^^^ D))*4294967295))))
   none:=by
 have e:lmine M O iv mid th time bits (n+1) nonce D R=lbind (lhdr M O iv mid th time bits (bswN nonce)) fun H=>
  frc (lnz O H.h) fun nz=>cond (lsure M O nz H.a)
   (frc ((nz &&& (O ^^^ ((H.h >>> 7) &&& O))) &&& (O ^^^ D)) fun new=>lbind (lpick R H (new*4294967295)) fun R'=>frc (D ||| new) fun D'=>
     cond (Nat.beq D' O) (some R') (frc (nonce+1) fun nonce'=>lmine M O iv mid th time bits n nonce' D' R'))
   none:=rfl
 refine e.trans ?_
 clear e
 generalize lmine M O iv mid th time bits n=K
 generalize lhdr M O iv mid th time bits (bswN nonce)=H
 rw[lbind_eq]
 rw[frc_eq]
 rw[frc_eq]
 rw[lbind_eq]
 rw[frc_eq]
 rw[frc_eq]
theorem lmine_ok {f:Nat→Nat→V8}{mid:LS}{th time bits:Nat}(hf: ∀k,RS (lhdr maskL oneL (lIV oneL) mid th time bits (bswN k)) fun i=>f i k):
  ∀(n nonce D:Nat) (R R':LS) (d:Nat→Bool) (r:Nat→V8),FQ D d→RS R r→(∀i,i<256→d i=true→Fnd (f i) nonce (r i))→(∀i,i<256→d i=false→r i=v80∧∀j,j<nonce→RejW (f i j))→
   lmine maskL oneL (lIV oneL) mid th time bits n nonce D R=some R'→∃r',RS R' r'∧∀i,i<256→Fnd (f i) (nonce+n) (r' i):=by
 intro n
 induction n with
 | zero=>
   intro nonce D R R' d r hD hR h1 h2 e
   have e0:lmine maskL oneL (lIV oneL) mid th time bits 0 nonce D R=none:=rfl
   rw[e0]at e
   exact absurd e (by simp)
 | succ n ih=>
   intro nonce D R R' d r hD hR h1 h2 e
   rw[lmine_succ]at e
   have hH:=hf nonce
   obtain⟨H,hHe⟩: ∃H,H=lhdr maskL oneL (lIV oneL) mid th time bits (bswN nonce):=⟨_,rfl⟩
   rw[←hHe]at e hH
   have hnz:=lnz_ok hH.h
   have h7:FQ ((H.h >>> 7) &&& oneL) fun i=>(f i nonce).h.toNat.testBit 7:=FQ.bit hH.h 7 (by decide) fun i _=>rfl
   have hnew:=(hnz.and h7.not).and hD.not
   obtain⟨new,hne⟩: ∃new,new=(lnz oneL H.h &&& (oneL ^^^ ((H.h >>> 7) &&& oneL))) &&& (oneL ^^^ D):=⟨_,rfl⟩
   rw[←hne]at e hnew
   obtain⟨g,hg⟩: ∃g:Nat→Bool,g=fun i=>(nzB (f i nonce).h&&!((f i nonce).h.toNat.testBit 7))&&!d i:=⟨_,rfl⟩
   rw[←hg]at hnew
   have hgi: ∀i,g i=true↔AccW (f i nonce)∧d i=false:=fun i=>by
    rw[hg,AccW]
    simp only[Bool.and_eq_true,Bool.not_eq_true']
   cases hs:lsure maskL oneL (lnz oneL H.h) H.a with
   | false=>rw[hs]at e;cases e
   | true=>
     rw[hs]at e
     simp only[cond_true]at e
     have hsu:=lsure_ok hnz hH.a hs
     have hpk:=lpick_ok hR hH hnew fun i hi hgt=>(h2 i hi ((hgi i).1 hgt).2).1
     have hD':=hD.or hnew
     obtain⟨r',hr'⟩: ∃r':Nat→V8,r'=fun i=>if g i=true then f i nonce else r i:=⟨_,rfl⟩
     rw[←hr']at hpk
     have hFnd: ∀i,i<256→(d i||g i)=true→Fnd (f i) (nonce+1) (r' i):=fun i hi hdg=>by
      rw[hr']
      cases hgv:g i with
      | true=>
        obtain⟨ha,hd⟩:=(hgi i).1 hgv
        exact⟨nonce,by omega,(if_pos hgv).symm,ha,(h2 i hi hd).2⟩
      | false=>
        rw[hgv,Bool.or_false]at hdg
        obtain⟨k,q1,q2,q3,q4⟩:=h1 i hi hdg
        exact⟨k,by omega,q2.trans (if_neg (by simp[hgv])).symm,q3,q4⟩
     cases hb:Nat.beq (D ||| new) oneL with
     | true=>
       rw[hb]at e
       simp only[cond_true,Option.some.injEq]at e
       subst e
       refine⟨r',hpk,fun i hi=>?_⟩
       obtain⟨k,q1,q2,q3,q4⟩:=hFnd i hi (hD'.all hb i hi)
       exact⟨k,by omega,q2,q3,q4⟩
     | false=>
       rw[hb]at e
       simp only[cond_false]at e
       obtain⟨r2,h3,h4⟩:=ih (nonce+1) _ _ R' _ r' hD' hpk hFnd (fun i hi hdg=>by
        rw[Bool.or_eq_false_iff]at hdg
        obtain⟨q1,q2⟩:=h2 i hi hdg.1
        refine⟨by rw[hr'];simp[hdg.2,q1],fun j hj=>?_⟩
        by_cases hjn:j<nonce
        ·exact q2 j hjn
        ·have:j=nonce:=by omega
         subst this
         refine⟨hsu i hi,fun ha=>?_⟩
         have:=(hgi i).2 ⟨ha,hdg.1⟩
         rw[hdg.2]at this
         cases this) e
       exact⟨r2,h3,fun i hi=>by
        have:=h4 i hi
        rwa [Nat.add_right_comm]at this⟩
theorem markL_nat:QL markL fun i=>(UInt8.ofNat i).toNat:=fun i hi=>by
 have:=packL_ln 256 0 (by omega) i hi
 rw[Nat.zero_add]at this
 refine this.trans ?_
 simp
 omega
def UpW (m:UInt8):Nat→V8→List V8→Prop
 | _,_,[]=>True
 | h,p,v::l=>Fnd (fun k=>hdrW (BitVec.ofNat 32 1) (BitVec.ofNat 32 (10*h)) (BitVec.ofNat 32 0x207fffff) (BitVec.ofNat 32 k) p (txW (UInt8.ofNat h) (UInt8.ofNat (h / 256)) m)) 40 v∧UpW m (h+1) v l
inductive RSs:List LS→List (Nat→V8)→Prop
 | nil:RSs [] []
 | cons {s:LS} {v:Nat→V8} {r:List LS} {w:List (Nat→V8)} (h:RS s v) (t:RSs r w):RSs (s::r) (v::w)
theorem lchain_succ (M O:Nat)(iv L:LS)(n h:Nat)(P:LS)(out:List LS):lchain M O iv L (n+1) h P out=
  Option.rec (motive:=fun _=>Option (List LS)) none (fun R=>lchain M O iv L n (h+1) R (R::out)) (lmine M O iv (lmid M O iv 16777216 P (ltx M O iv markL L h)) (ltx M O iv markL L h).h (bswN (10*h)) (bswN 0x207fffff) 40 0 0 lzero):=by
 have e:lchain M O iv L (n+1) h P out=lbind (ltx M O iv markL L h) fun T=>lbind (lmid M O iv 16777216 P T) fun mid=>
  Option.rec (motive:=fun _=>Option (List LS)) none (fun R=>frc (h+1) fun h'=>lchain M O iv L n h' R (R::out)) (lmine M O iv mid T.h (bswN (10*h)) (bswN 0x207fffff) 40 0 0 lzero):=rfl
 refine e.trans ?_
 clear e
 rw[lbind_eq,lbind_eq]
 cases lmine M O iv (lmid M O iv 16777216 P (ltx M O iv markL L h)) (ltx M O iv markL L h).h (bswN (10*h)) (bswN 0x207fffff) 40 0 0 lzero with
 | none=>rfl
 | some R=>exact frc_eq (h+1) fun h'=>lchain M O iv L n h' R (R::out)
theorem lchain_ok {L:LS}(hL:RS L fun i=>lockW (UInt8.ofNat i)): ∀(n h:Nat) (P:LS) (p:Nat→V8) (out R:List LS),h+n≤256→RS P p→lchain maskL oneL (lIV oneL) L n h P out=some R→
  ∃(new:List LS) (fs:List (Nat→V8)),R=new++out∧fs.length=n∧RSs new fs∧∀i,i<256→UpW (UInt8.ofNat i) h (p i) ((fs.map fun f=>f i).reverse):=by
 intro n
 induction n with
 | zero=>
   intro h P p out R hh hP e
   have e0:lchain maskL oneL (lIV oneL) L 0 h P out=some out:=rfl
   rw[e0]at e
   exact⟨[],[],(Option.some.inj e).symm,rfl,.nil,fun i _=>trivial⟩
 | succ n ih=>
   intro h P p out R hh hP e
   rw[lchain_succ]at e
   have hT:=ltx_ok (h:=h) markL_nat hL (by omega)
   have hf: ∀k,RS (lhdr maskL oneL (lIV oneL) (lmid maskL oneL (lIV oneL) 16777216 P (ltx maskL oneL (lIV oneL) markL L h)) (ltx maskL oneL (lIV oneL) markL L h).h (bswN (10*h)) (bswN 0x207fffff) (bswN k))
     fun i=>(fun i k=>hdrW (BitVec.ofNat 32 1) (BitVec.ofNat 32 (10*h)) (BitVec.ofNat 32 0x207fffff) (BitVec.ofNat 32 k) (p i) (txW (UInt8.ofNat h) (UInt8.ofNat (h / 256)) (UInt8.ofNat i))) i k:=fun k=>by
    have e1:bswN 1=16777216:=rfl
    rw[←e1]
    exact lhdrW_ok (ver:=1) hP hT
   cases hm:lmine maskL oneL (lIV oneL) (lmid maskL oneL (lIV oneL) 16777216 P (ltx maskL oneL (lIV oneL) markL L h)) (ltx maskL oneL (lIV oneL) markL L h).h (bswN (10*h)) (bswN 0x207fffff) 40 0 0 lzero with
   | none=>rw[hm]at e;cases e
   | some X=>
     rw[hm]at e
     have z:RL 0 fun _=>(0:BitVec 32):=.zero
     have hz:RS lzero fun _=>v80:=⟨z,z,z,z,z,z,z,z⟩
     have hd:FQ 0 fun _=>false:=fun i hi=>by simp[ln]
     obtain⟨x,hx,hF⟩:=lmine_ok hf 40 0 0 lzero X (fun _=>false) (fun _=>v80) hd hz (fun i _ h=>by cases h) (fun i _ _=>⟨rfl,fun j hj=>by omega⟩) hm
     obtain⟨new,fs,h1,h2,h3,h4⟩:=ih (h+1) X x (X::out) R (by omega) hx e
     refine⟨new++[X],fs++[x],by rw[h1];simp,by simp[h2],?_,fun i hi=>?_⟩
     ·clear h1 h2 h4 e
      induction h3 with
      | nil=>exact .cons hx .nil
      | cons h t ih=>exact .cons h ih
     ·rw[List.map_append,List.map_singleton,List.reverse_append,List.reverse_singleton,List.singleton_append]
      exact⟨hF i hi,h4 i hi⟩
def genW:V8:=hdrW (BitVec.ofNat 32 0) (BitVec.ofNat 32 0) (BitVec.ofNat 32 0x207fffff) (BitVec.ofNat 32 0) v80 (txW (UInt8.ofNat 0) (UInt8.ofNat (0 / 256)) 0)
theorem lgen_ok:RS (lgen maskL oneL (lIV oneL)) fun _=>genW:=by
 have hm:QL 0 fun _=>(0:UInt8).toNat:=fun i hi=>by simp[ln]
 have hT:=ltx_ok (h:=0) hm (llock_ok hm) (by omega)
 have z:RL 0 fun _=>(0:BitVec 32):=.zero
 have hz:RS lzero fun _=>v80:=⟨z,z,z,z,z,z,z,z⟩
 have:=lhdrW_ok (ver:=0) (time:=0) (bits:=0x207fffff) (nonce:=0) hz hT
 rw[lgen]
 simp only[lbind_eq]
 exact this
theorem lallN_ok {f:Nat→Bool}: ∀{l:List Nat},lallN f l=true→∀x∈l,f x=true
 | [],_,x,hx=>by cases hx
 | a::l,h,x,hx=>by
   have e:lallN f (a::l)=cond (f a) (lallN f l) false:=rfl
   rw[e]at h
   cases ha:f a with
   | false=>rw[ha]at h;cases h
   | true=>
     rw[ha]at h
     rcases List.mem_cons.1 hx with rfl | hx
     ·exact ha
     ·exact lallN_ok h x hx
theorem RW.of_mem: ∀{l:List Nat} {fs:List (Nat→BitVec 32)},RW l fs→∀f∈fs,∃x∈l,RL x f
 | _,_,.nil,f,hf=>by cases hf
 | _,_,.cons h t,f,hf=>by
   rcases List.mem_cons.1 hf with rfl | hf
   ·exact⟨_,List.mem_cons_self,h⟩
   ·obtain⟨x,hx,hr⟩:=t.of_mem f hf
    exact⟨x,List.mem_cons_of_mem _ hx,hr⟩
theorem luniqN_ok: ∀{l:List Nat} {fs:List (Nat→BitVec 32)},RW l fs→luniqN maskL oneL l=true→∀i,i<256→(fs.map fun f=>f i).Pairwise (· ≠ ·)
 | _,_,.nil,_,i,hi=>.nil
 | _,_,.cons (X:=s) (x:=v) (r:=r) (w:=w) h t,e,i,hi=>by
   have e1:luniqN maskL oneL (s::r)=cond (lallN (fun b=>lunlike maskL oneL s b) r) (luniqN maskL oneL r) false:=rfl
   rw[e1]at e
   cases ha:lallN (fun b=>lunlike maskL oneL s b) r with
   | false=>rw[ha]at e;cases e
   | true=>
     rw[ha]at e
     rw[List.map_cons,List.pairwise_cons]
     refine⟨fun a hm=>?_,luniqN_ok t e i hi⟩
     obtain⟨f,hf,rfl⟩:=List.mem_map.1 hm
     obtain⟨x,hx,hr⟩:=t.of_mem f hf
     exact lunlike_ok h hr (lallN_ok ha x hx) i hi
theorem RSs.first: ∀{l:List LS} {fs:List (Nat→V8)},RSs l fs→RW (l.map (·.a)) (fs.map fun f i=>(f i).a)
 | _,_,.nil=>.nil
 | _,_,.cons h t=>.cons h.a t.first
noncomputable def lfsts (z:List Nat)(l:List LS):List Nat:=List.rec (motive:=fun _=>List Nat) z (fun s _ ih=>s.a::ih) l
noncomputable def lfewU (n h:Nat):Bool:=
 frc oneL fun O=>frc (4294967295*O) fun M=>lbind (lIV O) fun iv=>lbind (llock M O iv markL) fun L=>lbind (lgen M O iv) fun P=>
 Option.rec (motive:=fun _=>Bool) false (fun l=>luniqN M O (lfsts [P.a,0] l)) (lchain M O iv L n h P [])
set_option maxRecDepth 100000 in
theorem lfewU_true:lfewU 2 1=true:=by decide+kernel
theorem lfsts_eq (z:List Nat): ∀l:List LS,lfsts z l=l.map (·.a)++z
 | []=>rfl
 | s::l=>by
   have e:lfsts z (s::l)=s.a::lfsts z l:=rfl
   rw[e,lfsts_eq z l]
   rfl
theorem lfewU_eq (n h:Nat):lfewU n h=Option.rec (motive:=fun _=>Bool) false (fun l=>luniqN maskL oneL (lfsts [(lgen maskL oneL (lIV oneL)).a,0] l)) (lchain maskL oneL (lIV oneL) (llock maskL oneL (lIV oneL) markL) n h (lgen maskL oneL (lIV oneL)) []):=by
 unfold lfewU
 simp only[lbind_eq,frc_eq]
 rfl
theorem names_few (m:UInt8): ∃l:List V8,l.length=2∧UpW m 1 genW l∧(0::genW.a::l.map (·.a)).Pairwise (· ≠ ·):=by
 have hU:=lfewU_true
 rw[lfewU_eq]at hU
 have hi:=m.toNat_lt
 have hm:UInt8.ofNat m.toNat=m:=by simp
 cases hc:lchain maskL oneL (lIV oneL) (llock maskL oneL (lIV oneL) markL) 2 1 (lgen maskL oneL (lIV oneL)) []with
 | none=>rw[hc]at hU;cases hU
 | some R=>
   rw[hc]at hU
   have hU:luniqN maskL oneL (lfsts [(lgen maskL oneL (lIV oneL)).a,0] R)=true:=hU
   obtain⟨new,fs,k1,k2,k3,k4⟩:=lchain_ok (llock_ok markL_nat) 2 1 _ _ _ R (by omega) lgen_ok hc
   rw[List.append_nil]at k1
   subst k1
   rw[lfsts_eq]at hU
   have z:RL 0 fun _=>(0:BitVec 32):=.zero
   have hw:RW _ _:=k3.first.app (.cons lgen_ok.a (.cons z .nil))
   have hp:=luniqN_ok hw hU m.toNat hi
   have u:=k4 m.toNat hi
   rw[hm]at u
   refine⟨_,?_,u,?_⟩
   ·simp only[List.length_reverse,List.length_map]
    exact k2
   ·have h9:=List.pairwise_reverse.2 (List.Pairwise.imp (S:=fun a b=>b≠a) (fun h=>Ne.symm h) hp)
    have e9: ∀(l1:List (Nat→V8)) (i:Nat),(((l1.map fun(f:Nat→V8) (i:Nat)=>(f i).a)++[fun _=>genW.a,fun _=>0]).map fun(f:Nat→BitVec 32)=>f i).reverse=
      0::genW.a::((l1.map fun(f:Nat→V8)=>f i).reverse).map (·.a):=fun l1 i=>by
     simp[Function.comp_def]
    rw[e9]at h9
    exact h9
end Go.Ab
namespace Go.Ab
open Go Go.RowKit
def easyB:W32:=545259519#32
def easyR:Rl:=⟨easyB,0,10,50,0,{hdr0 with bits:=easyB},.sl .nil [] 0⟩
set_option maxRecDepth 10000
theorem mineN_some {h:Hdr}{limit:W32}{n:Nat}{x:Hdr}(e:mineN h limit n=some x):x.ver=h.ver∧x.prev=h.prev∧x.root=h.root∧x.time=h.time∧x.bits=h.bits∧provedN x limit=0:=by
 induction n generalizing h with
 | zero=>cases e
 | succ n ih=>
   unfold mineN at e
   split at e
   ·cases e
    rename_i hp
    exact⟨rfl,rfl,rfl,rfl,rfl,hp⟩
   ·exact ih (h:={h with nonce:=h.nonce+1}) e
theorem newM_wf (r:Rl):Wf (newM r):=by
 refine⟨by simp[newM],fun x h=>?_,fun i x h0 h=>?_,fun i x h0 h=>?_⟩
 ·simp[newM]at h;rw[←h];exact⟨rfl,rfl⟩
 ·have:=(List.getElem?_eq_some_iff.1 h).1
  simp[newM]at this;omega
 ·have:=(List.getElem?_eq_some_iff.1 h).1
  simp[newM]at this;omega
theorem ndOf_wf {l:List Nd}(w:Wf l){h:Hdr}{p:Nat}(hp:p<l.length):Wf (l++[ndOf l h p]):=w.push hp rfl rfl rfl
theorem addM_cases (r:Rl)(l:List Nd)(h:Hdr)(now:Int):(addM r l h now).1=l∧(addM r l h now).2.2≠0∨∃p,findM l h.prev=some p∧findM l (hId h)=none∧fitsM r l h p now=0∧l.length≠16384∧addM r l h now=(l++[ndOf l h p],(l.length:Int),0):=by
 unfold addM
 cases h1:findM l (hId h)with
 | some i=>exact .inl ⟨rfl,by simp⟩
 | none=>
   cases h2:findM l h.prev with
   | none=>exact .inl ⟨rfl,by simp⟩
   | some p=>
     dsimp only
     by_cases h3:fitsM r l h p now≠0
     ·rw[if_pos h3];exact .inl ⟨rfl,h3⟩
     ·rw[if_neg h3]
      by_cases h4:l.length=16384
      ·rw[if_pos h4];exact .inl ⟨rfl,by simp⟩
      ·rw[if_neg h4]
       exact .inr ⟨p,rfl,rfl,by simpa using h3,h4,rfl⟩
theorem addM_ok {r:Rl}{l:List Nd}{h:Hdr}{now:Int}{p:Nat}(h1:findM l (hId h)=none)(h2:findM l h.prev=some p)(h3:fitsM r l h p now=0)(h4:l.length≠16384):addM r l h now=(l++[ndOf l h p],(l.length:Int),0):=by
 simp only[addM,h1,h2,h3,h4,if_false,ne_eq,not_true_eq_false]
theorem addM_twice {r:Rl}{l:List Nd}{h:Hdr}{now:Int}{i:Nat}(h1:findM l (hId h)=some i):addM r l h now=(l,(i:Int),5):=by
 simp only[addM,h1]
theorem addM_wf {r:Rl}{l:List Nd}(w:Wf l)(hl:l.length≤16384)(h:Hdr)(now:Int):Wf (addM r l h now).1∧(addM r l h now).1.length≤16384:=by
 rcases addM_cases r l h now with⟨e,_⟩ | ⟨p,h1,_,_,h2,e⟩
 ·rw[e];exact⟨w,hl⟩
 ·rw[e]
  exact⟨ndOf_wf w (findM_lt h1),by simp;omega⟩
theorem median_one {l:List Nd}{i:Nat}(h:timesM l 11 i=[(nd l i).hdr.time]):medianM l i=(nd l i).hdr.time:=by
 unfold medianM middle32 sorted32
 rw[h]
 simp
theorem hspl_ver (h:Hdr)(x:W32):spliceV (eHdr h) 0 [w32 x]=eHdr {h with ver:=x}:=rfl
theorem hspl_prev (h:Hdr)(p:Id):spliceV (eHdr h) 1 (eId p)=eHdr {h with prev:=p}:=by
 have e: ∀g:Hdr,eHdr g=[w32 g.ver]++(eId g.prev++(eId g.root++[w32 g.time,w32 g.bits,w32 g.nonce])):=fun g=>rfl
 rw[e,show 1=1+0 from rfl,splice_right (n:=1) rfl]
 unfold spliceV
 rw[List.take_zero,List.nil_append,Nat.zero_add,show(eId p).length=(eId h.prev).length by rw[eId_len,eId_len],List.drop_left];rfl
def eHpre65 (h:Hdr):List V:=w32 h.ver::(eId h.prev++eId h.root)
theorem eHpre65_len (h:Hdr):(eHpre65 h).length=65:=by simp[eHpre65,eId_len]
theorem eHdr_pre65 (h:Hdr):eHdr h=eHpre65 h++[w32 h.time,w32 h.bits,w32 h.nonce]:=by simp[eHdr,eHpre65]
theorem hspl_time (h:Hdr)(x:W32):spliceV (eHdr h) 65 [w32 x]=eHdr {h with time:=x}:=by
 rw[eHdr_pre65,show 65=65+0 from rfl,splice_right (eHpre65_len _),eHdr_pre65];rfl
theorem hspl_bits (h:Hdr)(x:W32):spliceV (eHdr h) 66 [w32 x]=eHdr {h with bits:=x}:=by
 rw[eHdr_pre65,show 66=65+1 from rfl,splice_right (eHpre65_len _),eHdr_pre65];rfl
theorem build_h4 (v:W32)(p:Id)(t b:W32):fillV (eHdr hdr0) [(0,1,w32 v),(1,32,.agg (eId p)),(65,1,w32 t),(66,1,w32 b)]=some (eHdr {hdr0 with ver:=v,prev:=p,time:=t,bits:=b}):=by
 simp[fillV,eHdr_len,eId_len,hspl_ver,hspl_prev,hspl_time,hspl_bits]
section
variable {P:Program} {F:Fn} {tid:Nat} {r:Rl} {l:List Nd} {L:List Asn} {st:St}
theorem fldV_agg (ag:Bool)(o s:Nat)(cs:List V):fldV ag o s (.agg cs)=(segOf cs o s).bind (packV ag):=rfl
theorem osegHdr (x:Nd):segOf (eNd x) 0 68=some (eHdr x.hdr):=seg_of_take (nsegHdr x) (by rw[eNd_len];omega)
def gen0:Nd:=⟨easyR.gen,hId easyR.gen,-1,0,0,workN ((tgt easyB).getD 0),false⟩
theorem easy_next {l:List Nd}{i:Nat}:nextM easyR l i=(nd l i).hdr.bits:=by simp[nextM,easyR]
end
def preM (r:Rl)(prev:Hdr)(txs:List Tx1):Hdr:=
 ⟨1,hId prev,(rootM (rowsIds txs)).1,prev.time+BitVec.ofInt 32 r.spacing,prev.bits,0⟩
def moreK (more:List Tx1):SK:=if more=[]then .full else .some
def growR (r:Rl)(prev:Hdr)(h:Nat)(mark:UInt8)(more:List Tx1):Hdr×Bool:=
 match mineN (preM r prev (firstM r.subsidy h mark::more)) r.limit 4096 with
 | some x=>(x,true)
 | none=>(hdr0,false)
def growB (r:Rl)(prev:Hdr)(h:Nat)(mark:UInt8)(more:List Tx1):Blk1:=
 ⟨(growR r prev h mark more).1,moreK more,firstM r.subsidy h mark::more⟩
theorem appz_more {t:Tx1}{more:List Tx1}{st:St}{K:V→St→Prop}(hm:more.length≤900)(h:K (txsV (moreK more) (t::more)) st):appzS 2 48 (.sl .full (eTx t) 1) (some (rowsOf eTx more,more.length)) st K:=by
 refine⟨.inr rfl,rfl,by omega,?_,?_⟩
 ·intro h0
  have:more=[]:=List.length_eq_zero_iff.1 h0
  subst this
  simpa[txsV,moreK]using h
 ·intro h0
  have h1:more≠[]:=fun e=>h0 (by rw[e];rfl)
  have e:txsV (moreK more) (t::more)=.sl .some (eTx t++rowsOf eTx more) (1+more.length):=by
   rw[txsV,moreK,if_neg h1,rowsOf_cons,List.length_cons]
   congr 1
   omega
  rwa [e]at h
theorem blkFill1 (k:SK)(l:List Tx1):fillV z69_adc1 [(68,1,txsV k l)]=some (eBlk ⟨hdr0,k,l⟩):=by
 have:=blkFill hdr0 k l
 simp only[fillV]at this⊢
 have hc1:(V.agg (eHdr hdr0)).cells? =some (eHdr hdr0):=rfl
 rw[hc1]at this
 simp only[]at this
 rw[if_pos ⟨eHdr_len _,by rw[z69_adc1_len];omega⟩]at this
 have e1:z69_adc1=eBlk ⟨hdr0,.nil,[]⟩:=rfl
 rw[e1,bsplH]at this
 exact this
theorem growR_eq (r:Rl)(prev:Hdr)(h:Nat)(mark:UInt8)(more:List Tx1):mineR (preM r prev (firstM r.subsidy h mark::more)) r.limit 4096=.tup [.agg (eHdr (growR r prev h mark more).1),.bool (growR r prev h mark more).2]:=by
 rw[mineR,growR]
 cases mineN (preM r prev (firstM r.subsidy h mark::more)) r.limit 4096<;>rfl
section
variable {P:Program} {F:Fn}
set_option maxHeartbeats 4000000 in
theorem spec189 (ok:OkHonest P F)(st:St)(r:Rl)(prev:Hdr)(h:Nat)(hh:h≤100000)(mark:UInt8)(k:SK)(more:List Tx1)(hm:more.length≤900)(hmo: ∀t∈more,t.ok 100):
  ACalls P (F 189) [.agg (eRl r),.agg (eHdr prev),.int .i64 (h:Int),w8 mark,txsV k more] st fun v st'=>v=.tup [.agg (eBlk (growB r prev h mark more)),.bool (growR r prev h mark more).2]∧st'=st:=by
 refine shows_call ok.mixed ok.h189 (by simp[k189]) ?_
 simp only[k189]
 simp
 intro i5 h5
 have S:=(Sep.start st).new h5 (.cells (eRl r))
 generalize st.upd i5 _=st1 at S⊢
 simp
 intro i6 h6
 have S:=S.new h6 (.cells (eHdr prev))
 generalize st1.upd i6 _=st2 at S⊢
 simp
 intro i10 h10
 have S:=S.new h10 (.cells z69_adc1)
 generalize st2.upd i10 _=st3 at S⊢
 have o5:=S.mem (i:=i5) (o:=.cells (eRl r)) (by simp)
 have hsg:segOf (eRl r) 0 74=some (eRl r):=by simp[segOf,eRl_len,List.take_of_length_le]
 simp[St.seg,o5,hsg]
 refine(spec191 ok st3 r h hh mark).mono ?_
 rintro v st3 ⟨rfl,rfl⟩
 obtain⟨t,ht⟩: ∃t,t=firstM r.subsidy h mark:=⟨_,rfl⟩
 have htk:t.ok 100:=by rw[ht];exact firstM_ok _ _ _
 rw[←ht]
 have hft:fillV (repV [V.sl SK.nil [] 0,V.sl SK.nil [] 0] 1) [(0,2,.agg (eTx t))]=some (eTx t):=rfl
 have hel:elems st3 2 (txsV k more)=some (rowsOf eTx more,more.length):=Rd.elems eTx_len (.inl ⟨k,rfl⟩)
 simp[hft,hel]
 refine appz_more hm ?_
 obtain⟨b0,hb0⟩: ∃b0:Blk1,b0=⟨hdr0,moreK more,t::more⟩:=⟨_,rfl⟩
 have hfb:=blkFill1 (moreK more) (t::more)
 rw[←hb0]at hfb
 simp[hfb]
 intro i12 h12
 have S:=S.new h12 (.cells z69_adc1)
 have hst:=store_pt (sz:=69) (o:=0) S.get (v:=.agg (eBlk b0)) (vs:=eBlk b0) rfl (eBlk_len b0) (by simp)
 rw[show spliceV z69_adc1 0 (eBlk b0)=eBlk b0 by simp[spliceV,eBlk_len]]at hst
 have S:=S.set (.cells (eBlk b0))
 simp[hst]at S⊢
 generalize st3.upd i12 (.cells (eBlk b0))=st4 at S⊢
 have o5:=S.mem (i:=i5) (o:=.cells (eRl r)) (by simp)
 have o6:=S.mem (i:=i6) (o:=.cells (eHdr prev)) (by simp)
 simp[St.seg,o5,o6,hsegAll]
 refine⟨_,spec141 ok.toOkTx.toOkHead st4 prev,?_⟩
 obtain⟨p,hp⟩: ∃p,p=hId prev:=⟨_,rfl⟩
 obtain⟨tm,htm⟩: ∃tm,tm=prev.time+BitVec.ofInt 32 r.spacing:=⟨_,rfl⟩
 have hfh:fillV z68_39b1 [(0,1,w32 1#32),(1,32,.agg (eId p)),(65,1,w32 tm),(66,1,w32 prev.bits)]=some (eHdr ⟨1,p,id0,tm,prev.bits,0⟩):=by
  rw[z68_eq,build_h4];rfl
 rw[←hp]
 simp[St.seg,o5,o6,hsegTime,hsegBits,rsegSpacing,←htm,hfh]
 have hst:=store_pt (sz:=68) (o:=0) S.get (v:=.agg (eHdr ⟨1#32,p,id0,tm,prev.bits,0#32⟩)) (vs:=eHdr ⟨1#32,p,id0,tm,prev.bits,0#32⟩) rfl (eHdr_len _) (by rw[eBlk_len];omega)
 rw[bsplH]at hst
 obtain⟨b1,hb1⟩: ∃b1:Blk1,b1={b0 with hdr:=⟨1#32,p,id0,tm,prev.bits,0#32⟩}:=⟨_,rfl⟩
 rw[←hb1]at hst
 have S:=S.set (.cells (eBlk b1))
 simp[hst]
 generalize st4.upd i12 (.cells (eBlk b1))=st5 at S⊢
 have o12:=S.get
 have et:txsV b1.tk b1.txs=txsV (moreK more) (t::more):=by rw[hb1,hb0]
 have hsT:=bsegT b1
 rw[et]at hsT
 simp[St.seg,o12,hsT]
 refine(spec192 ok.toOkTx st5 (s:=txsV (moreK more) (t::more)) (l:=t::more) (.inl ⟨_,rfl⟩) (by simp;omega) (by
  intro x hx
  rcases List.mem_cons.1 hx with rfl | hx
  ·exact htk
  ·exact hmo x hx)).mono ?_
 rintro v st5 ⟨rfl,rfl⟩
 obtain⟨rt,hrt⟩: ∃rt,rt=(rootM (rowsIds (t::more))).1:=⟨_,rfl⟩
 rw[←hrt]
 have hst:=store_pt (sz:=32) (o:=33) S.get (v:=.agg (eId rt)) (vs:=eId rt) rfl (eId_len _) (by rw[eBlk_len];omega)
 rw[bsplRoot]at hst
 obtain⟨b2,hb2⟩: ∃b2:Blk1,b2={b1 with hdr:={b1.hdr with root:=rt}}:=⟨_,rfl⟩
 rw[←hb2]at hst
 have S:=S.set (.cells (eBlk b2))
 simp[hst]
 generalize st5.upd i12 (.cells (eBlk b2))=st6 at S⊢
 have o12:=S.get
 have o5:=S.mem (i:=i5) (o:=.cells (eRl r)) (by simp)
 have hpre:b2.hdr=preM r prev (t::more):=by rw[hb2,hb1,hrt,htm,hp];rfl
 have hsH:=bsegH b2
 simp[St.seg,o12,o5,hsH,rsegLimit]
 refine(spec143 ok.toOkTx.toOkHead st6 b2.hdr r.limit 4096).mono ?_
 rintro v st6 ⟨rfl,rfl⟩
 have hge:=growR_eq r prev h mark more
 rw[←ht]at hge
 rw[show(max 0 (min (4096:Int) 65536)).toNat=4096 from rfl,hpre,hge]
 obtain⟨g,hg⟩: ∃g,g=growR r prev h mark more:=⟨_,rfl⟩
 rw[←hg]
 simp
 intro i13 h13
 have S:=S.new h13 (.cells z68_39b1)
 have hst:=store_pt (sz:=68) (o:=0) S.get (v:=.agg (eHdr g.1)) (vs:=eHdr g.1) rfl (eHdr_len _) (by simp)
 rw[z68_eq,splice_hdr,←z68_eq]at hst
 have S:=S.set (.cells (eHdr g.1))
 simp[hst]at S⊢
 generalize st6.upd i13 (.cells (eHdr g.1))=st7 at S⊢
 have o13:=S.get
 have hst:=store_pt (sz:=68) (o:=0) (S.mem (i:=i12) (o:=.cells (eBlk b2)) (by simp)) (v:=.agg (eHdr g.1)) (vs:=eHdr g.1) rfl (eHdr_len _) (by rw[eBlk_len];omega)
 rw[bsplH]at hst
 obtain⟨b3,hb3⟩: ∃b3:Blk1,b3={b2 with hdr:=g.1}:=⟨_,rfl⟩
 rw[←hb3]at hst
 have S:=S.setAt (.cells (eBlk b3)) 1 rfl
 simp only[List.set_cons_succ,List.set_cons_zero]at S
 simp[St.seg,o13,hsegAll,hst]
 generalize st7.upd i12 (.cells (eBlk b3))=st8 at S⊢
 have o12:=S.mem (i:=i12) (o:=.cells (eBlk b3)) (by simp)
 have hst:=store_pt (sz:=69) (o:=0) (S.mem (i:=i10) (o:=.cells z69_adc1) (by simp)) (v:=.agg (eBlk b3)) (vs:=eBlk b3) rfl (eBlk_len b3) (by simp)
 rw[show spliceV z69_adc1 0 (eBlk b3)=eBlk b3 by simp[spliceV,eBlk_len]]at hst
 have S:=S.setAt (.cells (eBlk b3)) 2 rfl
 have he:b3=growB r prev h mark more:=by rw[hb3,hb2,hb1,hb0,hg,ht];rfl
 simp[St.seg,o12,bsegAll,hst]
 exact⟨S.was' (st0:=st) (by simp),by rw[he]⟩
end
section
variable {α:Type} {f:α→List V} {sz:Nat}
def Slv (sz:Nat)(f:α→List V)(s:V)(l:List α):Asn:=fun h=>
 (∃k,(k=.nil∨k=.full)∧s=.sl k (rowsOf f l) l.length)∨∃sid,s=.hsl sid 0 sz l.length∧h sid=some (.cells (rowsOf f l))
theorem Sep.slvPut {L:List Asn}{st:St}(h:Sep L st)(l:List α):Sep (Slv sz f (.sl .full (rowsOf f l) l.length) l::L) st:=h.put (.inl ⟨.full,.inr rfl,rfl⟩)
theorem Sep.slvRd (hf: ∀a,(f a).length=sz){s:V}{l:List α}{L:List Asn}{st:St}(h:Sep (Slv sz f s l::L) st):Rd sz f s l st:=by
 obtain⟨h',h1,h2⟩:=h.part
 rcases h2 with⟨k,_,hk⟩ | ⟨sid,hs,hc⟩
 ·exact .inl ⟨k,hk⟩
 ·refine .inr ⟨sid,0,hs,?_⟩
  have:=h1 _ _ hc
  have hl:=rowsOf_length hf l
  simp only[St.seg,this]
  simp[segOf,←hl]
theorem Sep.appv (hf: ∀a,(f a).length=sz)(hsz:0<sz){s:V}{l:List α}{L:List Asn}{st:St}(h:Sep (Slv sz f s l::L) st){b:Nat}(m:List α){ys:List V}{n:Nat}(hys:ys=rowsOf f m)(hn:n=m.length)(hb:(l.length+n)*b≤140737488355328){K:V→St→Prop}
  (hK: ∀s' st',Sep (Slv sz f s' (l++m)::L) st'→K s' st'):appS sz b s (some (ys,n)) st K:=by
 subst hys
 subst hn
 have h0:=h
 obtain⟨a0,r,h1,h2,h3,h4⟩:=h
 have hl:=rowsOf_length hf l
 have hm:=rowsOf_length hf m
 rcases h3 with⟨k,hk,rfl⟩ | ⟨sid,rfl,h5⟩
 ·refine⟨hk,hl,hb,?_,?_⟩
  ·intro h0'
   have:m=[]:=List.length_eq_zero_iff.1 h0'
   subst this
   exact hK _ _ (by simpa using h0)
  ·intro h0' id hid
   refine hK _ _ ?_
   have hsub:St.sub r st:=sub_trans (sub_right h1) h2
   have:=(h4.sub hsub).new hid (.cells (rowsOf f l++rowsOf f m))
   exact this.head fun h hh=>.inr ⟨id,by simp,hh.trans (by simp)⟩
 ·refine Sep.appx hf hsz (l:=l) (L:=L) ⟨a0,r,h1,h2,.inr ⟨sid,rfl,h5⟩,h4⟩ hb ?_
  intro s' st' S
  refine hK _ _ (S.head fun h hh=>?_)
  rcases hh with⟨hs,he⟩ | hh
  ·rw[he]
   rcases hs with rfl | rfl
   ·exact .inl ⟨.nil,.inl rfl,rfl⟩
   ·exact .inl ⟨.full,.inr rfl,rfl⟩
  ·exact .inr hh
theorem Sep.frzSv (hf: ∀a,(f a).length=sz){s:V}{l:List α}{L:List Asn}{st:St}(h:Sep (Slv sz f s l::L) st):
  ∃k st',frzV st s=some (.sl k (rowsOf f l) l.length,st')∧Sep L st':=by
 have h0:=h
 obtain⟨a,r,h1,h2,h3,h4⟩:=h
 rcases h3 with⟨k,hk,rfl⟩ | ⟨sid,rfl,h5⟩
 ·exact⟨k,st,by rcases hk with rfl | rfl<;>rfl,h0.drop⟩
 ·obtain⟨k,st',e,S,_⟩:=Sep.frzSl hf (s:=.hsl sid 0 sz l.length) (l:=l) (L:=L) ⟨a,r,h1,h2,.inr ⟨sid,[],rfl,by rw[h5,List.append_nil],by simp⟩,h4⟩
  exact⟨k,st',e,S⟩
end
def lastH (out:List Blk1):Hdr:=match out.getLast? with | some b=>b.hdr | none=>hdr0
def chainGo (r:Rl)(mark:UInt8):Nat→Nat→List Blk1→List Blk1
 | 0,_,out=>out
 | n+1,h,out=>if(growR r (lastH out) h mark []).2=true then chainGo r mark n (h+1) (out++[growB r (lastH out) h mark []])else out
def chainM (r:Rl)(g:Blk1)(n:Int)(mark:UInt8):List Blk1:=chainGo r mark n.toNat 1 [g]
theorem lastH_at {out:List Blk1}{i:Nat}(h:i<out.length)(he:i+1=out.length):lastH out=out[i].hdr:=by
 unfold lastH
 rw[List.getLast?_eq_getElem?]
 have:out.length-1=i:=by omega
 rw[this,List.getElem?_eq_getElem h]
section
variable {P:Program} {F:Fn}
theorem fldP_zero {s:V}{i sz:Nat}(h:fldAV 0 (rowP sz s i)=some (rowP sz s i)):fldP 0 (rowP sz s i)=rowP sz s i:=by
 rw[fldP,h];rfl
set_option maxHeartbeats 4000000 in
theorem spec188 (ok:OkHonest P F)(st:St)(r:Rl)(g:Blk1)(hg:r.gen=g.hdr)(ht:r.txs=txsV g.tk g.txs)(n:Int)(hn:n≤1000)(mark:UInt8):
  ACalls P (F 188) [.agg (eRl r),.int .i64 n,w8 mark] st fun v st'=>(∃k,v=.sl k (rowsOf eBlk (chainM r g n mark)) (chainM r g n mark).length)∧st'=st:=by
 refine shows_call ok.mixed ok.h188 (by simp[k188]) ?_
 simp only[k188]
 simp
 intro i3 h3
 have S:=(Sep.start st).new h3 (.cells (eRl r))
 generalize st.upd i3 _=st1 at S⊢
 have o3:=S.get
 have hsg:segOf (eRl r) 5 69=some (eBlk g):=seg_of_drop (zs:=[]) (by rw[List.append_nil,eBlk,←ht,←hg];rfl) (eBlk_len g) (by omega)
 have hsa:segOf (eRl r) 0 74=some (eRl r):=by simp[segOf,eRl_len,List.take_of_length_le]
 have hfb: ∀b:Blk1,fillV (repV z69_adc1 1) [(0,69,.agg (eBlk b))]=some (eBlk b):=fun b=>by
  rw[show repV z69_adc1 1=z69_adc1 by simp[repV]]
  simp[fillV,eBlk_len,spliceV]
 simp[St.seg,o3,hsg,hfb]
 have S:=S.slvPut (sz:=69) (f:=eBlk) [g]
 have e1:V.sl .full (rowsOf eBlk [g]) [g].length=.sl .full (eBlk g) 1:=by simp
 rw[e1]at S
 refine vc_loopJ (fun c env' st'=>∃(h:Nat) (out:List Blk1) (s7:V),1≤h∧(h:Int)≤max 0 n+1∧c=(n+1-h).toNat∧out.length=h∧chainGo r mark (n+1-h).toNat h out=chainM r g n mark∧env' 8=.int .i64 (h:Nat)∧env' 7=s7∧Sep [Slv 69 eBlk s7 out,pt i3 (.cells (eRl r)),Was st] st') n.toNat
  ⟨1,[g],_,by omega,by omega,by omega,rfl,by rw[chainM];congr 1;omega,by simp,by simp,S⟩ ?_
 rintro J hJ c env' st2 hsame ⟨h,out,s7,hh1,hhn,rfl,hol,hgo,h8,h7,S⟩
 have g1:=(hsame.get 1 rfl).trans (by simp:_=V.int .i64 n)
 have g2:=(hsame.get 2 rfl).trans (by simp:_=w8 mark)
 have g3:=(hsame.get 3 rfl).trans (by simp:_=V.ptr (some (i3,0)))
 clear hsame
 by_cases hle:(h:Int)≤n
 ·have w1:IntKind.i64.wrap ((h:Int)-1)=((h-1:Nat):Int):=by rw[wrap64 (by omega) (by omega)];omega
  have w2:IntKind.i64.wrap ((h:Int)+1)=(h:Int)+1:=wrap64 (by omega) (by omega)
  have rd:=S.slvRd eBlk_len
  have hlt:h-1<out.length:=by omega
  obtain⟨r1,r2,r3,r4⟩:=rd.row eBlk_len hlt
  have r5:=(r4 0 68 (by omega)).2
  rw[fldP_zero r2]at r5
  have r6:((eBlk out[h-1]).drop 0).take 68=eHdr out[h-1].hdr:=by
   rw[List.drop_zero,eBlk,List.take_left' (eHdr_len _)]
  rw[r6]at r5
  have hlast:=lastH_at hlt (by omega)
  rw[←hlast]at r5
  have o3:=S.mem (i:=i3) (o:=.cells (eRl r)) (by simp)
  have ef:(n+1-(h:Int)).toNat=(n+1-((h+1:Nat):Int)).toNat+1:=by omega
  rw[ef,chainGo]at hgo
  simp[g1,g2,g3,h8,h7,hle,w1,r1,r2,r5,St.seg,o3,hsa]
  refine(spec189 ok st2 r (lastH out) h (by omega) mark .nil [] (by simp) (by simp)).mono ?_
  rintro v st2 ⟨rfl,rfl⟩
  obtain⟨b,hb⟩: ∃b,b=growB r (lastH out) h mark []:=⟨_,rfl⟩
  obtain⟨y,hy⟩: ∃y,y=(growR r (lastH out) h mark []).2:=⟨_,rfl⟩
  rw[←hb,←hy]at hgo⊢
  simp
  intro i9 h9
  have S:=S.new h9 (.cells z69_adc1)
  have hst:=store_pt (sz:=69) (o:=0) S.get (v:=.agg (eBlk b)) (vs:=eBlk b) rfl (eBlk_len b) (by simp)
  rw[show spliceV z69_adc1 0 (eBlk b)=eBlk b by simp[spliceV,eBlk_len]]at hst
  have S:=S.set (.cells (eBlk b))
  simp[hst]at S⊢
  generalize st2.upd i9 (.cells (eBlk b))=st3 at S⊢
  have o9:=S.get
  cases y with
  | true=>
    rw[if_pos rfl]at hgo
    have hel:elems st3 69 (.sl .full (eBlk b) 1)=some (rowsOf eBlk [b],1):=by simp[elems,eBlk_len]
    simp[h7,St.seg,o9,bsegAll,hfb,hel]
    refine Sep.appv (b:=104) eBlk_len (by omega) (S.drop) [b] (by simp) rfl (by rw[List.length_singleton];omega) ?_
    intro s' st4 S
    simp[h8,w2]
    exact Round.mk (n+1-((h+1:Nat):Int)).toNat _ (by omega) (sub_self _) (hJ _ _ _ ⟨h+1,out++[b],s',by omega,by omega,rfl,by simp[hol],hgo,by simp,by simp,S⟩)
  | false=>
    rw[if_neg (by simp)]at hgo
    simp[h7]
    obtain⟨k,st4,hfz,S⟩:=Sep.frzSv eBlk_len S.drop
    rw[hgo]at hfz
    refine frzP_one (by simpa[h7]using hfz) ?_
    simp
    exact S.was' (st0:=st) (by simp)
 ·have:(n+1-(h:Int)).toNat=0:=by omega
  rw[this,chainGo]at hgo
  simp[g1,h8,hle]
  obtain⟨k,st4,hfz,S⟩:=Sep.frzSv eBlk_len S
  rw[hgo]at hfz
  refine frzP_one (by simpa[h7]using hfz) ?_
  simp
  exact S.was' (st0:=st) (by simp)
end
def atGo:Nat→List Blk1→Id→Option Nat→Option Nat
 | _,[],_,r=>r
 | i,b::l,x,r=>atGo (i+1) l x (if x=hId b.hdr then some i else r)
def atM (l:List Blk1)(x:Id):Option Nat:=atGo 0 l x none
theorem atGo_app (l:List Blk1)(b:Blk1)(x:Id): ∀(i:Nat) (r:Option Nat),atGo i (l++[b]) x r=if x=hId b.hdr then some (i+l.length)else atGo i l x r:=by
 induction l with
 | nil=>intro i r;rfl
 | cons a l ih=>
   intro i r
   rw[List.cons_append,atGo,ih,atGo,List.length_cons]
   have:i+1+l.length=i+(l.length+1):=by omega
   rw[this]
theorem atM_app (l:List Blk1)(b:Blk1)(x:Id):atM (l++[b]) x=if x=hId b.hdr then some l.length else atM l x:=by
 rw[atM,atGo_app,Nat.zero_add];rfl
def AtMap (es:List (Id×Int))(l:List Blk1):Prop:=∀x,lk x es=(atM l x).map fun i=>(i:Int)
def blksV (k:SK)(l:List Blk1):V:=.sl k (rowsOf eBlk l) l.length
def srvO (nonce:BitVec 64)(k:SK)(l:List Blk1)(aid:Nat)(hello:Bool):List V:=[w64 nonce,blksV k l,.map (some aid),.bool hello]
def SrvR (mid:Nat)(nonce:BitVec 64)(l:List Blk1)(hello:Bool)(L:List Asn)(st:St):Prop:=
 ∃k aid es,AtMap es l∧Sep (pt mid (.cells (srvO nonce k l aid hello))::pt aid (.mp (encM kId kInt es))::L) st
section
variable {P:Program} {F:Fn}
set_option maxHeartbeats 4000000 in
theorem spec193 (ok:OkHonest P F)(st:St)(nonce:BitVec 64)(k0:SK)(l:List Blk1)(hl:l.length≤100000):
  ACalls P (F 193) [w64 nonce,blksV k0 l] st fun v st'=>∃mid,v=.ptr (some (mid,0))∧SrvR mid nonce l false [Was st] st':=by
 refine shows_call ok.mixed ok.h193 (by simp[k193]) ?_
 simp only[k193]
 have hel:elems st 69 (blksV k0 l)=some (rowsOf eBlk l,l.length):=Rd.elems eBlk_len (.inl ⟨k0,rfl⟩)
 have hlen:lenSlV (blksV k0 l)=some (.int .i64 l.length):=rfl
 have hf0:fillV (repV z69_adc1 0) []=some []:=rfl
 simp[hf0,hel]
 have happ: ∀{K:V→St→Prop},(∀k,K (blksV k l) st)→appzS 69 104 (.sl .full [] 0) (some (rowsOf eBlk l,l.length)) st K:=fun{K} hK=>by
  refine⟨.inr rfl,rfl,by omega,?_,?_⟩
  ·intro h0
   have:l=[]:=List.length_eq_zero_iff.1 h0
   subst this
   exact hK .full
  ·intro h0
   have:=hK .some
   rw[List.nil_append,Nat.zero_add]
   exact this
 refine happ fun k=>?_
 simp
 intro aid ha
 have S:=(Sep.start st).new ha (.mp [])
 generalize st.upd aid _=st1 at S⊢
 have hfo:fillV [w64 0#64,V.sl SK.nil [] 0,V.map none,V.bool false] [(0,1,w64 nonce),(1,1,blksV k l),(2,1,V.map (some aid))]=some (srvO nonce k l aid false):=rfl
 simp[hfo]
 intro mid hm
 have S:=S.new hm (.cells (srvO nonce k l aid false))
 generalize st1.upd mid _=st2 at S⊢
 simp[hlen]
 refine vc_loopJ (fun c env' st'=>∃(i:Nat) (es:List (Id×Int)),i≤l.length∧c=l.length-i∧env' 17=.int .i64 (i:Nat)∧AtMap es (l.take i)∧Sep [pt mid (.cells (srvO nonce k l aid false)),pt aid (.mp (encM kId kInt es)),Was st] st') l.length
  ⟨0,[],by omega,by omega,by simp,fun x=>rfl,S⟩ ?_
 rintro J hJ c env' st3 hsame ⟨i,es,hi,rfl,h17,hat,S⟩
 have g5:=(hsame.get 5 rfl).trans (by simp:_=V.ptr (some (mid,0)))
 have g15:=(hsame.get 15 rfl).trans (by simp:_=blksV k0 l)
 have g16:=(hsame.get 16 rfl).trans (by simp:_=V.int .i64 (l.length:Int))
 clear hsame
 by_cases hlt:i<l.length
 ·have w1:IntKind.i64.wrap ((i:Int)+1)=(i:Int)+1:=wrap64 (by omega) (by omega)
  have rd:Rd 69 eBlk (blksV k0 l) l st3:=.inl ⟨k0,rfl⟩
  obtain⟨r1,r2,r3,r4⟩:=rd.row eBlk_len hlt
  obtain⟨b,hb⟩: ∃b,b=l[i]:=⟨_,rfl⟩
  rw[←hb]at r3
  simp[g15,g16,h17,hlt,r1,r3]
  intro i7 h7
  have S:=S.new h7 (.cells z69_adc1)
  have hst:=store_pt (sz:=69) (o:=0) S.get (v:=.agg (eBlk b)) (vs:=eBlk b) rfl (eBlk_len b) (by simp)
  rw[show spliceV z69_adc1 0 (eBlk b)=eBlk b by simp[spliceV,eBlk_len]]at hst
  have S:=S.set (.cells (eBlk b))
  simp[hst]at S⊢
  generalize st3.upd i7 (.cells (eBlk b))=st4 at S⊢
  have o7:=S.get
  have om:=S.mem (i:=mid) (o:=.cells (srvO nonce k l aid false)) (by simp)
  have hs2:segOf (srvO nonce k l aid false) 2 1=some [V.map (some aid)]:=rfl
  have hsH:=bsegH b
  simp[g5,St.seg,om,o7,hs2,hsH]
  refine⟨_,spec141 ok.toOkTx.toOkHead st4 b.hdr,?_⟩
  have oa:=S.mem (i:=aid) (o:=.mp (encM kId kInt es)) (by simp)
  have hms:=mset_enc keyed_id oa (hId b.hdr) (i:Int)
  simp only[kId,kInt]at hms
  simp[hms]
  have S:=S.setAt (.mp (encM kId kInt (aSet (hId b.hdr) (i:Int) es))) 2 rfl
  simp at S
  simp[h17,w1]
  refine Round.mk (l.length-(i+1)) _ (by omega) (sub_self _) (hJ _ _ _ ⟨i+1,_,by omega,rfl,by simp,?_,S.drop⟩)
  intro x
  rw[lk_aSet,hat x,List.take_succ_eq_append_getElem hlt,←hb,atM_app,List.length_take]
  split
  ·simp;omega
  ·rfl
 ·have:i=l.length:=by omega
  subst this
  rw[List.take_length]at hat
  simp[g15,g16,h17,g5]
  exact⟨st3,sub_self _,k,aid,es,hat,S⟩
set_option maxHeartbeats 4000000 in
theorem spec196 (ok:OkHonest P F){st:St}{mid:Nat}{nonce:BitVec 64}{k:SK}{l:List Blk1}{aid:Nat}{hello:Bool}(h:st mid=some (.cells (srvO nonce k l aid hello))):
  ACalls P (F 196) [.ptr (some (mid,0))] st fun v st'=>v=.int .i64 l.length∧st'=st:=by
 refine shows_call ok.mixed ok.h196 (by simp[k196]) ?_
 simp only[k196]
 have hs:segOf (srvO nonce k l aid hello) 1 1=some [blksV k l]:=rfl
 have hlen:lenSlV (blksV k l)=some (.int .i64 l.length):=rfl
 simp[St.seg,h,hs,hlen]
end
theorem vc_joinB {P:Program}{c rest:PC}{id:Nat}{Q:Ex→Env→St→Prop}{env:Env}{st:St}(M:Env→St→Prop)
  (h:vc P c (blkK id (unrK M Q)) env st) (k: ∀env' st',Same c.writes env env'→M env' st'→vc P rest Q env' st'):vc P c (blkK id (seqK P rest Q)) env st:=by
 refine vc_frame c _ _ env st (fun ex env' st' hs hq=>?_) h
 cases ex with
 | normal=>exact k env' st' hs hq
 | exit j=>
   unfold blkK at hq⊢
   by_cases hj:j=id
   ·simp only[hj,if_true]at hq⊢
    exact k env' st' hs hq
   ·simp only[hj,if_false]at hq⊢
    exact hq
 | ret=>exact hq
structure Ms where
 kind:Int
 nonce:BitVec 64
 height:W32
 names:V
 stop:Id
 heads:V
 blk:Hdr
 txs:V
def eMs (m:Ms):List V:=.int .i64 m.kind::w64 m.nonce::w32 m.height::m.names::(eId m.stop++(m.heads::(eHdr m.blk++[m.txs])))
theorem eMs_len (m:Ms):(eMs m).length=106:=by simp[eMs,eId_len,eHdr_len]
def ms0:Ms:=⟨0,0,0,.sl .nil [] 0,id0,.sl .nil [] 0,hdr0,.sl .nil [] 0⟩
theorem mdrop4 (m:Ms):(eMs m).drop 4=eId m.stop++(m.heads::(eHdr m.blk++[m.txs])):=rfl
theorem mdrop36 (m:Ms):(eMs m).drop 36=m.heads::(eHdr m.blk++[m.txs]):=by rw[show 36=4+32 from rfl,←List.drop_drop,mdrop4,List.drop_left' (eId_len _)]
theorem mdrop37 (m:Ms):(eMs m).drop 37=eHdr m.blk++[m.txs]:=by rw[show 37=36+1 from rfl,←List.drop_drop,mdrop36];rfl
theorem msegKind (m:Ms):segOf (eMs m) 0 1=some [.int .i64 m.kind]:=seg_of_drop (cs:=eMs m) (off:=0) rfl rfl (by omega)
theorem msegNonce (m:Ms):segOf (eMs m) 1 1=some [w64 m.nonce]:=seg_of_drop (cs:=eMs m) (off:=1) rfl rfl (by omega)
theorem msegNames (m:Ms):segOf (eMs m) 3 1=some [m.names]:=seg_of_drop (cs:=eMs m) (off:=3) rfl rfl (by omega)
theorem msegStop (m:Ms):segOf (eMs m) 4 32=some (eId m.stop):=seg_of_drop (mdrop4 m) (eId_len _) (by omega)
theorem msegHeads (m:Ms):segOf (eMs m) 36 1=some [m.heads]:=seg_of_drop (ys:=[m.heads]) (mdrop36 m) rfl (by omega)
theorem msegAll (m:Ms):segOf (eMs m) 0 106=some (eMs m):=by simp[segOf,eMs_len,List.take_of_length_le]
theorem msplHeads (m:Ms)(s:V):spliceV (eMs m) 36 [s]=eMs {m with heads:=s}:=by
 have h4:(eMs m).take 36=.int .i64 m.kind::w64 m.nonce::w32 m.height::m.names::eId m.stop:=by
  have hl:(V.int .i64 m.kind::w64 m.nonce::w32 m.height::m.names::eId m.stop).length=36:=by simp[eId_len]
  have e:eMs m=(.int .i64 m.kind::w64 m.nonce::w32 m.height::m.names::eId m.stop)++(m.heads::(eHdr m.blk++[m.txs])):=by simp[eMs]
  rw[e,←hl,List.take_left]
 rw[spliceV,h4,show 36+[s].length=37 from rfl,mdrop37]
 simp[eMs]
theorem ms_kind (k:Int):fillV z106_9145 [(0,1,.int .i64 k)]=some (eMs {ms0 with kind:=k}):=rfl
def idsV (k:SK)(l:List Id):V:=.sl k (rowsOf eId l) l.length
def fromM (l:List Blk1)(names:List Id):Nat:=match names.findSome? (atM l)with | some i=>i+1 | none=>1
def hdGo (l:List Blk1)(stop:Id):Nat→Nat→List Hdr→List Hdr
 | 0,_,out=>out
 | n+1,i,out=>if h:i<l.length then(if out.length<32 then(if hId l[i].hdr=stop then out++[l[i].hdr]else hdGo l stop n (i+1) (out++[l[i].hdr]))else out)else out
def hdM (l:List Blk1)(names:List Id)(stop:Id):List Hdr:=hdGo l stop l.length (fromM l names) []
theorem atGo_lt (l:List Blk1)(x:Id): ∀(i:Nat) (r:Option Nat) (y:Nat),atGo i l x r=some y→r=some y∨y<i+l.length:=by
 induction l with
 | nil=>intro i r y h;exact .inl h
 | cons a l ih=>
   intro i r y h
   rw[atGo]at h
   rcases ih _ _ _ h with h | h
   ·split at h
    ·cases h
     exact .inr (by simp)
    ·exact .inl h
   ·exact .inr (by rw[List.length_cons];omega)
theorem atM_lt {l:List Blk1}{x:Id}{y:Nat}(h:atM l x=some y):y<l.length:=by
 rcases atGo_lt l x 0 none y h with h | h
 ·cases h
 ·omega
theorem fromM_le (l:List Blk1)(names:List Id):fromM l names≤l.length+1:=by
 unfold fromM
 split
 ·rename_i y h
  obtain⟨x,_,hx⟩:=List.exists_of_findSome?_eq_some h
  have:=atM_lt hx
  omega
 ·omega
theorem hdGo_done {l:List Blk1}{stop:Id}{i:Nat}{out:List Hdr}(h:¬(i<l.length∧out.length<32))(n:Nat):hdGo l stop n i out=out:=by
 cases n with
 | zero=>rfl
 | succ n=>
   rw[hdGo]
   split
   ·rw[if_neg (by omega)]
   ·rfl
theorem fs_take {α β:Type}(f:α→Option β)(l:List α){i:Nat}(hi:i<l.length)(h:(l.take i).findSome? f=none):
  (∀y,f l[i]=some y→l.findSome? f=some y)∧(f l[i]=none→(l.take (i+1)).findSome? f=none):=by
 refine⟨fun y hy=>?_,fun hn=>?_⟩
 ·rw[←List.take_append_drop i l,List.findSome?_append,h,List.drop_eq_getElem_cons hi,List.findSome?_cons,hy]
  rfl
 ·rw[List.take_succ_eq_append_getElem hi,List.findSome?_append,h]
  simp[hn]
theorem fillHT (x:Hdr):fillV (repV z68_39b1 1) [(0,68,.agg (eHdr x))]=some (eHdr x):=by
 rw[z68_eq]
 have h0:repV (eHdr hdr0) 1=eHdr hdr0:=by simp[repV]
 rw[h0]
 simp[fillV,eHdr_len,splice_hdr]
theorem Sep.cellsX {α:Type}{f:α→List V}{sz:Nat}{s:V}{l:List α}{L:List Asn}{st:St}(h:Sep (Slx sz f s l::L) st):s.cells? =some [s]:=by
 obtain⟨h',h1,h2⟩:=h.part
 rcases h2 with⟨hs | hs,_⟩ | ⟨sid,rfl,_⟩
 ·rw[hs];rfl
 ·rw[hs];rfl
 ·rfl
section
variable {P:Program} {F:Fn}
set_option maxHeartbeats 4000000 in
theorem spec195 (ok:OkHonest P F){st:St}{mid:Nat}{nonce:BitVec 64}{l:List Blk1}{hello:Bool}{L:List Asn}(S:SrvR mid nonce l hello L st)(hl:l.length≤100000)(m:Ms)(k:SK)(names:List Id)(hm:m.names=idsV k names)(hnl:names.length≤100000):
  ACalls P (F 195) [.ptr (some (mid,0)),.agg (eMs m)] st fun v st'=>∃s,v=.agg (eMs {ms0 with kind:=4,heads:=s})∧SrvR mid nonce l hello (Slx 68 eHdr s (hdM l names m.stop)::L) st':=by
 refine shows_call ok.mixed ok.h195 (by simp[k195]) ?_
 simp only[k195]
 obtain⟨kb,aid,es,hat,S⟩:=S
 simp
 intro i3 h3
 have S:=S.new h3 (.cells (eMs m))
 generalize st.upd i3 _=st1 at S⊢
 simp
 intro i4 h4
 have S:=S.new h4 (.cells z106_9145)
 generalize st1.upd i4 _=st2 at S⊢
 have o3:=S.mem (i:=i3) (o:=.cells (eMs m)) (by simp)
 have hsn:=msegNames m
 rw[hm]at hsn
 have hln:lenSlV (idsV k names)=some (.int .i64 names.length):=rfl
 simp[St.seg,o3,hsn,hln]
 refine vc_joinB (M:=fun env' st'=>env' 5=.int .i64 ((fromM l names:Nat):Int)∧Sep (pt i4 (.cells z106_9145)::pt i3 (.cells (eMs m))::pt mid (.cells (srvO nonce kb l aid hello))::pt aid (.mp (encM kId kInt es))::L) st') ?_ ?_
 ·refine vc_loopJ (fun c env' st'=>∃(i:Nat),i≤names.length∧c=names.length-i∧env' 15=.int .i64 (i:Nat)∧env' 5=.int .i64 1∧(names.take i).findSome? (atM l)=none∧Sep (pt i4 (.cells z106_9145)::pt i3 (.cells (eMs m))::pt mid (.cells (srvO nonce kb l aid hello))::pt aid (.mp (encM kId kInt es))::L) st') names.length
    ⟨0,by omega,by omega,by simp,by simp,rfl,S⟩ ?_
  rintro J hJ c env' st3 hsame ⟨i,hi,rfl,h15,h5,hnone,S⟩
  have g0:=(hsame.get 0 rfl).trans (by simp:_=V.ptr (some (mid,0)))
  have g13:=(hsame.get 13 rfl).trans (by simp:_=idsV k names)
  have g14:=(hsame.get 14 rfl).trans (by simp:_=V.int .i64 (names.length:Int))
  clear hsame
  by_cases hlt:i<names.length
  ·have w1:IntKind.i64.wrap ((i:Int)+1)=(i:Int)+1:=wrap64 (by omega) (by omega)
   have rd:Rd 32 eId (idsV k names) names st3:=.inl ⟨k,rfl⟩
   obtain⟨r1,r2,r3,r4⟩:=rd.row eId_len hlt
   have hft:=fs_take (atM l) names hlt hnone
   obtain⟨x,hx⟩: ∃x,x=names[i]:=⟨_,rfl⟩
   rw[←hx]at r3 hft
   simp[g13,g14,h15,hlt,r1,r3]
   intro i7 h7
   have S:=S.new h7 (.cells zR32_w80)
   have hst:=store_z32 S.get x
   have S:=S.set (.cells (eId x))
   simp[hst]at S⊢
   generalize st3.upd i7 (.cells (eId x))=st4 at S⊢
   have o7:=S.get
   have om:=S.mem (i:=mid) (o:=.cells (srvO nonce kb l aid hello)) (by simp)
   have oa:=S.mem (i:=aid) (o:=.mp (encM kId kInt es)) (by simp)
   have hs2:segOf (srvO nonce kb l aid hello) 2 1=some [V.map (some aid)]:=rfl
   have hlk:=lookup_lk keyed_id (ev:=kInt) oa (.int .i64 0) x
   rw[hat x]at hlk
   have hsx:=segId0 x
   cases ha:atM l x with
   | none=>
     rw[ha]at hlk
     simp only[kId,Option.map_none,Option.getD_none,Option.isSome_none]at hlk
     simp[g0,St.seg,om,o7,hs2,hsx,hlk]
     simp[h15,w1]
     exact Round.mk (names.length-(i+1)) _ (by omega) (sub_self _) (hJ _ _ _ ⟨i+1,by omega,rfl,by simp,by simp[h5],hft.2 ha,S.drop⟩)
   | some y=>
     rw[ha]at hlk
     simp only[kId,kInt,Option.map_some,Option.getD_some,Option.isSome_some]at hlk
     have hyl:=atM_lt ha
     have w3:IntKind.i64.wrap ((y:Int)+1)=(y:Int)+1:=wrap64 (by omega) (by omega)
     have hfr:fromM l names=y+1:=by rw[fromM,hft.1 y ha]
     simp[g0,St.seg,om,o7,hs2,hsx,hlk,kInt,w3,hfr]
     exact S.drop
  ·have:i=names.length:=by omega
   subst this
   rw[List.take_length]at hnone
   have hfr:fromM l names=1:=by rw[fromM,hnone]
   simp[g14,h15,hfr,h5]
   exact S
 ·rintro env' st3 hsame ⟨h5,S⟩
  have g0:=(hsame.get 0 rfl).trans (by simp:_=V.ptr (some (mid,0)))
  have g3:=(hsame.get 3 rfl).trans (by simp:_=V.ptr (some (i3,0)))
  have g4:=(hsame.get 4 rfl).trans (by simp:_=V.ptr (some (i4,0)))
  clear hsame
  obtain⟨fr,hfr⟩: ∃fr,fr=fromM l names:=⟨_,rfl⟩
  rw[←hfr]at h5
  simp[h5,ms_kind]
  intro i10 h10
  have S:=S.new h10 (.cells z106_9145)
  obtain⟨m4,hm4⟩: ∃m4:Ms,m4={ms0 with kind:=4}:=⟨_,rfl⟩
  rw[←hm4]
  have hst:=store_pt (sz:=106) (o:=0) S.get (v:=.agg (eMs m4)) (vs:=eMs m4) rfl (eMs_len m4) (by simp)
  rw[show spliceV z106_9145 0 (eMs m4)=eMs m4 by simp[spliceV,eMs_len]]at hst
  have S:=S.set (.cells (eMs m4))
  simp[hst]at S⊢
  generalize st3.upd i10 (.cells (eMs m4))=st4 at S⊢
  have hlb:lenSlV (blksV kb l)=some (.int .i64 l.length):=rfl
  have hsb:segOf (srvO nonce kb l aid hello) 1 1=some [blksV kb l]:=rfl
  refine vc_joinB (M:=fun env' st'=>∃s,Sep (pt i10 (.cells (eMs {m4 with heads:=s}))::Slx 68 eHdr s (hdM l names m.stop)::pt i4 (.cells z106_9145)::pt mid (.cells (srvO nonce kb l aid hello))::pt aid (.mp (encM kId kInt es))::L) st') ?_ ?_
  ·refine vc_loopJ (fun c env' st'=>∃(n i:Nat) (out:List Hdr) (s:V),l.length≤c+i∧n=c∧i≤100001∧out.length≤32∧env' 11=.int .i64 (i:Nat)∧hdGo l m.stop n i out=hdM l names m.stop∧Sep (pt i10 (.cells (eMs {m4 with heads:=s}))::Slx 68 eHdr s out::pt i4 (.cells z106_9145)::pt i3 (.cells (eMs m))::pt mid (.cells (srvO nonce kb l aid hello))::pt aid (.mp (encM kId kInt es))::L) st') l.length
     ⟨l.length,fr,[],.sl .nil [] 0,by omega,rfl,?_,by simp,by simp[h5],by rw[hdM,hfr],?_⟩ ?_
   ·have:=fromM_le l names
    omega
   ·have e:{m4 with heads:=V.sl .nil [] 0}=m4:=by rw[hm4];rfl
    rw[e]
    exact(S.slxNil (sz:=68) (f:=eHdr)).swap
   ·rintro J hJ n env2 st5 hsame ⟨n',i,out,s,hni,rfl,hi,hol,h11,hgo,S⟩
    have q0:=(hsame.get 0 rfl).trans (by simp[g0]:_=V.ptr (some (mid,0)))
    have q3:=(hsame.get 3 rfl).trans (by simp[g3]:_=V.ptr (some (i3,0)))
    have q10:=(hsame.get 10 rfl).trans (by simp:_=V.ptr (some (i10,0)))
    clear hsame
    have om:=S.mem (i:=mid) (o:=.cells (srvO nonce kb l aid hello)) (by simp)
    have o10:=S.get
    have hsh:=msegHeads {m4 with heads:=s}
    have hls:=(Sep.rd eHdr_len (S.drop.head fun h hh=>hh.sl)).len
    by_cases hlt:i<l.length
    ·have w1:IntKind.i64.wrap ((i:Int)+1)=(i:Int)+1:=wrap64 (by omega) (by omega)
     by_cases hl32:out.length<32
     ·have hl32':(out.length:Int)<32:=by omega
      have rdb:Rd 69 eBlk (blksV kb l) l st5:=.inl ⟨kb,rfl⟩
      obtain⟨r1,r2,r3,r4⟩:=rdb.row eBlk_len hlt
      have r5:=(r4 0 68 (by omega)).2
      rw[fldP_zero r2]at r5
      obtain⟨x,hx⟩: ∃x,x=l[i].hdr:=⟨_,rfl⟩
      have r6:((eBlk l[i]).drop 0).take 68=eHdr x:=by
       rw[List.drop_zero,eBlk,List.take_left' (eHdr_len _),hx]
      rw[r6]at r5
      obtain⟨n1,rfl⟩: ∃n1,n'=n1+1:=⟨n'-1,by omega⟩
      rw[hdGo,dif_pos hlt,if_pos hl32,←hx]at hgo
      have hel:elems st5 68 (.sl .full (eHdr x) 1)=some (rowsOf eHdr [x],1):=by simp[elems,eHdr_len]
      simp[q0,q10,h11,St.seg,om,o10,hsb,hlb,hlt,hsh,hls,hl32',r1,r2,r5,fillHT,hel]
      refine Sep.appx' (b:=80) eHdr_len (by omega) S.swap [x] (by simp) rfl (by rw[List.length_singleton];omega) ?_
      intro s' st6 S
      have hc:=S.cellsX
      have S:=S.swap
      have hst:=store_pt (sz:=1) (o:=36) S.get (v:=s') (vs:=[s']) hc rfl (by rw[eMs_len];omega)
      rw[msplHeads]at hst
      have S:=S.set (.cells (eMs {m4 with heads:=s'}))
      simp[q10,hst]
      generalize st6.upd i10 (.cells (eMs {m4 with heads:=s'}))=st7 at S⊢
      have om:=S.mem (i:=mid) (o:=.cells (srvO nonce kb l aid hello)) (by simp)
      have o3:=S.mem (i:=i3) (o:=.cells (eMs m)) (by simp)
      have r5':ldCells st7 68 (rowP 69 (blksV kb l) i)=some (eHdr x):=by
       have rdb:Rd 69 eBlk (blksV kb l) l st7:=.inl ⟨kb,rfl⟩
       have:=((rdb.row eBlk_len hlt).2.2.2 0 68 (by omega)).2
       rw[fldP_zero r2,r6]at this
       exact this
      have hss:=msegStop m
      simp[q0,q3,h11,St.seg,om,o3,hsb,hss,r1,r2,r5']
      refine⟨_,spec141 ok.toOkTx.toOkHead st7 x,?_⟩
      have hq:eqK (.agg 32) (.agg (eId (hId x))) (.agg (eId m.stop))=some (decide (hId x=m.stop)):=by simp[eqK,eId_len,eqL_id]
      by_cases hst2:hId x=m.stop
      ·rw[if_pos hst2]at hgo
       rw[decide_eq_true hst2]at hq
       rw[hgo]at S
       simp[St.seg,o3,hss,hq]
       exact⟨s',S.tail fun r h=>h.tail fun r h=>h.tail fun r h=>h.drop⟩
      ·rw[if_neg hst2]at hgo
       rw[decide_eq_false hst2]at hq
       simp[St.seg,o3,hss,hq,h11,w1]
       exact Round.mk n1 _ (by omega) (sub_self _) (hJ _ _ _ ⟨n1,i+1,out++[x],s',by omega,rfl,by omega,by rw[List.length_append,List.length_singleton];omega,by simp,hgo,S⟩)
     ·have hl32':¬(out.length:Int)<32:=by omega
      simp[q0,q10,h11,St.seg,om,o10,hsb,hlb,hlt,hsh,hls,hl32']
      rw[hdGo_done (fun hc=>hl32 hc.2)]at hgo
      rw[hgo]at S
      exact⟨s,S.tail fun r h=>h.tail fun r h=>h.tail fun r h=>h.drop⟩
    ·simp[q0,q10,h11,St.seg,om,o10,hsb,hlb,hlt,hsh,hls]
     rw[hdGo_done (fun hc=>hlt hc.1)]at hgo
     rw[hgo]at S
     exact⟨s,S.tail fun r h=>h.tail fun r h=>h.tail fun r h=>h.drop⟩
  ·rintro env2 st5 hsame ⟨s,S⟩
   have q4:=(hsame.get 4 rfl).trans (by simp[g4]:_=V.ptr (some (i4,0)))
   have q10:=(hsame.get 10 rfl).trans (by simp:_=V.ptr (some (i10,0)))
   clear hsame
   obtain⟨m5,hm5⟩: ∃m5:Ms,m5={m4 with heads:=s}:=⟨_,rfl⟩
   rw[←hm5]at S
   have o10:=S.get
   have hsa:=msegAll m5
   have hst:=store_pt (sz:=106) (o:=0) (S.mem (i:=i4) (o:=.cells z106_9145) (by simp)) (v:=.agg (eMs m5)) (vs:=eMs m5) rfl (eMs_len m5) (by simp)
   rw[show spliceV z106_9145 0 (eMs m5)=eMs m5 by simp[spliceV,eMs_len]]at hst
   have S:=S.setAt (.cells (eMs m5)) 2 rfl
   simp only[List.set_cons_succ,List.set_cons_zero]at S
   simp[q4,q10,St.seg,o10,hsa,hst]
   have S:Sep (Slx 68 eHdr s (hdM l names m.stop)::pt mid (.cells (srvO nonce kb l aid hello))::pt aid (.mp (encM kId kInt es))::L) _:=S.drop.tail fun r h=>h.drop
   exact⟨_,sub_self _,s,by rw[hm5,hm4],kb,aid,es,hat,S.swap.tail fun r h=>h.swap⟩
end
end Go.Ab
namespace Go.Ab
theorem leN_app: ∀l r:List UInt8,leN (l++r)=leN l+256 ^ l.length*leN r
 | [],r=>by simp[leN]
 | b::l,r=>by
   rw[List.cons_append,leN,leN_app l r,leN,List.length_cons,Nat.pow_succ]
   have:256 ^ l.length*256*leN r=256*(256 ^ l.length*leN r):=by rw[Nat.mul_comm (256 ^ l.length) 256,Nat.mul_assoc]
   omega
theorem leN_out4 (x:BitVec 32):leN (out4 x)=x.toNat / 16777216+256*(x.toNat / 65536 % 256+256*(x.toNat / 256 % 256+256*(x.toNat % 256))):=by
 have hx:=x.isLt
 simp[out4,leN,BitVec.toNat_setWidth,Nat.shiftRight_eq_div_pow]
 omega
theorem outV_split (v:V8):outV v=(out4 v.a++[v.b,v.c,v.d,v.e,v.f,v.g].flatMap out4)++out4 v.h:=by simp[outV,V8.list]
def easyN:Nat:=8388607*2 ^ 232
theorem easy_tgt:tgt 545259519#32=some easyN:=by decide+kernel
theorem lin4 {n a1 a2 a3 B C D:Nat}(h1:n=256*a1+D)(h2:a1=256*a2+C)(h3:a2=256*a3+B):n=16777216*a3+65536*B+256*C+D:=by omega
theorem lin3 {n a1 B C D:Nat}(h1:n=256*a1+D)(h2:a1=256*B+C):n=65536*B+256*C+D:=by omega
theorem bytes4 {n:Nat}(h:n<4294967296): ∃A B C D:Nat,A<256∧B<256∧C<256∧D<256∧n=16777216*A+65536*B+256*C+D∧n / 16777216=A∧n / 65536 % 256=B∧n / 256 % 256=C∧n % 256=D∧n % 16777216=65536*B+256*C+D:=by
 refine⟨n / 16777216,n / 65536 % 256,n / 256 % 256,n % 256,by omega,Nat.mod_lt _ (by decide),Nat.mod_lt _ (by decide),Nat.mod_lt _ (by decide),?_,rfl,rfl,rfl,rfl,?_⟩
 ·have h1:n=256*(n / 256)+n % 256:=by omega
  have h2:n / 256=256*(n / 65536)+n / 256 % 256:=by omega
  have h3:n / 65536=256*(n / 16777216)+n / 65536 % 256:=by omega
  exact lin4 h1 h2 h3
 ·have h1:n % 16777216=256*(n % 16777216 / 256)+n % 256:=by omega
  have h2:n % 16777216 / 256=256*(n / 65536 % 256)+n / 256 % 256:=by omega
  exact lin3 h1 h2
theorem low_len (v:V8):(out4 v.a++[v.b,v.c,v.d,v.e,v.f,v.g].flatMap out4).length=28:=by simp[out4]
theorem idN_split (v:V8): ∃L,idN (idV v)=L+2 ^ 224*leN (out4 v.h)∧L<2 ^ 224∧(v.a.toNat≠0→L≠0):=by
 have e:(idV v).toList=outV v:=rfl
 have e2:(256:Nat) ^ 28=2 ^ 224:=by rw[show(256:Nat)=2 ^ 8 from rfl,←Nat.pow_mul]
 refine⟨leN (out4 v.a++[v.b,v.c,v.d,v.e,v.f,v.g].flatMap out4),?_,?_,?_⟩
 ·rw[idN,e,outV_split,leN_app,low_len,e2]
 ·have:=leN_lt (out4 v.a++[v.b,v.c,v.d,v.e,v.f,v.g].flatMap out4)
  rwa [low_len,e2]at this
 ·intro ha hL
  rw[leN_app,leN_out4]at hL
  obtain⟨A,B,C,D,-,-,-,-,h1,h2,h3,h4,h5,-⟩:=bytes4 v.a.isLt
  rw[h2,h3,h4,h5]at hL
  have:=(Nat.add_eq_zero_iff.1 hL).1
  omega
theorem bit7 (n:Nat):n.testBit 7=decide (128≤n % 256):=by
 rw[Nat.testBit_eq_decide_div_mod_eq]
 apply decide_eq_decide.2
 omega
theorem provedN_easy {h:Hdr}(hb:h.bits=545259519#32):provedN h 545259519#32=if easyN<idN (hId h)then 50 else 0:=by
 rw[provedN,hb,easy_tgt]
 simp
theorem sums {L q A B C D:Nat}(hL:L<q)(hB:B<256)(hA:A<256)(hC:C<256)(hD:D<256):
  ((65536*B+256*C+D≠16777087∧D<128)→¬8388607*(256*q)<L+q*(A+256*(B+256*(C+256*D))))∧
  ((128≤D∨(65536*B+256*C+D=16777087∧L≠0))→8388607*(256*q)<L+q*(A+256*(B+256*(C+256*D)))):=by
 have h5:q*(8388607*256)=8388607*(256*q):=by rw[Nat.mul_comm,Nat.mul_assoc]
 refine⟨fun⟨h1,h2⟩=>?_,fun h=>?_⟩
 ·have h3:A+256*(B+256*(C+256*D))+1≤8388607*256:=by omega
  have h4:=Nat.mul_le_mul_left q h3
  rw[Nat.mul_add,Nat.mul_one]at h4
  omega
 ·rcases h with h | ⟨h,hl⟩
  ·have h3:8388607*256+1≤A+256*(B+256*(C+256*D)):=by omega
   have h4:=Nat.mul_le_mul_left q h3
   rw[Nat.mul_add,Nat.mul_one]at h4
   omega
  ·have h3:8388607*256≤A+256*(B+256*(C+256*D)):=by omega
   have h4:=Nat.mul_le_mul_left q h3
   omega
theorem easyN_eq:easyN=8388607*(256*2 ^ 224):=by
 rw[easyN,show(256:Nat)*2 ^ 224=2 ^ 8*2 ^ 224 from rfl,←Nat.pow_add]
theorem acc_ok {h:Hdr}{v:V8}(hid:hId h=idV v)(hb:h.bits=545259519#32)(ha:AccW v):provedN h 545259519#32=0:=by
 rw[provedN_easy hb,hid]
 obtain⟨L,e,hL,_⟩:=idN_split v
 obtain⟨h1,h2⟩:=ha
 rw[bit7]at h2
 have h1:=of_decide_eq_true h1
 have h2:=of_decide_eq_false h2
 obtain⟨A,B,C,D,hA,hB,hC,hD,k1,k2,k3,k4,k5,k6⟩:=bytes4 v.h.isLt
 rw[k6]at h1
 rw[k5]at h2
 rw[if_neg]
 rw[e,leN_out4,easyN_eq,k2,k3,k4,k5]
 exact(sums hL hB hA hC hD).1 ⟨h1,by omega⟩
theorem rej_ok {h:Hdr}{v:V8}(hid:hId h=idV v)(hb:h.bits=545259519#32)(hr:RejW v):provedN h 545259519#32≠0:=by
 rw[provedN_easy hb,hid]
 obtain⟨L,e,hL,hL0⟩:=idN_split v
 obtain⟨hs,hn⟩:=hr
 unfold AccW at hn
 rw[bit7]at hn
 have hc:128≤v.h.toNat % 256∨(v.h.toNat % 16777216=16777087∧L≠0):=by
  by_cases hz:v.h.toNat % 16777216=16777087
  ·right
   refine⟨hz,hL0 ?_⟩
   rcases hs with hs | hs
   ·exact hs
   ·exact absurd hz (of_decide_eq_true hs)
  ·left
   apply Classical.byContradiction
   intro hlt
   exact hn ⟨decide_eq_true hz,decide_eq_false hlt⟩
 obtain⟨A,B,C,D,hA,hB,hC,hD,k1,k2,k3,k4,k5,k6⟩:=bytes4 v.h.isLt
 rw[k6,k5]at hc
 rw[if_pos]
 ·decide
 rw[e,leN_out4,easyN_eq,k2,k3,k4,k5]
 exact(sums hL hB hA hC hD).2 hc
theorem mine_go {h:Hdr}{f:Nat→V8}(hb:h.bits=545259519#32)(hf: ∀k,hId {h with nonce:=BitVec.ofNat 32 k}=idV (f k)){k:Nat}(ha:AccW (f k)): ∀(d j m:Nat),k=j+d→d<m→(∀i,j≤i→i<k→RejW (f i))→
  mineN {h with nonce:=BitVec.ofNat 32 j} 545259519#32 m=some {h with nonce:=BitVec.ofNat 32 k}
 | 0,j,m,hk,hm,hr=>by
   obtain⟨m,rfl⟩: ∃m',m=m'+1:=⟨m-1,by omega⟩
   have:k=j:=by omega
   subst this
   rw[mineN,if_pos (acc_ok (hf k) hb ha)]
 | d+1,j,m,hk,hm,hr=>by
   obtain⟨m,rfl⟩: ∃m',m=m'+1:=⟨m-1,by omega⟩
   rw[mineN,if_neg (rej_ok (hf j) hb (hr j (by omega) (by omega)))]
   have e:(BitVec.ofNat 32 j+1:BitVec 32)=BitVec.ofNat 32 (j+1):=by
    rw[BitVec.ofNat_add]
    rfl
   have:=mine_go hb hf ha d (j+1) m (by omega) (by omega) fun i hi hik=>hr i (by omega) hik
   rw[←this,←e]
theorem mine_fnd {h:Hdr}{f:Nat→V8}(hb:h.bits=545259519#32)(h0:h.nonce=0)(hf: ∀k,hId {h with nonce:=BitVec.ofNat 32 k}=idV (f k)){v:V8}(hF:Fnd f 40 v):
  ∃x,mineN h 545259519#32 4096=some x∧hId x=idV v∧x.time=h.time∧x.bits=h.bits:=by
 obtain⟨k,hk,rfl,ha,hr⟩:=hF
 have:=mine_go hb hf ha k 0 4096 (by omega) (by omega) fun i _ hi=>hr i hi
 have e:({h with nonce:=BitVec.ofNat 32 0}:Hdr)=h:=by
  cases h
  simp only at h0
  subst h0
  rfl
 rw[e]at this
 exact⟨_,this,hf k,rfl,rfl⟩
theorem upW_take {m:UInt8}: ∀{h:Nat} {p:V8} {l:List V8} (n:Nat),UpW m h p l→UpW m h p (l.take n)
 | _,_,_,0,_=>by rw[List.take_zero];trivial
 | _,_,[],n+1,_=>trivial
 | _,_,v::l,n+1,hu=>⟨hu.1,upW_take n hu.2⟩
theorem lastH_app (l:List Blk1)(b:Blk1):lastH (l++[b])=b.hdr:=by simp[lastH]
theorem chainGo_ok {r:Rl}(hl:r.limit=545259519#32)(hs:r.spacing=10)(hsub:r.subsidy=50){m:UInt8}: ∀(vs:List V8) (h:Nat) (p:V8) (out:List Blk1),UpW m h p vs→hId (lastH out)=idV p→(lastH out).time=BitVec.ofNat 32 (10*(h-1))→1≤h→(lastH out).bits=545259519#32→
  ∃bs:List Blk1,chainGo r m vs.length h out=out++bs∧bs.map (fun b=>hId b.hdr)=vs.map idV
 | [],h,p,out,_,_,_,_,_=>⟨[],by rw[List.append_nil];rfl,rfl⟩
 | v::vs,h,p,out,hu,hp,ht,h1,hb=>by
   obtain⟨hF,hu⟩:=hu
   have hpre:preM r (lastH out) [firstM r.subsidy h m]=⟨1,idV p,idV (txW (UInt8.ofNat h) (UInt8.ofNat (h / 256)) m),BitVec.ofNat 32 (10*h),545259519#32,0⟩:=by
    have et:BitVec.ofNat 32 (10*(h-1))+BitVec.ofInt 32 10=BitVec.ofNat 32 (10*h):=by
     have e10:BitVec.ofInt 32 10=BitVec.ofNat 32 10:=rfl
     rw[e10,←BitVec.ofNat_add]
     congr 1
     omega
    rw[preM,hp,ht,hb,hs,hsub,et]
    have:(rootM (rowsIds [firstM 50 h m])).1=txIdM (firstM 50 h m):=rfl
    rw[this,txId_W]
   obtain⟨x,e1,e2,e3,e4⟩:=mine_fnd (h:=preM r (lastH out) [firstM r.subsidy h m]) (f:=fun k=>hdrW (BitVec.ofNat 32 1) (BitVec.ofNat 32 (10*h)) (BitVec.ofNat 32 0x207fffff) (BitVec.ofNat 32 k) p (txW (UInt8.ofNat h) (UInt8.ofNat (h / 256)) m))
    (by rw[hpre]) (by rw[hpre]) (fun k=>by rw[hpre];exact hId_W _ _ _ _ _ _) hF
   have hg:growR r (lastH out) h m []=(x,true):=by
    rw[growR,hl,e1]
   have hgb:(growB r (lastH out) h m []).hdr=x:=by rw[growB,hg]
   rw[List.length_cons,chainGo,if_pos (by rw[hg])]
   obtain⟨bs,q1,q2⟩:=chainGo_ok hl hs hsub vs (h+1) v (out++[growB r (lastH out) h m []]) hu (by rw[lastH_app,hgb];exact e2) (by rw[lastH_app,hgb,e3,hpre];rfl) (by omega) (by rw[lastH_app,hgb,e4,hpre])
   refine⟨growB r (lastH out) h m []::bs,by rw[q1];simp,?_⟩
   rw[List.map_cons,q2,hgb,e2,List.map_cons]
theorem idV_a {v w:V8}(h:idV v=idV w):v.a=w.a:=by
 have e:outV v=outV w:=congrArg Vector.toList h
 have h1:=words_outV v []
 rw[e,words_outV]at h1
 simp only[V8.list,List.cons_append,List.cons.injEq]at h1
 exact h1.1.symm
theorem id0_V:id0=idV v80:=by decide+kernel
def genB:Blk1:=⟨genM,.full,[firstM 50 0 0]⟩
theorem gen_W:hId genM=idV genW:=by
 have e:genM=⟨BitVec.ofNat 32 0,idV v80,idV (txW (UInt8.ofNat 0) (UInt8.ofNat (0 / 256)) 0),BitVec.ofNat 32 0,BitVec.ofNat 32 0x207fffff,BitVec.ofNat 32 0⟩:=by
  rw[genM,txId_W,←id0_V]
  rfl
 rw[e,hId_W]
 rfl
theorem chain_names_of (work:Int)(m:UInt8){K:Nat}(n:Nat)(hn:n≤K)(H: ∃l:List V8,l.length=K∧UpW m 1 genW l∧(0::genW.a::l.map (·.a)).Pairwise (· ≠ ·)):((chainM (rulesM work) genB (n:Int) m).map fun b=>hId b.hdr).length=n+1∧
  (id0::(chainM (rulesM work) genB (n:Int) m).map fun b=>hId b.hdr).Pairwise (· ≠ ·):=by
 obtain⟨l,h1,h2,h3⟩:=H
 have hl:(l.take n).length=n:=by rw[List.length_take];omega
 obtain⟨bs,q1,q2⟩:=chainGo_ok (r:=rulesM work) rfl rfl rfl (l.take n) 1 genW [genB] (upW_take n h2) gen_W rfl (by omega) rfl
 rw[hl]at q1
 have e:chainM (rulesM work) genB (n:Int) m=genB::bs:=by
  rw[chainM,Int.toNat_natCast,q1];rfl
 have em:(chainM (rulesM work) genB (n:Int) m).map (fun b=>hId b.hdr)=idV genW::(l.take n).map idV:=by
  have hg:hId genB.hdr=idV genW:=gen_W
  rw[e,List.map_cons,q2,hg]
 rw[em]
 refine⟨by rw[List.length_cons,List.length_map,hl],?_⟩
 rw[id0_V]
 have h4:(0::genW.a::(l.take n).map (·.a)).Pairwise (· ≠ ·):=by
  refine h3.sublist ?_
  rw[List.map_take]
  exact((List.take_sublist n _).cons_cons _).cons_cons _
 have h5:(idV v80::idV genW::(l.take n).map idV)=(v80::genW::l.take n).map idV:=rfl
 rw[h5,List.pairwise_map]
 have h6:(0::genW.a::(l.take n).map (·.a))=(v80::genW::l.take n).map (·.a):=rfl
 rw[h6,List.pairwise_map]at h4
 exact h4.imp fun h e=>h (idV_a e)
theorem chain_few (work:Int)(m:UInt8)(n:Nat)(hn:n≤2):((chainM (rulesM work) genB (n:Int) m).map fun b=>hId b.hdr).length=n+1∧
 (id0::(chainM (rulesM work) genB (n:Int) m).map fun b=>hId b.hdr).Pairwise (· ≠ ·):=chain_names_of work m n hn (names_few m)
noncomputable def ltxs (M O:Nat)(iv L:LS)(n:Nat):Nat→List Nat→List Nat:=
 Nat.rec (motive:=fun _=>Nat→List Nat→List Nat) (fun _ out=>out) (fun _ ih h out=>lbind (ltx M O iv markL L h) fun T=>frc (h+1) fun h'=>ih h' (T.a::out)) n
noncomputable def ltxU:Bool:=
 frc oneL fun O=>frc (4294967295*O) fun M=>lbind (lIV O) fun iv=>lbind (llock M O iv markL) fun L=>lbind (llock M O iv 0) fun L0=>lbind (ltx M O iv 0 L0 0) fun G=>luniqN M O (ltxs M O iv L 40 1 [G.a])
set_option maxRecDepth 100000 in
theorem ltxU_true:ltxU=true:=by decide+kernel
theorem ltxs_ok {L:LS}(hL:RS L fun i=>lockW (UInt8.ofNat i))(hm:QL markL fun i=>(UInt8.ofNat i).toNat): ∀(n h:Nat) (out:List Nat) (fs:List (Nat→BitVec 32)),h+n≤256→RW out fs→
  RW (ltxs maskL oneL (lIV oneL) L n h out) (((List.range' h n).map fun k (i:Nat)=>(txW (UInt8.ofNat k) (UInt8.ofNat (k / 256)) (UInt8.ofNat i)).a).reverse++fs)
 | 0,h,out,fs,_,hw=>hw
 | n+1,h,out,fs,hh,hw=>by
   have e:ltxs maskL oneL (lIV oneL) L (n+1) h out=lbind (ltx maskL oneL (lIV oneL) markL L h) fun T=>frc (h+1) fun h'=>ltxs maskL oneL (lIV oneL) L n h' (T.a::out):=rfl
   rw[e]
   simp only[lbind_eq,frc_eq]
   have ht:=ltx_ok (h:=h) hm hL (by omega)
   have ih:=ltxs_ok hL hm n (h+1) _ _ (by omega) (RW.cons ht.a hw)
   rw[List.range'_succ,List.map_cons,List.reverse_cons,List.append_assoc]
   exact ih
theorem txs_all (m:UInt8):((txW 0 0 0).a::(List.range' 1 40).map fun k=>(txW (UInt8.ofNat k) (UInt8.ofNat (k / 256)) m).a).Pairwise (· ≠ ·):=by
 have hm:=markL_nat
 have hL:=llock_ok hm
 have hz:QL 0 fun _=>((0:UInt8)).toNat:=by
  intro i hi
  simp[ln]
 have hG:=ltx_ok (h:=0) (m:=fun _=>0) hz (llock_ok (m:=fun _=>0) hz) (by omega)
 have e:ltxU=luniqN maskL oneL (ltxs maskL oneL (lIV oneL) (llock maskL oneL (lIV oneL) markL) 40 1 [(ltx maskL oneL (lIV oneL) 0 (llock maskL oneL (lIV oneL) 0) 0).a]):=by
  unfold ltxU
  simp only[lbind_eq,frc_eq]
  rfl
 have hU:=ltxU_true
 rw[e]at hU
 have hw:=ltxs_ok hL hm 40 1 _ _ (by omega) (RW.cons hG.a .nil)
 have hp:=luniqN_ok hw hU m.toNat m.toNat_lt
 have hmm:UInt8.ofNat m.toNat=m:=by simp
 have h9:=List.pairwise_reverse.2 (List.Pairwise.imp (S:=fun a b=>b≠a) (fun h=>Ne.symm h) hp)
 rw[List.map_append,List.map_reverse,List.reverse_append,List.reverse_reverse,List.map_map]at h9
 have e2:((fun f:Nat→BitVec 32=>f m.toNat)∘fun k (i:Nat)=>(txW (UInt8.ofNat k) (UInt8.ofNat (k / 256)) (UInt8.ofNat i)).a)=fun k=>(txW (UInt8.ofNat k) (UInt8.ofNat (k / 256)) m).a:=by
  funext k
  show(txW (UInt8.ofNat k) (UInt8.ofNat (k / 256)) (UInt8.ofNat m.toNat)).a=_
  rw[hmm]
 rw[e2]at h9
 exact h9
end Go.Ab
namespace Go.Ab
open Go
def k250 (F:Fn):PF:=PF.mk 29 1 [(.t 2),(.t 3)] (.seq (.ops [(po 2 (.mv (.k (.int .i64 0)))),(po 3 (.mv (.k (.bool false))))]) (.seq (.ops [(po 4 (.mv (.k (.int .i64 0))))]) (.seq (.seq (.ops [(pm 7 0),(po 8 (.lenSl (.t 7))),(po 9 (.mv (.k (.int .i64 0))))]) (.block 0 (.loop (.seq (.ops [(po 10 (.bin .lss (.t 9) (.t 8)))]) (.seq (.cond (.t 10) .skip (.exit 0)) (.seq (.block 1 (.seq (.ops [(po 11 (.idxSl 33 (.t 7) (.t 9))),(po 12 (.load true 33 (.t 11))),(po 6 (.alloc z33_0be4)),(PO.mk none (.store 33 (.t 6) (.t 12)) none)]) (.seq (.seq (.ops [(po 13 (.fldA 0 (.t 6))),(po 14 (.load false 1 (.t 13))),(po 15 (.bin .lss (.t 14) (.k (.int .i64 0)))),(pm 16 15),(PO.mk (some 17) (.fldA 0 (.t 6)) (some (16,false))),(PO.mk (some 18) (.load false 1 (.t 17)) (some (16,false))),(PO.mk (some 19) (.bin .gtr (.t 18) (.k (.int .i64 1125899906842624))) (some (16,false))),(po 20 (.pick (.t 16) (.k (.bool true)) (.t 19)))]) (.cond (.t 20) (.seq (.ops [(po 2 (.mv (.k (.int .i64 0)))),(po 3 (.mv (.k (.bool false))))]) .ret) .skip)) (.seq (.ops [(pm 21 4),(po 22 (.fldA 0 (.t 6))),(po 23 (.load false 1 (.t 22))),(po 24 (.bin .add (.t 21) (.t 23))),(pm 4 24)]) (.seq (.ops [(pm 25 4),(po 26 (.bin .gtr (.t 25) (.k (.int .i64 1125899906842624))))]) (.cond (.t 26) (.seq (.ops [(po 2 (.mv (.k (.int .i64 0)))),(po 3 (.mv (.k (.bool false))))]) .ret) .skip)))))) (.ops [(po 27 (.bin .add (.t 9) (.k (.int .i64 1)))),(pm 9 27)]))))))) (.seq (.ops [(pm 28 4),(pm 2 28),(po 3 (.mv (.k (.bool true))))]) .ret))))
def k249 (F:Fn):PF:=PF.mk 69 2 [(.t 4)] (.seq (.ops [(po 2 (.box (.t 0))),(po 4 (.mv (.k (.int .i64 0))))]) (.seq (.seq (.ops [(po 10 (.fldA 0 (.t 2))),(po 11 (.load false 1 (.t 10))),(po 12 (.lenSl (.t 11))),(po 13 (.bin .eql (.t 12) (.k (.int .i64 0)))),(pm 14 13),(PO.mk (some 15) (.fldA 1 (.t 2)) (some (14,false))),(PO.mk (some 16) (.load false 1 (.t 15)) (some (14,false))),(PO.mk (some 17) (.lenSl (.t 16)) (some (14,false))),(PO.mk (some 18) (.bin .eql (.t 17) (.k (.int .i64 0))) (some (14,false))),(po 19 (.pick (.t 14) (.k (.bool true)) (.t 18))),(pm 20 19),(PO.mk (some 21) (.fldA 0 (.t 2)) (some (20,false))),(PO.mk (some 22) (.load false 1 (.t 21)) (some (20,false))),(PO.mk (some 23) (.lenSl (.t 22)) (some (20,false))),(PO.mk (some 24) (.bin .gtr (.t 23) (.k (.int .i64 32))) (some (20,false))),(po 25 (.pick (.t 20) (.k (.bool true)) (.t 24))),(pm 26 25),(PO.mk (some 27) (.fldA 1 (.t 2)) (some (26,false))),(PO.mk (some 28) (.load false 1 (.t 27)) (some (26,false))),(PO.mk (some 29) (.lenSl (.t 28)) (some (26,false))),(PO.mk (some 30) (.bin .gtr (.t 29) (.k (.int .i64 32))) (some (26,false))),(po 31 (.pick (.t 26) (.k (.bool true)) (.t 30)))]) (.cond (.t 31) (.seq (.ops [(po 4 (.mv (.k (.int .i64 120))))]) .ret) .skip)) (.seq (.ops [(PO.mk (some 32) POp.mkmap none),(pm 5 32)]) (.seq (.seq (.ops [(po 33 (.fldA 0 (.t 2))),(po 34 (.load false 1 (.t 33))),(po 35 (.lenSl (.t 34))),(po 36 (.mv (.k (.int .i64 0))))]) (.block 0 (.loop (.seq (.ops [(po 37 (.bin .lss (.t 36) (.t 35)))]) (.seq (.cond (.t 37) .skip (.exit 0)) (.seq (.block 1 (.seq (.ops [(po 38 (.idxSl 34 (.t 34) (.t 36))),(po 39 (.load true 34 (.t 38))),(po 7 (.alloc z34_1838)),(PO.mk none (.store 34 (.t 7) (.t 39)) none)]) (.seq (.block 2 (.seq (.ops [(po 41 (.fldA 33 (.t 7))),(po 42 (.load false 1 (.t 41))),(po 43 (.lenSl (.t 42))),(po 44 (.bin .gtr (.t 43) (.k (.int .i64 100)))),(pm 40 44)]) (.cond (.t 40) (.seq (.ops [(po 4 (.mv (.k (.int .i64 2))))]) .ret) (.seq (.draw [(.e,(po 46 (.fldA 0 (.t 7)))),(.e,(pm 50 1)),(.s,(po 47 (.load true 33 (.t 46)))),(.s,(po 48 (.call (F 197) []))),(.e,(po 49 (.eqa (.agg 33) false (.t 47) (.t 48)))),(.e,(po 51 (.eqa .bool true (.t 49) (.t 50)))),(.e,(pm 45 51))]) (.cond (.t 45) (.seq (.ops [(po 4 (.mv (.k (.int .i64 120))))]) .ret) (.seq (.ops [(pm 53 5),(po 54 (.fldA 0 (.t 7))),(po 55 (.load true 33 (.t 54))),(po 56 (.lookup (.agg 33) (.bool false) false (.t 53) (.t 55))),(pm 52 56)]) (.cond (.t 52) (.seq (.ops [(po 4 (.mv (.k (.int .i64 5))))]) .ret) .skip))))))) (.ops [(pm 57 5),(po 58 (.fldA 0 (.t 7))),(po 59 (.load true 33 (.t 58))),(PO.mk none (.mset (.agg 33) (.t 57) (.t 59) (.k (.bool true))) none)])))) (.ops [(po 60 (.bin .add (.t 36) (.k (.int .i64 1)))),(pm 36 60)]))))))) (.seq (.seq (.ops [(po 62 (.fldA 1 (.t 2))),(po 63 (.load false 1 (.t 62))),(po 64 (.call (F 250) [(.t 63)])),(pm 61 64),(po 65 (.ext 0 (.t 61))),(po 66 (.ext 1 (.t 61))),(pm 8 65),(pm 9 66)]) (.seq (.ops [(pm 67 9),(po 68 (.not (.t 67)))]) (.cond (.t 68) (.seq (.ops [(po 4 (.mv (.k (.int .i64 121))))]) .ret) .skip))) (.seq (.ops [(po 4 (.mv (.k (.int .i64 0))))]) .ret))))))
structure OkCheck (P:Program) (F:Fn):Prop where
 mixed:P.follows .mixedOrders=true
 toOkTx:OkTx P F
 h250:compFn P ⟨[],[],[],[],[]⟩ (F 250)=some (k250 F)
 h249:compFn P ⟨[],[],[],[],[]⟩ (F 249)=some (k249 F)
def k251 (F:Fn):PF:=PF.mk 27 1 [(.t 2)] (.seq (.ops [(po 1 (.box (.t 0))),(po 2 (.mv (.k (.sl .nil [] 0))))]) (.seq (.ops [(po 3 (.alloc [(.sl .nil [] 0)]))]) (.seq (.ops [(po 6 (.fldA 0 (.t 1))),(po 7 (.load true 68 (.t 6))),(po 8 (.call (F 140) [(.t 7)])),(po 9 (.bsl false 1 1 [(.sl .nil [] 0)] [(0,(1,(.t 8)))])),(po 10 (.call (F 204) [(.t 3),(.t 9)]))]) (.seq (.ops [(po 11 (.fldA 68 (.t 1))),(po 12 (.load false 1 (.t 11))),(po 13 (.lenSl (.t 12))),(po 14 (.conv .u64 (.t 13))),(po 15 (.call (F 203) [(.t 3),(.t 14)]))]) (.seq (.seq (.ops [(po 16 (.fldA 68 (.t 1))),(po 17 (.load false 1 (.t 16))),(po 18 (.lenSl (.t 17))),(po 19 (.mv (.k (.int .i64 0))))]) (.block 0 (.loop (.seq (.ops [(po 20 (.bin .lss (.t 19) (.t 18)))]) (.seq (.cond (.t 20) .skip (.exit 0)) (.seq (.block 1 (.seq (.ops [(po 21 (.idxSl 2 (.t 17) (.t 19))),(po 22 (.load true 2 (.t 21))),(po 5 (.alloc [(.sl .nil [] 0),(.sl .nil [] 0)])),(PO.mk none (.store 2 (.t 5) (.t 22)) none)]) (.ops [(po 23 (.load true 2 (.t 5))),(po 24 (.call (F 201) [(.t 3),(.t 23)]))]))) (.ops [(po 25 (.bin .add (.t 19) (.k (.int .i64 1)))),(pm 19 25)]))))))) (.seq (.ops [(po 26 (.call (F 202) [(.t 3)])),(pm 2 26)]) .ret))))))
def k252 (F:Fn):PF:=PF.mk 33 1 [(.t 2)] (.seq (.ops [(po 1 (.box (.t 0))),(po 2 (.mv (.k (.int .i64 0))))]) (.seq (.seq (.ops [(po 7 (.fldA 68 (.t 1))),(po 8 (.load false 1 (.t 7))),(po 9 (.lenSl (.t 8))),(po 10 (.mv (.k (.int .i64 0))))]) (.block 0 (.loop (.seq (.ops [(po 11 (.bin .lss (.t 10) (.t 9)))]) (.seq (.cond (.t 11) .skip (.exit 0)) (.seq (.block 1 (.seq (.ops [(po 12 (.idxSl 2 (.t 8) (.t 10))),(po 13 (.load true 2 (.t 12))),(po 4 (.alloc [(.sl .nil [] 0),(.sl .nil [] 0)])),(PO.mk none (.store 2 (.t 4) (.t 13)) none)]) (.seq (.ops [(po 14 (.load true 2 (.t 4))),(po 15 (.call (F 200) [(.t 14)])),(po 16 (.lenSl (.t 15))),(po 17 (.bin .eql (.t 16) (.k (.int .i64 64))))]) (.cond (.t 17) (.seq (.ops [(po 2 (.mv (.k (.int .i64 40))))]) .ret) .skip)))) (.ops [(po 18 (.bin .add (.t 10) (.k (.int .i64 1)))),(pm 10 18)]))))))) (.seq (.seq (.ops [(po 20 (.fldA 68 (.t 1))),(po 21 (.load false 1 (.t 20))),(po 22 (.call (F 192) [(.t 21)])),(pm 19 22),(po 23 (.ext 0 (.t 19))),(po 24 (.ext 1 (.t 19))),(po 5 (.alloc zR32_w80)),(PO.mk none (.store 32 (.t 5) (.t 23)) none),(pm 6 24)]) (.seq (.ops [(pm 25 6),(pm 26 25),(PO.mk (some 27) (.load true 32 (.t 5)) (some (26,false))),(PO.mk (some 28) (.fldA 0 (.t 1)) (some (26,false))),(PO.mk (some 29) (.fldA 33 (.t 28)) (some (26,false))),(PO.mk (some 30) (.load true 32 (.t 29)) (some (26,false))),(PO.mk (some 31) (.eqa (.agg 32) true (.t 27) (.t 30)) (some (26,false))),(po 32 (.pick (.t 26) (.k (.bool true)) (.t 31)))]) (.cond (.t 32) (.seq (.ops [(po 2 (.mv (.k (.int .i64 40))))]) .ret) .skip))) (.seq (.ops [(po 2 (.mv (.k (.int .i64 0))))]) .ret))))
def k253 (F:Fn):PF:=PF.mk 38 1 [(.t 2)] (.seq (.ops [(po 1 (.box (.t 0))),(po 2 (.mv (.k (.int .i64 0))))]) (.seq (.seq (.ops [(po 6 (.fldA 68 (.t 1))),(po 7 (.load false 1 (.t 6))),(po 8 (.lenSl (.t 7))),(po 9 (.bin .eql (.t 8) (.k (.int .i64 0)))),(pm 10 9),(PO.mk (some 11) (.fldA 68 (.t 1)) (some (10,false))),(PO.mk (some 12) (.load false 1 (.t 11)) (some (10,false))),(PO.mk (some 13) (.lenSl (.t 12)) (some (10,false))),(PO.mk (some 14) (.bin .gtr (.t 13) (.k (.int .i64 32))) (some (10,false))),(po 15 (.pick (.t 10) (.k (.bool true)) (.t 14)))]) (.cond (.t 15) (.seq (.ops [(po 2 (.mv (.k (.int .i64 120))))]) .ret) .skip)) (.seq (.seq (.ops [(po 16 (.fldA 68 (.t 1))),(po 17 (.load false 1 (.t 16))),(po 18 (.lenSl (.t 17))),(po 19 (.mv (.k (.int .i64 0))))]) (.block 0 (.loop (.seq (.ops [(po 20 (.bin .lss (.t 19) (.t 18)))]) (.seq (.cond (.t 20) .skip (.exit 0)) (.seq (.block 1 (.seq (.ops [(pm 21 19),(po 22 (.idxSl 2 (.t 17) (.t 19))),(po 23 (.load true 2 (.t 22))),(po 4 (.alloc [(.sl .nil [] 0),(.sl .nil [] 0)])),(pm 3 21),(PO.mk none (.store 2 (.t 4) (.t 23)) none)]) (.seq (.ops [(po 24 (.load true 2 (.t 4))),(pm 25 3),(po 26 (.bin .eql (.t 25) (.k (.int .i64 0)))),(po 27 (.call (F 249) [(.t 24),(.t 26)])),(pm 5 27)]) (.seq (.ops [(pm 28 5),(po 29 (.bin .neq (.t 28) (.k (.int .i64 0))))]) (.cond (.t 29) (.seq (.ops [(pm 30 5),(pm 2 30)]) .ret) .skip))))) (.ops [(po 31 (.bin .add (.t 19) (.k (.int .i64 1)))),(pm 19 31)]))))))) (.seq (.seq (.ops [(po 32 (.load true 69 (.t 1))),(po 33 (.call (F 251) [(.t 32)])),(po 34 (.lenSl (.t 33))),(po 35 (.bin .gtr (.t 34) (.k (.int .i64 8192))))]) (.cond (.t 35) (.seq (.ops [(po 2 (.mv (.k (.int .i64 2))))]) .ret) .skip)) (.seq (.ops [(po 36 (.load true 69 (.t 1))),(po 37 (.call (F 252) [(.t 36)])),(pm 2 37)]) .ret)))))
structure OkCheck2 (P:Program) (F:Fn):Prop where
 mixed:P.follows .mixedOrders=true
 toOkCheck:OkCheck P F
 h251:compFn P ⟨[],[],[],[],[]⟩ (F 251)=some (k251 F)
 h252:compFn P ⟨[],[],[],[],[]⟩ (F 252)=some (k252 F)
 h253:compFn P ⟨[],[],[],[],[]⟩ (F 253)=some (k253 F)
def k255 (F:Fn):PF:=PF.mk 10 1 [(.t 2)] (.seq (.ops [(po 2 (.mv (.k (.ptr none))))]) (.seq (.ops [(pm 3 0),(po 4 (.nilck (.t 3))),(po 5 (.fldA 0 (.t 4))),(po 6 (.load false 1 (.t 5))),(po 7 (.call (F 256) [(.t 6)])),(po 8 (.build [(.map none)] [(0,(1,(.t 7)))])),(po 9 (.box (.t 8))),(pm 2 9)]) .ret))
def k258 (F:Fn):PF:=PF.mk 64 3 [(.t 6)] (.seq (.ops [(po 4 (.box (.t 1))),(po 6 (.mv (.k (.int .i64 0))))]) (.seq (.seq (.ops [(pm 13 0),(po 14 (.nilck (.t 13))),(po 15 (.fldA 0 (.t 14))),(po 16 (.load false 1 (.t 15))),(po 17 (.eqa .map false (.t 16) (.k (.map none))))]) (.cond (.t 17) (.ops [(pm 18 0),(PO.mk (some 19) POp.mkmap none),(po 20 (.nilck (.t 18))),(po 21 (.fldA 0 (.t 20))),(PO.mk none (.store 1 (.t 21) (.t 19)) none)]) .skip)) (.seq (.ops [(po 22 (.load true 2 (.t 4))),(po 23 (.call (F 198) [(.t 22)])),(po 7 (.alloc zR32_w80)),(PO.mk none (.store 32 (.t 7) (.t 23)) none)]) (.seq (.seq (.ops [(po 24 (.fldA 1 (.t 4))),(po 25 (.load false 1 (.t 24))),(po 26 (.lenSl (.t 25))),(po 27 (.mv (.k (.int .i64 0))))]) (.block 0 (.loop (.seq (.ops [(po 28 (.bin .lss (.t 27) (.t 26)))]) (.seq (.cond (.t 28) .skip (.exit 0)) (.seq (.block 1 (.seq (.ops [(pm 29 27),(pm 8 29)]) (.seq (.draw [(.e,(pm 31 0)),(.e,(po 32 (.nilck (.t 31)))),(.e,(po 33 (.fldA 0 (.t 32)))),(.e,(pm 36 8)),(.e,(po 37 (.conv .u32 (.t 36)))),(.s,(po 34 (.load false 1 (.t 33)))),(.s,(po 35 (.load true 32 (.t 7)))),(.e,(po 38 (.build z33_1371 [(0,(32,(.t 35))),(32,(1,(.t 37)))]))),(.s,(po 39 (.lookup (.agg 33) (.agg z34_7943) true (.t 34) (.t 38)))),(.e,(pm 30 39)),(.e,(po 40 (.ext 0 (.t 30)))),(.e,(po 41 (.ext 1 (.t 30)))),(.a,(po 9 (.alloc z34_7943))),(.x,(PO.mk none (.store 34 (.t 9) (.t 40)) none)),(.e,(pm 10 41))]) (.seq (.ops [(pm 42 10)]) (.cond (.t 42) (.seq (.ops [(po 6 (.mv (.k (.int .i64 5))))]) .ret) .skip))))) (.ops [(po 43 (.bin .add (.t 27) (.k (.int .i64 1)))),(pm 27 43)]))))))) (.seq (.seq (.ops [(po 44 (.fldA 1 (.t 4))),(po 45 (.load false 1 (.t 44))),(po 46 (.lenSl (.t 45))),(po 47 (.mv (.k (.int .i64 0))))]) (.block 2 (.loop (.seq (.ops [(po 48 (.bin .lss (.t 47) (.t 46)))]) (.seq (.cond (.t 48) .skip (.exit 2)) (.seq (.block 3 (.seq (.ops [(pm 49 47),(po 50 (.idxSl 33 (.t 45) (.t 47))),(po 51 (.load true 33 (.t 50))),(po 12 (.alloc z33_0be4)),(pm 11 49),(PO.mk none (.store 33 (.t 12) (.t 51)) none)]) (.draw [(.e,(pm 52 0)),(.e,(po 53 (.nilck (.t 52)))),(.e,(po 54 (.fldA 0 (.t 53)))),(.e,(pm 57 11)),(.e,(po 58 (.conv .u32 (.t 57)))),(.e,(pm 61 2)),(.s,(po 55 (.load false 1 (.t 54)))),(.s,(po 56 (.load true 32 (.t 7)))),(.e,(po 59 (.build z33_1371 [(0,(32,(.t 56))),(32,(1,(.t 58)))]))),(.s,(po 60 (.load true 33 (.t 12)))),(.e,(po 62 (.build z34_7943 [(0,(33,(.t 60))),(33,(1,(.t 61)))]))),(.x,(PO.mk none (.mset (.agg 33) (.t 55) (.t 59) (.t 62)) none))]))) (.ops [(po 63 (.bin .add (.t 47) (.k (.int .i64 1)))),(pm 47 63)]))))))) (.seq (.ops [(po 6 (.mv (.k (.int .i64 0))))]) .ret))))))
def k259 (F:Fn):PF:=PF.mk 102 4 [(PR.cell 8 true 2),(.t 9)] (.seq (.ops [(po 5 (.box (.t 1))),(po 8 (.alloc [(.sl .nil [] 0),(.sl .nil [] 0)])),(po 9 (.mv (.k (.int .i64 0))))]) (.seq (.ops [(po 10 (.alloc [(.sl .nil [] 0),(.sl .nil [] 0)]))]) (.seq (.ops [(po 11 (.mv (.k (.int .i64 0))))]) (.seq (.seq (.ops [(po 21 (.fldA 68 (.t 5))),(po 22 (.load false 1 (.t 21))),(po 23 (.lenSl (.t 22))),(po 24 (.mv (.k (.int .i64 0))))]) (.block 0 (.loop (.seq (.ops [(po 25 (.bin .lss (.t 24) (.t 23)))]) (.seq (.cond (.t 25) .skip (.exit 0)) (.seq (.block 1 (.seq (.ops [(pm 26 24),(po 27 (.idxSl 2 (.t 22) (.t 24))),(po 28 (.load true 2 (.t 27))),(po 13 (.alloc [(.sl .nil [] 0),(.sl .nil [] 0)])),(pm 12 26),(PO.mk none (.store 2 (.t 13) (.t 28)) none)]) (.seq (.seq (.ops [(pm 29 12),(po 30 (.bin .eql (.t 29) (.k (.int .i64 0))))]) (.cond (.t 30) (.exit 1) .skip)) (.seq (.ops [(pm 32 0),(po 33 (.fldA 0 (.t 13))),(po 34 (.load false 1 (.t 33))),(po 35 (.call (F 257) [(.t 32),(.t 10),(.t 34)])),(pm 31 35),(po 36 (.ext 0 (.t 31))),(po 37 (.ext 1 (.t 31))),(pm 14 36),(pm 15 37)]) (.seq (.seq (.ops [(pm 38 15),(po 39 (.bin .neq (.t 38) (.k (.int .i64 0))))]) (.cond (.t 39) (.seq (.ops [(po 40 (.load true 2 (.t 10))),(pm 41 15),(PO.mk none (.store 2 (.t 8) (.t 40)) none),(pm 9 41)]) .ret) .skip)) (.seq (.ops [(po 43 (.fldA 1 (.t 13))),(po 44 (.load false 1 (.t 43))),(po 45 (.call (F 250) [(.t 44)])),(pm 42 45),(po 46 (.ext 0 (.t 42))),(po 47 (.ext 1 (.t 42))),(pm 16 46),(pm 17 47)]) (.seq (.seq (.ops [(pm 48 17),(po 49 (.not (.t 48))),(pm 50 49),(PO.mk (some 51) (.mv (.t 16)) (some (50,false))),(PO.mk (some 52) (.mv (.t 14)) (some (50,false))),(PO.mk (some 53) (.bin .gtr (.t 51) (.t 52)) (some (50,false))),(po 54 (.pick (.t 50) (.k (.bool true)) (.t 53)))]) (.cond (.t 54) (.seq (.ops [(po 55 (.load true 2 (.t 10))),(PO.mk none (.store 2 (.t 8) (.t 55)) none),(po 9 (.mv (.k (.int .i64 121))))]) .ret) .skip)) (.seq (.seq (.ops [(pm 56 0),(po 57 (.load true 2 (.t 13))),(pm 58 2),(po 59 (.call (F 258) [(.t 56),(.t 57),(.t 58)])),(pm 18 59)]) (.seq (.ops [(pm 60 18),(po 61 (.bin .neq (.t 60) (.k (.int .i64 0))))]) (.cond (.t 61) (.seq (.ops [(po 62 (.load true 2 (.t 10))),(pm 63 18),(PO.mk none (.store 2 (.t 8) (.t 62)) none),(pm 9 63)]) .ret) .skip))) (.ops [(pm 64 11),(pm 65 14),(pm 66 16),(po 67 (.bin .sub (.t 65) (.t 66))),(po 68 (.bin .add (.t 64) (.t 67))),(pm 11 68)]))))))))) (.ops [(po 69 (.bin .add (.t 24) (.k (.int .i64 1)))),(pm 24 69)]))))))) (.seq (.seq (.ops [(po 70 (.fldA 68 (.t 5))),(po 71 (.load false 1 (.t 70))),(po 72 (.lenSl (.t 71))),(po 73 (.bin .eql (.t 72) (.k (.int .i64 0))))]) (.cond (.t 73) (.seq (.ops [(po 74 (.load true 2 (.t 10))),(PO.mk none (.store 2 (.t 8) (.t 74)) none),(po 9 (.mv (.k (.int .i64 120))))]) .ret) .skip)) (.seq (.seq (.ops [(po 76 (.fldA 68 (.t 5))),(po 77 (.load false 1 (.t 76))),(po 78 (.idxSl 2 (.t 77) (.k (.int .i64 0)))),(po 79 (.fldA 1 (.t 78))),(po 80 (.load false 1 (.t 79))),(po 81 (.call (F 250) [(.t 80)])),(pm 75 81),(po 82 (.ext 0 (.t 75))),(po 83 (.ext 1 (.t 75))),(pm 19 82),(pm 20 83)]) (.seq (.ops [(pm 84 20),(po 85 (.not (.t 84))),(pm 86 85),(PO.mk (some 87) (.mv (.t 19)) (some (86,false))),(PO.mk (some 88) (.mv (.t 3)) (some (86,false))),(PO.mk (some 89) (.bin .sub (.t 87) (.t 88)) (some (86,false))),(PO.mk (some 90) (.mv (.t 11)) (some (86,false))),(PO.mk (some 91) (.bin .gtr (.t 89) (.t 90)) (some (86,false))),(po 92 (.pick (.t 86) (.k (.bool true)) (.t 91)))]) (.cond (.t 92) (.seq (.ops [(po 93 (.load true 2 (.t 10))),(PO.mk none (.store 2 (.t 8) (.t 93)) none),(po 9 (.mv (.k (.int .i64 121))))]) .ret) .skip))) (.seq (.seq (.frz [10,10]) (.draw [(.e,(po 94 (.loadE true 2 (.t 10)))),(.e,(pm 95 0)),(.e,(po 96 (.fldA 68 (.t 5)))),(.e,(pm 100 2)),(.s,(po 97 (.load false 1 (.t 96)))),(.e,(po 98 (.idxSl 2 (.t 97) (.k (.int .i64 0))))),(.s,(po 99 (.load true 2 (.t 98)))),(.x,(po 101 (.call (F 258) [(.t 95),(.t 99),(.t 100)]))),(.x,(PO.mk none (.store 2 (.t 8) (.t 94)) none)),(.e,(pm 9 101))])) .ret)))))))
def k260 (F:Fn):PF:=PF.mk 35 4 [(PR.cell 8 true 2),(.t 9)] (.seq (.ops [(po 5 (.box (.t 1))),(po 8 (.alloc [(.sl .nil [] 0),(.sl .nil [] 0)])),(po 9 (.mv (.k (.int .i64 0))))]) (.seq (.ops [(pm 13 0),(po 14 (.call (F 255) [(.t 13)])),(pm 10 14)]) (.seq (.ops [(pm 16 10),(po 17 (.load true 69 (.t 5))),(pm 18 2),(pm 19 3),(po 20 (.call (F 259) [(.t 16),(.t 17),(.t 18),(.t 19)])),(pm 15 20),(po 21 (.ext 0 (.t 15))),(po 22 (.ext 1 (.t 15))),(po 11 (.alloc [(.sl .nil [] 0),(.sl .nil [] 0)])),(PO.mk none (.store 2 (.t 11) (.t 21)) none),(pm 12 22)]) (.seq (.seq (.ops [(pm 23 12),(po 24 (.bin .neq (.t 23) (.k (.int .i64 0))))]) (.cond (.t 24) (.seq (.ops [(po 25 (.build [(.sl .nil [] 0),(.sl .nil [] 0)] [])),(pm 26 12),(PO.mk none (.store 2 (.t 8) (.t 25)) none),(pm 9 26)]) .ret) .skip)) (.seq (.ops [(pm 27 0),(pm 28 10),(po 29 (.nilck (.t 28))),(po 30 (.fldA 0 (.t 29))),(po 31 (.load false 1 (.t 30))),(po 32 (.nilck (.t 27))),(po 33 (.fldA 0 (.t 32))),(PO.mk none (.store 1 (.t 33) (.t 31)) none)]) (.seq (.ops [(po 34 (.load true 2 (.t 11))),(PO.mk none (.store 2 (.t 8) (.t 34)) none),(po 9 (.mv (.k (.int .i64 0))))]) .ret))))))
def k261 (F:Fn):PF:=PF.mk 23 2 [] (.seq (.ops [(po 3 (.box (.t 1)))]) (.seq (.ops [(po 6 (.load true 2 (.t 3))),(po 7 (.call (F 198) [(.t 6)])),(po 4 (.alloc zR32_w80)),(PO.mk none (.store 32 (.t 4) (.t 7)) none)]) (.seq (.ops [(po 8 (.fldA 1 (.t 3))),(po 9 (.load false 1 (.t 8))),(po 10 (.lenSl (.t 9))),(po 11 (.mv (.k (.int .i64 0))))]) (.block 0 (.loop (.seq (.ops [(po 12 (.bin .lss (.t 11) (.t 10)))]) (.seq (.cond (.t 12) .skip (.exit 0)) (.seq (.block 1 (.seq (.ops [(pm 13 11),(pm 5 13)]) (.draw [(.e,(pm 14 0)),(.e,(po 15 (.nilck (.t 14)))),(.e,(po 16 (.fldA 0 (.t 15)))),(.e,(pm 19 5)),(.e,(po 20 (.conv .u32 (.t 19)))),(.s,(po 17 (.load false 1 (.t 16)))),(.s,(po 18 (.load true 32 (.t 4)))),(.e,(po 21 (.build z33_1371 [(0,(32,(.t 18))),(32,(1,(.t 20)))]))),(.x,(PO.mk none (.mdel (.agg 33) (.t 17) (.t 21)) none))]))) (.ops [(po 22 (.bin .add (.t 11) (.k (.int .i64 1)))),(pm 11 22)])))))))))
def k262 (F:Fn):PF:=PF.mk 111 3 [(.t 6)] (.seq (.ops [(po 4 (.box (.t 1))),(po 5 (.box (.t 2))),(po 6 (.mv (.k (.int .i64 0))))]) (.seq (.ops [(po 7 (.mv (.k (.int .i64 0))))]) (.seq (.seq (.ops [(po 12 (.fldA 68 (.t 4))),(po 13 (.load false 1 (.t 12))),(po 14 (.lenSl (.t 13))),(po 15 (.mv (.k (.int .i64 0))))]) (.block 0 (.loop (.seq (.ops [(po 16 (.bin .lss (.t 15) (.t 14)))]) (.seq (.cond (.t 16) .skip (.exit 0)) (.seq (.block 1 (.seq (.ops [(pm 17 15),(po 18 (.idxSl 2 (.t 13) (.t 15))),(po 19 (.load true 2 (.t 18))),(po 9 (.alloc [(.sl .nil [] 0),(.sl .nil [] 0)])),(pm 8 17),(PO.mk none (.store 2 (.t 9) (.t 19)) none)]) (.seq (.ops [(pm 20 8),(po 21 (.bin .gtr (.t 20) (.k (.int .i64 0))))]) (.cond (.t 21) (.ops [(pm 22 7),(po 23 (.fldA 0 (.t 9))),(po 24 (.load false 1 (.t 23))),(po 25 (.lenSl (.t 24))),(po 26 (.bin .add (.t 22) (.t 25))),(pm 7 26)]) .skip)))) (.ops [(po 27 (.bin .add (.t 15) (.k (.int .i64 1)))),(pm 15 27)]))))))) (.seq (.seq (.ops [(po 28 (.fldA 68 (.t 4))),(po 29 (.load false 1 (.t 28))),(po 30 (.lenSl (.t 29))),(po 31 (.bin .eql (.t 30) (.k (.int .i64 0)))),(pm 32 31),(PO.mk (some 33) (.mv (.t 7)) (some (32,false))),(PO.mk (some 34) (.fldA 0 (.t 5)) (some (32,false))),(PO.mk (some 35) (.load false 1 (.t 34)) (some (32,false))),(PO.mk (some 36) (.lenSl (.t 35)) (some (32,false))),(PO.mk (some 37) (.bin .neq (.t 33) (.t 36)) (some (32,false))),(po 38 (.pick (.t 32) (.k (.bool true)) (.t 37))),(pm 39 38),(PO.mk (some 40) (.mv (.t 7)) (some (39,false))),(PO.mk (some 41) (.fldA 1 (.t 5)) (some (39,false))),(PO.mk (some 42) (.load false 1 (.t 41)) (some (39,false))),(PO.mk (some 43) (.lenSl (.t 42)) (some (39,false))),(PO.mk (some 44) (.bin .neq (.t 40) (.t 43)) (some (39,false))),(po 45 (.pick (.t 39) (.k (.bool true)) (.t 44)))]) (.cond (.t 45) (.seq (.ops [(po 6 (.mv (.k (.int .i64 120))))]) .ret) .skip)) (.seq (.ops [(pm 46 0),(po 47 (.call (F 255) [(.t 46)])),(pm 10 47)]) (.seq (.seq (.ops [(pm 48 10),(po 49 (.nilck (.t 48))),(po 50 (.fldA 0 (.t 49))),(po 51 (.load false 1 (.t 50))),(po 52 (.eqa .map false (.t 51) (.k (.map none))))]) (.cond (.t 52) (.ops [(pm 53 10),(PO.mk (some 54) POp.mkmap none),(po 55 (.nilck (.t 53))),(po 56 (.fldA 0 (.t 55))),(PO.mk none (.store 1 (.t 56) (.t 54)) none)]) .skip)) (.seq (.ops [(pm 57 10),(po 58 (.fldA 68 (.t 4))),(po 59 (.load false 1 (.t 58))),(po 60 (.idxSl 2 (.t 59) (.k (.int .i64 0)))),(po 61 (.load true 2 (.t 60))),(po 62 (.call (F 261) [(.t 57),(.t 61)]))]) (.seq (.seq (.ops [(po 63 (.fldA 68 (.t 4))),(po 64 (.load false 1 (.t 63))),(po 65 (.lenSl (.t 64))),(po 66 (.bin .sub (.t 65) (.k (.int .i64 1)))),(pm 11 66)]) (.block 2 (.loop (.seq (.seq (.ops [(pm 67 11),(po 68 (.bin .gtr (.t 67) (.k (.int .i64 0))))]) (.cond (.t 68) .skip (.exit 2))) (.seq (.block 3 (.seq (.ops [(pm 71 10),(po 72 (.fldA 68 (.t 4))),(po 73 (.load false 1 (.t 72))),(pm 74 11),(po 75 (.idxSl 2 (.t 73) (.t 74))),(po 76 (.load true 2 (.t 75))),(po 77 (.call (F 261) [(.t 71),(.t 76)]))]) (.seq (.ops [(po 78 (.fldA 68 (.t 4))),(po 79 (.load false 1 (.t 78))),(pm 80 11),(po 81 (.idxSl 2 (.t 79) (.t 80))),(po 82 (.fldA 0 (.t 81))),(po 83 (.load false 1 (.t 82))),(po 84 (.lenSl (.t 83))),(po 85 (.mv (.k (.int .i64 0))))]) (.block 4 (.loop (.seq (.ops [(po 86 (.bin .lss (.t 85) (.t 84)))]) (.seq (.cond (.t 86) .skip (.exit 4)) (.seq (.block 5 (.seq (.ops [(pm 87 7),(po 88 (.bin .sub (.t 87) (.k (.int .i64 1)))),(pm 7 88)]) (.draw [(.e,(pm 89 10)),(.e,(po 90 (.nilck (.t 89)))),(.e,(po 91 (.fldA 0 (.t 90)))),(.e,(po 93 (.fldA 0 (.t 5)))),(.e,(pm 95 7)),(.e,(po 98 (.fldA 1 (.t 5)))),(.e,(pm 100 7)),(.s,(po 92 (.load false 1 (.t 91)))),(.s,(po 94 (.load false 1 (.t 93)))),(.e,(po 96 (.idxSl 33 (.t 94) (.t 95)))),(.s,(po 97 (.load true 33 (.t 96)))),(.s,(po 99 (.load false 1 (.t 98)))),(.e,(po 101 (.idxSl 34 (.t 99) (.t 100)))),(.s,(po 102 (.load true 34 (.t 101)))),(.x,(PO.mk none (.mset (.agg 33) (.t 92) (.t 97) (.t 102)) none))]))) (.ops [(po 103 (.bin .add (.t 85) (.k (.int .i64 1)))),(pm 85 103)]))))))))) (.ops [(pm 69 11),(po 70 (.bin .sub (.t 69) (.k (.int .i64 1)))),(pm 11 70)])))))) (.seq (.ops [(pm 104 0),(pm 105 10),(po 106 (.nilck (.t 105))),(po 107 (.fldA 0 (.t 106))),(po 108 (.load false 1 (.t 107))),(po 109 (.nilck (.t 104))),(po 110 (.fldA 0 (.t 109))),(PO.mk none (.store 1 (.t 110) (.t 108)) none)]) (.seq (.ops [(po 6 (.mv (.k (.int .i64 0))))]) .ret))))))))))
structure OkCoins (P:Program) (F:Fn):Prop where
 mixed:P.follows .mixedOrders=true
 toOkCheck2:OkCheck2 P F
 h255:compFn P ⟨[],[],[],[],[]⟩ (F 255)=some (k255 F)
 h258:compFn P ⟨[],[],[],[],[]⟩ (F 258)=some (k258 F)
 h259:compFn P ⟨[94],[],[(23,[10,10])],[],[]⟩ (F 259)=some (k259 F)
 h260:compFn P ⟨[],[],[],[],[]⟩ (F 260)=some (k260 F)
 h261:compFn P ⟨[],[],[],[],[]⟩ (F 261)=some (k261 F)
 h262:compFn P ⟨[],[],[],[],[]⟩ (F 262)=some (k262 F)
def k160 (F:Fn):PF:=PF.mk 7 1 [(PR.cell 2 true 74)] (.seq (.ops [(po 2 (.alloc z74_2f53))]) (.seq (.ops [(pm 3 0),(po 4 (.nilck (.t 3))),(po 5 (.fldA 0 (.t 4))),(po 6 (.load true 74 (.t 5))),(PO.mk none (.store 74 (.t 2) (.t 6)) none)]) .ret))
def k162 (F:Fn):PF:=PF.mk 19 2 [(.t 4),(.t 5)] (.seq (.ops [(po 3 (.box (.t 1))),(po 4 (.mv (.k (.int .i64 0)))),(po 5 (.mv (.k (.bool false))))]) (.seq (.draw [(.e,(pm 9 0)),(.e,(po 10 (.nilck (.t 9)))),(.e,(po 11 (.fldA 75 (.t 10)))),(.s,(po 12 (.load false 1 (.t 11)))),(.s,(po 13 (.load true 32 (.t 3)))),(.s,(po 14 (.lookup (.agg 32) (.int .i64 0) true (.t 12) (.t 13)))),(.e,(pm 8 14)),(.e,(po 15 (.ext 0 (.t 8)))),(.e,(po 16 (.ext 1 (.t 8)))),(.e,(pm 6 15)),(.e,(pm 7 16))]) (.seq (.ops [(pm 17 6),(pm 18 7),(pm 4 17),(pm 5 18)]) .ret)))
structure OkIndexZ (P:Program) (F:Fn):Prop where
 mixed:P.follows .mixedOrders=true
 toOkIndex:OkIndex P F
 h160:compFn P ⟨[],[],[],[],[]⟩ (F 160)=some (k160 F)
 h162:compFn P ⟨[],[],[],[],[]⟩ (F 162)=some (k162 F)
def k228 (F:Fn):PF:=PF.mk 49 3 [(.t 6)] (.seq (.ops [(po 6 (.mv (.k (.int .i64 0))))]) (.seq (.ops [(pm 8 1),(pm 9 0),(po 10 (.call (F 159) [(.t 9)])),(po 11 (.bin .sub (.t 10) (.k (.int .i64 1)))),(po 12 (.min [(.t 8),(.t 11)])),(po 13 (.max [(.k (.int .i64 0)),(.t 12)])),(pm 14 2),(pm 15 0),(po 16 (.call (F 159) [(.t 15)])),(po 17 (.bin .sub (.t 16) (.k (.int .i64 1)))),(po 18 (.min [(.t 14),(.t 17)])),(po 19 (.max [(.k (.int .i64 0)),(.t 18)])),(pm 1 13),(pm 2 19)]) (.seq (.ops [(pm 20 0),(pm 21 1),(po 22 (.call (F 161) [(.t 20),(.t 21)])),(po 23 (.fld false 102 1 (.t 22))),(pm 24 0),(pm 25 2),(po 26 (.call (F 161) [(.t 24),(.t 25)])),(po 27 (.fld false 102 1 (.t 26))),(po 28 (.min [(.t 23),(.t 27)])),(pm 7 28)]) (.seq (.ops [(pm 29 0),(pm 30 1),(pm 31 7),(po 32 (.call (F 158) [(.t 29),(.t 30),(.t 31)])),(pm 33 0),(pm 34 2),(pm 35 7),(po 36 (.call (F 158) [(.t 33),(.t 34),(.t 35)])),(pm 1 32),(pm 2 36)]) (.seq (.block 0 (.loop (.seq (.seq (.ops [(pm 37 1),(pm 38 2),(po 39 (.bin .neq (.t 37) (.t 38)))]) (.cond (.t 39) .skip (.exit 0))) (.block 1 (.ops [(pm 40 0),(pm 41 1),(po 42 (.call (F 161) [(.t 40),(.t 41)])),(po 43 (.fld false 100 1 (.t 42))),(pm 44 0),(pm 45 2),(po 46 (.call (F 161) [(.t 44),(.t 45)])),(po 47 (.fld false 100 1 (.t 46))),(pm 1 43),(pm 2 47)]))))) (.seq (.ops [(pm 48 1),(pm 6 48)]) .ret))))))
def k229 (F:Fn):PF:=PF.mk 39 3 [(.t 6)] (.seq (.ops [(po 6 (.mv (.k (.sl .nil [] 0))))]) (.seq (.seq (.ops [(pm 9 2),(po 10 (.bin .lss (.t 9) (.k (.int .i64 0)))),(pm 11 10),(PO.mk (some 12) (.mv (.t 2)) (some (11,false))),(PO.mk (some 13) (.mv (.t 0)) (some (11,false))),(PO.mk (some 14) (.call (F 159) [(.t 13)]) (some (11,false))),(PO.mk (some 15) (.bin .geq (.t 12) (.t 14)) (some (11,false))),(po 16 (.pick (.t 11) (.k (.bool true)) (.t 15))),(pm 17 16),(PO.mk (some 18) (.mv (.t 0)) (some (17,false))),(PO.mk (some 19) (.mv (.t 1)) (some (17,false))),(PO.mk (some 20) (.mv (.t 2)) (some (17,false))),(PO.mk (some 21) (.call (F 163) [(.t 18),(.t 19),(.t 20)]) (some (17,false))),(PO.mk (some 22) (.not (.t 21)) (some (17,false))),(po 23 (.pick (.t 17) (.k (.bool true)) (.t 22)))]) (.cond (.t 23) (.seq (.ops [(po 6 (.mv (.k (.sl .nil [] 0))))]) .ret) .skip)) (.seq (.ops [(po 7 (.mv (.k (.sl .nil [] 0))))]) (.seq (.seq (.ops [(pm 24 2),(pm 8 24)]) (.block 0 (.loop (.seq (.seq (.ops [(pm 25 8),(pm 26 1),(po 27 (.bin .neq (.t 25) (.t 26)))]) (.cond (.t 27) .skip (.exit 0))) (.seq (.block 1 (.ops [(pm 32 7),(pm 33 8),(po 34 (.bsl false 1 1 [(.int .i64 0)] [(0,(1,(.t 33)))])),(po 35 (.app 1 8 (.t 32) (.t 34))),(pm 7 35)])) (.ops [(pm 28 0),(pm 29 8),(po 30 (.call (F 161) [(.t 28),(.t 29)])),(po 31 (.fld false 100 1 (.t 30))),(pm 8 31)])))))) (.seq (.ops [(pm 36 7),(po 37 (.call (F 230) [(.t 36)]))]) (.seq (.ops [(pm 38 7),(pm 6 38)]) .ret))))))
def k230 (F:Fn):PF:=PF.mk 28 1 [] (.seq (.ops [(pm 4 0),(po 5 (.lenSl (.t 4))),(po 6 (.bin .sub (.t 5) (.k (.int .i64 1)))),(po 2 (.mv (.k (.int .i64 0)))),(pm 3 6)]) (.block 0 (.loop (.seq (.seq (.ops [(pm 7 2),(pm 8 3),(po 9 (.bin .lss (.t 7) (.t 8)))]) (.cond (.t 9) .skip (.exit 0))) (.seq (.block 1 (.draw [(.e,(pm 14 0)),(.e,(pm 15 2)),(.e,(pm 16 0)),(.e,(pm 17 3)),(.e,(pm 18 0)),(.e,(pm 19 3)),(.e,(po 20 (.idxSl 1 (.t 18) (.t 19)))),(.e,(pm 22 0)),(.e,(pm 23 2)),(.e,(po 24 (.idxSl 1 (.t 22) (.t 23)))),(.s,(po 21 (.load false 1 (.t 20)))),(.s,(po 25 (.load false 1 (.t 24)))),(.e,(po 26 (.idxSl 1 (.t 14) (.t 15)))),(.x,(PO.mk none (.store 1 (.t 26) (.t 21)) none)),(.e,(po 27 (.idxSl 1 (.t 16) (.t 17)))),(.x,(PO.mk none (.store 1 (.t 27) (.t 25)) none))])) (.ops [(pm 10 2),(po 11 (.bin .add (.t 10) (.k (.int .i64 1)))),(pm 12 3),(po 13 (.bin .sub (.t 12) (.k (.int .i64 1)))),(pm 2 11),(pm 3 13)]))))))
structure OkLocate (P:Program) (F:Fn):Prop where
 mixed:P.follows .mixedOrders=true
 toOkIndexZ:OkIndexZ P F
 h228:compFn P ⟨[],[],[],[],[]⟩ (F 228)=some (k228 F)
 h229:compFn P ⟨[],[],[],[],[]⟩ (F 229)=some (k229 F)
 h230:compFn P ⟨[],[],[],[],[]⟩ (F 230)=some (k230 F)
def k265 (F:Fn):PF:=PF.mk 47 1 [(.t 2),(.t 3)] (.seq (.ops [(po 1 (.box (.t 0))),(po 2 (.mv (.k (.ptr none)))),(po 3 (.mv (.k (.int .i64 0))))]) (.seq (.ops [(po 11 (.load true 74 (.t 1))),(po 12 (.call (F 155) [(.t 11)])),(pm 10 12),(po 13 (.ext 0 (.t 10))),(po 14 (.ext 1 (.t 10))),(pm 4 13),(pm 5 14)]) (.seq (.seq (.ops [(pm 15 5),(po 16 (.bin .neq (.t 15) (.k (.int .i64 0))))]) (.cond (.t 16) (.seq (.ops [(pm 17 5),(po 2 (.mv (.k (.ptr none)))),(pm 3 17)]) .ret) .skip)) (.seq (.seq (.ops [(po 18 (.fldA 5 (.t 1))),(po 19 (.load true 69 (.t 18))),(po 20 (.call (F 253) [(.t 19)])),(pm 6 20)]) (.seq (.ops [(pm 21 6),(po 22 (.bin .neq (.t 21) (.k (.int .i64 0))))]) (.cond (.t 22) (.seq (.ops [(pm 23 6),(po 2 (.mv (.k (.ptr none)))),(pm 3 23)]) .ret) .skip))) (.seq (.ops [(pm 24 4),(PO.mk (some 25) POp.mkmap none),(po 26 (.fldA 5 (.t 1))),(po 27 (.load true 69 (.t 26))),(PO.mk none (.mset .int (.t 25) (.k (.int .i64 0)) (.t 27)) none),(pm 28 25),(PO.mk (some 29) POp.mkmap none),(po 30 (.build [(.ptr none),(.map none),(.map none),(.map none),(.int .i64 0)] [(0,(1,(.t 24))),(2,(1,(.t 28))),(3,(1,(.t 29)))])),(po 31 (.box (.t 30))),(pm 7 31)]) (.seq (.seq (.draw [(.e,(pm 33 7)),(.e,(po 34 (.nilck (.t 33)))),(.e,(po 35 (.fldA 1 (.t 34)))),(.e,(po 36 (.fldA 5 (.t 1)))),(.e,(po 38 (.fldA 3 (.t 1)))),(.s,(po 37 (.load true 69 (.t 36)))),(.s,(po 39 (.load false 1 (.t 38)))),(.x,(po 40 (.call (F 260) [(.t 35),(.t 37),(.k (.int .i64 0)),(.t 39)]))),(.e,(pm 32 40)),(.e,(po 41 (.ext 0 (.t 32)))),(.e,(po 42 (.ext 1 (.t 32)))),(.a,(po 8 (.alloc [(.sl .nil [] 0),(.sl .nil [] 0)]))),(.x,(PO.mk none (.store 2 (.t 8) (.t 41)) none)),(.e,(pm 9 42))]) (.seq (.ops [(pm 43 9),(po 44 (.bin .neq (.t 43) (.k (.int .i64 0))))]) (.cond (.t 44) (.seq (.ops [(pm 45 9),(po 2 (.mv (.k (.ptr none)))),(pm 3 45)]) .ret) .skip))) (.seq (.ops [(pm 46 7),(pm 2 46),(po 3 (.mv (.k (.int .i64 0))))]) .ret)))))))
def k266 (F:Fn):PF:=PF.mk 7 1 [(.t 2)] (.seq (.ops [(po 2 (.mv (.k (.int .i64 0))))]) (.seq (.ops [(pm 3 0),(po 4 (.nilck (.t 3))),(po 5 (.fldA 4 (.t 4))),(po 6 (.load false 1 (.t 5))),(pm 2 6)]) .ret))
def k268 (F:Fn):PF:=PF.mk 17 2 [(.t 4)] (.seq (.ops [(po 4 (.mv (.k (.bool false))))]) (.seq (.ops [(pm 8 0),(po 9 (.nilck (.t 8))),(po 10 (.fldA 2 (.t 9))),(po 11 (.load false 1 (.t 10))),(pm 12 1),(po 13 (.lookup .int (.agg z69_adc1) true (.t 11) (.t 12))),(pm 7 13),(po 14 (.ext 0 (.t 7))),(po 15 (.ext 1 (.t 7))),(po 5 (.alloc z69_adc1)),(PO.mk none (.store 69 (.t 5) (.t 14)) none),(pm 6 15)]) (.seq (.ops [(pm 16 6),(pm 4 16)]) .ret)))
def k271 (F:Fn):PF:=PF.mk 53 1 [(PR.cell 2 true 69)] (.seq (.ops [(po 1 (.box (.t 0))),(po 2 (.alloc z69_adc1))]) (.seq (.ops [(po 9 (.fldA 0 (.t 1))),(po 10 (.load true 68 (.t 9))),(po 11 (.build z69_adc1 [(0,(68,(.t 10)))])),(po 3 (.alloc z69_adc1)),(PO.mk none (.store 69 (.t 3) (.t 11)) none)]) (.seq (.seq (.ops [(po 12 (.fldA 68 (.t 1))),(po 13 (.load false 1 (.t 12))),(po 14 (.lenSl (.t 13))),(po 15 (.mv (.k (.int .i64 0))))]) (.block 0 (.loop (.seq (.ops [(po 16 (.bin .lss (.t 15) (.t 14)))]) (.seq (.cond (.t 16) .skip (.exit 0)) (.seq (.block 1 (.seq (.ops [(po 17 (.idxSl 2 (.t 13) (.t 15))),(po 18 (.load true 2 (.t 17))),(po 5 (.alloc [(.sl .nil [] 0),(.sl .nil [] 0)])),(PO.mk none (.store 2 (.t 5) (.t 18)) none)]) (.seq (.ops [(po 6 (.alloc [(.sl .nil [] 0),(.sl .nil [] 0)]))]) (.seq (.seq (.ops [(po 19 (.fldA 0 (.t 5))),(po 20 (.load false 1 (.t 19))),(po 21 (.lenSl (.t 20))),(po 22 (.mv (.k (.int .i64 0))))]) (.block 2 (.loop (.seq (.ops [(po 23 (.bin .lss (.t 22) (.t 21)))]) (.seq (.cond (.t 23) .skip (.exit 2)) (.seq (.block 3 (.seq (.ops [(po 24 (.idxSl 34 (.t 20) (.t 22))),(po 25 (.load true 34 (.t 24))),(po 8 (.alloc z34_1838)),(PO.mk none (.store 34 (.t 8) (.t 25)) none)]) (.draw [(.e,(po 26 (.fldA 0 (.t 6)))),(.e,(po 28 (.fldA 0 (.t 8)))),(.e,(po 30 (.bsl false 1 0 [(w8 0)] []))),(.e,(po 31 (.fldA 33 (.t 8)))),(.s,(po 27 (.load false 1 (.t 26)))),(.s,(po 29 (.load true 33 (.t 28)))),(.s,(po 32 (.load false 1 (.t 31)))),(.x,(po 33 (.appn 1 1 (.t 30) (.t 32)))),(.e,(po 34 (.build z34_1838 [(0,(33,(.t 29))),(33,(1,(.t 33)))]))),(.e,(po 35 (.bsl false 34 1 z34_1838 [(0,(34,(.t 34)))]))),(.x,(po 36 (.app 34 64 (.t 27) (.t 35)))),(.e,(po 37 (.fldA 0 (.t 6)))),(.x,(PO.mk none (.store 1 (.t 37) (.t 36)) none))]))) (.ops [(po 38 (.bin .add (.t 22) (.k (.int .i64 1)))),(pm 22 38)]))))))) (.seq (.ops [(po 39 (.fldA 1 (.t 6))),(po 40 (.load false 1 (.t 39))),(po 41 (.fldA 1 (.t 5))),(po 42 (.load false 1 (.t 41))),(po 43 (.app 33 40 (.t 40) (.t 42))),(po 44 (.fldA 1 (.t 6))),(PO.mk none (.store 1 (.t 44) (.t 43)) none)]) (.seq (.frz [6,6]) (.ops [(po 45 (.fldA 68 (.t 3))),(po 46 (.load false 1 (.t 45))),(po 47 (.loadE true 2 (.t 6))),(po 48 (.bsl false 2 1 [(.sl .nil [] 0),(.sl .nil [] 0)] [(0,(2,(.t 47)))])),(po 49 (.app 2 48 (.t 46) (.t 48))),(po 50 (.fldA 68 (.t 3))),(PO.mk none (.store 1 (.t 50) (.t 49)) none)]))))))) (.ops [(po 51 (.bin .add (.t 15) (.k (.int .i64 1)))),(pm 15 51)]))))))) (.seq (.seq (.frz [3,3]) (.ops [(po 52 (.loadE true 69 (.t 3))),(PO.mk none (.store 69 (.t 2) (.t 52)) none)])) .ret))))
def k273 (F:Fn):PF:=PF.mk 72 2 [(.t 4),(.t 5)] (.seq (.ops [(po 3 (.box (.t 1))),(po 4 (.mv (.k (.int .i64 0)))),(po 5 (.mv (.k (.int .i64 0))))]) (.seq (.draw [(.e,(pm 11 0)),(.e,(po 12 (.nilck (.t 11)))),(.e,(po 13 (.fldA 0 (.t 12)))),(.e,(po 15 (.fldA 0 (.t 3)))),(.s,(po 14 (.load false 1 (.t 13)))),(.s,(po 16 (.load true 68 (.t 15)))),(.s,(po 17 (.call (F 141) [(.t 16)]))),(.s,(po 18 (.call (F 162) [(.t 14),(.t 17)]))),(.e,(pm 10 18)),(.e,(po 19 (.ext 0 (.t 10)))),(.e,(po 20 (.ext 1 (.t 10)))),(.e,(pm 6 19)),(.e,(pm 7 20))]) (.seq (.block 0 (.seq (.seq (.ops [(pm 22 7),(po 23 (.not (.t 22))),(pm 21 23)]) (.cond (.t 21) .skip (.draw [(.e,(pm 24 0)),(.e,(po 25 (.nilck (.t 24)))),(.e,(po 26 (.fldA 0 (.t 25)))),(.e,(pm 28 6)),(.e,(po 31 (.fldA 0 (.t 3)))),(.s,(po 27 (.load false 1 (.t 26)))),(.s,(po 29 (.call (F 161) [(.t 27),(.t 28)]))),(.e,(po 30 (.fld true 0 68 (.t 29)))),(.s,(po 32 (.load true 68 (.t 31)))),(.e,(po 33 (.eqa (.agg 68) true (.t 30) (.t 32)))),(.e,(pm 21 33))]))) (.cond (.t 21) (.seq (.ops [(po 4 (.mv (.k (.int .i64 (-1))))),(po 5 (.mv (.k (.int .i64 4))))]) .ret) (.seq (.ops [(pm 35 0),(po 36 (.nilck (.t 35))),(po 37 (.fldA 0 (.t 36))),(po 38 (.load false 1 (.t 37))),(pm 39 6),(po 40 (.call (F 161) [(.t 38),(.t 39)])),(po 41 (.fld false 107 1 (.t 40))),(pm 34 41)]) (.cond (.t 34) (.seq (.ops [(po 4 (.mv (.k (.int .i64 (-1))))),(po 5 (.mv (.k (.int .i64 101))))]) .ret) (.seq (.ops [(pm 43 0),(pm 44 6),(po 45 (.call (F 268) [(.t 43),(.t 44)])),(pm 42 45)]) (.cond (.t 42) (.seq (.ops [(po 4 (.mv (.k (.int .i64 (-1))))),(po 5 (.mv (.k (.int .i64 5))))]) .ret) .skip))))))) (.seq (.seq (.ops [(po 46 (.load true 69 (.t 3))),(po 47 (.call (F 252) [(.t 46)])),(pm 8 47)]) (.seq (.ops [(pm 48 8),(po 49 (.bin .neq (.t 48) (.k (.int .i64 0))))]) (.cond (.t 49) (.seq (.ops [(pm 50 8),(po 4 (.mv (.k (.int .i64 (-1))))),(pm 5 50)]) .ret) .skip))) (.seq (.seq (.ops [(po 51 (.load true 69 (.t 3))),(po 52 (.call (F 253) [(.t 51)])),(pm 9 52)]) (.seq (.ops [(pm 53 9),(po 54 (.bin .neq (.t 53) (.k (.int .i64 0))))]) (.cond (.t 54) (.seq (.ops [(pm 55 0),(po 56 (.nilck (.t 55))),(po 57 (.fldA 0 (.t 56))),(po 58 (.load false 1 (.t 57))),(pm 59 6),(po 60 (.call (F 170) [(.t 58),(.t 59)]))]) (.seq (.ops [(pm 61 9),(po 4 (.mv (.k (.int .i64 (-1))))),(pm 5 61)]) .ret)) .skip))) (.seq (.draw [(.e,(pm 62 0)),(.e,(po 63 (.nilck (.t 62)))),(.e,(po 64 (.fldA 2 (.t 63)))),(.e,(pm 66 6)),(.s,(po 65 (.load false 1 (.t 64)))),(.s,(po 67 (.load true 69 (.t 3)))),(.s,(po 68 (.call (F 271) [(.t 67)]))),(.x,(PO.mk none (.mset .int (.t 65) (.t 66) (.t 68)) none))]) (.seq (.ops [(pm 69 0),(po 70 (.call (F 274) [(.t 69)]))]) (.seq (.ops [(pm 71 6),(pm 4 71),(po 5 (.mv (.k (.int .i64 0))))]) .ret))))))))
def k275 (F:Fn):PF:=PF.mk 27 2 [(.t 4)] (.seq (.ops [(po 4 (.mv (.k (.bool false))))]) (.seq (.block 0 (.loop (.seq (.seq (.draw [(.e,(pm 5 0)),(.e,(po 6 (.nilck (.t 5)))),(.e,(po 7 (.fldA 0 (.t 6)))),(.e,(pm 9 1)),(.e,(pm 10 0)),(.e,(po 11 (.nilck (.t 10)))),(.e,(po 12 (.fldA 4 (.t 11)))),(.s,(po 8 (.load false 1 (.t 7)))),(.s,(po 13 (.load false 1 (.t 12)))),(.x,(po 14 (.call (F 163) [(.t 8),(.t 9),(.t 13)]))),(.e,(po 15 (.not (.t 14))))]) (.cond (.t 15) .skip (.exit 0))) (.seq (.block 1 (.seq (.ops [(pm 23 0),(pm 24 1),(po 25 (.call (F 268) [(.t 23),(.t 24)])),(po 26 (.not (.t 25)))]) (.cond (.t 26) (.seq (.ops [(po 4 (.mv (.k (.bool false))))]) .ret) .skip))) (.ops [(pm 16 0),(po 17 (.nilck (.t 16))),(po 18 (.fldA 0 (.t 17))),(po 19 (.load false 1 (.t 18))),(pm 20 1),(po 21 (.call (F 161) [(.t 19),(.t 20)])),(po 22 (.fld false 100 1 (.t 21))),(pm 1 22)]))))) (.seq (.ops [(po 4 (.mv (.k (.bool true))))]) .ret)))
def k274 (F:Fn):PF:=PF.mk 57 1 [] (.block 0 (.loop (.block 1 (.seq (.ops [(pm 5 0),(po 6 (.nilck (.t 5))),(po 7 (.fldA 4 (.t 6))),(po 8 (.load false 1 (.t 7))),(pm 2 8)]) (.seq (.seq (.ops [(pm 9 0),(po 10 (.nilck (.t 9))),(po 11 (.fldA 0 (.t 10))),(po 12 (.load false 1 (.t 11))),(po 13 (.call (F 159) [(.t 12)])),(po 14 (.mv (.k (.int .i64 0))))]) (.block 2 (.loop (.seq (.ops [(po 15 (.bin .lss (.t 14) (.t 13)))]) (.seq (.cond (.t 15) .skip (.exit 2)) (.seq (.block 3 (.seq (.ops [(pm 16 14),(pm 3 16)]) (.seq (.ops [(pm 17 0),(po 18 (.nilck (.t 17))),(po 19 (.fldA 0 (.t 18))),(po 20 (.load false 1 (.t 19))),(pm 21 3),(po 22 (.call (F 161) [(.t 20),(.t 21)])),(po 4 (.alloc z108_9b14)),(PO.mk none (.store 108 (.t 4) (.t 22)) none)]) (.seq (.draw [(.e,(po 23 (.fldA 107 (.t 4)))),(.s,(po 24 (.load false 1 (.t 23)))),(.e,(po 25 (.not (.t 24)))),(.e,(pm 26 25)),(.e,(PO.mk (some 27) (.fldA 103 (.t 4)) (some (26,true)))),(.e,(PO.mk (some 29) (.mv (.t 0)) (some (26,true)))),(.e,(PO.mk (some 30) (.nilck (.t 29)) (some (26,true)))),(.e,(PO.mk (some 31) (.fldA 0 (.t 30)) (some (26,true)))),(.e,(PO.mk (some 33) (.mv (.t 2)) (some (26,true)))),(.s,(PO.mk (some 28) (.load true 4 (.t 27)) (some (26,true)))),(.s,(PO.mk (some 32) (.load false 1 (.t 31)) (some (26,true)))),(.s,(PO.mk (some 34) (.call (F 161) [(.t 32),(.t 33)]) (some (26,true)))),(.e,(PO.mk (some 35) (.fld true 103 4 (.t 34)) (some (26,true)))),(.s,(PO.mk (some 36) (.call (F 106) [(.t 28),(.t 35)]) (some (26,true)))),(.e,(PO.mk (some 37) (.bin .gtr (.t 36) (.k (.int .i64 0))) (some (26,true)))),(.e,(po 38 (.pick (.t 26) (.t 37) (.k (.bool false))))),(.e,(pm 39 38)),(.e,(PO.mk (some 40) (.mv (.t 0)) (some (39,true)))),(.e,(PO.mk (some 41) (.mv (.t 3)) (some (39,true)))),(.s,(PO.mk (some 42) (.call (F 275) [(.t 40),(.t 41)]) (some (39,true)))),(.e,(po 43 (.pick (.t 39) (.t 42) (.k (.bool false)))))]) (.cond (.t 43) (.ops [(pm 44 3),(pm 2 44)]) .skip))))) (.ops [(po 45 (.bin .add (.t 14) (.k (.int .i64 1)))),(pm 14 45)]))))))) (.seq (.ops [(pm 46 2),(pm 47 0),(po 48 (.nilck (.t 47))),(po 49 (.fldA 4 (.t 48))),(po 50 (.load false 1 (.t 49))),(po 51 (.bin .eql (.t 46) (.t 50))),(pm 52 51),(PO.mk (some 53) (.mv (.t 0)) (some (52,false))),(PO.mk (some 54) (.mv (.t 2)) (some (52,false))),(PO.mk (some 55) (.call (F 276) [(.t 53),(.t 54)]) (some (52,false))),(po 56 (.pick (.t 52) (.k (.bool true)) (.t 55)))]) (.cond (.t 56) .ret .skip)))))))
def k277 (F:Fn):PF:=PF.mk 45 1 [] (.seq (.draw [(.e,(pm 2 0)),(.e,(po 3 (.nilck (.t 2)))),(.e,(po 4 (.fldA 1 (.t 3)))),(.e,(pm 5 0)),(.e,(po 6 (.nilck (.t 5)))),(.e,(po 7 (.fldA 2 (.t 6)))),(.e,(pm 9 0)),(.e,(po 10 (.nilck (.t 9)))),(.e,(po 11 (.fldA 4 (.t 10)))),(.e,(pm 14 0)),(.e,(po 15 (.nilck (.t 14)))),(.e,(po 16 (.fldA 3 (.t 15)))),(.e,(pm 18 0)),(.e,(po 19 (.nilck (.t 18)))),(.e,(po 20 (.fldA 4 (.t 19)))),(.s,(po 8 (.load false 1 (.t 7)))),(.s,(po 12 (.load false 1 (.t 11)))),(.s,(po 13 (.lookup .int (.agg z69_adc1) false (.t 8) (.t 12)))),(.s,(po 17 (.load false 1 (.t 16)))),(.s,(po 21 (.load false 1 (.t 20)))),(.s,(po 22 (.lookup .int (.agg [(.sl .nil [] 0),(.sl .nil [] 0)]) false (.t 17) (.t 21)))),(.x,(po 23 (.call (F 262) [(.t 4),(.t 13),(.t 22)])))]) (.seq (.draw [(.e,(pm 24 0)),(.e,(po 25 (.nilck (.t 24)))),(.e,(po 26 (.fldA 3 (.t 25)))),(.e,(pm 28 0)),(.e,(po 29 (.nilck (.t 28)))),(.e,(po 30 (.fldA 4 (.t 29)))),(.s,(po 27 (.load false 1 (.t 26)))),(.s,(po 31 (.load false 1 (.t 30)))),(.x,(PO.mk none (.mdel .int (.t 27) (.t 31)) none))]) (.draw [(.e,(pm 32 0)),(.e,(pm 33 0)),(.e,(po 34 (.nilck (.t 33)))),(.e,(po 35 (.fldA 0 (.t 34)))),(.e,(pm 37 0)),(.e,(po 38 (.nilck (.t 37)))),(.e,(po 39 (.fldA 4 (.t 38)))),(.s,(po 36 (.load false 1 (.t 35)))),(.s,(po 40 (.load false 1 (.t 39)))),(.x,(po 41 (.call (F 161) [(.t 36),(.t 40)]))),(.e,(po 42 (.fld false 100 1 (.t 41)))),(.e,(po 43 (.nilck (.t 32)))),(.e,(po 44 (.fldA 4 (.t 43)))),(.x,(PO.mk none (.store 1 (.t 44) (.t 42)) none))])))
def k278 (F:Fn):PF:=PF.mk 47 2 [(.t 4)] (.seq (.ops [(po 4 (.mv (.k (.bool false))))]) (.seq (.draw [(.e,(pm 8 0)),(.e,(po 9 (.nilck (.t 8)))),(.e,(po 10 (.fldA 1 (.t 9)))),(.e,(pm 11 0)),(.e,(po 12 (.nilck (.t 11)))),(.e,(po 13 (.fldA 2 (.t 12)))),(.e,(pm 15 1)),(.e,(pm 17 0)),(.e,(po 18 (.nilck (.t 17)))),(.e,(po 19 (.fldA 0 (.t 18)))),(.e,(pm 21 1)),(.e,(pm 24 0)),(.e,(po 25 (.nilck (.t 24)))),(.e,(po 26 (.fldA 0 (.t 25)))),(.s,(po 14 (.load false 1 (.t 13)))),(.s,(po 16 (.lookup .int (.agg z69_adc1) false (.t 14) (.t 15)))),(.s,(po 20 (.load false 1 (.t 19)))),(.s,(po 22 (.call (F 161) [(.t 20),(.t 21)]))),(.e,(po 23 (.fld false 102 1 (.t 22)))),(.s,(po 27 (.load false 1 (.t 26)))),(.s,(po 28 (.call (F 160) [(.t 27)]))),(.e,(po 29 (.fld false 3 1 (.t 28)))),(.x,(po 30 (.call (F 260) [(.t 10),(.t 16),(.t 23),(.t 29)]))),(.e,(pm 7 30)),(.e,(po 31 (.ext 0 (.t 7)))),(.e,(po 32 (.ext 1 (.t 7)))),(.a,(po 5 (.alloc [(.sl .nil [] 0),(.sl .nil [] 0)]))),(.x,(PO.mk none (.store 2 (.t 5) (.t 31)) none)),(.e,(pm 6 32))]) (.seq (.seq (.ops [(pm 33 6),(po 34 (.bin .neq (.t 33) (.k (.int .i64 0))))]) (.cond (.t 34) (.seq (.ops [(po 4 (.mv (.k (.bool false))))]) .ret) .skip)) (.seq (.draw3 [(.e,(pm 35 0)),(.e,(po 36 (.nilck (.t 35)))),(.e,(po 37 (.fldA 3 (.t 36)))),(.e,(pm 39 1)),(.e,(pm 40 0)),(.e,(pm 42 1)),(.s,(po 38 (.load false 1 (.t 37))))] (.s,(po 41 (.load true 2 (.t 5)))) (.x,(po 43 (.ment .int (.agg [(.sl .nil [] 0),(.sl .nil [] 0)]) (.t 38) (.t 39)))) [(.e,(po 44 (.ext 1 (.t 43)))),(.x,(PO.mk none (.estore (.t 38) (.t 44) (.t 41)) none)),(.e,(po 45 (.nilck (.t 40)))),(.e,(po 46 (.fldA 4 (.t 45)))),(.x,(PO.mk none (.store 1 (.t 46) (.t 42)) none))]) (.seq (.seq (.frz [38]) (.ops [(po 4 (.mv (.k (.bool true))))])) .ret)))))
def k276 (F:Fn):PF:=PF.mk 79 2 [(.t 4)] (.seq (.ops [(po 4 (.mv (.k (.bool false))))]) (.seq (.draw [(.e,(pm 11 0)),(.e,(po 12 (.nilck (.t 11)))),(.e,(po 13 (.fldA 4 (.t 12)))),(.e,(pm 15 0)),(.e,(po 16 (.nilck (.t 15)))),(.e,(po 17 (.fldA 0 (.t 16)))),(.e,(pm 19 0)),(.e,(po 20 (.nilck (.t 19)))),(.e,(po 21 (.fldA 4 (.t 20)))),(.e,(pm 23 1)),(.s,(po 14 (.load false 1 (.t 13)))),(.s,(po 18 (.load false 1 (.t 17)))),(.s,(po 22 (.load false 1 (.t 21)))),(.s,(po 24 (.call (F 228) [(.t 18),(.t 22),(.t 23)]))),(.e,(pm 5 14)),(.e,(pm 6 24))]) (.seq (.block 0 (.loop (.seq (.seq (.ops [(pm 25 0),(po 26 (.nilck (.t 25))),(po 27 (.fldA 4 (.t 26))),(po 28 (.load false 1 (.t 27))),(pm 29 6),(po 30 (.bin .neq (.t 28) (.t 29)))]) (.cond (.t 30) .skip (.exit 0))) (.block 1 (.ops [(pm 31 0),(po 32 (.call (F 277) [(.t 31)]))]))))) (.seq (.seq (.ops [(pm 33 0),(po 34 (.nilck (.t 33))),(po 35 (.fldA 0 (.t 34))),(po 36 (.load false 1 (.t 35))),(pm 37 6),(pm 38 1),(po 39 (.call (F 229) [(.t 36),(.t 37),(.t 38)])),(po 40 (.lenSl (.t 39))),(po 41 (.mv (.k (.int .i64 0))))]) (.block 2 (.loop (.seq (.ops [(po 42 (.bin .lss (.t 41) (.t 40)))]) (.seq (.cond (.t 42) .skip (.exit 2)) (.seq (.block 3 (.seq (.ops [(po 43 (.idxSl 1 (.t 39) (.t 41))),(po 44 (.load false 1 (.t 43))),(pm 8 44)]) (.seq (.seq (.ops [(pm 45 0),(pm 46 8),(po 47 (.call (F 278) [(.t 45),(.t 46)]))]) (.cond (.t 47) (.exit 3) .skip)) (.seq (.ops [(pm 48 0),(po 49 (.nilck (.t 48))),(po 50 (.fldA 0 (.t 49))),(po 51 (.load false 1 (.t 50))),(pm 52 8),(po 53 (.call (F 170) [(.t 51),(.t 52)]))]) (.seq (.block 4 (.loop (.seq (.seq (.ops [(pm 54 0),(po 55 (.nilck (.t 54))),(po 56 (.fldA 4 (.t 55))),(po 57 (.load false 1 (.t 56))),(pm 58 6),(po 59 (.bin .neq (.t 57) (.t 58)))]) (.cond (.t 59) .skip (.exit 4))) (.block 5 (.ops [(pm 60 0),(po 61 (.call (F 277) [(.t 60)]))]))))) (.seq (.seq (.ops [(pm 62 0),(po 63 (.nilck (.t 62))),(po 64 (.fldA 0 (.t 63))),(po 65 (.load false 1 (.t 64))),(pm 66 6),(pm 67 5),(po 68 (.call (F 229) [(.t 65),(.t 66),(.t 67)])),(po 69 (.lenSl (.t 68))),(po 70 (.mv (.k (.int .i64 0))))]) (.block 6 (.loop (.seq (.ops [(po 71 (.bin .lss (.t 70) (.t 69)))]) (.seq (.cond (.t 71) .skip (.exit 6)) (.seq (.block 7 (.seq (.ops [(po 72 (.idxSl 1 (.t 68) (.t 70))),(po 73 (.load false 1 (.t 72))),(pm 10 73)]) (.ops [(pm 74 0),(pm 75 10),(po 76 (.call (F 278) [(.t 74),(.t 75)]))]))) (.ops [(po 77 (.bin .add (.t 70) (.k (.int .i64 1)))),(pm 70 77)]))))))) (.seq (.ops [(po 4 (.mv (.k (.bool false))))]) .ret))))))) (.ops [(po 78 (.bin .add (.t 41) (.k (.int .i64 1)))),(pm 41 78)]))))))) (.seq (.ops [(po 4 (.mv (.k (.bool true))))]) .ret)))))
structure OkChain (P:Program) (F:Fn):Prop where
 mixed:P.follows .mixedOrders=true
 toOkCoins:OkCoins P F
 toOkLocate:OkLocate P F
 h265:compFn P ⟨[],[],[],[],[]⟩ (F 265)=some (k265 F)
 h266:compFn P ⟨[],[],[],[],[]⟩ (F 266)=some (k266 F)
 h268:compFn P ⟨[],[],[],[],[]⟩ (F 268)=some (k268 F)
 h271:compFn P ⟨[33,47,52],[],[(12,[6,6]),(14,[3,3])],[],[33]⟩ (F 271)=some (k271 F)
 h273:compFn P ⟨[],[],[],[],[]⟩ (F 273)=some (k273 F)
 h275:compFn P ⟨[],[],[],[],[]⟩ (F 275)=some (k275 F)
 h274:compFn P ⟨[],[],[],[],[]⟩ (F 274)=some (k274 F)
 h277:compFn P ⟨[],[],[],[],[]⟩ (F 277)=some (k277 F)
 h278:compFn P ⟨[],[],[(5,[38])],[22,28],[]⟩ (F 278)=some (k278 F)
 h276:compFn P ⟨[],[],[],[],[]⟩ (F 276)=some (k276 F)
end Go.Ab
namespace Go.Ab
open Go Go.RowKit
set_option maxRecDepth 10000
def sumGo:Int→List Out1→Int×Bool
 | n,[]=>(n,true)
 | n,o::l=>if o.amt<0∨1125899906842624<o.amt then(0,false)else if 1125899906842624<n+o.amt then(0,false)else sumGo (n+o.amt) l
def sumM (l:List Out1):Int×Bool:=sumGo 0 l
theorem sumGo_range: ∀(l:List Out1) (n:Int),0≤n→n≤1125899906842624→0≤(sumGo n l).1∧(sumGo n l).1≤1125899906842624
 | [],n,h1,h2=>⟨h1,h2⟩
 | o::l,n,h1,h2=>by
   rw[sumGo]
   split
   ·exact⟨Int.le_refl _,by decide⟩
   ·split
    ·exact⟨Int.le_refl _,by decide⟩
    ·exact sumGo_range l _ (by omega) (by omega)
theorem sumM_range (l:List Out1):0≤(sumM l).1∧(sumM l).1≤1125899906842624:=sumGo_range l 0 (by decide) (by decide)
abbrev Pt:=Id×W32
def ePt (p:Pt):List V:=eId p.1++[w32 p.2]
theorem ePt_len (p:Pt):(ePt p).length=33:=by simp[ePt,eId_len]
def kPt (p:Pt):V:=.agg (ePt p)
theorem eqL_app: ∀(a b c d:List V) (r s:Bool),eqL a b=some r→eqL c d=some s→eqL (a++c) (b++d)=some (r&&s)
 | [],[],c,d,r,s,h1,h2=>by
   cases h1
   simpa using h2
 | [],b::bs,c,d,r,s,h1,h2=>by cases h1
 | a::as,[],c,d,r,s,h1,h2=>by cases a<;>cases h1
 | .int k a::as,.int k' b::bs,c,d,r,s,h1,h2=>by
   simp only[eqL,List.cons_append]at h1⊢
   split at h1
   ·rename_i hk
    rw[if_pos hk]
    obtain⟨t,h3,h4⟩:=Option.map_eq_some_iff.1 h1
    rw[eqL_app as bs c d t s h3 h2]
    subst h4
    simp[Bool.and_assoc]
   ·cases h1
 | .bool _::_,_::_,_,_,_,_,h1,_=>by simp[eqL]at h1
 | .str _::_,_::_,_,_,_,_,h1,_=>by simp[eqL]at h1
 | .ptr _::_,_::_,_,_,_,_,h1,_=>by simp[eqL]at h1
 | .eptr _::_,_::_,_,_,_,_,h1,_=>by simp[eqL]at h1
 | .sl _ _ _::_,_::_,_,_,_,_,h1,_=>by simp[eqL]at h1
 | .hsl _ _ _ _::_,_::_,_,_,_,_,h1,_=>by simp[eqL]at h1
 | .map _::_,_::_,_,_,_,_,h1,_=>by simp[eqL]at h1
 | .func _ _::_,_::_,_,_,_,_,h1,_=>by simp[eqL]at h1
 | .nilf::_,_::_,_,_,_,_,h1,_=>by simp[eqL]at h1
 | .agg _::_,_::_,_,_,_,_,h1,_=>by simp[eqL]at h1
 | .tup _::_,_::_,_,_,_,_,h1,_=>by simp[eqL]at h1
 | .junk::_,_::_,_,_,_,_,h1,_=>by simp[eqL]at h1
 | .int _ _::_,.bool _::_,_,_,_,_,h1,_=>by simp[eqL]at h1
 | .int _ _::_,.str _::_,_,_,_,_,h1,_=>by simp[eqL]at h1
 | .int _ _::_,.ptr _::_,_,_,_,_,h1,_=>by simp[eqL]at h1
 | .int _ _::_,.eptr _::_,_,_,_,_,h1,_=>by simp[eqL]at h1
 | .int _ _::_,.sl _ _ _::_,_,_,_,_,h1,_=>by simp[eqL]at h1
 | .int _ _::_,.hsl _ _ _ _::_,_,_,_,_,h1,_=>by simp[eqL]at h1
 | .int _ _::_,.map _::_,_,_,_,_,h1,_=>by simp[eqL]at h1
 | .int _ _::_,.func _ _::_,_,_,_,_,h1,_=>by simp[eqL]at h1
 | .int _ _::_,.nilf::_,_,_,_,_,h1,_=>by simp[eqL]at h1
 | .int _ _::_,.agg _::_,_,_,_,_,h1,_=>by simp[eqL]at h1
 | .int _ _::_,.tup _::_,_,_,_,_,h1,_=>by simp[eqL]at h1
 | .int _ _::_,.junk::_,_,_,_,_,h1,_=>by simp[eqL]at h1
theorem eqL_w32 (x y:W32):eqL [w32 x] [w32 y]=some (decide (x=y)):=by
 show eqL [.int .u32 (x.toNat:Int)] [.int .u32 (y.toNat:Int)]=_
 simp only[eqL,if_true,Option.map_some,Bool.and_true,Option.some.injEq]
 rw[Bool.eq_iff_iff]
 simp only[beq_iff_eq,decide_eq_true_eq]
 constructor
 ·intro h
  exact BitVec.eq_of_toNat_eq (by omega)
 ·intro h
  rw[h]
theorem eqL_pt (a b:Pt):eqL (ePt a) (ePt b)=some (decide (a=b)):=by
 rw[ePt,ePt,eqL_app _ _ _ _ _ _ (eqL_id a.1 b.1) (eqL_w32 a.2 b.2)]
 congr 1
 rw[Bool.eq_iff_iff]
 simp only[Bool.and_eq_true,decide_eq_true_eq,Prod.ext_iff]
theorem keyed_pt:Keyed kPt (.agg 33):=⟨fun k=>by simp[isKey,kPt,ePt_len],fun a b=>by
 simp only[keyEq,kPt]
 rw[if_pos (ePt_len a),eqL_pt]⟩
theorem lookup_lk0 {K A:Type}[DecidableEq K]{ek:K→V}{ev:A→V}{kk:KK}(hk:Keyed ek kk){st:St}{id:Nat}{l:List (K×A)}(h:st id=some (.mp (encM ek ev l)))(z:V)(k:K):
  lookupV st kk z false (.map (some id)) (ek k)=some (((lk k l).map ev).getD z):=by
 rw[lookup_enc hk h,if_neg (by simp)];rfl
def In1.pt (x:In1):Pt:=(x.tx,x.ix)
def makerP:Pt:=(id0,4294967295#32)
theorem insegPt (x:In1):segOf (eIn x) 0 33=some (ePt x.pt):=seg_of_drop (zs:=[keyV x.kk x.key]) (by rw[List.drop_zero];simp[eIn,ePt,In1.pt]) (ePt_len _) (by omega)
def insGo (first:Bool):List Pt→List In1→Option Int
 | _,[]=>none
 | seen,x::l=>if 100<x.key.length then some 2 else if decide (x.pt=makerP)≠first then some 120 else if x.pt∈seen then some 5 else insGo first (x.pt::seen) l
def txM (t:Tx1)(first:Bool):Int:=
 if t.ins.length=0∨t.outs.length=0∨32<t.ins.length∨32<t.outs.length then 120 else
 match insGo first [] t.ins with
 | some e=>e
 | none=>if(sumM t.outs).2=true then 0 else 121
theorem insV_len (t:Tx1):lenSlV (insV t)=some (.int .i64 t.ins.length):=rfl
theorem outsV_len (t:Tx1):lenSlV (outsV t)=some (.int .i64 t.outs.length):=rfl
theorem tsegIns (t:Tx1):segOf (eTx t) 0 1=some [insV t]:=rfl
theorem tsegOuts (t:Tx1):segOf (eTx t) 1 1=some [outsV t]:=rfl
theorem tsegAll (t:Tx1):segOf (eTx t) 0 2=some (eTx t):=rfl
section
variable {P:Program} {F:Fn}
set_option maxHeartbeats 2000000 in
theorem spec250 (ok:OkCheck P F)(st:St){s:V}{l:List Out1}(hr:Rd 33 eOut s l st)(hl:l.length≤100000):ACalls P (F 250) [s] st fun v st'=>v=.tup [.int .i64 (sumM l).1,.bool (sumM l).2]∧st'=st:=by
 refine shows_call ok.mixed ok.h250 (by simp[k250]) ?_
 simp only[k250]
 have hlen:=hr.len
 simp[hlen]
 refine vc_loopJ (fun c env' st'=>∃(i:Nat) (n:Int),i≤l.length∧c=l.length-i∧env' 9=.int .i64 (i:Nat)∧env' 4=.int .i64 n∧0≤n∧n≤1125899906842624∧sumGo n (l.drop i)=sumM l∧Sep [Was st] st') l.length
  ⟨0,0,by omega,by omega,by simp,by simp,by omega,by omega,by simp[sumM],Sep.start st⟩ ?_
 rintro J hJ c env' st2 hsame ⟨i,n,hi,rfl,h9,h4,hn0,hn1,hgo,S⟩
 have g7:=(hsame.get 7 rfl).trans (by simp:_=s)
 have g8:=(hsame.get 8 rfl).trans (by simp:_=V.int .i64 (l.length:Int))
 clear hsame
 have hsub:St.sub st st2:=S.was' (st0:=st) (by simp)
 by_cases hlt:i<l.length
 ·obtain⟨r1,r2,r3,r4⟩:=(hr.sub hsub).row eOut_len hlt
  rw[List.drop_eq_getElem_cons hlt,sumGo]at hgo
  obtain⟨o,ho⟩: ∃o,o=l[i]:=⟨_,rfl⟩
  rw[←ho]at r3 hgo
  have w1:IntKind.i64.wrap ((i:Int)+1)=(i:Int)+1:=wrap64 (by omega) (by omega)
  simp[g7,g8,h9,hlt,r1,r3]
  intro i6 h6
  have S:=S.new h6 (.cells z33_0be4)
  have hst:=store_pt (sz:=33) (o:=0) S.get (v:=.agg (eOut o)) (vs:=eOut o) rfl (eOut_len _) (by simp)
  rw[show spliceV z33_0be4 0 (eOut o)=eOut o by simp[spliceV,eOut_len]]at hst
  have S:=S.set (.cells (eOut o))
  simp[hst]at S⊢
  generalize st2.upd i6 (.cells (eOut o))=st3 at S⊢
  have o6:=S.get
  have hsa:=ousegAmt o
  by_cases h1:o.amt<0
  ·rw[if_pos (.inl h1)]at hgo
   simp[St.seg,o6,hsa,h1,←hgo]
   exact S.was' (st0:=st) (by simp)
  ·by_cases h2:1125899906842624<o.amt
   ·rw[if_pos (.inr h2)]at hgo
    simp[St.seg,o6,hsa,h1,h2,←hgo]
    exact S.was' (st0:=st) (by simp)
   ·rw[if_neg (by omega)]at hgo
    have w2:IntKind.i64.wrap (n+o.amt)=n+o.amt:=wrap64 (by omega) (by omega)
    by_cases h3:1125899906842624<n+o.amt
    ·rw[if_pos h3]at hgo
     simp[St.seg,o6,hsa,h1,h2,h3,h4,w2,←hgo]
     exact S.was' (st0:=st) (by simp)
    ·rw[if_neg h3]at hgo
     simp[St.seg,o6,hsa,h1,h2,h3,h4,h9,w1,w2]
     exact Round.mk (l.length-(i+1)) _ (by omega) (sub_self _) (hJ _ _ _ ⟨i+1,n+o.amt,by omega,rfl,by simp,by simp,by omega,by omega,hgo,S.drop⟩)
 ·have:i=l.length:=by omega
  subst this
  rw[List.drop_length,sumGo]at hgo
  simp[g7,g8,h9,h4,←hgo]
  exact hsub
set_option maxHeartbeats 4000000 in
theorem spec249 (ok:OkCheck P F)(st:St)(t:Tx1)(first:Bool)(h1:t.ins.length≤100000)(h2:t.outs.length≤100000)(h3: ∀x∈t.ins,x.key.length≤1000000):
  ACalls P (F 249) [.agg (eTx t),.bool first] st fun v st'=>v=.int .i64 (txM t first)∧st'=st:=by
 have okt:=ok.toOkTx
 refine shows_call ok.mixed ok.h249 (by simp[k249]) ?_
 simp only[k249]
 simp
 intro i2 hi2
 have S:=(Sep.start st).new hi2 (.cells (eTx t))
 generalize st.upd i2 _=st1 at S⊢
 have o2:=S.get
 have li:=insV_len t
 have lo:=outsV_len t
 have si:=tsegIns t
 have so:=tsegOuts t
 by_cases c1:t.ins.length=0
 ·have e:txM t first=120:=by rw[txM,if_pos (.inl c1)]
  simp[St.seg,o2,si,so,li,lo,c1,e]
  exact S.was' (st0:=st) (by simp)
 have b1:((t.ins.length:Int)==0)=false:=by simpa using c1
 by_cases c2:t.outs.length=0
 ·have e:txM t first=120:=by rw[txM,if_pos (.inr (.inl c2))]
  simp[St.seg,o2,si,so,li,lo,b1,c2,e]
  exact S.was' (st0:=st) (by simp)
 have b2:((t.outs.length:Int)==0)=false:=by simpa using c2
 by_cases c3:32<t.ins.length
 ·have e:txM t first=120:=by rw[txM,if_pos (.inr (.inr (.inl c3)))]
  have c3':32< (t.ins.length:Int):=by omega
  simp[St.seg,o2,si,so,li,lo,b1,b2,c3',e]
  exact S.was' (st0:=st) (by simp)
 by_cases c4:32<t.outs.length
 ·have e:txM t first=120:=by rw[txM,if_pos (.inr (.inr (.inr c4)))]
  have c3':¬32< (t.ins.length:Int):=by omega
  have c4':32< (t.outs.length:Int):=by omega
  simp[St.seg,o2,si,so,li,lo,b1,b2,c3',c4',e]
  exact S.was' (st0:=st) (by simp)
 have e0:txM t first=match insGo first [] t.ins with | some e=>e | none=>if(sumM t.outs).2=true then 0 else 121:=by rw[txM,if_neg (by omega)]
 have c3':¬32< (t.ins.length:Int):=by omega
 have c4':¬32< (t.outs.length:Int):=by omega
 simp[St.seg,o2,si,so,li,lo,b1,b2,c3',c4']
 intro i5 hi5
 have S:=S.new hi5 (.mp [])
 generalize st1.upd i5 _=st2 at S⊢
 have o2:=S.mem (i:=i2) (o:=.cells (eTx t)) (by simp)
 simp[St.seg,o2,si,so,li,lo]
 refine vc_joinB (M:=fun env' st'=>insGo first [] t.ins=none∧Sep [pt i2 (.cells (eTx t)),Was st] st') ?_ ?_
 ·refine vc_loopJ (fun c env' st'=>∃(i:Nat) (seen:List Pt) (es:List (Pt×Bool)),i≤t.ins.length∧c=t.ins.length-i∧env' 36=.int .i64 (i:Nat)∧insGo first seen (t.ins.drop i)=insGo first [] t.ins∧(∀p,(lk p es).getD false=decide (p∈seen))∧
     Sep [pt i5 (.mp (encM kPt V.bool es)),pt i2 (.cells (eTx t)),Was st] st') t.ins.length
    ⟨0,[],[],by omega,by omega,by simp,by simp,by simp[lk],S⟩ ?_
  rintro J hJ c env' st3 hsame ⟨i,seen,es,hi,rfl,h36,hgo,hes,S⟩
  have g1:=(hsame.get 1 rfl).trans (by simp:_=V.bool first)
  have g5:=(hsame.get 5 rfl).trans (by simp:_=V.map (some i5))
  have g34:=(hsame.get 34 rfl).trans (by simp:_=insV t)
  have g35:=(hsame.get 35 rfl).trans (by simp:_=V.int .i64 (t.ins.length:Int))
  clear hsame
  by_cases hlt:i<t.ins.length
  ·obtain⟨r1,r2,r3,r4⟩:=(rd_ins t st3).row eIn_len hlt
   rw[List.drop_eq_getElem_cons hlt,insGo]at hgo
   have hkl:=h3 t.ins[i] (List.getElem_mem hlt)
   obtain⟨x,hx⟩: ∃x,x=t.ins[i]:=⟨_,rfl⟩
   rw[←hx]at r3 hgo hkl
   have w1:IntKind.i64.wrap ((i:Int)+1)=(i:Int)+1:=wrap64 (by omega) (by omega)
   simp[g34,g35,h36,hlt,r1,r3]
   intro i7 hi7
   have S:=S.new hi7 (.cells z34_1838)
   have hst:=store_pt (sz:=34) (o:=0) S.get (v:=.agg (eIn x)) (vs:=eIn x) rfl (eIn_len _) (by simp)
   rw[show spliceV z34_1838 0 (eIn x)=eIn x by simp[spliceV,eIn_len]]at hst
   have S:=S.set (.cells (eIn x))
   simp[hst]at S⊢
   generalize st3.upd i7 (.cells (eIn x))=st4 at S⊢
   have o7:=S.get
   have o5:=S.mem (i:=i5) (o:=.mp (encM kPt V.bool es)) (by simp)
   have hsk:=insegKey x
   have hsp:=insegPt x
   have hlk:lenSlV (keyV x.kk x.key)=some (.int .i64 x.key.length):=rfl
   by_cases k1:100<x.key.length
   ·have k1':100< (x.key.length:Int):=by omega
    rw[if_pos k1]at hgo
    rw[←hgo]at e0
    simp[St.seg,o7,hsk,hlk,k1',e0]
    exact S.was' (st0:=st) (by simp)
   ·have k1':¬100< (x.key.length:Int):=by omega
    rw[if_neg k1]at hgo
    have hm:eqK (.agg 33) (.agg (ePt x.pt)) (.agg (eId id0++[w32 4294967295#32]))=some (decide (x.pt=makerP)):=by
     show eqK (.agg 33) (.agg (ePt x.pt)) (.agg (ePt makerP))=_
     rw[eqK,if_pos (ePt_len _),eqL_pt]
    simp[St.seg,o7,hsk,hlk,k1',hsp,g1]
    refine⟨_,spec197 okt st4,?_⟩
    by_cases k2:decide (x.pt=makerP)=first
    ·rw[if_neg (by simpa using k2)]at hgo
     have hlu:=lookup_lk0 keyed_pt (ev:=V.bool) o5 (.bool false) x.pt
     have hge:((lk x.pt es).map V.bool).getD (.bool false)=.bool (decide (x.pt∈seen)):=by
      rw[←hes x.pt]
      cases lk x.pt es<;>rfl
     simp only[hge,kPt]at hlu
     rw[k2]at hm
     have hb:eqK .bool (.bool first) (.bool first)=some true:=by simp[eqK]
     simp[St.seg,o7,hsp,hm,hb,g1,g5,hlu]
     by_cases k3:x.pt∈seen
     ·rw[if_pos k3]at hgo
      rw[←hgo]at e0
      simp[k3,e0]
      exact S.was' (st0:=st) (by simp)
     ·rw[if_neg k3]at hgo
      have hms:=mset_enc keyed_pt (ev:=V.bool) o5 x.pt true
      simp only[kPt]at hms
      simp[k3,St.seg,o7,hsp,g5,hms]
      have S:=S.setAt (.mp (encM kPt V.bool (aSet x.pt true es))) 1 rfl
      simp at S
      simp[h36,w1]
      refine Round.mk (t.ins.length-(i+1)) _ (by omega) (sub_self _) (hJ _ _ _ ⟨i+1,x.pt::seen,_,by omega,rfl,by simp,hgo,?_,S.drop⟩)
      intro p
      rw[lk_aSet]
      by_cases hp:p=x.pt
      ·simp[hp]
      ·rw[if_neg hp,hes p]
       simp[hp]
    ·rw[if_pos k2]at hgo
     rw[←hgo]at e0
     have hb:eqK .bool (.bool (decide (x.pt=makerP))) (.bool first)=some false:=by
      show some (decide (x.pt=makerP)==first)=some false
      rw[beq_eq_false_iff_ne.2 k2]
     simp[St.seg,o7,hsp,hm,g1,hb,e0]
     exact S.was' (st0:=st) (by simp)
  ·have:i=t.ins.length:=by omega
   subst this
   rw[List.drop_length,insGo]at hgo
   simp[g35,h36]
   exact⟨hgo.symm,S.drop⟩
 ·rintro env' st3 hsame ⟨hno,S⟩
  have g2:=(hsame.get 2 rfl).trans (by simp:_=V.ptr (some (i2,0)))
  clear hsame
  rw[hno]at e0
  have o2:=S.get
  simp[g2,St.seg,o2,so]
  refine(spec250 ok st3 (rd_outs t st3) h2).mono ?_
  rintro v st3 ⟨rfl,rfl⟩
  cases hs:(sumM t.outs).2 with
  | true=>
    rw[hs]at e0
    simp[hs,e0]
    exact S.was' (st0:=st) (by simp)
  | false=>
    rw[hs]at e0
    simp[hs,e0]
    exact S.was' (st0:=st) (by simp)
end
end Go.Ab

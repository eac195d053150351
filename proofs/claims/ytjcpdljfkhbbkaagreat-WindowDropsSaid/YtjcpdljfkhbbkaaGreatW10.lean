import Derived.Test.YtjcpdljfkhbbkaaGreatW6
import Derived.Test.YtjcpdljfkhbbkaaGreatW9
import Derived.Test.YtjcpdljfkhbbkaaGreatW8
import Derived.Test.YtjcpdljfkhbbkaaGreatW5
import Derived.Test.YtjcpdljfkhbbkaaGreatW4
import Derived.Test.YtjcpdljfkhbbkaaGreatW7
set_option linter.unusedSimpArgs false
set_option linter.unusedVariables false
set_option maxRecDepth 10000
namespace Go.Ab
open Go Go.RowKit
theorem chGrow {P : Program} {cid : Nat} {c : Ch} {L : List Asn} {st : St} (S : Sep (ChA cid c :: L) st) : ∃ mo tid bid uid, ChR cid c st mo tid bid uid ∧
    ∀ (f : FuncId) (args : List V) (R : V → Prop) (l' : List Nd), (∀ h, TreeS tid c.r c.l h → ACalls P f args h fun v h' => R v ∧ TreeS tid c.r l' h') →
      ACalls P f args st fun v st' => R v ∧ Sep (ChA cid { c with l := l' } :: L) st' := by
  obtain ⟨a, r, hd, hs, ⟨tid, bid, uid, mo, h0, Si⟩, hL⟩ := S
  have hch : ChS cid c [] a := ⟨tid, bid, uid, mo, h0, Si⟩
  have hsub : St.sub a st := fun i o e => hs i o (add_some e)
  have R0 : ChR cid c a mo tid bid uid := by
    cases mo with
    | none => exact ⟨Si.get, fun hl => Si.drop.treeR hl, Si.drop.drop.get, Si.drop.drop.drop.get⟩
    | some m => exact ⟨Si.get, fun hl => Si.drop.drop.treeR hl, Si.drop.drop.drop.get, Si.drop.drop.drop.drop.get⟩
  refine ⟨mo, tid, bid, uid, R0.sub hsub, fun f args R l' hf => ?_⟩
  have S' : Sep ((fun h => Sep (SetL cid (chF tid bid uid c.tip) c.cm mo ++ (ChL c tid bid uid ++ [])) h) :: L) st := ⟨a, r, hd, hs, Si, hL⟩
  refine (Sep.call S' (R := fun v h' => R v ∧ ChA cid { c with l := l' } h') fun h hh => ?_).mono ?_
  · cases mo with
    | none =>
      have hh : Sep (TreeS tid c.r c.l :: pt cid (.cells (chF tid bid uid c.tip (.map none))) :: [pt bid (.mp (encM kInt vBlk c.bs)), pt uid (.mp (encM kInt vUndo c.us))]) h := Sep.swap hh
      refine (Sep.call hh hf).mono ?_
      intro v h' S
      have hv : R v := by
        obtain ⟨x, -, h2⟩ := S.part
        exact h2.1
      exact ⟨hv, tid, bid, uid, none, h0, (S.head fun x hx => hx.2).swap⟩
    | some m =>
      have hh : Sep (TreeS tid c.r c.l :: pt cid (.cells (chF tid bid uid c.tip (.map (some m)))) :: pt m (.mp (encM kPt vCoin c.cm)) :: [pt bid (.mp (encM kInt vBlk c.bs)), pt uid (.mp (encM kInt vUndo c.us))]) h := Sep.pull 2 _ hh
      refine (Sep.call hh hf).mono ?_
      intro v h' S
      have hv : R v := by
        obtain ⟨x, -, h2⟩ := S.part
        exact h2.1
      exact ⟨hv, tid, bid, uid, some m, h0, Sep.pull 2 _ (Sep.pull 2 _ (S.head fun x hx => hx.2))⟩
  · intro v st' S
    have hv : R v := by
      obtain ⟨x, -, h2⟩ := S.part
      exact h2.1
    exact ⟨hv, S.head fun x hx => hx.2⟩
def w18In (m : UInt8) : In1 := ⟨id0, 4294967295#32, .full, [m]⟩
def w18Tx (m : UInt8) : Tx1 := ⟨.full, [w18In m], .full, [⟨50, id0⟩]⟩
theorem w18Tx_ok (m : UInt8) : (w18Tx m).ok 100 := ⟨by simp [w18Tx], by simp [w18Tx], fun x hx => by rw [List.mem_singleton.1 hx]; simp [w18In]⟩
theorem w18Fill (m : UInt8) : fillV z34_1838 [(0, 33, .agg (eId id0 ++ [w32 4294967295#32])), (33, 1, .sl .full [w8 m] 1)] = some (eIn (w18In m)) := rfl
theorem w18Fill2 : fillV z33_0be4 [(0, 1, .int .i64 50)] = some (eOut ⟨50, id0⟩) := rfl
def w18Root (m : UInt8) : Id := (rootM [txIdM (w18Tx m)]).1
def w18G : Blk1 := ⟨{ hdr0 with root := w18Root 0, bits := easyB }, .full, [w18Tx 0]⟩
def w18R : Rl := ⟨easyB, 0, 10, 50, 0, w18G.hdr, txsV .full [w18Tx 0]⟩
def w18B (x : Nd) (m : UInt8) : Blk1 := ⟨(mineN { hdr0 with prev := x.id, root := w18Root m, time := x.hdr.time + 1, bits := easyB } easyB 1000).getD hdr0, .full, [w18Tx m]⟩
def w18Step (s : List Nd × List Blk1) (i : Nat) (p : Int) : List Nd × List Blk1 :=
  let b := w18B (nd s.1 (inI s.1 (max 0 (min p ((s.1.length : Int) - 1))))) (UInt8.ofBitVec (BitVec.ofInt 8 ((i : Int) + 1)))
  let a := addM w18R s.1 b.hdr 1099511627776
  (a.1, if a.2.2 = 0 then s.2 ++ [b] else s.2)
def w18Go : Nat → List Int → List Nd × List Blk1 → List Nd × List Blk1
  | _, [], s => s
  | i, p :: l, s => w18Go (i + 1) l (w18Step s i p)
def w18M (ps : List Int) : List Nd × List Blk1 := w18Go 0 ps (newM w18R, [w18G])
def w18C (l : List Nd) : Ch := ⟨w18R, l, (conn1 (w18Tx 0) 0 50 []).2, [(0, w18G)], [], 0⟩
theorem w18Check : checkM w18R = 0 := by
  have h : tgt easyB ≠ none := by decide
  unfold checkM
  rw [if_neg (by rintro (h1 | h1); exact h h1; exact h1 rfl), if_neg (by show ¬ ((0 : Int) < 0 ∨ (1000 : Int) < 0 ∨ (10 : Int) < 1 ∨ (1048576 : Int) < 10 ∨ (50 : Int) < 0 ∨ (1125899906842624 : Int) < 50 ∨ (0 : Int) < 0 ∨ (1000 : Int) < 0); decide)]
theorem w18Conn : (conn1 (w18Tx 0) 0 50 []).1 = 0 := by
  have h1 : sumM (w18Tx 0).outs = (50, true) := by decide
  unfold conn1
  rw [if_neg (by rw [h1]; decide)]
  unfold layM
  rw [if_neg]
  simp [w18Tx, layHit, lk]
theorem w18TxM (m : UInt8) : txM (w18Tx m) true = 0 := by
  have h1 : sumM [⟨50, id0⟩] = (50, true) := by decide
  simp [txM, w18Tx, w18In, insGo, In1.pt, makerP, h1]
theorem w18Blk (h : Hdr) (m : UInt8) (hr : h.root = w18Root m) : blkE ⟨h, .full, [w18Tx m]⟩ = 0 := by
  have c1 : (countB (BitVec.ofNat 64 1)).length = 1 := by decide
  have ht : (txB (w18Tx m)).length = 80 := by simp [txB, w18Tx, w18In, inB, outB, textB, putB_len, c1]
  have hro : (rootM (rowsIds [w18Tx m])) = (w18Root m, false) := by
    show rootM [txIdM (w18Tx m)] = (w18Root m, false)
    have : rootM [txIdM (w18Tx m)] = ([txIdM (w18Tx m)].headD id0, false) := rootF_done _ _ _ (by simp)
    rw [w18Root, this]
  have hb : (blkB ⟨h, .full, [w18Tx m]⟩).length = 161 := by simp [blkB, hBytes_len, c1, ht]
  unfold blkE
  rw [if_neg (by simp), if_neg (by simp [txsE, w18TxM]), if_neg (by rw [hb]; decide), rootE, if_neg]
  rintro (⟨t, h1, h2⟩ | h1 | h1)
  · rw [List.mem_singleton.1 h1, ht] at h2
    cases h2
  · rw [hro] at h1; cases h1
  · rw [hro] at h1; exact h1 hr.symm
theorem w18Rl (h : Hdr) (x : V) : fillV z74_2f53 [(0, 1, w32 545259519#32), (2, 1, .int .i64 10), (3, 1, .int .i64 50), (5, 69, .agg (eHdr h ++ [x]))] = some (eRl ⟨easyB, 0, 10, 50, 0, h, x⟩) := by
  have e3 : spliceV (spliceV (spliceV z74_2f53 0 [w32 545259519#32]) 2 [.int .i64 10]) 3 [.int .i64 50] = [w32 545259519#32, .int .i64 0, .int .i64 10, .int .i64 50, .int .i64 0] ++ z74_2f53.drop 5 := rfl
  have zl : (z74_2f53.drop 5).length = 69 := rfl
  show fillV (spliceV (spliceV (spliceV z74_2f53 0 [w32 545259519#32]) 2 [.int .i64 10]) 3 [.int .i64 50]) [(5, 69, .agg (eHdr h ++ [x]))] = _
  rw [e3]
  generalize z74_2f53.drop 5 = zs at zl
  simp [fillV, V.cells?, spliceV, eHdr_len, zl, eRl, easyB]
section
variable {P : Program} {F : Fn}
set_option maxHeartbeats 2000000 in
theorem spec290 (ok : OkLaw18 P F) (st : St) (m : UInt8) : ACalls P (F 290) [w8 m] st fun v st' => v = .agg (eTx (w18Tx m)) ∧ st' = st := by
  have okt := ok.toOkWindow.toOkChain.toOkCoins.toOkCheck2.toOkCheck.toOkTx
  refine shows_call ok.mixed ok.h290 (by simp [k290]) ?_
  simp only [k290]
  simp
  intro i2 h2
  simp
  refine (spec197 okt _).mono ?_
  rintro v st1 ⟨rfl, rfl⟩
  have f1 : fillV (repV [w8 0] 1) [(0, 1, w8 m)] = some [w8 m] := rfl
  have f2 : fillV (repV z34_1838 1) [(0, 34, .agg (eIn (w18In m)))] = some (eIn (w18In m)) := rfl
  have f3 : fillV (repV z33_0be4 1) [(0, 33, .agg (eOut ⟨50, id0⟩))] = some (eOut ⟨50, id0⟩) := rfl
  have f4 : fillV [V.sl .nil [] 0, V.sl .nil [] 0] [(0, 1, .sl .full (eIn (w18In m)) 1), (1, 1, .sl .full (eOut ⟨50, id0⟩) 1)] = some (eTx (w18Tx m)) := rfl
  simp [f1, w18Fill, f2, w18Fill2, f3, f4]
  have hst := store_pt (sz := 2) (o := 0) (St.upd_same st i2 (.cells [.sl .nil [] 0, .sl .nil [] 0])) (v := .agg (eTx (w18Tx m))) (vs := eTx (w18Tx m)) rfl rfl (by simp)
  rw [show spliceV [V.sl .nil [] 0, V.sl .nil [] 0] 0 (eTx (w18Tx m)) = eTx (w18Tx m) from rfl] at hst
  have hg : segOf (eTx (w18Tx m)) 0 2 = some (eTx (w18Tx m)) := rfl
  simp at hst
  simp [hst, St.seg, hg]
  exact sub_upd h2
set_option maxHeartbeats 8000000 in
theorem spec291 (ok : OkLaw18 P F) (hc : CloneC P (F 256)) (st : St) {s : V} {ps : List Int} (hr : Rd 1 e1 s ps st) (hl : ps.length ≤ 1000) :
    ACalls P (F 291) [s] st fun v st' => ∃ cid s', v = .tup [.ptr (some (cid, 0)), s'] ∧ Sep [Slv 69 eBlk s' (w18M ps).2, ChA cid (w18C (w18M ps).1), Was st] st' := by
  have okc := ok.toOkWindow.toOkChain
  have okt := okc.toOkCoins.toOkCheck2.toOkCheck.toOkTx
  have oki := okc.toOkLocate.toOkIndexZ.toOkIndex
  have okh := oki.toOkHead
  refine shows_call ok.mixed ok.h291 (by simp [k291]) ?_
  simp only [k291]
  have f1 : fillV z68_39b1 [(66, 1, w32 545259519)] = some (eHdr { hdr0 with bits := easyB }) := rfl
  have f2 : ∀ m, fillV (repV [V.sl .nil [] 0, V.sl .nil [] 0] 1) [(0, 2, .agg (eTx (w18Tx m)))] = some (eTx (w18Tx m)) := fun m => rfl
  have f3 : fillV z69_adc1 [(0, 68, .agg (eHdr { hdr0 with bits := easyB })), (68, 1, .sl .full (eTx (w18Tx 0)) 1)] = some (eBlk ⟨{ hdr0 with bits := easyB }, .full, [w18Tx 0]⟩) := rfl
  have g1 : spliceV z68_39b1 66 [w32 545259519#32] = eHdr { hdr0 with bits := easyB } := rfl
  have g3 : spliceV (spliceV z69_adc1 0 (eHdr { hdr0 with bits := easyB })) 68 [.sl .full (eTx (w18Tx 0)) 1] = eBlk ⟨{ hdr0 with bits := easyB }, .full, [w18Tx 0]⟩ := rfl
  simp [f1, g1]
  refine (spec290 ok st 0).mono ?_
  rintro v st1 ⟨rfl, rfl⟩
  simp [f2, f3, g1, g3]
  intro i4 h4
  have S := (Sep.start st1).new h4 (.cells z69_adc1)
  have hst := store_pt (sz := 69) (o := 0) S.get (v := .agg (eBlk ⟨{ hdr0 with bits := easyB }, .full, [w18Tx 0]⟩)) (vs := eBlk ⟨{ hdr0 with bits := easyB }, .full, [w18Tx 0]⟩) rfl (eBlk_len _) (by simp)
  rw [show spliceV z69_adc1 0 (eBlk ⟨{ hdr0 with bits := easyB }, .full, [w18Tx 0]⟩) = eBlk ⟨{ hdr0 with bits := easyB }, .full, [w18Tx 0]⟩ from rfl] at hst
  have S := S.set (.cells (eBlk ⟨{ hdr0 with bits := easyB }, .full, [w18Tx 0]⟩))
  simp at S hst
  simp [hst]
  generalize st1.upd i4 _ = st2 at S ⊢
  have o4 := S.get
  have hsT := bsegT ⟨{ hdr0 with bits := easyB }, .full, [w18Tx 0]⟩
  simp [St.seg, o4, hsT]
  refine (spec192 okt st2 (rd_txs ⟨{ hdr0 with bits := easyB }, .full, [w18Tx 0]⟩ st2) (by simp) (fun t ht => by rw [List.mem_singleton.1 ht]; exact w18Tx_ok 0)).mono ?_
  rintro v st3 ⟨rfl, rfl⟩
  have hst := store_pt (sz := 32) (o := 33) o4 (v := .agg (eId (w18Root 0))) (vs := eId (w18Root 0)) rfl (eId_len _) (by rw [eBlk_len]; omega)
  have hsp : spliceV (eBlk ⟨{ hdr0 with bits := easyB }, .full, [w18Tx 0]⟩) 33 (eId (w18Root 0)) = eBlk w18G := bsplRoot _ _
  rw [hsp] at hst
  have hro : (rootM (rowsIds [w18Tx 0])).1 = w18Root 0 := rfl
  have S := S.set (.cells (eBlk w18G))
  simp [hro, hst]
  generalize st3.upd i4 _ = st4 at S ⊢
  have o4 := S.get
  have hsA := bsegAll w18G
  have f4 : fillV z74_2f53 [(0, 1, w32 545259519#32), (2, 1, .int .i64 10), (3, 1, .int .i64 50), (5, 69, .agg (eBlk w18G))] = some (eRl w18R) := w18Rl _ _
  simp [St.seg, o4, hsA, f4]
  refine (spec265a okc hc st4 w18R w18G (w18Tx 0) rfl rfl rfl (w18Tx_ok 0) w18Check (w18Blk _ 0 rfl) w18Conn).mono ?_
  rintro v st5 ⟨cid, rfl, W⟩
  have S := W.asn.ov S
  have o4 := S.drop.get
  have f5 : fillV (repV z69_adc1 1) [(0, 69, .agg (eBlk w18G))] = some (eBlk w18G) := by
    rw [show repV z69_adc1 1 = z69_adc1 from rfl]
    simp [fillV, V.cells?, eBlk_len, spliceV]
  have eqp : eqK .ptr (V.ptr (some (cid, 0))) (V.ptr none) = some false := rfl
  simp [eqp, St.seg, o4, hsA, f5]
  have hw0 : Wf (newM w18R) := newM_wf w18R
  have S : Sep [Slv 69 eBlk (.sl .full (eBlk w18G) 1) [w18G], ChA cid (w18C (newM w18R)), Was st1] st5 := by
    have h := Sep.slvPut (sz := 69) (f := eBlk) (S.tail fun r h => h.drop) [w18G]
    rw [show rowsOf eBlk [w18G] = eBlk w18G by simp [rowsOf]] at h
    exact h
  have hrl := hr.len
  simp [hrl]
  refine vc_joinB (M := fun env' st' => Sep [Slv 69 eBlk (env' 7) (w18M ps).2, ChA cid (w18C (w18M ps).1), Was st1] st') ?_ ?_
  · refine vc_loopJ (fun n env' st' => ∃ (i : Nat) (l : List Nd) (bl : List Blk1), i ≤ ps.length ∧ n = ps.length - i ∧ env' 41 = .int .i64 (i : Nat) ∧ w18Go i (ps.drop i) (l, bl) = w18M ps ∧ Wf l ∧ l.length ≤ 16384 ∧ bl.length ≤ i + 1 ∧ Sep [Slv 69 eBlk (env' 7) bl, ChA cid (w18C l), Was st1] st') ps.length
      ⟨0, newM w18R, [w18G], by omega, by omega, by simp, rfl, hw0, by simp [newM], by simp, by simpa using S⟩ ?_
    rintro J hJ n env' st6 hsame ⟨i, l, bl, hi, rfl, h41, hgo, w, hl', hbl, S⟩
    have g5 := (hsame.get 5 rfl).trans (by simp : _ = V.ptr (some (cid, 0)))
    have g39 := (hsame.get 39 rfl).trans (by simp : _ = s)
    have g40 := (hsame.get 40 rfl).trans (by simp : _ = V.int .i64 (ps.length : Int))
    clear hsame
    by_cases hlt : i < ps.length
    · obtain ⟨r1, r2, r3, r4⟩ := (hr.sub (S.was' (st0 := st1) (by simp))).row e1_len hlt
      rw [List.drop_eq_getElem_cons hlt, w18Go] at hgo
      obtain ⟨x, hx⟩ : ∃ x, x = ps[i] := ⟨_, rfl⟩
      rw [← hx] at r3 hgo
      have w1 : IntKind.i64.wrap ((i : Int) + 1) = (i : Int) + 1 := wrap64 (by omega) (by omega)
      have w2 : IntKind.i64.wrap ((l.length : Int) - 1) = (l.length : Int) - 1 := wrap64 (by omega) (by omega)
      obtain ⟨mo, tid, bid, uid, R, -⟩ := chGrow (P := P) (S.pull 1)
      have T := R.tree w.neNil
      have ot := R.top
      simp [g5, g39, g40, h41, hlt, r1, r3, e1, St.seg, ot, cseg0]
      refine (spec159 oki T).mono ?_
      rintro v st7 ⟨rfl, rfl⟩
      obtain ⟨p, hp⟩ : ∃ p, p = max 0 (min x ((l.length : Int) - 1)) := ⟨_, rfl⟩
      obtain ⟨m, hm⟩ : ∃ m, m = UInt8.ofBitVec (BitVec.ofInt 8 ((i : Int) + 1)) := ⟨_, rfl⟩
      have hmn : foldV min2V (V.int .i64 x) [V.int .i64 ((l.length : Int) - 1)] = some (.int .i64 (min x ((l.length : Int) - 1))) := by
        simp only [foldV, min2V, if_true, Option.bind_some]
        congr 2
        omega
      have hmx : foldV max2V (V.int .i64 0) [V.int .i64 (min x ((l.length : Int) - 1))] = some (.int .i64 p) := by
        simp only [foldV, max2V, if_true, Option.bind_some]
        congr 2
        omega
      simp [w2, w1, w18C, hmn, hmx, ← hm]
      refine (spec290 ok st7 m).mono ?_
      rintro v st8 ⟨rfl, rfl⟩
      have f6 : fillV z69_adc1 [(68, 1, .sl .full (eTx (w18Tx m)) 1)] = some (eBlk ⟨hdr0, .full, [w18Tx m]⟩) := rfl
      have g6 : spliceV z69_adc1 68 [.sl .full (eTx (w18Tx m)) 1] = eBlk ⟨hdr0, .full, [w18Tx m]⟩ := rfl
      simp [f2, f6, g6]
      intro i10 h10
      have S := S.new h10 (.cells z69_adc1)
      have hst := store_pt (sz := 69) (o := 0) S.get (v := .agg (eBlk ⟨hdr0, .full, [w18Tx m]⟩)) (vs := eBlk ⟨hdr0, .full, [w18Tx m]⟩) rfl (eBlk_len _) (by simp)
      rw [show spliceV z69_adc1 0 (eBlk ⟨hdr0, .full, [w18Tx m]⟩) = eBlk ⟨hdr0, .full, [w18Tx m]⟩ from rfl] at hst
      have S := S.set (.cells (eBlk ⟨hdr0, .full, [w18Tx m]⟩))
      simp at S hst
      simp [hst]
      clear R T ot
      generalize st8.upd i10 _ = st9 at S ⊢
      obtain ⟨mo, tid, bid, uid, R, -⟩ := chGrow (P := P) (S.pull 2)
      have T : TreeR tid w18R l st9 := R.tree w.neNil
      have ot := R.top
      obtain ⟨y, hy⟩ : ∃ y, y = nd l (inI l p) := ⟨_, rfl⟩
      have q1 : fldV true 68 32 (V.agg (eNd y)) = some (.agg (eId y.id)) := by
        show (segOf _ 68 32).bind (packV true) = _
        rw [osegId]; rfl
      have q2 : fldV true 0 68 (V.agg (eNd y)) = some (.agg (eHdr y.hdr)) := by
        show (segOf _ 0 68).bind (packV true) = _
        rw [osegHdr]; rfl
      have q3 : fldV false 65 1 (V.agg (eHdr y.hdr)) = some (w32 y.hdr.time) := by
        show (segOf _ 65 1).bind (packV false) = _
        rw [hsegTime]; rfl
      simp [g5, St.seg, ot, cseg0, w18C]
      refine still_call _ _ _ _ (by simpa using spec161 oki T w p) ?_
      rw [← hy]
      simp [q1, St.seg, ot, cseg0, w18C]
      refine still_call _ _ _ _ (by simpa using spec161 oki T w p) ?_
      rw [← hy]
      have b3 : fillV z68_39b1 [(1, 32, .agg (eId y.id)), (65, 1, w32 (y.hdr.time + 1#32)), (66, 1, w32 545259519#32)] = some (eHdr { hdr0 with prev := y.id, time := y.hdr.time + 1, bits := easyB }) := build_h3 _ _ _
      obtain ⟨h1, hh1⟩ : ∃ h1 : Hdr, h1 = { hdr0 with prev := y.id, time := y.hdr.time + 1, bits := easyB } := ⟨_, rfl⟩
      rw [← hh1] at b3
      have o10 := S.get
      have hst := store_pt (sz := 68) (o := 0) o10 (v := .agg (eHdr h1)) (vs := eHdr h1) rfl (eHdr_len _) (by rw [eBlk_len]; omega)
      rw [bsplH] at hst
      have S := S.set (.cells (eBlk ⟨h1, .full, [w18Tx m]⟩))
      simp [q2, q3, b3, hst]
      generalize st9.upd i10 _ = st11 at S ⊢
      have o10 := S.get
      have hsT := bsegT ⟨h1, .full, [w18Tx m]⟩
      simp [St.seg, o10, hsT]
      refine (spec192 okt st11 (rd_txs ⟨h1, .full, [w18Tx m]⟩ st11) (by simp) (fun t ht => by rw [List.mem_singleton.1 ht]; exact w18Tx_ok m)).mono ?_
      rintro v st12 ⟨rfl, rfl⟩
      have hro : (rootM (rowsIds [w18Tx m])).1 = w18Root m := rfl
      have hst := store_pt (sz := 32) (o := 33) o10 (v := .agg (eId (w18Root m))) (vs := eId (w18Root m)) rfl (eId_len _) (by rw [eBlk_len]; omega)
      rw [bsplRoot] at hst
      obtain ⟨h2, hh2⟩ : ∃ h2 : Hdr, h2 = { h1 with root := w18Root m } := ⟨_, rfl⟩
      have hst : storeS st12 32 (.ptr (some (i10, 33))) (.agg (eId (w18Root m))) = some (st12.upd i10 (.cells (eBlk ⟨h2, .full, [w18Tx m]⟩))) := by rw [hst, hh2]
      have S := S.set (.cells (eBlk ⟨h2, .full, [w18Tx m]⟩))
      simp [hro, hst]
      generalize st12.upd i10 _ = st13 at S ⊢
      have o10 := S.get
      have hsH := bsegH ⟨h2, .full, [w18Tx m]⟩
      simp [St.seg, o10, hsH]
      refine (spec143 okh st13 h2 545259519#32 1000).mono ?_
      rintro v st14 ⟨rfl, rfl⟩
      have hb : w18B y m = ⟨(mineN h2 easyB 1000).getD hdr0, .full, [w18Tx m]⟩ := by rw [w18B, hh2, hh1]
      have hmr : mineR h2 545259519#32 (max 0 (min (1000 : Int) 65536)).toNat = .tup [.agg (eHdr (w18B y m).hdr), .bool (mineN h2 easyB 1000).isSome] := by
        rw [mineR_get, hb]; rfl
      rw [hmr]
      have hst := store_pt (sz := 68) (o := 0) o10 (v := .agg (eHdr (w18B y m).hdr)) (vs := eHdr (w18B y m).hdr) rfl (eHdr_len _) (by rw [eBlk_len]; omega)
      rw [bsplH] at hst
      have hst : storeS st14 68 (.ptr (some (i10, 0))) (.agg (eHdr (w18B y m).hdr)) = some (st14.upd i10 (.cells (eBlk (w18B y m)))) := by rw [hst, hb]
      have S := S.set (.cells (eBlk (w18B y m)))
      simp [hst]
      generalize st14.upd i10 _ = st15 at S ⊢
      clear R T ot
      obtain ⟨mo, tid, bid, uid, R, hgrow⟩ := chGrow (P := P) (S.pull 2)
      have ot := R.top
      have o10 := S.get
      have hsH := bsegH (w18B y m)
      have hsA2 := bsegAll (w18B y m)
      obtain ⟨a, ha⟩ : ∃ a, a = addM w18R l (w18B y m).hdr 1099511627776 := ⟨_, rfl⟩
      have hstep : w18Step (l, bl) i x = (a.1, if a.2.2 = 0 then bl ++ [w18B y m] else bl) := by
        simp only [w18Step]
        rw [← hp, ← hy, ← hm, ← ha]
      rw [hstep] at hgo
      have hwf := addM_wf (r := w18R) w hl' (w18B y m).hdr 1099511627776
      rw [← ha] at hwf
      simp [g5, St.seg, ot, cseg0, o10, hsH]
      refine (hgrow (F 169) _ (fun v => v = .tup [.int .i64 a.2.1, .int .i64 a.2.2]) a.1 (fun h hT => by
        rw [ha]
        exact spec169 oki hT w hl' w18Check (w18B y m).hdr 1099511627776)).mono ?_
      rintro v st16 ⟨rfl, S⟩
      have S : Sep [ChA cid (w18C a.1), pt i10 (.cells (eBlk (w18B y m))), Slv 69 eBlk (env' 7) bl, Was st1] st16 := S
      have o10 := S.drop.get
      by_cases he : a.2.2 = 0
      · rw [if_pos he] at hgo
        have f7 : fillV (repV z69_adc1 1) [(0, 69, .agg (eBlk (w18B y m)))] = some (eBlk (w18B y m)) := by
          rw [show repV z69_adc1 1 = z69_adc1 from rfl]
          simp [fillV, V.cells?, eBlk_len, spliceV]
        have hel : elems st16 69 (.sl .full (eBlk (w18B y m)) 1) = some (rowsOf eBlk [w18B y m], 1) := by simp [elems, eBlk_len, rowsOf]
        simp [he, St.seg, o10, hsA2, f7, hel]
        refine Sep.appv (b := 104) eBlk_len (by omega) (S.pull 2) [w18B y m] (by simp [rowsOf]) rfl (by simp only [List.length_singleton]; omega) ?_
        intro s' st17 S
        have S : Sep [Slv 69 eBlk s' (bl ++ [w18B y m]), ChA cid (w18C a.1), Was st1] st17 := S.tail fun r h => h.tail fun r h => h.drop
        simp [h41, w1]
        exact Round.mk (ps.length - (i + 1)) _ (by omega) (sub_self _) (hJ _ _ _ ⟨i + 1, a.1, bl ++ [w18B y m], by omega, rfl, by simp, hgo, hwf.1, hwf.2, by simp; omega, by simpa using S⟩)
      · rw [if_neg he] at hgo
        have S : Sep [Slv 69 eBlk (env' 7) bl, ChA cid (w18C a.1), Was st1] st16 := (S.tail fun r h => h.drop).swap
        have hbf : (a.2.2 == 0) = false := beq_eq_false_iff_ne.2 he
        simp [hbf, h41, w1]
        exact Round.mk (ps.length - (i + 1)) _ (by omega) (sub_self _) (hJ _ _ _ ⟨i + 1, a.1, bl, by omega, rfl, by simp, hgo, hwf.1, hwf.2, by omega, by simpa using S⟩)
    · have : i = ps.length := by omega
      subst this
      rw [List.drop_length, w18Go] at hgo
      rw [← hgo]
      simp [g40, h41]
      exact S
  · rintro env' st6 hsame S
    have g5 := (hsame.get 5 rfl).trans (by simp : _ = V.ptr (some (cid, 0)))
    clear hsame
    simp [g5]
    exact ⟨st6, sub_self _, cid, _, ⟨rfl, rfl⟩, S⟩
end
end Go.Ab
set_option linter.unusedSimpArgs false
set_option linter.unusedVariables false
namespace Go.Ab
open Go Go.RowKit
def w18h1 : Hdr := (w18B (nd (newM w18R) 0) 1).hdr
def w18n1 : Nd := ndOf (newM w18R) w18h1 0
def w18h2 : Hdr := (w18B w18n1 2).hdr
def w18n2 : Nd := ndOf [nd (newM w18R) 0, w18n1] w18h2 1
theorem w18_facts : (decide (provedN w18h1 easyB = 0) && decide (w18h1.prev = hId w18G.hdr) && decide (w18h1.bits = easyB) && decide (w18h1.time = 1) && decide (hId w18h1 ≠ hId w18G.hdr) &&
    (decide (provedN w18h2 easyB = 0) && decide (w18h2.prev = hId w18h1) && decide (w18h2.bits = easyB) && decide (w18h2.time = 2) && decide (hId w18h2 ≠ hId w18G.hdr) && decide (hId w18h2 ≠ hId w18h1))) = true := by decide +kernel
end Go.Ab
set_option linter.unusedVariables false
namespace Go.Ab
open Go
end Go.Ab
set_option linter.unusedSimpArgs false
set_option linter.unusedVariables false
set_option maxRecDepth 10000
namespace Go.Ab
open Go Go.RowKit
theorem middle_mem {l : List W32} (h : l ≠ []) : middle32 l ∈ l := by
  unfold middle32
  have hpos := List.length_pos_iff.2 h
  have hl : l.length / 2 < (sorted32 l).length := by rw [sorted32_length]; omega
  have : (sorted32 l).getD (l.length / 2) 0 = (sorted32 l)[l.length / 2] := by simp [hl]
  rw [this]
  exact (List.mergeSort_perm l _).mem_iff.1 (List.getElem_mem hl)
theorem fits_ok {r : Rl} {l : List Nd} {h : Hdr} {p : Nat} {now : Int} (hp : p < l.length) (h1 : provedN h r.limit = 0) (h2 : (nd l p).failed = false) (h3 : h.bits = nextM r l p) (h4 : medianM l p < h.time) (h5 : (h.time.toNat : Int) - 7200 ≤ now) : fitsM r l h p now = 0 := by
  have e1 : ¬ ((p : Int) < 0 ∨ (l.length : Int) ≤ p) := by omega
  have e2 : ¬ h.time ≤ medianM l p := BitVec.not_le.2 h4
  have e3 : ¬ now < (h.time.toNat : Int) - 7200 := by omega
  simp only [fitsM, e1, if_false, h1, ne_eq, not_true_eq_false, Int.toNat_natCast, h2, h3, e2, e3, Bool.false_eq_true]
section
variable {P : Program} {F : Fn}
end
end Go.Ab
set_option linter.unusedSimpArgs false
set_option linter.unusedVariables false
set_option maxRecDepth 10000
namespace Go.Ab
open Go Go.RowKit
theorem w18_next (l : List Nd) (i : Nat) : nextM w18R l i = (nd l i).hdr.bits := by simp [nextM, w18R]
def w18g : Nd := nd (newM w18R) 0
theorem w18_new : newM w18R = [w18g] := rfl
theorem w18_step1 : w18Step ([w18g], [w18G]) 0 0 = ([w18g, w18n1], [w18G, w18B w18g 1]) := by
  have f := w18_facts
  simp only [Bool.and_eq_true, decide_eq_true_eq] at f
  obtain ⟨⟨⟨⟨⟨f1, f2⟩, f3⟩, f4⟩, f5⟩, -⟩ := f
  have e0 : inI [w18g] (max 0 (min 0 (((([w18g] : List Nd).length : Nat) : Int) - 1))) = 0 := by simp [inI]
  have e1 : nd [w18g] 0 = w18g := nd_at (by simp)
  have em : UInt8.ofBitVec (BitVec.ofInt 8 (((0 : Nat) : Int) + 1)) = 1 := by decide
  have hh : (w18B w18g 1).hdr = w18h1 := rfl
  have gp : w18g.parent = -1 := rfl
  have gt : w18g.hdr.time = 0#32 := rfl
  have ht : timesM [w18g] 11 0 = [0#32] := by simp [timesM, gp, gt]
  have hmd : medianM [w18g] 0 = 0 := by
    unfold medianM
    rw [ht]
    simp [middle32, sorted32]
  have hfit : fitsM w18R [w18g] w18h1 ((0 : Nat) : Int) 1099511627776 = 0 := fits_ok (by simp) f1 rfl (by rw [w18_next, f3, e1]; rfl) (by rw [hmd, f4]; decide) (by rw [f4]; decide)
  have hadd : addM w18R [w18g] w18h1 1099511627776 = ([w18g] ++ [ndOf [w18g] w18h1 0], ((([w18g] : List Nd).length : Nat) : Int), 0) := by
    refine addM_ok ?_ ?_ hfit (by simp)
    · have : w18g.id ≠ hId w18h1 := fun e => f5 e.symm
      simp [findM, this]
    · have : w18g.id = w18h1.prev := f2.symm
      simp [findM, this]
  simp only [w18Step]
  rw [e0, e1, em, hh, hadd]
  rfl
theorem middle_10 : middle32 [1#32, 0#32] = 1#32 := by
  have h : [0#32, 1#32] = sorted32 [1#32, 0#32] := sorted_of (by
    intro a b h1 h2
    have : a = 0 ∧ b = 1 := by simp at h2; omega
    obtain ⟨rfl, rfl⟩ := this
    decide) (by decide)
  unfold middle32
  rw [← h]
  rfl
theorem w18_wf1 : Wf [w18g, w18n1] := ndOf_wf (newM_wf w18R) (by simp [newM])
theorem w18_step2 : w18Step ([w18g, w18n1], [w18G, w18B w18g 1]) 1 1 = ([w18g, w18n1, w18n2], [w18G, w18B w18g 1, w18B w18n1 2]) := by
  have f := w18_facts
  simp only [Bool.and_eq_true, decide_eq_true_eq] at f
  obtain ⟨⟨⟨⟨⟨-, -⟩, -⟩, k4⟩, k5⟩, ⟨⟨⟨⟨f1, f2⟩, f3⟩, f4⟩, f5⟩, f6⟩ := f
  have e0 : inI [w18g, w18n1] (max 0 (min 1 (((([w18g, w18n1] : List Nd).length : Nat) : Int) - 1))) = 1 := by
    have h : ((([w18g, w18n1] : List Nd).length : Nat) : Int) = 2 := rfl
    rw [inI, h]
    decide
  have e1 : nd [w18g, w18n1] 1 = w18n1 := nd_at (by simp)
  have em : UInt8.ofBitVec (BitVec.ofInt 8 (((1 : Nat) : Int) + 1)) = 2 := by decide
  have hh : (w18B w18n1 2).hdr = w18h2 := rfl
  have gp : w18g.parent = -1 := rfl
  have gt : w18g.hdr.time = 0#32 := rfl
  have np : w18n1.parent = 0 := rfl
  have nt : w18n1.hdr.time = 1#32 := k4
  have nb : w18n1.hdr.bits = w18h1.bits := rfl
  have ht : timesM [w18g, w18n1] 11 1 = [1#32, 0#32] := by simp [timesM, gp, gt, np, nt]
  have hmd : medianM [w18g, w18n1] 1 = 1 := by
    unfold medianM
    rw [ht, middle_10]; rfl
  have k3 : w18h1.bits = easyB := by
    have f := w18_facts
    simp only [Bool.and_eq_true, decide_eq_true_eq] at f
    exact f.1.1.1.2
  have hfit : fitsM w18R [w18g, w18n1] w18h2 ((1 : Nat) : Int) 1099511627776 = 0 := fits_ok (by simp) f1 (by rw [e1]; rfl) (by rw [w18_next, f3, e1, nb, k3]) (by rw [hmd, f4]; decide) (by rw [f4]; decide)
  have hadd : addM w18R [w18g, w18n1] w18h2 1099511627776 = ([w18g, w18n1] ++ [ndOf [w18g, w18n1] w18h2 1], ((([w18g, w18n1] : List Nd).length : Nat) : Int), 0) := by
    have i1 : w18n1.id = hId w18h1 := rfl
    refine addM_ok ?_ ?_ hfit (by simp)
    · have h1 : w18g.id ≠ hId w18h2 := fun e => f5 e.symm
      have h2 : w18n1.id ≠ hId w18h2 := fun e => f6 e.symm
      simp [findM, h1, h2]
    · have : w18n1.id = w18h2.prev := f2.symm
      simp [findM, this]
  simp only [w18Step]
  rw [e0, e1, em, hh, hadd]
  rfl
theorem w18_all : (w18M [0, 1]).1 = [w18g, w18n1, w18n2] := by
  unfold w18M
  rw [w18Go, w18_new, w18_step1, w18Go, w18_step2, w18Go]
theorem w18_wf2 : Wf [w18g, w18n1, w18n2] := ndOf_wf w18_wf1 (by simp)
end Go.Ab
set_option linter.unusedSimpArgs false
set_option linter.unusedVariables false
set_option maxRecDepth 10000
namespace Go.Ab
open Go Go.RowKit
def lateB (sl now : Int) (x : Fl) : Bool := decide (limM sl ≤ IntKind.i64.wrap (now - x.2))
structure LateIs (es : List (Int × Fl)) (sl now p : Int) (b : Bool) : Prop where
  no : b = false → p = 0 ∧ ∀ e ∈ es, lateB sl now e.2 = false
  yes : b = true → (∃ e ∈ es, lateB sl now e.2 = true ∧ e.2.1 = p) ∧ ∀ e ∈ es, lateB sl now e.2 = true → p ≤ e.2.1
theorem LateIs.perm {es es' : List (Int × Fl)} {sl now p : Int} {b : Bool} (h : LateIs es sl now p b) (hp : es.Perm es') : LateIs es' sl now p b :=
  ⟨fun hb => ⟨(h.no hb).1, fun e he => (h.no hb).2 e (hp.mem_iff.2 he)⟩, fun hb => by
    obtain ⟨⟨e, he, h1⟩, h2⟩ := h.yes hb
    exact ⟨⟨e, hp.mem_iff.1 he, h1⟩, fun e he => h2 e (hp.mem_iff.2 he)⟩⟩
theorem LateIs.nil (sl now : Int) : LateIs [] sl now 0 false := ⟨fun _ => ⟨rfl, fun e he => by cases he⟩, fun h => by cases h⟩
theorem LateIs.more {es : List (Int × Fl)} {sl now p : Int} {b : Bool} (h : LateIs es sl now p b) (x : Int × Fl) :
    LateIs (es ++ [x]) sl now (if (lateB sl now x.2 && (!b || decide (x.2.1 < p))) = true then x.2.1 else p) (b || lateB sl now x.2) := by
  cases hl : lateB sl now x.2 with
  | false =>
    simp only [Bool.false_and, Bool.false_eq_true, if_false, Bool.or_false]
    refine ⟨fun hb => ⟨(h.no hb).1, fun e he => ?_⟩, fun hb => ?_⟩
    · rcases List.mem_append.1 he with he | he
      · exact (h.no hb).2 e he
      · rw [List.mem_singleton.1 he]; exact hl
    · obtain ⟨⟨e, he, h1⟩, h2⟩ := h.yes hb
      refine ⟨⟨e, List.mem_append_left _ he, h1⟩, fun e he hle => ?_⟩
      rcases List.mem_append.1 he with he | he
      · exact h2 e he hle
      · rw [List.mem_singleton.1 he, hl] at hle; cases hle
  | true =>
    simp only [Bool.true_and, Bool.or_true]
    refine ⟨fun hb => (by cases hb), fun _ => ?_⟩
    cases hb : b with
    | false =>
      simp only [Bool.not_false, Bool.true_or, if_true]
      refine ⟨⟨x, by simp, hl, rfl⟩, fun e he hle => ?_⟩
      rcases List.mem_append.1 he with he | he
      · have := (h.no hb).2 e he
        rw [this] at hle; cases hle
      · rw [List.mem_singleton.1 he]; exact Int.le_refl _
    | true =>
      simp only [Bool.not_true, Bool.false_or, decide_eq_true_eq]
      obtain ⟨⟨e0, he0, h1, h1'⟩, h2⟩ := h.yes hb
      by_cases hlt : x.2.1 < p
      · rw [if_pos hlt]
        refine ⟨⟨x, by simp, hl, rfl⟩, fun e he hle => ?_⟩
        rcases List.mem_append.1 he with he | he
        · have := h2 e he hle
          omega
        · rw [List.mem_singleton.1 he]; exact Int.le_refl _
      · rw [if_neg hlt]
        refine ⟨⟨e0, List.mem_append_left _ he0, h1, h1'⟩, fun e he hle => ?_⟩
        rcases List.mem_append.1 he with he | he
        · exact h2 e he hle
        · rw [List.mem_singleton.1 he]; omega
def LateOut (v6 v7 : V) (es : List (Int × Fl)) (sl now : Int) (R : Prop) : Prop := ∃ p b, v6 = .int .i64 p ∧ v7 = .bool b ∧ LateIs es sl now p b ∧ R
section
variable {P : Program} {F : Fn}
set_option maxHeartbeats 4000000 in
theorem spec288 (ok : OkWindow P F) {st : St} {t : Nat} {es : Fls} {sl : Int} {L : List Asn} (h : WinS t es sl L st) (now : Int) (hs : 0 ≤ sl ∧ sl ≤ 3) :
    ACalls P (F 288) [.ptr (some (t, 0)), .int .i64 now] st fun v st' => ∃ p b, v = .tup [.int .i64 p, .bool b] ∧ LateIs es sl now p b ∧ WinS t es (if b = true then min (sl + 1) 3 else sl) L st' := by
  refine shows_call ok.mixed ok.h288 (by simp [k288]) ?_
  simp only [k288]
  obtain ⟨mo, h0, S⟩ := h
  have hseg : ∀ mv : V, segOf [mv, V.int .i64 sl] 0 1 = some [mv] := fun _ => rfl
  have hseg1 : ∀ mv : V, segOf [mv, V.int .i64 sl] 1 1 = some [.int .i64 sl] := fun _ => rfl
  have w1 : IntKind.i64.wrap (sl + 1) = sl + 1 := wrap64 (by omega) (by omega)
  have hmin : foldV min2V (V.int .i64 (sl + 1)) [V.int .i64 3] = some (.int .i64 (min (sl + 1) 3)) := by
    simp only [foldV, min2V, if_true, Option.bind_some]
    congr 2
    split <;> omega
  cases mo with
  | none =>
    have o := S.get
    have he : es = [] := h0 rfl
    subst he
    simp [St.seg, o, hseg, rngMapS]
    intro it hit
    have S := S.new hit (.mit none 0 [] 0)
    generalize st.upd it _ = st2 at S ⊢
    refine vc_joinB (M := fun env' st' => env' 6 = .int .i64 0 ∧ env' 7 = .bool false ∧ Sep (pt t (.cells [.map none, .int .i64 sl]) :: L) st') ?_ ?_
    · refine vc_loopJ (fun c env' st' => c = 0 ∧ env' 6 = .int .i64 0 ∧ env' 7 = .bool false ∧ Sep (pt it (.mit none 0 [] 0) :: pt t (.cells [.map none, .int .i64 sl]) :: L) st') 0 ⟨rfl, by simp, by simp, S⟩ ?_
      rintro J hJ c env' st3 hsame ⟨rfl, h6, h7, S⟩
      have g14 := (hsame.get 14 rfl).trans (by simp : _ = V.ptr (some (it, 0)))
      clear hsame
      have oi := S.get
      simp [g14, nextMapS, oi, h6, h7]
      exact S.drop
    · rintro env' st3 hsame ⟨h6, h7, S⟩
      have g13 := (hsame.get 13 rfl).trans (by simp : _ = V.map none)
      clear hsame
      refine frzP_one (v := .map none) (st' := st3) (by rw [g13]; rfl) ?_
      simp [h6, h7]
      exact ⟨st3, sub_self _, LateIs.nil sl now, none, fun _ => rfl, S⟩
  | some m =>
    have o := S.get
    simp [St.seg, o, hseg]
    refine Sep.rng S.swap ?_
    intro it st2 S
    rw [encG_start] at S
    simp
    refine vc_joinB (M := fun env' st' => LateOut (env' 6) (env' 7) es sl now (∃ fl last, fl.map (·.1) = es ∧ Sep (Going m it (encG kInt vFl fl) last :: pt t (.cells [.map (some m), .int .i64 sl]) :: L) st')) ?_ ?_
    · refine vc_loopJ (fun c env' st' => ∃ fl last p b, c = unseen (encG kInt vFl fl) ∧ fl.map (·.1) = es ∧ env' 6 = .int .i64 p ∧ env' 7 = .bool b ∧ LateIs (flg fl) sl now p b ∧ Sep (Going m it (encG kInt vFl fl) last :: pt t (.cells [.map (some m), .int .i64 sl]) :: L) st') (unseen (encG kInt vFl (es.map fun x => (x, false))))
        ⟨_, none, 0, false, rfl, by simp [Function.comp_def], by simp, by simp, by rw [flg_none]; exact LateIs.nil sl now, S⟩ ?_
      rintro J hJ c env' st3 hsame ⟨fl, last, p, b, rfl, hfl, h6, h7, hla, S⟩
      have g0 := (hsame.get 0 rfl).trans (by simp : _ = V.ptr (some (t, 0)))
      have g1 := (hsame.get 1 rfl).trans (by simp : _ = V.int .i64 now)
      have g14 := (hsame.get 14 rfl).trans (by simp : _ = V.ptr (some (it, 0)))
      clear hsame
      simp [g14]
      refine Sep.next S ?_ ?_
      · intro hall
        have := flg_all (encG_all kInt vFl hall)
        rw [this, hfl] at hla
        simp
        exact ⟨p, b, h6, h7, hla, fl, hfl, last, S⟩
      · intro i hi hf st4 S
        have hi' : i < fl.length := by rw [← encG_len kInt vFl]; exact hi
        rw [encG_set kInt vFl fl hi' hi] at S
        obtain ⟨hi2, hent⟩ := S.ent
        have hfi : fl[i].2 = false := by simpa [encG] using hf
        obtain ⟨x, hx⟩ : ∃ x, x = fl[i].1 := ⟨_, rfl⟩
        simp [encG, ← hx] at hent
        simp [g14, hent]
        intro i9 h9
        have key : storeS (st4.upd i9 (.cells [.int .i64 0, .int .i64 0])) 2 (.ptr (some (i9, 0))) (vFl x.2) = some (st4.upd i9 (.cells (eFl x.2))) := by
          rw [store_pt (sz := 2) (o := 0) (vs := eFl x.2) (St.upd_same _ _ _) rfl rfl (by simp)]
          simp [spliceV, eFl]
        have hf0 : segOf (eFl x.2) 0 1 = some [.int .i64 x.2.1] := rfl
        have hf1 : segOf (eFl x.2) 1 1 = some [.int .i64 x.2.2] := rfl
        have S := S.new h9 (.cells (eFl x.2))
        have hun := unseen_set hi hf ((encG kInt vFl fl)[i].1)
        rw [encG_set kInt vFl fl hi' hi] at hun
        have hpm := flg_set hi' hfi
        have hmore : LateIs (flg (fl.set i (fl[i].1, true))) sl now _ _ := (hla.more x).perm (by rw [hx]; exact hpm.symm)
        simp [key]
        generalize st4.upd i9 _ = st5 at S ⊢
        have o9 := S.get
        have ot := S.drop.drop.get
        have hlim := spec279 ok ot hs
        have next : ∀ (p' : Int) (b' : Bool), LateIs (flg (fl.set i (fl[i].1, true))) sl now p' b' → ∀ env2 : Env, env2 6 = .int .i64 p' → env2 7 = .bool b' → J (unseen (encG kInt vFl (fl.set i (fl[i].1, true)))) env2 st5 := fun p' b' hl env2 e6 e7 =>
          hJ _ _ _ ⟨_, some i, p', b', rfl, by rw [fst_set hi', hfl], e6, e7, hl, S.drop⟩
        simp [g0, g1, St.seg, o9, hf1]
        refine ⟨_, hlim, ?_⟩
        cases hlb : lateB sl now x.2 with
        | false =>
          rw [hlb] at hmore
          simp at hmore
          have hge : decide (IntKind.i64.wrap (now - x.2.2) ≥ limM sl) = false := hlb
          simp [hge]
          exact Round.mk _ _ hun (sub_self _) (next p b hmore _ (by simp [h6]) (by simp [h7]))
        | true =>
          rw [hlb] at hmore
          simp at hmore
          have hge : decide (IntKind.i64.wrap (now - x.2.2) ≥ limM sl) = true := hlb
          cases hb : b with
          | false =>
            subst hb
            simp at hmore
            simp [hge, h7, St.seg, o9, hf0]
            exact Round.mk _ _ hun (sub_self _) (next _ true hmore _ (by simp) (by simp))
          | true =>
            subst hb
            simp at hmore
            by_cases hlt : x.2.1 < p
            · rw [if_pos hlt] at hmore
              simp [hge, h6, h7, St.seg, o9, hf0, hlt]
              exact Round.mk _ _ hun (sub_self _) (next _ true hmore _ (by simp) (by simp))
            · rw [if_neg hlt] at hmore
              simp [hge, h6, h7, St.seg, o9, hf0, hlt]
              exact Round.mk _ _ hun (sub_self _) (next _ true hmore _ (by simp [h6]) (by simp [h7]))
    · rintro env' st3 hsame ⟨p, b, h6, h7, hla, fl, last, hfl, S⟩
      have g13 := (hsame.get 13 rfl).trans (by simp : _ = V.map (some m))
      have g0 := (hsame.get 0 rfl).trans (by simp : _ = V.ptr (some (t, 0)))
      clear hsame
      obtain ⟨hfz, S⟩ := S.gone
      refine frzP_one (by rw [g13]; exact hfz) ?_
      rw [encG_map, hfl] at S ⊢
      generalize st3.upd m _ = st4 at S ⊢
      have ot := S.drop.get
      cases b with
      | false =>
        simp [h6, h7]
        exact ⟨st4, sub_self _, hla, some m, (fun e => by cases e), S.swap⟩
      | true =>
        have hst := store_pt (sz := 1) (o := 1) ot (v := .int .i64 (min (sl + 1) 3)) (vs := [.int .i64 (min (sl + 1) 3)]) rfl rfl (by simp)
        rw [show spliceV [V.map (some m), V.int .i64 sl] 1 [V.int .i64 (min (sl + 1) 3)] = [.map (some m), .int .i64 (min (sl + 1) 3)] from rfl] at hst
        simp [h6, h7, g0, St.seg, ot, hseg1, w1, hmin, hst]
        exact ⟨_, sub_self _, hla, some m, fun e => (by cases e), S.swap.set _⟩
end
theorem erase_map {α β : Type} (f : α → β) : ∀ (l : List α) (i : Nat), (l.map f).eraseIdx i = (l.eraseIdx i).map f
  | [], _ => rfl
  | _ :: _, 0 => rfl
  | x :: l, i + 1 => by simp [List.eraseIdx, erase_map f l i]
theorem getD_erase {α : Type} (l : List α) (i j : Nat) (d : α) : (l.eraseIdx i).getD j d = if j < i then l.getD j d else l.getD (j + 1) d := by
  simp only [List.getD_eq_getElem?_getD, List.getElem?_eraseIdx]
  split <;> rfl
theorem Sep.gdel {m it i : Nat} {l : List ((V × V) × Bool)} {L : List Asn} {st : St} (h : Sep (Going m it l (some i) :: L) st) (hi : i < l.length) {kk : KK} {k : V} (hk : isKey kk k = true) (hf : mfindI kk k (l.map (·.1)) 0 = some (some i)) :
    ∃ st', mdelS st kk (.map (some m)) k = some st' ∧ Sep (Going m it (l.eraseIdx i) none :: L) st' := by
  obtain ⟨a, r, k1, k2, ⟨bs, clk, since, seen, stp, g1, g2, g3, g4, g5, g6, g7, g8, g9⟩, k4⟩ := h
  have e1 := k2 _ _ (add_some g1)
  have hne : m ≠ it := fun e => by rw [e, g2] at g1; cases g1
  refine ⟨st.upd m (.mpi ((l.map (·.1)).eraseIdx i) (bs.eraseIdx i) clk), by simp [mdelS, hk, e1, hf], a.upd m (.mpi ((l.map (·.1)).eraseIdx i) (bs.eraseIdx i) clk), r, k1.upd (k1.some g1) _, fun j o e => ?_, ⟨bs.eraseIdx i, clk, since, seen, stp, ?_, ?_, ?_, ?_, ?_, g6, g7, ?_, fun j e => by cases e⟩, k4⟩
  · rw [upd_add] at e
    by_cases ej : j = m
    · simpa [ej] using e
    · simp only [st_upd, ej, if_false] at e ⊢
      exact k2 j o e
  · rw [St.upd_same, erase_map]
  · simp [St.upd, hne.symm, g2]
  · rw [List.length_eraseIdx, List.length_eraseIdx, g3]
  · exact g4.sublist (List.eraseIdx_sublist _ _)
  · exact fun b hb => g5 b (List.eraseIdx_subset hb)
  · intro j hj
    have hj' : j < l.length - 1 := by
      rw [List.length_eraseIdx, if_pos hi] at hj
      exact hj
    rw [getD_erase, List.getElem_eraseIdx]
    by_cases hji : j < i
    · rw [if_pos hji]
      simp only [hji, dif_pos]
      exact g8 j (by omega)
    · rw [if_neg hji]
      simp only [hji, dif_neg, not_false_eq_true]
      exact g8 (j + 1) (by omega)
theorem mfindI_at {K A : Type} [DecidableEq K] {ek : K → V} {ev : A → V} {kk : KK} (hk : Keyed ek kk) : ∀ (l : List (K × A)) (i n : Nat) (hi : i < l.length), (l.map (·.1)).Nodup → mfindI kk (ek l[i].1) (encM ek ev l) n = some (some (n + i))
  | [], i, n, hi, _ => by simp at hi
  | p :: l, 0, n, hi, _ => by simp [mfindI, encM, hk.eq]
  | p :: l, i + 1, n, hi, hn => by
    rw [List.map_cons, List.nodup_cons] at hn
    have hlt : i < l.length := by simpa using hi
    have ih := mfindI_at hk (ev := ev) l i (n + 1) hlt hn.2
    have hne : l[i].1 ≠ p.1 := fun e => hn.1 (List.mem_map.2 ⟨l[i], List.getElem_mem _, e⟩)
    simp only [encM, List.map_cons, mfindI, hk.eq, List.getElem_cons_succ, hne, decide_false] at ih ⊢
    rw [ih]
    congr 2
    omega
theorem unseen_erase (l : List ((V × V) × Bool)) (i : Nat) : unseen (l.eraseIdx i) ≤ unseen l := (List.eraseIdx_sublist l i).countP_le
theorem encG_erase {K A : Type} [DecidableEq K] (ek : K → V) (ev : A → V) (fl : List ((K × A) × Bool)) (i : Nat) : (encG ek ev fl).eraseIdx i = encG ek ev (fl.eraseIdx i) := erase_map _ fl i
structure Dropped (es : Fls) (p : Int) (fl : List ((Int × Fl) × Bool)) (R : List (Int × Fl)) : Prop where
  left : fl.map (·.1) = es.filter fun e => decide (e ∉ R)
  out : ∀ e ∈ R, e ∈ es ∧ e.2.1 = p
  nd : R.Nodup
  seen : ∀ x ∈ fl, x.2 = true → x.1.2.1 ≠ p
theorem nodup_length {α : Type} [DecidableEq α] : ∀ {l m : List α}, l.Nodup → (∀ e ∈ l, e ∈ m) → l.length ≤ m.length
  | [], _, _, _ => Nat.zero_le _
  | x :: l, m, h, hs => by
    rw [List.nodup_cons] at h
    have hx := hs x (by simp)
    have := nodup_length (m := m.erase x) h.2 fun e he => (List.mem_erase_of_ne (fun e' : e = x => h.1 (e' ▸ he))).2 (hs e (by simp [he]))
    rw [List.length_erase_of_mem hx] at this
    have := List.length_pos_of_mem hx
    simp only [List.length_cons]
    omega
theorem erase_filter {α : Type} [DecidableEq α] : ∀ {l : List α}, l.Nodup → ∀ (i : Nat) (hi : i < l.length), l.eraseIdx i = l.filter fun e => decide (e ≠ l[i])
  | x :: l, h, 0, _ => by
    rw [List.nodup_cons] at h
    have : l.filter (fun e => decide (e ≠ x)) = l := List.filter_eq_self.2 fun a ha => decide_eq_true fun e => h.1 (e ▸ ha)
    simp only [List.eraseIdx_cons_zero, List.getElem_cons_zero, List.filter_cons]
    rw [this]
    simp
  | x :: l, h, i + 1, hi => by
    rw [List.nodup_cons] at h
    have hlt : i < l.length := by simpa using hi
    have hx : x ≠ l[i] := fun e => h.1 (e ▸ List.getElem_mem hlt)
    rw [List.eraseIdx_cons_succ, erase_filter h.2 i hlt]
    simp [hx]
theorem nodup_unmap {α β : Type} (f : α → β) : ∀ {l : List α}, (l.map f).Nodup → l.Nodup
  | [], _ => .nil
  | x :: l, h => by
    rw [List.map_cons, List.nodup_cons] at h
    exact List.nodup_cons.2 ⟨fun hm => h.1 (List.mem_map.2 ⟨x, hm, rfl⟩), nodup_unmap f h.2⟩
theorem nodup_of_keys {es : Fls} (h : (es.map (·.1)).Nodup) : es.Nodup := nodup_unmap _ h
theorem Dropped.fin {es : Fls} {p : Int} {fl : List ((Int × Fl) × Bool)} {R : List (Int × Fl)} (h : Dropped es p fl R) (hn : (es.map (·.1)).Nodup) (hall : ∀ x ∈ fl, x.2 = true) :
    fl.map (·.1) = es.filter (fun e => e.2.1 != p) ∧ (R.map (·.1)).Perm ((es.filter fun e => e.2.1 == p).map (·.1)) := by
  have key : ∀ e ∈ es, (e ∈ R ↔ e.2.1 = p) := fun e he => by
    refine ⟨fun hr => (h.out e hr).2, fun hp => ?_⟩
    apply Classical.byContradiction
    intro hr
    have : e ∈ fl.map (·.1) := by
      rw [h.left, List.mem_filter]
      exact ⟨he, by simpa using hr⟩
    obtain ⟨x, hx, rfl⟩ := List.mem_map.1 this
    exact h.seen x hx (hall x hx) hp
  refine ⟨?_, List.Perm.map _ ((List.perm_ext_iff_of_nodup h.nd ((nodup_of_keys hn).filter _)).2 fun e => ?_)⟩
  · rw [h.left]
    refine List.filter_congr fun e he => ?_
    rw [Bool.eq_iff_iff]
    simp [key e he]
  · rw [List.mem_filter]
    refine ⟨fun hr => ⟨(h.out e hr).1, by simpa using (h.out e hr).2⟩, fun ⟨he, hp⟩ => (key e he).2 (by simpa using hp)⟩
section
variable {P : Program} {F : Fn}
set_option maxHeartbeats 4000000 in
theorem spec285 (ok : OkWindow P F) (oks : SortC P (F 286)) {st : St} {t : Nat} {es : Fls} {sl : Int} {L : List Asn} (h : WinS t es sl L st) (hn : (es.map (·.1)).Nodup) (p : Int) (hl : es.length ≤ 1000) :
    ACalls P (F 285) [.ptr (some (t, 0)), .int .i64 p] st fun v st' => ∃ l, l.Perm ((es.filter fun e => e.2.1 == p).map (·.1)) ∧ l.Pairwise (· ≤ ·) ∧ WinS t (es.filter fun e => e.2.1 != p) sl (Slx 1 e1 v l :: L) st' := by
  refine shows_call ok.mixed ok.h285 (by simp [k285]) ?_
  simp only [k285]
  obtain ⟨mo, h0, S⟩ := h
  have hseg : ∀ mv : V, segOf [mv, V.int .i64 sl] 0 1 = some [mv] := fun _ => rfl
  cases mo with
  | none =>
    have o := S.get
    have he : es = [] := h0 rfl
    subst he
    simp [St.seg, o, hseg, rngMapS]
    intro it hit
    have S := S.new hit (.mit none 0 [] 0)
    generalize st.upd it _ = st2 at S ⊢
    refine vc_joinB (M := fun env' st' => env' 5 = .sl .nil [] 0 ∧ Sep (pt t (.cells [.map none, .int .i64 sl]) :: L) st') ?_ ?_
    · refine vc_loopJ (fun c env' st' => c = 0 ∧ env' 5 = .sl .nil [] 0 ∧ Sep (pt it (.mit none 0 [] 0) :: pt t (.cells [.map none, .int .i64 sl]) :: L) st') 0 ⟨rfl, by simp, S⟩ ?_
      rintro J hJ c env' st3 hsame ⟨rfl, h5, S⟩
      have g12 := (hsame.get 12 rfl).trans (by simp : _ = V.ptr (some (it, 0)))
      clear hsame
      have oi := S.get
      simp [g12, nextMapS, oi, h5]
      exact S.drop
    · rintro env' st3 hsame ⟨h5, S⟩
      have g11 := (hsame.get 11 rfl).trans (by simp : _ = V.map none)
      clear hsame
      refine frzP_one (v := .map none) (st' := st3) (by rw [g11]; rfl) ?_
      have S : Sep (Slx 1 e1 (.sl .nil [] 0) [] :: pt t (.cells [.map none, .int .i64 sl]) :: L) st3 := S.slxNil
      simp [h5]
      refine (oks.use S (fun _ => rfl) (by simp)).mono ?_
      rintro v st4 ⟨l', h1, h2, S⟩
      have : l' = [] := List.perm_nil.1 h1
      subst this
      simp
      exact ⟨st4, sub_self _, none, fun _ => rfl, by rw [h5]; exact S.swap⟩
  | some m =>
    have o := S.get
    simp [St.seg, o, hseg]
    refine Sep.rng S.swap ?_
    intro it st2 S
    rw [encG_start] at S
    simp
    refine vc_joinB (M := fun env' st' => ∃ fl last R, (∀ x ∈ fl, x.2 = true) ∧ Dropped es p fl R ∧ (R = [] → env' 5 = .sl .nil [] 0) ∧ Sep (Going m it (encG kInt vFl fl) last :: Slx 1 e1 (env' 5) (R.map (·.1)) :: pt t (.cells [.map (some m), .int .i64 sl]) :: L) st') ?_ ?_
    · refine vc_loopJ (fun c env' st' => ∃ fl last R, c = unseen (encG kInt vFl fl) ∧ Dropped es p fl R ∧ (R = [] → env' 5 = .sl .nil [] 0) ∧ Sep (Going m it (encG kInt vFl fl) last :: Slx 1 e1 (env' 5) (R.map (·.1)) :: pt t (.cells [.map (some m), .int .i64 sl]) :: L) st') (unseen (encG kInt vFl (es.map fun x => (x, false))))
        ⟨_, none, [], rfl, ⟨by rw [List.map_map]; exact (List.map_id es).trans (List.filter_eq_self.2 (by simp)).symm, by simp, .nil, by simp⟩, by simp, by
          have S2 : Sep (Going m it (encG kInt vFl (es.map fun x => (x, false))) none :: Slx 1 e1 (.sl .nil [] 0) [] :: pt t (.cells [.map (some m), .int .i64 sl]) :: L) st2 := S.tail fun r h => h.slxNil
          simpa using S2⟩ ?_
      rintro J hJ c env' st3 hsame ⟨fl, last, R, rfl, hD, hn5, S⟩
      have g0 := (hsame.get 0 rfl).trans (by simp : _ = V.ptr (some (t, 0)))
      have g1 := (hsame.get 1 rfl).trans (by simp : _ = V.int .i64 p)
      have g12 := (hsame.get 12 rfl).trans (by simp : _ = V.ptr (some (it, 0)))
      clear hsame
      simp [g12]
      refine Sep.next S ?_ ?_
      · intro hall
        have := encG_all kInt vFl hall
        simp
        exact ⟨fl, fun a b c hm => absurd (this _ hm) (by simp), last, R, hD, hn5, S⟩
      · intro i hi hf st4 S
        have hi' : i < fl.length := by rw [← encG_len kInt vFl]; exact hi
        rw [encG_set kInt vFl fl hi' hi] at S
        obtain ⟨hi2, hent⟩ := S.ent
        have hfi : fl[i].2 = false := by simpa [encG] using hf
        obtain ⟨x, hx⟩ : ∃ x, x = fl[i].1 := ⟨_, rfl⟩
        simp [encG, ← hx] at hent
        simp [g12, hent]
        intro i7 h7
        have key : storeS (st4.upd i7 (.cells [.int .i64 0, .int .i64 0])) 2 (.ptr (some (i7, 0))) (vFl x.2) = some (st4.upd i7 (.cells (eFl x.2))) := by
          rw [store_pt (sz := 2) (o := 0) (vs := eFl x.2) (St.upd_same _ _ _) rfl rfl (by simp)]
          simp [spliceV, eFl]
        have hf0 : segOf (eFl x.2) 0 1 = some [.int .i64 x.2.1] := rfl
        have S := S.new h7 (.cells (eFl x.2))
        have hun := unseen_set hi hf ((encG kInt vFl fl)[i].1)
        rw [encG_set kInt vFl fl hi' hi] at hun
        simp [key]
        generalize st4.upd i7 _ = st5 at S ⊢
        have o7 := S.get
        have S := S.drop
        obtain ⟨fl2, hfl2⟩ : ∃ fl2, fl2 = fl.set i (fl[i].1, true) := ⟨_, rfl⟩
        rw [← hfl2] at S hun
        have hfst : fl2.map (·.1) = fl.map (·.1) := by rw [hfl2, fst_set hi']
        have hlen2 : fl2.length = fl.length := by rw [hfl2, List.length_set]
        have hget2 : ∀ h, fl2[i]'h = (x, true) := fun h => by subst hfl2; rw [List.getElem_set_self, ← hx]
        have hxmem : x ∈ fl.map (·.1) := List.mem_map.2 ⟨fl[i], List.getElem_mem _, hx.symm⟩
        have hxes : x ∈ es ∧ x ∉ R := by
          rw [hD.left, List.mem_filter] at hxmem
          exact ⟨hxmem.1, by simpa using hxmem.2⟩
        have hnfl : ((fl.map (·.1)).map (·.1)).Nodup := by
          rw [hD.left]
          exact (List.filter_sublist.map _).nodup hn
        have seen2 : ∀ y ∈ fl2, y.2 = true → y.1 ≠ x → y.1.2.1 ≠ p := fun y hy hyt hne => by
          rw [hfl2] at hy
          rcases List.mem_or_eq_of_mem_set hy with h | h
          · exact hD.seen y h hyt
          · rw [h, ← hx] at hne; exact absurd rfl hne
        by_cases hp : x.2.1 = p
        · have hel : elems st5 1 (.sl .full [.int .i64 x.1] 1) = some (rowsOf e1 [x.1], 1) := by simp [elems, e1]
          have hfb : fillV (repV [V.int .i64 0] 1) [(0, 1, V.int .i64 x.1)] = some [.int .i64 x.1] := rfl
          have hRl : (R.map (·.1)).length ≤ 1000 := by
            rw [List.length_map]
            exact Nat.le_trans (nodup_length hD.nd fun e he => (hD.out e he).1) hl
          simp [g1, St.seg, o7, hf0, hp, kInt, hfb, hel]
          refine Sep.appx' (b := 8) e1_len (by omega) (S.pull 1) [x.1] (by simp) rfl (by simp only [List.length_singleton]; omega) ?_
          intro s' st6 S
          have S : Sep (Going m it (encG kInt vFl fl2) (some i) :: Slx 1 e1 s' ((R ++ [x]).map (·.1)) :: pt t (.cells [.map (some m), .int .i64 sl]) :: L) st6 := by
            have := Sep.swap S
            rw [List.map_append]
            exact this
          have ot := S.drop.drop.get
          have hmf : mfindI .int (V.int .i64 x.1) ((encG kInt vFl fl2).map (·.1)) 0 = some (some i) := by
            rw [encG_map]
            have hi3 : i < (fl2.map (·.1)).length := by rw [List.length_map, hlen2]; exact hi'
            have := mfindI_at keyed_int (ev := vFl) (fl2.map (·.1)) i 0 hi3 (by rw [hfst]; exact hnfl)
            rw [List.getElem_map, hget2, Nat.zero_add] at this
            exact this
          obtain ⟨st7, hdel, S⟩ := S.gdel (by rw [encG_len, hlen2]; exact hi') (kk := .int) (k := V.int .i64 x.1) rfl hmf
          rw [encG_erase] at S
          simp [g0, St.seg, ot, hseg, hdel]
          refine Round.mk (unseen (encG kInt vFl (fl2.eraseIdx i))) _ ?_ (sub_self _) (hJ _ _ _ ⟨fl2.eraseIdx i, none, R ++ [x], rfl, ⟨?_, ?_, ?_, ?_⟩, by simp, by simpa using S⟩)
          · have := unseen_erase (encG kInt vFl fl2) i
            rw [encG_erase] at this
            omega
          · rw [← erase_map, hfst]
            have hi3 : i < (fl.map (·.1)).length := by rw [List.length_map]; exact hi'
            have hndl : (fl.map (·.1)).Nodup := nodup_unmap _ hnfl
            rw [erase_filter hndl i hi3, List.getElem_map, ← hx, hD.left, List.filter_filter]
            refine List.filter_congr fun e he => ?_
            rw [Bool.eq_iff_iff]
            simp
            constructor
            · rintro ⟨h1, h2⟩
              exact ⟨h2, h1⟩
            · rintro ⟨h1, h2⟩
              exact ⟨h2, h1⟩
          · intro e he
            rcases List.mem_append.1 he with he | he
            · exact hD.out e he
            · rw [List.mem_singleton.1 he]; exact ⟨hxes.1, hp⟩
          · rw [List.nodup_append]
            exact ⟨hD.nd, by simp, fun a ha c hc e => by rw [List.mem_singleton.1 hc] at e; exact hxes.2 (e ▸ ha)⟩
          · intro y hy hyt
            refine seen2 y (List.eraseIdx_subset hy) hyt fun e => ?_
            have hndl : (fl2.map (·.1)).Nodup := by rw [hfst]; exact nodup_unmap _ hnfl
            have hi3 : i < (fl2.map (·.1)).length := by rw [List.length_map, hlen2]; exact hi'
            have hm : x ∈ (fl2.map (·.1)).eraseIdx i := by
              rw [erase_map]
              exact List.mem_map.2 ⟨y, hy, e⟩
            rw [erase_filter hndl i hi3, List.getElem_map, hget2] at hm
            simp at hm
        · have hpb : (x.2.1 == p) = false := beq_eq_false_iff_ne.2 hp
          simp [g1, St.seg, o7, hf0, hpb]
          refine Round.mk _ _ hun (sub_self _) (hJ _ _ _ ⟨fl2, some i, R, rfl, ⟨by rw [hfst]; exact hD.left, hD.out, hD.nd, ?_⟩, by simpa using hn5, by simpa using S⟩)
          intro y hy hyt
          by_cases e : y.1 = x
          · rw [e]; exact hp
          · exact seen2 y hy hyt e
    · rintro env' st3 hsame ⟨fl, last, R, hall, hD, hn5, S⟩
      have g11 := (hsame.get 11 rfl).trans (by simp : _ = V.map (some m))
      clear hsame
      obtain ⟨hfz, S⟩ := S.gone
      obtain ⟨f1, f2⟩ := hD.fin hn hall
      refine frzP_one (by rw [g11]; exact hfz) ?_
      rw [encG_map, f1] at S ⊢
      generalize st3.upd m _ = st4 at S ⊢
      have S := S.swap
      have hRl : (R.map (·.1)).length ≤ 1000 := by
        rw [List.length_map]
        exact Nat.le_trans (nodup_length hD.nd fun e he => (hD.out e he).1) hl
      simp
      refine (oks.use S (fun e => hn5 (by simpa using e)) (by omega)).mono ?_
      rintro v st5 ⟨l', h1, h2, S⟩
      simp
      exact ⟨st5, sub_self _, l', h1.trans f2, h2, some m, (fun e => by cases e), (S.pull 2).tail fun r h => h.swap⟩
end
end Go.Ab
set_option linter.unusedSimpArgs false
set_option linter.unusedVariables false
set_option maxRecDepth 10000
namespace Go.Ab
open Go Go.RowKit
section
variable {P : Program} {F : Fn}
set_option maxHeartbeats 8000000 in
theorem spec292 (ok : OkLaw18 P F) (hc : CloneC P (F 256)) (st : St) (w : Wf (w18M [0, 1]).1) (h3 : (w18M [0, 1]).1.length = 3) (hw : wantM (w18C (w18M [0, 1]).1) [] 1 2 = [1, 2]) :
    ACalls P (F 292) [] st fun v st' => v = .bool true ∧ st' = st := by
  have okw := ok.toOkWindow
  have okc := okw.toOkChain
  have oki := okc.toOkLocate.toOkIndexZ.toOkIndex
  refine shows_call ok.mixed ok.h292 (by simp [k292]) ?_
  simp only [k292]
  have f1 : fillV (repV [V.int .i64 0] 2) [(0, 1, .int .i64 0), (1, 1, .int .i64 1)] = some [.int .i64 0, .int .i64 1] := rfl
  have eqp : ∀ c, eqK .ptr (V.ptr (some (c, 0))) (V.ptr none) = some false := fun _ => rfl
  simp [f1]
  refine (spec291 ok hc st (s := .sl .full [.int .i64 0, .int .i64 1] 2) (ps := [0, 1]) (.inl ⟨.full, rfl⟩) (by simp)).mono ?_
  rintro v st1 ⟨cid, s', rfl, S⟩
  obtain ⟨mo, tid, bid, uid, R, -⟩ := chGrow (P := P) (S.pull 1)
  have T : TreeR tid w18R (w18M [0, 1]).1 st1 := R.tree w.neNil
  have ot := R.top
  simp [eqp, St.seg, ot, cseg0]
  refine (spec159 oki T).mono ?_
  rintro v st2 ⟨rfl, rfl⟩
  simp [h3]
  intro i3 hi3
  have W : WinS i3 [] 0 (ChA cid (w18C (w18M [0, 1]).1) :: [Was st]) (st2.upd i3 (.cells [.map none, .int .i64 0])) := WinS.start ((S.drop).new hi3 _)
  generalize st2.upd i3 _ = st3 at W ⊢
  clear R T ot S
  simp
  refine (spec289 okw W w (by show (w18M [0, 1]).1.length ≤ 16384; rw [h3]; decide) (by simp) 1 2).mono ?_
  intro v st4 W
  rw [hw] at W
  have rd := Sep.rd e1_len (W.rest.head fun h hh => hh.sl)
  have hln := rd.len
  obtain ⟨r1, r2, r3, r4⟩ := rd.row e1_len (i := 0) (by simp)
  simp at r1 hln
  simp [hln, r1, r3, e1]
  refine (spec283 okw W 1 1 5 (by simp)).mono ?_
  rintro v st5 ⟨rfl, W⟩
  have a1 : askM [] 1 1 = 0 := by decide
  have a2 : askT [] 1 1 5 = [(1, (1, 5))] := by decide
  have a3 : askM [(1, (1, 5))] 1 2 = 5 := by decide
  have a4 : askT [(1, (1, 5))] 1 2 5 = [(1, (1, 5))] := by decide
  rw [a2] at W
  rw [a1]
  simp
  refine (spec283 okw W 1 2 5 (by simp)).mono ?_
  rintro v st6 ⟨rfl, W⟩
  rw [a4] at W
  rw [a3]
  simp
  refine (spec282 okw W 1).mono ?_
  rintro v st7 ⟨rfl, rfl⟩
  have a5 : (((lk 1 [((1 : Int), ((1 : Int), (5 : Int)))]).map (·.1)).getD 0) = 1 := by decide
  have a6 : (lk 1 [((1 : Int), ((1 : Int), (5 : Int)))]).isSome = true := by decide
  rw [a5, a6]
  simp
  refine (spec288 okw W 24 (by decide)).mono ?_
  rintro v st8 ⟨p, b, rfl, hL, W⟩
  have hb : b = false := by
    cases b with
    | false => rfl
    | true =>
      obtain ⟨⟨e, h1, h2, -⟩, -⟩ := hL.yes rfl
      rw [List.mem_singleton.1 h1] at h2
      exact absurd h2 (by decide)
  subst hb
  simp
  refine (spec288 okw W 25 (by decide)).mono ?_
  rintro v st9 ⟨q, b, rfl, hL2, W⟩
  have hb : b = true := by
    cases b with
    | true => rfl
    | false =>
      have := (hL2.no rfl).2 (1, (1, 5)) (by simp)
      exact absurd this (by decide)
  subst hb
  have hq : q = 1 := by
    obtain ⟨⟨e, h1, -, h2⟩, -⟩ := hL2.yes rfl
    rw [List.mem_singleton.1 h1] at h2
    exact h2.symm
  subst hq
  simp
  refine (spec280 okw W).mono ?_
  rintro v st10 ⟨rfl, rfl⟩
  simp
  refine (spec281 okw W 1 (by simp)).mono ?_
  rintro v st11 ⟨rfl, W⟩
  have a7 : countM [((1 : Int), ((1 : Int), (5 : Int)))] 1 = 1 := by decide
  rw [a7]
  obtain ⟨mv, om⟩ := W.at
  simp
  refine (spec279 okw om (by decide)).mono ?_
  rintro v st12 ⟨rfl, rfl⟩
  have a8 : limM 1 = 40 := by decide
  have a9 : limM (if true = true then min ((if false = true then min ((0 : Int) + 1) 3 else 0) + 1) 3 else if false = true then min ((0 : Int) + 1) 3 else 0) = 40 := by decide
  rw [a9]
  simp
  exact W.rest.was' (st0 := st) (by simp)
end
end Go.Ab
set_option linter.unusedSimpArgs false
set_option linter.unusedVariables false
set_option maxRecDepth 10000
namespace Go.Ab
open Go Go.RowKit
theorem w18_want : wantM (w18C [w18g, w18n1, w18n2]) [] 1 2 = [1, 2] := by
  have w := w18_wf2
  have p1 : par [w18g, w18n1, w18n2] 1 = 0 := rfl
  have p2 : par [w18g, w18n1, w18n2] 2 = 1 := rfl
  have i0 : inI [w18g, w18n1, w18n2] 0 = 0 := rfl
  have i1 : inI [w18g, w18n1, w18n2] 1 = 1 := rfl
  have i2 : inI [w18g, w18n1, w18n2] 2 = 2 := rfl
  have c0 : clI [w18g, w18n1, w18n2] 0 = 0 := rfl
  have c2 : clI [w18g, w18n1, w18n2] 2 = 2 := rfl
  have hlen : [w18g, w18n1, w18n2].length = 3 := rfl
  have hf : (nd [w18g, w18n1, w18n2] 2).failed = false := rfl
  have hC : ∀ l, (w18C l).l = l := fun l => rfl
  have hT : ∀ l, (w18C l).tip = 0 := fun l => rfl
  have hh : ∀ l i, hasM (w18C l) i = decide (i = 0) := fun l i => by
    show ((lk i [((0 : Int), w18G)]).isSome) = _
    rw [lk_cons]
    by_cases h : i = 0 <;> simp [h, lk]
  generalize hl : [w18g, w18n1, w18n2] = l at *
  have h0 : hgt l 0 = 0 := w.hgt_zero
  have h1 : hgt l 1 = 1 := by rw [w.hgt_par (by omega) (by omega), p1, h0]
  have h2 : hgt l 2 = 2 := by rw [w.hgt_par (by omega) (by omega), p2, h1]
  have a0 : anc l 0 0 = 0 := by unfold anc; rw [h0]; rfl
  have a20 : anc l 2 0 = 0 := by
    unfold anc
    rw [h2]
    show upN l 0 (par l (par l 2)) = 0
    rw [p2, p1]; rfl
  have a21 : anc l 2 1 = 1 := by
    unfold anc
    rw [h2]
    show upN l 0 (par l 2) = 1
    rw [p2]; rfl
  have a22 : anc l 2 2 = 2 := by unfold anc; rw [h2]; rfl
  have m : meetM l 0 2 = 0 := by
    unfold meetM
    rw [h0, h2]
    show meetGo l 0 (anc l 0 0) (anc l 2 0) = 0
    rw [a0]; rfl
  have hon : onB l ((0 : Nat) : Int) ((2 : Nat) : Int) = true := by
    rw [onB_nat (by omega) (by omega), h0, h2, a20]; rfl
  have hw : wayI l ((0 : Nat) : Int) 2 = [1, 2] := by
    unfold wayI
    rw [if_pos (show onB l ((0 : Nat) : Int) 2 = true from hon)]
    show wayM l 0 2 = _
    unfold wayM
    rw [h0, h2]
    show [((anc l 2 1 : Nat) : Int), ((anc l 2 2 : Nat) : Int)] = [1, 2]
    rw [a21, a22]; rfl
  have n0 : (nd l 0).height = 0 := by rw [nd_hgt_eq (by omega), h0]
  have n1 : (nd l 1).height = 1 := by rw [nd_hgt_eq (by omega), h1]
  have n2 : (nd l 2).height = 2 := by rw [nd_hgt_eq (by omega), h2]
  unfold wantM
  rw [hC, hT, i2, hf, hlen, if_neg (by decide), i0, n0, c0, c2, m, hw]
  have hcm : countM [] 1 = 0 := rfl
  rw [hcm]
  rw [wantGo, hC, i1, n1, if_neg (by decide), hh, if_pos (by decide), wantGo, hC, i2, n2, if_neg (by decide), hh, if_pos (by decide), wantGo]
  rfl
section
variable {P : Program} {F : Fn}
theorem wants_true (ok : OkLaw18 P F) (hc : CloneC P (F 256)) (st : St) : ACalls P (F 292) [] st fun v st' => v = .bool true ∧ st' = st :=
  spec292 ok hc st (by rw [w18_all]; exact w18_wf2) (by rw [w18_all]; rfl) (by rw [w18_all]; exact w18_want)
end
end Go.Ab
set_option linter.unusedSimpArgs false
set_option linter.unusedVariables false
set_option maxRecDepth 10000
namespace Go.Ab
open Go Go.RowKit
theorem lim_facts {sl : Int} (h1 : 0 ≤ sl) (h2 : sl ≤ 3) : 20 ≤ limM sl ∧ limM sl ≤ 160 ∧ limM (min (sl + 1) 3) = min 160 (2 * limM sl) ∧ limM (max 0 (sl - 1)) = max 20 ((limM sl).tdiv 2) ∧ 0 ≤ (limM sl).tdiv 2 ∧ (limM sl).tdiv 2 ≤ 80 := by
  obtain rfl | rfl | rfl | rfl : sl = 0 ∨ sl = 1 ∨ sl = 2 ∨ sl = 3 := by omega
  all_goals decide
theorem late_yes {i now sl p : Int} {b : Bool} (h : LateIs [(i, (1, now))] sl (now + limM sl) p b) (hl : 20 ≤ limM sl ∧ limM sl ≤ 160) : b = true ∧ p = 1 := by
  have hb : lateB sl (now + limM sl) (1, now) = true := by
    unfold lateB
    rw [show now + limM sl - (1, now).2 = limM sl by show now + limM sl - now = _; omega, wrap64 (by omega) (by omega)]
    simp
  cases b with
  | false => exact absurd ((h.no rfl).2 (i, (1, now)) (by simp)) (by rw [hb]; simp)
  | true =>
    obtain ⟨⟨e, h1, -, h2⟩, -⟩ := h.yes rfl
    rw [List.mem_singleton.1 h1] at h2
    exact ⟨rfl, h2.symm⟩
theorem late_no {i now sl p : Int} {b : Bool} (h : LateIs [(i, (1, now))] sl (now + limM sl - 1) p b) (hl : 20 ≤ limM sl ∧ limM sl ≤ 160) : b = false := by
  have hb : lateB sl (now + limM sl - 1) (1, now) = false := by
    unfold lateB
    rw [show now + limM sl - 1 - (1, now).2 = limM sl - 1 by show now + limM sl - 1 - now = _; omega, wrap64 (by omega) (by omega)]
    simp
    omega
  cases b with
  | false => rfl
  | true =>
    obtain ⟨⟨e, h1, h2, -⟩, -⟩ := h.yes rfl
    rw [List.mem_singleton.1 h1, hb] at h2
    cases h2
section
variable {P : Program} {F : Fn}
set_option maxHeartbeats 8000000 in
theorem spec293 (ok : OkLaw18 P F) (hc : CloneC P (F 256)) (st : St) {s : V} {l : List Bool} (hr : Rd 1 eB s l st) : ACalls P (F 293) [s] st fun v st' => v = .bool true ∧ st' = st := by
  have okw := ok.toOkWindow
  refine shows_call ok.mixed ok.h293 (by simp [k293]) ?_
  simp only [k293]
  simp
  refine (wants_true ok hc st).mono ?_
  rintro v st1 ⟨rfl, rfl⟩
  have hlen := hr.len
  by_cases c1 : 60 < l.length
  · have c1' : 60 < (l.length : Int) := by omega
    simp [hlen, c1']
  have c1' : ¬ 60 < (l.length : Int) := by omega
  simp [hlen, c1']
  intro i3 hi3
  have W : WinS i3 [] 0 [Was st1] (st1.upd i3 (.cells [.map none, .int .i64 0])) := WinS.start ((Sep.start st1).new hi3 _)
  generalize st1.upd i3 _ = st2 at W ⊢
  simp [hlen]
  refine vc_joinB (M := fun env' st' => ∃ sl, WinS i3 [] sl [Was st1] st') ?_ ?_
  · refine vc_loopJ (fun n env' st' => ∃ (i : Nat) (sl now : Int), i ≤ l.length ∧ n = l.length - i ∧ env' 19 = .int .i64 (i : Nat) ∧ env' 4 = .int .i64 now ∧ 0 ≤ sl ∧ sl ≤ 3 ∧ 0 ≤ now ∧ now ≤ 160 * i ∧ WinS i3 [] sl [Was st1] st') l.length
      ⟨0, 0, 0, by omega, by omega, by simp, by simp, by omega, by omega, by omega, by omega, by simpa using W⟩ ?_
    rintro J hJ n env' st3 hsame ⟨i, sl, now, hi, rfl, h19, h4, hs1, hs2, hn1, hn2, W⟩
    have g3 := (hsame.get 3 rfl).trans (by simp : _ = V.ptr (some (i3, 0)))
    have g17 := (hsame.get 17 rfl).trans (by simp : _ = s)
    have g18 := (hsame.get 18 rfl).trans (by simp : _ = V.int .i64 (l.length : Int))
    clear hsame
    by_cases hlt : i < l.length
    · obtain ⟨r1, r2, r3, r4⟩ := (hr.sub (W.rest.was' (st0 := st1) (by simp))).row eB_len hlt
      obtain ⟨x, hx⟩ : ∃ x, x = l[i] := ⟨_, rfl⟩
      rw [← hx] at r3
      obtain ⟨mv, om⟩ := W.at
      simp [g3, g17, g18, h19, hlt, r1, r3, eB]
      refine (spec279 okw om ⟨hs1, hs2⟩).mono ?_
      rintro v st4 ⟨rfl, rfl⟩
      simp [g3, h4]
      refine (spec283 okw W i 1 now (by simp)).mono ?_
      rintro v st5 ⟨rfl, W⟩
      have ha : askT [] (i : Int) 1 now = [((i : Int), (1, now))] := by simp [askT, askM, lk, countM]
      rw [ha] at W
      obtain ⟨l1, l2, l3, l4, l5, l6⟩ := lim_facts hs1 hs2
      have w1 : IntKind.i64.wrap ((i : Int) + 1) = (i : Int) + 1 := wrap64 (by omega) (by omega)
      have w2 : IntKind.i64.wrap (now + limM sl) = now + limM sl := wrap64 (by omega) (by omega)
      have w3 : IntKind.i64.wrap (now + limM sl - 1) = now + limM sl - 1 := wrap64 (by omega) (by omega)
      have w4 : IntKind.i64.wrap (2 * limM sl) = 2 * limM sl := wrap64 (by omega) (by omega)
      have hd : aDel (i : Int) [((i : Int), ((1 : Int), now))] = [] := by simp [aDel]
      have hmn : foldV min2V (V.int .i64 160) [V.int .i64 (2 * limM sl)] = some (.int .i64 (min 160 (2 * limM sl))) := by
        simp only [foldV, min2V, if_true, Option.bind_some]
        congr 2
        split <;> omega
      cases x with
      | true =>
        simp [g3, h4, w2]
        refine (spec288 okw W _ ⟨hs1, hs2⟩).mono ?_
        rintro v st6 ⟨p, b, rfl, hL, W⟩
        obtain ⟨rfl, rfl⟩ := late_yes hL ⟨l1, l2⟩
        simp at W
        obtain ⟨mv, om⟩ := W.at
        simp [g3]
        refine (spec279 okw om (by omega)).mono ?_
        rintro v st7 ⟨rfl, rfl⟩
        rw [l3]
        simp [w4, hmn, g3]
        refine (spec287 okw W i).mono ?_
        intro v st8 W
        rw [hd] at W
        simp [h19, w1]
        exact Round.mk (l.length - (i + 1)) _ (by omega) (sub_self _) (hJ _ _ _ ⟨i + 1, min (sl + 1) 3, now + limM sl, by omega, rfl, by simp, by simp, by omega, by omega, by omega, by omega, W⟩)
      | false =>
        have hmx : foldV max2V (V.int .i64 20) [V.int .i64 ((limM sl).tdiv 2)] = some (.int .i64 (max 20 ((limM sl).tdiv 2))) := by
          simp only [foldV, max2V, if_true, Option.bind_some]
          congr 2
          split <;> omega
        have hgt' : gotT [((i : Int), ((1 : Int), now))] sl i = max 0 (sl - 1) := by simp [gotT, lk]
        simp [g3, h4, w2, w3]
        refine (spec288 okw W _ ⟨hs1, hs2⟩).mono ?_
        rintro v st6 ⟨p, b, rfl, hL, W⟩
        have hb := late_no hL ⟨l1, l2⟩
        subst hb
        simp at W
        simp [g3]
        refine (spec284 okw W i ⟨hs1, hs2⟩).mono ?_
        intro v st7 W
        rw [hd, hgt'] at W
        obtain ⟨mv, om⟩ := W.at
        simp [g3]
        refine (spec279 okw om (by omega)).mono ?_
        rintro v st8 ⟨rfl, rfl⟩
        rw [l4]
        have w5 : IntKind.i64.wrap ((limM sl).tdiv 2) = (limM sl).tdiv 2 := wrap64 (by omega) (by omega)
        simp [w5, hmx, h19, w1]
        exact Round.mk (l.length - (i + 1)) _ (by omega) (sub_self _) (hJ _ _ _ ⟨i + 1, max 0 (sl - 1), now, by omega, rfl, by simp, by simp [h4], by omega, by omega, by omega, by omega, W⟩)
    · have : i = l.length := by omega
      subst this
      simp [g18, h19]
      exact ⟨sl, W⟩
  · rintro env' st3 hsame ⟨sl, W⟩
    have g3 := (hsame.get 3 rfl).trans (by simp : _ = V.ptr (some (i3, 0)))
    clear hsame
    simp [g3]
    refine (spec280 okw W).mono ?_
    rintro v st4 ⟨rfl, rfl⟩
    simp
    exact W.rest.was' (st0 := st1) (by simp)
end
end Go.Ab
set_option linter.unusedSimpArgs false
set_option linter.unusedVariables false
set_option maxRecDepth 10000
namespace Go.Ab
open Go Go.RowKit
theorem asc_eq : ∀ {l m : List Int}, l.Pairwise (· < ·) → m.Pairwise (· < ·) → (∀ x, x ∈ l ↔ x ∈ m) → l = m
  | [], [], _, _, _ => rfl
  | [], y :: m, _, _, h => by have := (h y).2 (by simp); cases this
  | x :: l, [], _, _, h => by have := (h x).1 (by simp); cases this
  | x :: l, y :: m, hl, hm, h => by
    rw [List.pairwise_cons] at hl hm
    have hxy : x = y := by
      have h1 := (h x).1 (by simp)
      have h2 := (h y).2 (by simp)
      rcases List.mem_cons.1 h1 with h1 | h1
      · exact h1
      rcases List.mem_cons.1 h2 with h2 | h2
      · exact h2.symm
      have a := hm.1 x h1
      have b := hl.1 y h2
      omega
    subst hxy
    rw [asc_eq hl.2 hm.2 fun z => by
      constructor
      · intro hz
        rcases List.mem_cons.1 ((h z).1 (by simp [hz])) with e | e
        · subst e
          exact absurd (hl.1 z hz) (Int.lt_irrefl _)
        · exact e
      · intro hz
        rcases List.mem_cons.1 ((h z).2 (by simp [hz])) with e | e
        · subst e
          exact absurd (hm.1 z hz) (Int.lt_irrefl _)
        · exact e]
theorem asc_of {l : List Int} (h : l.Pairwise (· ≤ ·)) (hn : l.Nodup) : l.Pairwise (· < ·) := by
  have := List.pairwise_and_iff.2 ⟨h, hn⟩
  exact this.imp fun {a b} h => by
    have h1 := h.1
    have h2 := h.2
    omega
theorem nodup_inj {α : Type} {l : List α} (h : l.Nodup) {i j : Nat} (hi : i < l.length) (hj : j < l.length) (e : l[i] = l[j]) : i = j := by
  have hp := List.pairwise_iff_getElem.1 h
  rcases Nat.lt_trichotomy i j with hlt | rfl | hlt
  · exact absurd e (hp i j hi hj hlt)
  · rfl
  · exact absurd e.symm (hp j i hj hi hlt)
def LateFrom (es : Fls) (sl now q w : Int) : Prop :=
  (w = -1 ∧ ∀ e ∈ es, q ≤ e.2.1 → lateB sl now e.2 = false) ∨
  (q ≤ w ∧ (∃ e ∈ es, lateB sl now e.2 = true ∧ e.2.1 = w) ∧ ∀ e ∈ es, q ≤ e.2.1 → lateB sl now e.2 = true → w ≤ e.2.1)
theorem LateFrom.start {es : Fls} {sl now n : Int} (h : ∀ e ∈ es, e.2.1 < n) : LateFrom es sl now n (-1) := .inl ⟨rfl, fun e he hq => by
  have := h e he
  omega⟩
theorem count_pos {es : Fls} {q : Int} : 0 < countM es q ↔ ∃ e ∈ es, e.2.1 = q := by
  unfold countM
  rw [List.countP_pos_iff]
  simp
theorem LateFrom.step {es : Fls} {sl now q w s : Int} (h : LateFrom es sl now (q + 1) w) (hs : ∀ e ∈ es, e.2.1 = q → e.2 = (q, s)) :
    LateFrom es sl now q (if 0 < countM es q ∧ lateB sl now (q, s) = true then q else w) := by
  by_cases hc : 0 < countM es q ∧ lateB sl now (q, s) = true
  · rw [if_pos hc]
    obtain ⟨e, he, hq⟩ := count_pos.1 hc.1
    exact .inr ⟨Int.le_refl _, ⟨e, he, by rw [hs e he hq]; exact hc.2, hq⟩, fun e he h1 _ => h1⟩
  · rw [if_neg hc]
    have hno : ∀ e ∈ es, e.2.1 = q → lateB sl now e.2 = false := fun e he hq => by
      cases hl : lateB sl now e.2 with
      | false => rfl
      | true => exact absurd ⟨count_pos.2 ⟨e, he, hq⟩, by rw [← hs e he hq]; exact hl⟩ hc
    rcases h with ⟨h1, h2⟩ | ⟨h1, h2, h3⟩
    · refine .inl ⟨h1, fun e he hq => ?_⟩
      by_cases hq' : e.2.1 = q
      · exact hno e he hq'
      · exact h2 e he (by omega)
    · refine .inr ⟨by omega, h2, fun e he hq hl => ?_⟩
      by_cases hq' : e.2.1 = q
      · rw [hno e he hq'] at hl; cases hl
      · exact h3 e he (by omega) hl
theorem LateFrom.fin {es : Fls} {sl now w p : Int} {b : Bool} (h : LateFrom es sl now 0 w) (hL : LateIs es sl now p b) (h0 : ∀ e ∈ es, 0 ≤ e.2.1) : b = decide (0 ≤ w) ∧ (b = true → p = w) := by
  rcases h with ⟨h1, h2⟩ | ⟨h1, ⟨e, he, h2, h2'⟩, h3⟩
  · have : b = false := by
      cases b with
      | false => rfl
      | true =>
        obtain ⟨⟨e, he, hl, -⟩, -⟩ := hL.yes rfl
        rw [h2 e he (h0 e he)] at hl; cases hl
    subst this
    subst h1
    exact ⟨rfl, fun h => by cases h⟩
  · have : b = true := by
      cases b with
      | true => rfl
      | false =>
        have := (hL.no rfl).2 e he
        rw [h2] at this; cases this
    subst this
    obtain ⟨⟨e', he', hl', hp'⟩, hmin⟩ := hL.yes rfl
    refine ⟨by simp [h1], fun _ => ?_⟩
    have a := hmin e he h2
    have b := h3 e' he' (h0 e' he') hl'
    omega
structure LateT (s : List Int) (k : Nat) (es : Fls) : Prop where
  row : ∀ e ∈ es, ∃ q : Nat, q < k ∧ e = (100 + (q : Int), ((q : Int), s.getD q 0))
  nd : (es.map (·.1)).Nodup
theorem LateT.nil (s : List Int) : LateT s 0 [] := ⟨fun e he => (by cases he), List.nodup_nil⟩
theorem lk_none_of {K A : Type} [DecidableEq K] {k : K} : ∀ {l : List (K × A)}, (∀ e ∈ l, e.1 ≠ k) → lk k l = none
  | [], _ => rfl
  | p :: l, h => by
    unfold lk
    rw [List.lookup_cons]
    have : (k == p.1) = false := by
      have := h p (by simp)
      simpa using fun e => this e.symm
    rw [this]
    exact lk_none_of fun e he => h e (by simp [he])
theorem LateT.count {s : List Int} {k : Nat} {es : Fls} (h : LateT s k es) : countM es k = 0 := by
  unfold countM
  rw [List.countP_eq_zero]
  intro e he
  obtain ⟨q, hq, rfl⟩ := h.row e he
  simp
  omega
theorem LateT.more {s : List Int} {k : Nat} {es : Fls} (h : LateT s k es) : askM es (100 + (k : Int)) k = 0 ∧ LateT s (k + 1) (askT es (100 + (k : Int)) k (s.getD k 0)) ∧ (askT es (100 + (k : Int)) k (s.getD k 0)).length = es.length + 1 := by
  have hl : lk (100 + (k : Int)) es = none := lk_none_of fun e he => by
    obtain ⟨q, hq, rfl⟩ := h.row e he
    show 100 + (q : Int) ≠ _
    omega
  have h0 : askM es (100 + (k : Int)) k = 0 := by
    unfold askM
    rw [hl, h.count]
    simp
  refine ⟨h0, ?_, by rw [askT, if_pos h0]; simp⟩
  rw [askT, if_pos h0]
  refine ⟨fun e he => ?_, ?_⟩
  · rcases List.mem_append.1 he with he | he
    · obtain ⟨q, hq, rfl⟩ := h.row e he
      exact ⟨q, by omega, rfl⟩
    · rw [List.mem_singleton.1 he]
      exact ⟨k, by omega, rfl⟩
  · rw [List.map_append, List.nodup_append]
    refine ⟨h.nd, by simp, fun a ha b hb => ?_⟩
    rw [List.map_cons, List.map_nil, List.mem_singleton] at hb
    subst hb
    obtain ⟨e, he, rfl⟩ := List.mem_map.1 ha
    obtain ⟨q, hq, rfl⟩ := h.row e he
    show 100 + (q : Int) ≠ _
    omega
theorem LateT.sub {s : List Int} {k : Nat} {es : Fls} (h : LateT s k es) (p : Int) : LateT s k (es.filter fun e => e.2.1 != p) :=
  ⟨fun e he => h.row e (List.mem_filter.1 he).1, (List.filter_sublist.map _).nodup h.nd⟩
theorem LateT.one {s : List Int} {k : Nat} {es : Fls} (h : LateT s k es) {e : Int × Fl} (he : e ∈ es) : (es.filter fun x => x.2.1 == e.2.1).length = 1 ∧ (es.filter fun x => x.2.1 != e.2.1).length + 1 = es.length := by
  have h1 : (es.filter fun x => x.2.1 == e.2.1).length = 1 := by
    have hn : (es.filter fun x => x.2.1 == e.2.1).Nodup := (nodup_of_keys h.nd).filter _
    have hall : ∀ x ∈ es.filter fun x => x.2.1 == e.2.1, x = e := fun x hx => by
      obtain ⟨hx1, hx2⟩ := List.mem_filter.1 hx
      obtain ⟨q, -, rfl⟩ := h.row x hx1
      obtain ⟨r, -, rfl⟩ := h.row e he
      have : (q : Int) = r := by simpa using hx2
      rw [this, show q = r by omega]
    have hm : e ∈ es.filter fun x => x.2.1 == e.2.1 := List.mem_filter.2 ⟨he, by simp⟩
    generalize es.filter (fun x => x.2.1 == e.2.1) = l at hn hall hm
    match l, hn, hall, hm with
    | [x], _, _, _ => rfl
    | x :: y :: l, hn, hall, _ =>
      have hx := hall x (by simp)
      have hy := hall y (by simp)
      rw [hx, hy] at hn
      simp at hn
  refine ⟨h1, ?_⟩
  have := List.length_eq_countP_add_countP (fun x : Int × Fl => x.2.1 == e.2.1) (l := es)
  rw [List.countP_eq_length_filter, List.countP_eq_length_filter, h1] at this
  have e2 : (es.filter fun x => !(x.2.1 == e.2.1)) = es.filter fun x => x.2.1 != e.2.1 := rfl
  simp only [Bool.not_eq_true, Bool.decide_eq_false] at this
  rw [e2] at this
  omega
section
variable {P : Program} {F : Fn}
set_option maxHeartbeats 8000000 in
theorem spec295 (ok : OkLaw18 P F) (hc : CloneC P (F 256)) (oks : SortC P (F 286)) (st : St) {s : V} {l : List Int} (hr : Rd 1 e1 s l st) (now : Int) : ACalls P (F 295) [s, .int .i64 now] st fun v st' => v = .bool true ∧ st' = st := by
  have okw := ok.toOkWindow
  refine shows_call ok.mixed ok.h295 (by simp [k295]) ?_
  simp only [k295]
  simp
  refine (wants_true ok hc st).mono ?_
  rintro v st1 ⟨rfl, rfl⟩
  have hlen := hr.len
  by_cases c1 : 20 < l.length
  · have c1' : 20 < (l.length : Int) := by omega
    simp [hlen, c1']
  have c1' : ¬ 20 < (l.length : Int) := by omega
  by_cases c2 : now < 0
  · simp [hlen, c1', c2]
  by_cases c3 : 1000 < now
  · simp [hlen, c1', c2, c3]
  simp [hlen, c1', c2, c3]
  intro i5 hi5
  have W : WinS i5 [] 0 [Was st1] (st1.upd i5 (.cells [.map none, .int .i64 0])) := WinS.start ((Sep.start st1).new hi5 _)
  generalize st1.upd i5 _ = st2 at W ⊢
  simp [hlen]
  refine vc_joinB (M := fun env' st' => ∃ es, LateT l l.length es ∧ es.length = l.length ∧ WinS i5 es 0 [Was st1] st') ?_ ?_
  · refine vc_loopJ (fun n env' st' => ∃ (i : Nat) (es : Fls), i ≤ l.length ∧ n = l.length - i ∧ env' 29 = .int .i64 (i : Nat) ∧ LateT l i es ∧ es.length = i ∧ WinS i5 es 0 [Was st1] st') l.length
      ⟨0, [], by omega, by omega, by simp, LateT.nil l, rfl, by simpa using W⟩ ?_
    rintro J hJ n env' st3 hsame ⟨i, es, hi, rfl, h29, T, hle, W⟩
    have g5 := (hsame.get 5 rfl).trans (by simp : _ = V.ptr (some (i5, 0)))
    have g27 := (hsame.get 27 rfl).trans (by simp : _ = s)
    have g28 := (hsame.get 28 rfl).trans (by simp : _ = V.int .i64 (l.length : Int))
    clear hsame
    by_cases hlt : i < l.length
    · obtain ⟨r1, r2, r3, r4⟩ := (hr.sub (W.rest.was' (st0 := st1) (by simp))).row e1_len hlt
      obtain ⟨x, hx⟩ : ∃ x, x = l[i] := ⟨_, rfl⟩
      rw [← hx] at r3
      have hgd : l.getD i 0 = x := by rw [hx, List.getD_eq_getElem?_getD, List.getElem?_eq_getElem hlt]; rfl
      have w0 : IntKind.i64.wrap (100 + (i : Int)) = 100 + (i : Int) := wrap64 (by omega) (by omega)
      have w1 : IntKind.i64.wrap ((i : Int) + 1) = (i : Int) + 1 := wrap64 (by omega) (by omega)
      by_cases d1 : x < 0
      · simp [g5, g27, g28, h29, hlt, r1, r3, e1, d1]
        exact W.rest.was' (st0 := st1) (by simp)
      by_cases d2 : 1000 < x
      · simp [g5, g27, g28, h29, hlt, r1, r3, e1, d1, d2]
        exact W.rest.was' (st0 := st1) (by simp)
      simp [g5, g27, g28, h29, hlt, r1, r3, e1, d1, d2, w0]
      obtain ⟨-, T', hl'⟩ := T.more
      rw [hgd] at T' hl'
      refine (spec283 okw W (100 + (i : Int)) i x (by omega)).mono ?_
      rintro v st4 ⟨rfl, W⟩
      simp [h29, w1]
      exact Round.mk (l.length - (i + 1)) _ (by omega) (sub_self _) (hJ _ _ _ ⟨i + 1, askT es (100 + (i : Int)) i x, by omega, rfl, by simp, T', by omega, W⟩)
    · have : i = l.length := by omega
      subst this
      simp [g28, h29]
      exact ⟨es, T, hle, W⟩
  rintro env' st3 hsame ⟨es, T, hle, W⟩
  have g0 := (hsame.get 0 rfl).trans (by simp : _ = s)
  have g1 := (hsame.get 1 rfl).trans (by simp : _ = V.int .i64 now)
  have g5 := (hsame.get 5 rfl).trans (by simp : _ = V.ptr (some (i5, 0)))
  clear hsame
  simp
  refine vc_joinB (M := fun env' st' => False) ?_ (by rintro env' st' - ⟨⟩)
  refine vc_loopJ (fun n env' st' => ∃ (i : Nat) (es : Fls) (sl last : Int), n = 25 - i ∧ env' 46 = .int .i64 (i : Nat) ∧ env' 8 = .int .i64 last ∧ 0 ≤ sl ∧ sl ≤ 3 ∧ LateT l l.length es ∧ es.length + i = l.length ∧ (∀ e ∈ es, e.2.1 ≠ last) ∧ WinS i5 es sl [Was st1] st') 25
    ⟨0, es, 0, -1, by omega, by simp, by simp, by omega, by omega, T, by omega, fun e he => by
      obtain ⟨q, hq, rfl⟩ := T.row e he
      show (q : Int) ≠ -1
      omega, by simpa using W⟩ ?_
  clear T hle W es
  rintro J hJ n env2 st4 hsame ⟨i, es, sl, last, rfl, h46, h8, hs1, hs2, T, hle, hla, W⟩
  have g0 := (hsame.get 0 rfl).trans (by simp [g0] : _ = s)
  have g1 := (hsame.get 1 rfl).trans (by simp [g1] : _ = V.int .i64 now)
  have g5 := (hsame.get 5 rfl).trans (by simp [g5] : _ = V.ptr (some (i5, 0)))
  clear hsame
  have hi25 : (i : Int) < 25 := by omega
  obtain ⟨mv, om⟩ := W.at
  simp [g5, h46, hi25]
  refine (spec279 okw om ⟨hs1, hs2⟩).mono ?_
  rintro v st5 ⟨rfl, rfl⟩
  simp [g5, g1]
  refine (spec288 okw W now ⟨hs1, hs2⟩).mono ?_
  rintro v st6 ⟨p, b, rfl, hL, W⟩
  have wl : IntKind.i64.wrap ((l.length : Int) - 1) = (l.length : Int) - 1 := wrap64 (by omega) (by omega)
  simp [g0, hlen, wl]
  obtain ⟨sl', hsl', hsl0, hsl3⟩ : ∃ sl', sl' = (if b = true then min (sl + 1) 3 else sl) ∧ 0 ≤ sl' ∧ sl' ≤ 3 := ⟨_, rfl, by split <;> omega, by split <;> omega⟩
  rw [← hsl'] at W
  have h0 : ∀ e ∈ es, 0 ≤ e.2.1 := fun e he => by
    obtain ⟨q, hq, rfl⟩ := T.row e he
    show 0 ≤ (q : Int)
    omega
  refine vc_joinB (M := fun env' st' => ∃ w : Int, -1 ≤ w ∧ LateFrom es sl now 0 w ∧ env' 12 = .int .i64 w ∧ WinS i5 es sl' [Was st1] st') ?_ ?_
  · refine vc_loopJ (fun n env' st' => ∃ (j : Nat) (w : Int), j ≤ l.length ∧ n = j ∧ env' 13 = .int .i64 ((j : Int) - 1) ∧ env' 12 = .int .i64 w ∧ -1 ≤ w ∧ LateFrom es sl now j w ∧ WinS i5 es sl' [Was st1] st') l.length
      ⟨l.length, -1, by omega, rfl, by simp, by simp, by omega, LateFrom.start fun e he => by
        obtain ⟨q, hq, rfl⟩ := T.row e he
        show (q : Int) < _
        omega, by simpa using W⟩ ?_
    clear W
    rintro J2 hJ2 n env3 st7 hsame ⟨j, w, hj, rfl, h13, h12, hw, hF, W⟩
    have g0 := (hsame.get 0 rfl).trans (by simp [g0] : _ = s)
    have g1 := (hsame.get 1 rfl).trans (by simp [g1] : _ = V.int .i64 now)
    have g5 := (hsame.get 5 rfl).trans (by simp [g5] : _ = V.ptr (some (i5, 0)))
    have g9 := (hsame.get 9 rfl).trans (by simp : _ = V.int .i64 (limM sl))
    clear hsame
    cases n with
    | zero =>
      simp [h13]
      exact ⟨w, hw, hF, h12, W⟩
    | succ k =>
      have ek : (((k + 1 : Nat) : Int)) - 1 = k := by omega
      rw [ek] at h13
      have hk : k < l.length := by omega
      have hk0 : ¬ (k : Int) < 0 := by omega
      have hk0' : 0 ≤ (k : Int) := by omega
      simp [h13, hk0', g5]
      refine (spec281 okw W k (by omega)).mono ?_
      rintro v st8 ⟨rfl, W⟩
      obtain ⟨r1, r2, r3, r4⟩ := (hr.sub (W.rest.was' (st0 := st1) (by simp))).row e1_len hk
      obtain ⟨x, hx⟩ : ∃ x, x = l[k] := ⟨_, rfl⟩
      rw [← hx] at r3
      have hgd : l.getD k 0 = x := by rw [hx, List.getD_eq_getElem?_getD, List.getElem?_eq_getElem hk]; rfl
      have w1 : IntKind.i64.wrap ((k : Int) - 1) = (k : Int) - 1 := wrap64 (by omega) (by omega)
      have hst := LateFrom.step (es := es) (sl := sl) (now := now) (q := k) (w := w) (s := x) (by simpa using hF) fun e he hq => by
        obtain ⟨q, hq', rfl⟩ := T.row e he
        have : q = k := by
          have : (q : Int) = k := hq
          omega
        subst this
        rw [hgd]
      have hround : ∀ w', (if 0 < countM es k ∧ lateB sl now ((k : Int), x) = true then (k : Int) else w) = w' → LateFrom es sl now k w' ∧ -1 ≤ w' := fun w' h => by
        rw [h] at hst
        exact ⟨hst, by rw [← h]; split <;> omega⟩
      by_cases d1 : 0 < countM es k
      · have d1' : 0 < (countM es k : Int) := by omega
        by_cases d2 : limM sl ≤ IntKind.i64.wrap (now - x)
        · obtain ⟨hF', hw'⟩ := hround k (by rw [if_pos ⟨d1, by simpa [lateB] using d2⟩])
          simp [d1', d1, g0, g1, g9, h13, r1, r3, e1, d2, w1]
          exact Round.mk k _ (by omega) (sub_self _) (hJ2 _ _ _ ⟨k, k, by omega, rfl, by simp, by simp, hw', hF', W⟩)
        · obtain ⟨hF', hw'⟩ := hround w (by rw [if_neg fun h => d2 (by simpa [lateB] using h.2)])
          simp [d1', d1, g0, g1, g9, h13, r1, r3, e1, d2, w1]
          exact Round.mk k _ (by omega) (sub_self _) (hJ2 _ _ _ ⟨k, w, by omega, rfl, by simp, by simp [h12], hw', hF', W⟩)
      · have d1' : ¬ 0 < (countM es k : Int) := by omega
        obtain ⟨hF', hw'⟩ := hround w (by rw [if_neg fun h => d1 h.1])
        simp [d1', d1, g0, g1, g9, h13, w1]
        exact Round.mk k _ (by omega) (sub_self _) (hJ2 _ _ _ ⟨k, w, by omega, rfl, by simp, by simp [h12], hw', hF', W⟩)
  clear W
  rintro env3 st7 hsame ⟨w, hw, hF, h12, W⟩
  have g5 := (hsame.get 5 rfl).trans (by simp [g5] : _ = V.ptr (some (i5, 0)))
  have g10 := (hsame.get 10 rfl).trans (by simp : _ = V.int .i64 p)
  have g11 := (hsame.get 11 rfl).trans (by simp : _ = V.bool b)
  have g8 := (hsame.get 8 rfl).trans (by simp [h8] : _ = V.int .i64 last)
  have g46 := (hsame.get 46 rfl).trans (by simp [h46] : _ = V.int .i64 (i : Nat))
  clear hsame
  obtain ⟨hb, hp⟩ := hF.fin hL h0
  have eqb : ∀ b, eqK .bool (V.bool b) (V.bool b) = some true := fun b => by cases b <;> rfl
  cases b with
  | false =>
    have hw0 : ¬ 0 ≤ w := by
      intro h
      simp [h] at hb
    simp [g11, h12, hw0, eqb]
    exact W.rest.was' (st0 := st1) (by simp)
  | true =>
    have hw0 : 0 ≤ w := by simpa using hb.symm
    have hpw := hp rfl
    subst hpw
    obtain ⟨⟨e, he, -, hpe⟩, -⟩ := hL.yes rfl
    have hlast : ¬ last = p := fun h => hla e he (by rw [hpe, h])
    have hlast' : (last == p) = false := beq_eq_false_iff_ne.2 hlast
    obtain ⟨k1, k2⟩ := T.one he
    rw [hpe] at k1 k2
    simp [g11, g10, h12, hw0, g8, hlast', hlast, g5, eqb]
    refine (spec285 okw oks W T.nd p (by omega)).mono ?_
    rintro v st8 ⟨l', hperm, -, W⟩
    have hl1 : l'.length = 1 := by rw [hperm.length_eq, List.length_map, k1]
    have hlv := (Sep.rd e1_len (W.rest.head fun h hh => hh.sl)).len
    rw [hl1] at hlv
    have w1 : IntKind.i64.wrap ((i : Int) + 1) = (i : Int) + 1 := wrap64 (by omega) (by omega)
    simp [hlv, g10, g46, w1]
    exact Round.mk (25 - (i + 1)) _ (by omega) (sub_self _) (hJ _ _ _ ⟨i + 1, es.filter fun e => e.2.1 != p, sl', p, rfl, by simp, by simp [g10], hsl0, hsl3, T.sub p, by omega, fun e he => by simpa using (List.mem_filter.1 he).2, W.tail fun r h => h.drop⟩)
end
end Go.Ab
set_option linter.unusedSimpArgs false
set_option linter.unusedVariables false
set_option maxRecDepth 10000
namespace Go.Ab
open Go Go.RowKit
def growU (l : List Nd) (i : Nat) (q : Nat) : Hdr := { hdr0 with ver := BitVec.ofInt 32 (i : Int), prev := (nd l q).id, time := (nd l q).hdr.time + 1#32, bits := easyB }
def growH1 (l : List Nd) (i : Nat) (p : Int) : Hdr := (mineN (growU l i (clI l p)) easyB 1000).getD hdr0
def growL (ps : List Int) : Nat → List Nd
  | 0 => newM easyR
  | n + 1 => (addM easyR (growL ps n) (growH1 (growL ps n) n (ps.getD n 0)) 100000).1
theorem growL_made (ps : List Int) : ∀ n, Made easyR (growL ps n)
  | 0 => Made.new
  | n + 1 => (growL_made ps n).add _ _
theorem growL_len (ps : List Int) : ∀ n, (growL ps n).length ≤ n + 1
  | 0 => by simp [growL, newM]
  | n + 1 => by
    have := growL_len ps n
    have := addM_len easyR (growL ps n) (growH1 (growL ps n) n (ps.getD n 0)) 100000
    rw [growL]; omega
def growM (ps : List Int) : List Nd := growL ps ps.length
def GrownR (ps : List Int) (st : St) (v : V) (st' : St) : Prop :=
  ∃ tid s l, v = .tup [.ptr (some (tid, 0)), s] ∧ nds l = growM ps ∧ Okws l ∧ Sep [TreeS tid easyR (nds l), RdN s l, Was st] st'
section
variable {P : Program} {F : Fn}
end
end Go.Ab
set_option linter.unusedSimpArgs false
set_option linter.unusedVariables false
set_option maxRecDepth 10000
namespace Go.Ab
open Go Go.RowKit
def Uniq (l : List Nd) : Prop := ∀ (k : Nat) (h : k < l.length), findM l l[k].id = some k
theorem uniq_push {l : List Nd} (u : Uniq l) {x : Nd} (h : findM l x.id = none) : Uniq (l ++ [x]) := by
  intro k hk
  rw [findM_append]
  by_cases hkl : k < l.length
  · rw [List.getElem_append_left hkl, if_neg (fun e => findM_none h _ (List.getElem_mem hkl) e.symm), u k hkl]
  · have : k = l.length := by simp at hk; omega
    subst this
    rw [List.getElem_append_right (Nat.le_refl _)]
    simp
structure Fresh (l : List Nd) : Prop where
  wf : Wf l
  ok : ∀ (k : Nat) (h : k < l.length), l[k].failed = false
  uniq : Uniq l
theorem fresh_gen : Fresh [gen0] := ⟨newM_wf easyR, fun k h => by
  have : k = 0 := by simp at h; exact h
  subst this; rfl, fun k h => by
  have : k = 0 := by simp at h; exact h
  subst this
  simp [findM]⟩
theorem addM_uniq {r : Rl} {l : List Nd} (u : Uniq l) (h : Hdr) (now : Int) : Uniq (addM r l h now).1 := by
  rcases addM_cases r l h now with ⟨e, _⟩ | ⟨p, _, h1, _, _, e⟩
  · rw [e]; exact u
  · rw [e]; exact uniq_push u h1
theorem fresh_add {r : Rl} {l : List Nd} (hF : Fresh l) (hl : l.length ≤ 16384) (h : Hdr) (now : Int) : Fresh (addM r l h now).1 ∧ (addM r l h now).1.length ≤ l.length + 1 ∧ l.length ≤ (addM r l h now).1.length := by
  refine ⟨⟨(addM_wf hF.wf hl h now).1, ?_, addM_uniq hF.uniq h now⟩, ?_⟩
  · rcases addM_cases r l h now with ⟨e, _⟩ | ⟨p, _, h1, _, _, e⟩
    · rw [e]; exact hF.ok
    · rw [e]
      intro k hk
      by_cases hkl : k < l.length
      · rw [List.getElem_append_left hkl]; exact hF.ok k hkl
      · have : k = l.length := by simp at hk; omega
        subst this
        rw [List.getElem_append_right (Nat.le_refl _)]
        have e : ∀ x : Nd, [x][l.length - l.length]'(by simp) = x := fun x => by simp
        rw [e]; rfl
  · rcases addM_cases r l h now with ⟨e, _⟩ | ⟨p, _, h1, _, _, e⟩
    · rw [e]; omega
    · rw [e]; simp
theorem add_zero {l : List Nd} (now : Int) : ∃ i e, addM easyR l hdr0 now = (l, i, e) ∧ e ≠ 0 := by
  cases h1 : findM l (hId hdr0) with
  | some i => exact ⟨_, _, addM_twice h1, by simp⟩
  | none =>
    rcases addM_cases easyR l hdr0 now with ⟨e, h⟩ | ⟨p, h2, _, h3, _, _⟩
    · exact ⟨_, _, Prod.ext e rfl, h⟩
    · exfalso
      have hp := findM_lt h2
      have hpr : provedN hdr0 easyR.limit = 30 := by
        have : tgt hdr0.bits = none := by decide +kernel
        simp [provedN, this]
      have e1 : ¬ ((p : Int) < 0 ∨ (l.length : Int) ≤ p) := by omega
      simp only [fitsM, e1, if_false, hpr] at h3
      simp at h3
section
variable {P : Program} {F : Fn}
end
end Go.Ab
set_option linter.unusedSimpArgs false
set_option linter.unusedVariables false
namespace Go.Ab
open Go Go.RowKit
def idG : Id := ⟨⟨[21, 69, 166, 194, 34, 142, 174, 254, 51, 143, 16, 178, 185, 178, 204, 107, 138, 25, 0, 80, 180, 91, 164, 132, 47, 186, 142, 94, 126, 96, 52, 167]⟩, rfl⟩
def idA : Id := ⟨⟨[249, 182, 181, 195, 143, 2, 170, 189, 230, 242, 107, 83, 189, 148, 246, 187, 181, 62, 161, 144, 91, 11, 14, 69, 23, 213, 175, 253, 125, 206, 235, 106]⟩, rfl⟩
def idB : Id := ⟨⟨[17, 201, 86, 10, 97, 254, 97, 209, 23, 135, 65, 78, 190, 187, 183, 154, 85, 228, 203, 214, 148, 79, 229, 233, 49, 73, 244, 124, 97, 50, 187, 119]⟩, rfl⟩
def idC : Id := ⟨⟨[43, 62, 228, 172, 249, 202, 246, 235, 73, 97, 160, 103, 90, 236, 253, 101, 73, 20, 60, 34, 66, 93, 50, 158, 178, 100, 152, 79, 22, 70, 41, 16]⟩, rfl⟩
def hdU (v : W32) (p : Id) (t : W32) : Hdr := { hdr0 with ver := v, prev := p, time := t, bits := easyB }
def hdA : Hdr := { hdU 0#32 idG 1#32 with nonce := 2#32 }
def hdB : Hdr := { hdU 1#32 idA 2#32 with nonce := 1#32 }
def hdC : Hdr := { hdU 2#32 idA 2#32 with nonce := 0#32 }
theorem gen_id : hId easyR.gen = idG := by decide +kernel
theorem mineA : mineN (hdU 0#32 idG 1#32) easyB 1000 = some hdA := by decide +kernel
theorem hdA_id : hId hdA = idA := by decide +kernel
theorem mineB : mineN (hdU 1#32 idA 2#32) easyB 1000 = some hdB := by decide +kernel
theorem hdB_id : hId hdB = idB := by decide +kernel
theorem mineC : mineN (hdU 2#32 idA 2#32) easyB 1000 = some hdC := by decide +kernel
theorem hdC_id : hId hdC = idC := by decide +kernel
theorem ids_apart : idA ≠ idG ∧ idB ≠ idG ∧ idB ≠ idA ∧ idC ≠ idG ∧ idC ≠ idA ∧ idC ≠ idB ∧ idA ≠ id0 ∧ idB ≠ id0 := by decide +kernel
theorem ndOf_idn (l : List Nd) (h : Hdr) (p : Nat) : (ndOf l h p).id = hId h := by
  unfold ndOf
  generalize hId h = I
  rfl
theorem add_behind {l : List Nd} (hF : Fresh l) (hl : l.length ≤ 1000) {p : Nat} (hp : p < l.length) {h : Hdr} (hprev : h.prev = (nd l p).id) (hnew : findM l (hId h) = none) (hpr : provedN h easyB = 0) (hb : h.bits = (nd l p).hdr.bits) (ht : medianM l p < h.time) (ht2 : (h.time.toNat : Int) - 7200 ≤ 100000) :
    addM easyR l h 100000 = (l ++ [ndOf l h p], (l.length : Int), 0) := by
  have h2 : findM l h.prev = some p := by rw [hprev, nd_at hp]; exact hF.uniq p hp
  have hfail : (nd l p).failed = false := by rw [nd_at hp]; exact hF.ok p hp
  exact addM_ok hnew h2 (fits_ok hp hpr hfail (by rw [easy_next]; exact hb) ht ht2) (by omega)
theorem growH1_eq {l : List Nd} {i : Nat} {p : Int} {q : Nat} (hq : clI l p = q) {x : Nd} (hx : nd l q = x) {v : W32} {I : Id} {T : W32} (hv : BitVec.ofInt 32 (i : Int) = v) (hid : x.id = I) (ht : x.hdr.time + 1#32 = T) {h : Hdr} (hm : mineN (hdU v I T) easyB 1000 = some h) : growH1 l i p = h := by
  have e : growU l i q = hdU v I T := by
    unfold growU hdU
    rw [hx, hv, hid, ht]
  rw [growH1, hq, e, hm]; rfl
structure Three (x1 x2 x3 : Nd) : Prop where
  grown : growM [0, 1, 1] = [gen0, x1, x2, x3]
  p1 : x1.parent = 0
  p2 : x2.parent = 1
  p3 : x3.parent = 1
  h1 : x1.height = 1
  h2 : x2.height = 2
  h3 : x3.height = 2
  i1 : x1.id = idA
  i2 : x2.id = idB
  i3 : x3.id = idC
theorem three : ∃ x1 x2 x3, Three x1 x2 x3 := by
  obtain ⟨a1, a2, a3, a4, a5, a6, -, -⟩ := ids_apart
  have gid : gen0.id = idG := gen_id
  have gp : gen0.parent = -1 := rfl
  have gt : gen0.hdr.time = 0#32 := rfl
  have gb : gen0.hdr.bits = easyB := rfl
  have F0 : Fresh [gen0] := fresh_gen
  -- the first
  have n0 : nd [gen0] 0 = gen0 := nd_at (by simp)
  have g1 : growH1 [gen0] 0 0 = hdA := growH1_eq (q := 0) rfl n0 rfl gid (by rw [gt]; rfl) mineA
  have t0 : medianM [gen0] 0 = 0#32 := by rw [median_one rfl, n0, gt]
  obtain ⟨-, m2, -, m4, m5, m6⟩ := mineN_some mineA
  have e1 := add_behind F0 (by simp) (p := 0) (h := hdA) (by simp) (by rw [n0, gid]; exact m2) (by rw [hdA_id]; simp [findM, gid, a1.symm]) m6 (by rw [n0, gb]; exact m5) (by rw [t0]; decide) (by decide)
  obtain ⟨x1, hx1⟩ : ∃ x1, x1 = ndOf [gen0] hdA 0 := ⟨_, rfl⟩
  rw [← hx1] at e1
  have f1h : x1.hdr = hdA := by rw [hx1]; rfl
  have f1p : x1.parent = 0 := by rw [hx1]; rfl
  have f1g : x1.height = 1 := by
    have : x1.height = hgt [gen0] 0 + 1 := by rw [hx1]; rfl
    rw [this, hgt_at (by simp)]; rfl
  have f1i : x1.id = idA := by rw [hx1, ndOf_idn, hdA_id]
  have F1 : Fresh [gen0, x1] := by
    have := (fresh_add (r := easyR) F0 (by simp) hdA 100000).1
    rw [e1] at this
    exact this
  -- the second
  have n1 : nd [gen0, x1] 1 = x1 := nd_at (by simp)
  have g2 : growH1 [gen0, x1] 1 1 = hdB := growH1_eq (q := 1) rfl n1 rfl f1i (by rw [f1h]; rfl) mineB
  have hmed : ∀ l : List Nd, timesM l 11 1 = [1#32, 0#32] → medianM l 1 < 2#32 := fun l h => by
    have hm : medianM l 1 ∈ [1#32, 0#32] := by
      have := middle_mem (l := timesM l 11 1) (by rw [h]; simp)
      rw [h] at this
      unfold medianM
      rw [h]
      exact this
    simp at hm
    rcases hm with hm | hm <;> rw [hm] <;> decide
  have t1 : timesM [gen0, x1] 11 1 = [1#32, 0#32] := by
    simp [timesM, f1p, f1h, gp, gt, hdA, hdU]
  obtain ⟨-, m2, -, m4, m5, m6⟩ := mineN_some mineB
  have e2 := add_behind F1 (by simp) (p := 1) (h := hdB) (by simp) (by rw [n1, f1i]; exact m2) (by rw [hdB_id]; simp [findM, gid, f1i, a2.symm, a3.symm]) m6 (by rw [n1, f1h]; exact m5) (hmed _ t1) (by decide)
  obtain ⟨x2, hx2⟩ : ∃ x2, x2 = ndOf [gen0, x1] hdB 1 := ⟨_, rfl⟩
  rw [← hx2] at e2
  have f2p : x2.parent = 1 := by rw [hx2]; rfl
  have f2g : x2.height = 2 := by
    have : x2.height = hgt [gen0, x1] 1 + 1 := by rw [hx2]; rfl
    rw [this, hgt_at (by simp)]; simp [f1g]
  have f2i : x2.id = idB := by rw [hx2, ndOf_idn, hdB_id]
  have F2 : Fresh [gen0, x1, x2] := by
    have := (fresh_add (r := easyR) F1 (by simp) hdB 100000).1
    rw [e2] at this
    exact this
  -- the third
  have n2 : nd [gen0, x1, x2] 1 = x1 := nd_at (by simp)
  have g3 : growH1 [gen0, x1, x2] 2 1 = hdC := growH1_eq (q := 1) rfl n2 rfl f1i (by rw [f1h]; rfl) mineC
  have t2 : timesM [gen0, x1, x2] 11 1 = [1#32, 0#32] := by
    simp [timesM, f1p, f1h, gp, gt, hdA, hdU]
  obtain ⟨-, m2, -, m4, m5, m6⟩ := mineN_some mineC
  have e3 := add_behind F2 (by simp) (p := 1) (h := hdC) (by simp) (by rw [n2, f1i]; exact m2) (by rw [hdC_id]; simp [findM, gid, f1i, f2i, a4.symm, a5.symm, a6.symm]) m6 (by rw [n2, f1h]; exact m5) (hmed _ t2) (by decide)
  obtain ⟨x3, hx3⟩ : ∃ x3, x3 = ndOf [gen0, x1, x2] hdC 1 := ⟨_, rfl⟩
  rw [← hx3] at e3
  have f3p : x3.parent = 1 := by rw [hx3]; rfl
  have f3g : x3.height = 2 := by
    have : x3.height = hgt [gen0, x1, x2] 1 + 1 := by rw [hx3]; rfl
    rw [this, hgt_at (by simp)]; simp [f1g]
  have f3i : x3.id = idC := by rw [hx3, ndOf_idn, hdC_id]
  refine ⟨x1, x2, x3, ⟨?_, f1p, f2p, f3p, f1g, f2g, f3g, f1i, f2i, f3i⟩⟩
  have l0 : growL [0, 1, 1] 0 = [gen0] := rfl
  have l1 : growL [0, 1, 1] 1 = [gen0, x1] := by
    rw [growL, l0, show ([0, 1, 1] : List Int).getD 0 0 = 0 from rfl, g1, e1]; rfl
  have l2 : growL [0, 1, 1] 2 = [gen0, x1, x2] := by
    rw [growL, l1, show ([0, 1, 1] : List Int).getD 1 0 = 1 from rfl, g2, e2]; rfl
  have l3 : growL [0, 1, 1] 3 = [gen0, x1, x2, x3] := by
    rw [growL, l2, show ([0, 1, 1] : List Int).getD 2 0 = 1 from rfl, g3, e3]; rfl
  exact l3
end Go.Ab
set_option linter.unusedSimpArgs false
set_option linter.unusedVariables false
set_option maxRecDepth 10000
namespace Go.Ab
open Go Go.RowKit
section
variable {P : Program} {F : Fn}
theorem GrownR.wf {ps : List Int} {l : List Rw} (h : nds l = growM ps) (hn : ps.length ≤ 1000) : Wf (nds l) ∧ l.length ≤ ps.length + 1 := by
  have h1 := growL_len ps ps.length
  have h2 := congrArg List.length h
  rw [nds_len] at h2
  refine ⟨?_, by rw [h2]; exact h1⟩
  rw [h]
  exact (growL_made ps ps.length).wf (by omega)
end
end Go.Ab
set_option linter.unusedSimpArgs false
set_option linter.unusedVariables false
set_option maxRecDepth 10000
namespace Go.Ab
open Go Go.RowKit
section
variable {P : Program} {F : Fn}
end
end Go.Ab
set_option linter.unusedSimpArgs false
set_option linter.unusedVariables false
set_option maxRecDepth 10000
namespace Go.Ab
open Go Go.RowKit
section
variable {P : Program} {F : Fn}
end
end Go.Ab
set_option linter.unusedSimpArgs false
set_option linter.unusedVariables false
set_option maxRecDepth 10000
namespace Go.Ab
open Go Go.RowKit
theorem wayM_get (l : List Nd) (a b : Nat) {k : Nat} (h : k < (wayM l a b).length) : (wayM l a b)[k] = ((anc l b (hgt l a + 1 + k) : Nat) : Int) := by simp [wayM]
theorem anc_step_par {l : List Nd} (w : Wf l) {b k : Nat} (hb : b < l.length) (hk : k + 1 ≤ hgt l b) : par l (anc l b (k + 1)) = anc l b k ∧ 0 < anc l b (k + 1) := by
  have hl := w.anc_lt (h := k + 1) hb
  have hg := w.anc_hgt hb hk
  have hp := w.pos_of_hgt (i := anc l b (k + 1)) (by omega)
  have h1 := w.anc_par hl (h := k) (by omega)
  have h2 := w.anc_anc hb (h := k) (h' := k + 1) (by omega) hk
  have h3 := w.hgt_par hp hl
  rw [h2] at h1
  refine ⟨?_, hp⟩
  have e : hgt l (par l (anc l b (k + 1))) = k := by omega
  have h4 := anc_self (l := l) (par l (anc l b (k + 1)))
  rw [e] at h4
  rw [h1]
  exact h4.symm
section
variable {P : Program} {F : Fn}
end
end Go.Ab
set_option linter.unusedSimpArgs false
set_option linter.unusedVariables false
set_option maxRecDepth 10000
namespace Go.Ab
open Go Go.RowKit
structure W18 (l : List Nd) : Prop where
  wf : Wf l
  len : l.length ≤ 16384
  ok : ∀ x ∈ l, x.failed = false
theorem addM_sound {r : Rl} {l : List Nd} (h : W18 l) (hd : Hdr) (now : Int) : W18 (addM r l hd now).1 ∧ (addM r l hd now).1.length ≤ l.length + 1 := by
  have hw := addM_wf (r := r) h.wf h.len hd now
  refine ⟨⟨hw.1, hw.2, ?_⟩, ?_⟩
  · unfold addM
    split
    · exact h.ok
    · split
      · exact h.ok
      · split
        · exact h.ok
        · split
          · exact h.ok
          · intro x hx
            rcases List.mem_append.1 hx with hx | hx
            · exact h.ok x hx
            · rw [List.mem_singleton.1 hx]; rfl
  · unfold addM
    split
    · exact Nat.le_succ _
    · split
      · exact Nat.le_succ _
      · split
        · exact Nat.le_succ _
        · split
          · exact Nat.le_succ _
          · simp
theorem w18Go_sound : ∀ (ps : List Int) (i : Nat) (l : List Nd) (bl : List Blk1), W18 l → W18 (w18Go i ps (l, bl)).1 ∧ (w18Go i ps (l, bl)).1.length ≤ l.length + ps.length
  | [], i, l, bl, h => ⟨h, Nat.le_refl _⟩
  | p :: ps, i, l, bl, h => by
    rw [w18Go]
    obtain ⟨s, hs⟩ : ∃ s, s = w18Step (l, bl) i p := ⟨_, rfl⟩
    rw [← hs]
    have h1 : W18 s.1 ∧ s.1.length ≤ l.length + 1 := by
      rw [hs]
      exact addM_sound h _ _
    obtain ⟨h2, h3⟩ := w18Go_sound ps (i + 1) s.1 s.2 h1.1
    refine ⟨h2, ?_⟩
    rw [List.length_cons]
    have := h1.2
    have e : (w18Go (i + 1) ps (s.1, s.2)) = w18Go (i + 1) ps s := rfl
    rw [e] at h3
    omega
theorem w18M_sound (ps : List Int) : W18 (w18M ps).1 ∧ (w18M ps).1.length ≤ 1 + ps.length := by
  refine w18Go_sound ps 0 _ _ ⟨newM_wf w18R, by simp [newM], fun x hx => ?_⟩
  rw [newM, List.mem_singleton] at hx
  rw [hx]
section
variable {l : List Nd}
theorem hgt_zero (w : Wf l) : hgt l 0 = 0 := by
  have h := w.zero (l[0]'w.ne) (List.getElem?_eq_getElem w.ne)
  rw [hgt_at w.ne]
  exact h.2
theorem zero_of_hgt (w : Wf l) {i : Nat} (hi : i < l.length) (h : hgt l i = 0) : i = 0 := by
  cases i with
  | zero => rfl
  | succ i =>
    have := w.hgt_par (i := i + 1) (by omega) hi
    omega
theorem way0 (w : Wf l) {b : Nat} (hb : b < l.length) : wayI l ((meetM l (clI l 0) (clI l (b : Int)) : Nat) : Int) b = wayM l 0 b := by
  have hne := w.ne
  have c0 : clI l 0 = 0 := by
    unfold clI
    omega
  have cb : clI l (b : Int) = b := by
    unfold clI
    omega
  have h0 := hgt_zero w
  have a0 : anc l 0 0 = 0 := by
    have := anc_self (l := l) 0
    rw [h0] at this
    exact this
  have ab : anc l b 0 = 0 := zero_of_hgt w (w.anc_lt hb) (w.anc_hgt hb (Nat.zero_le _))
  have hm : meetM l 0 b = 0 := by
    unfold meetM
    rw [h0, Nat.zero_min]
    exact a0
  have ho : onB l ((0 : Nat) : Int) (b : Int) = true := by
    rw [onB_nat w.ne hb, decide_eq_true_eq, h0]
    exact ⟨Nat.zero_le _, ab⟩
  rw [c0, cb, hm]
  unfold wayI
  rw [if_pos ho]
  rfl
theorem wl_len (w : Wf l) {b : Nat} (hb : b < l.length) : (wayM l 0 b).length = hgt l b := by rw [wayM_len, hgt_zero w, Nat.sub_zero]
theorem wl_get (w : Wf l) {b k : Nat} (hb : b < l.length) (hk : k < (wayM l 0 b).length) : (wayM l 0 b)[k] = ((anc l b (k + 1) : Nat) : Int) := by
  rw [wayM_get, hgt_zero w, Nat.zero_add, Nat.add_comm]
theorem wl_asc (w : Wf l) {b : Nat} (hb : b < l.length) : (wayM l 0 b).Pairwise (· < ·) := by
  have step : ∀ k, k + 1 ≤ hgt l b → anc l b k < anc l b (k + 1) := fun k hk => by
    obtain ⟨h1, h2⟩ := anc_step_par w hb hk
    have := w.par_lt h2 (w.anc_lt hb)
    omega
  have mono : ∀ d j, j + d + 1 ≤ hgt l b → anc l b j < anc l b (j + d + 1) := fun d => by
    induction d with
    | zero => exact fun j hj => step j hj
    | succ d ih => exact fun j hj => Nat.lt_trans (ih j (by omega)) (step (j + d + 1) hj)
  rw [List.pairwise_iff_getElem]
  intro i j hi hj hij
  rw [wl_get w hb, wl_get w hb]
  have := mono (j - i - 1) (i + 1) (by rw [wl_len w hb] at hj; omega)
  rw [show i + 1 + (j - i - 1) + 1 = j + 1 by omega] at this
  omega
theorem wl_nodup (w : Wf l) {b : Nat} (hb : b < l.length) : (wayM l 0 b).Nodup := (wl_asc w hb).imp fun h => by omega
theorem wl_mem (w : Wf l) {b : Nat} (hb : b < l.length) {i : Int} (h : i ∈ wayM l 0 b) : ∃ n : Nat, i = n ∧ 0 < n ∧ n < l.length ∧ hgt l n ≤ hgt l b := by
  obtain ⟨k, hk, rfl⟩ := List.mem_iff_getElem.1 h
  rw [wl_get w hb]
  rw [wl_len w hb] at hk
  exact ⟨_, rfl, (anc_step_par w hb (k := k) hk).2, w.anc_lt hb, by rw [w.anc_hgt hb (h := k + 1) hk]; exact hk⟩
theorem wantGo_eq {c : Ch} {es : Fls} {top left : Int} : ∀ (r out : List Int), (∀ i ∈ r, ((nd c.l (inI c.l i)).height : Int) ≤ top) →
    wantGo c es top left out r = out ++ (r.filter fun i => !(lk i es).isSome && !hasM c i).take (left - out.length).toNat
  | [], out, _ => by simp [wantGo]
  | i :: r, out, h => by
    rw [wantGo]
    have hi := h i (by simp)
    have hr : ∀ j ∈ r, ((nd c.l (inI c.l j)).height : Int) ≤ top := fun j hj => h j (by simp [hj])
    by_cases hf : left ≤ (out.length : Int)
    · rw [if_pos (.inl hf), show (left - out.length).toNat = 0 by omega, List.take_zero, List.append_nil]
    · rw [if_neg (by omega), List.filter_cons]
      by_cases hc : (lk i es).isSome = false ∧ hasM c i = false
      · rw [if_pos hc, if_pos (by simp [hc.1, hc.2]), wantGo_eq r _ hr, show (left - out.length).toNat = (left - (out ++ [i]).length).toNat + 1 by simp; omega, List.take_succ_cons]
        simp
      · rw [if_neg hc, if_neg (by
          intro h
          rw [Bool.and_eq_true, Bool.not_eq_true', Bool.not_eq_true'] at h
          exact hc h), wantGo_eq r _ hr]
theorem want18 (h : W18 l) {b : Nat} (hb : b < l.length) (hl : l.length ≤ 1000) (es : Fls) (p : Int) :
    wantM (w18C l) es p b = ((wayM l 0 b).filter fun i => !(lk i es).isSome).take (16 - countM es p) := by
  have hb' : inI (w18C l).l (b : Int) = b := inI_nat hb
  have hfail : (nd (w18C l).l b).failed = false := h.ok _ (by rw [show (w18C l).l = l from rfl, nd_at hb]; exact List.getElem_mem hb)
  unfold wantM
  rw [if_neg (by
    rw [hb', hfail]
    rintro (h1 | h1 | h1)
    · omega
    · exact absurd hb (by have : (l.length : Int) ≤ b := h1; omega)
    · cases h1)]
  have hz : ((nd (w18C l).l (inI (w18C l).l (w18C l).tip)).height : Int) = 0 := by
    show ((nd l (inI l ((0 : Nat) : Int))).height : Int) = 0
    rw [inI_nat h.wf.ne, nd_hgt_eq h.wf.ne, hgt_zero h.wf]
    rfl
  have hway : wayI (w18C l).l ((meetM (w18C l).l (clI (w18C l).l (w18C l).tip) (clI (w18C l).l (b : Int)) : Nat) : Int) b = wayM l 0 b := way0 h.wf hb
  rw [hz, hway, wantGo_eq _ _ fun i hi => by
    obtain ⟨n, rfl, -, h2, h3⟩ := wl_mem h.wf hb hi
    show ((nd l (inI l (n : Int))).height : Int) ≤ _
    rw [inI_nat h2, nd_hgt_eq h2]
    have := h.wf.hgt_le h2
    omega]
  rw [List.nil_append, List.length_nil]
  rw [show ((16 : Int) - (countM es p : Int) - ((0 : Nat) : Int)).toNat = 16 - countM es p by omega]
  congr 1
  refine List.filter_congr fun i hi => ?_
  obtain ⟨n, rfl, h1, -, -⟩ := wl_mem h.wf hb hi
  have hno : hasM (w18C l) (n : Int) = false := by
    have h0 : (w18C l).bs = [(0, w18G)] := rfl
    unfold hasM
    rw [h0, lk_none_of (fun e he => by
      rw [List.mem_singleton.1 he]
      show (0 : Int) ≠ n
      omega)]
    rfl
  rw [hno]
  simp
end
def farRows (W : List Int) (k : Nat) : Fls := (List.range k).map fun j => (W.getD j 0, (((j / 16 : Nat) : Int), 0))
section
variable {W : List Int}
theorem far_len (k : Nat) : (farRows W k).length = k := by simp [farRows]
theorem far_keys {k : Nat} (hk : k ≤ W.length) : (farRows W k).map (·.1) = W.take k := by
  refine List.ext_getElem (by simp [farRows]; omega) fun i h1 h2 => ?_
  simp [farRows] at h1 ⊢
  rw [List.getElem?_eq_getElem (by omega)]
  rfl
theorem far_succ (k : Nat) : farRows W (k + 1) = farRows W k ++ [(W.getD k 0, (((k / 16 : Nat) : Int), 0))] := by
  simp [farRows, List.range_succ]
theorem far_count (p : Nat) : ∀ k : Nat, countM (farRows W k) p = min 16 (k - 16 * p)
  | 0 => by simp [farRows, countM]
  | k + 1 => by
    have ih := far_count p k
    unfold countM at ih ⊢
    rw [far_succ, List.countP_append, ih]
    by_cases h : k / 16 = p
    · subst h
      simp
      omega
    · have : ((((k / 16 : Nat) : Int)) == (p : Int)) = false := beq_eq_false_iff_ne.2 (by omega)
      simp only [List.countP_singleton, this, Bool.false_eq_true, if_false]
      omega
theorem far_lk (hn : W.Nodup) {k : Nat} (hk : k ≤ W.length) {i : Int} : (lk i (farRows W k)).isSome = decide (i ∈ W.take k) := by
  cases h : lk i (farRows W k) with
  | none =>
    have : i ∉ W.take k := fun hi => by
      rw [← far_keys hk] at hi
      obtain ⟨e, he, rfl⟩ := List.mem_map.1 hi
      unfold lk at h
      rw [List.lookup_eq_none_iff] at h
      have := h e he
      simp at this
    simp [this]
  | some x =>
    have : i ∈ W.take k := by
      rw [← far_keys hk]
      unfold lk at h
      obtain ⟨l1, l2, e, -⟩ := List.lookup_eq_some_iff.1 h
      rw [e]
      simp
    simp [this]
theorem far_free (hn : W.Nodup) {k : Nat} (hk : k ≤ W.length) : (W.filter fun i => !(lk i (farRows W k)).isSome) = W.drop k := by
  have e : (fun i => !(lk i (farRows W k)).isSome) = fun i => !decide (i ∈ W.take k) := by
    funext i
    rw [far_lk hn hk]
  rw [e]
  conv => lhs; rw [← List.take_append_drop k W]
  rw [List.take_append_drop k W]
  have h1 : (W.take k).filter (fun i => !decide (i ∈ W.take k)) = [] := by
    rw [List.filter_eq_nil_iff]
    intro a ha
    simp [ha]
  have h2 : (W.drop k).filter (fun i => !decide (i ∈ W.take k)) = W.drop k := by
    rw [List.filter_eq_self]
    intro a ha
    have hd : (W.take k ++ W.drop k).Nodup := by rw [List.take_append_drop]; exact hn
    have := (List.nodup_append.1 hd).2.2
    have : a ∉ W.take k := fun h => this a h a ha rfl
    simp [this]
  have h3 : W.filter (fun i => !decide (i ∈ W.take k)) = (W.take k ++ W.drop k).filter (fun i => !decide (i ∈ W.take k)) := by rw [List.take_append_drop]
  rw [h3, List.filter_append, h1, h2, List.nil_append]
theorem far_ask (hn : W.Nodup) {k : Nat} (hk : k < W.length) {p : Nat} (hp : k / 16 = p) : askM (farRows W k) (W.getD k 0) p = 0 ∧ askT (farRows W k) (W.getD k 0) p 0 = farRows W (k + 1) := by
  have h1 : (lk (W.getD k 0) (farRows W k)).isSome = false := by
    rw [far_lk hn (Nat.le_of_lt hk), decide_eq_false_iff_not]
    intro h
    obtain ⟨j, hj, e⟩ := List.mem_iff_getElem.1 h
    rw [List.length_take] at hj
    rw [List.getElem_take, List.getD_eq_getElem?_getD, List.getElem?_eq_getElem hk, Option.getD_some] at e
    have := nodup_inj hn _ _ e
    omega
  have h2 : askM (farRows W k) (W.getD k 0) p = 0 := by
    unfold askM
    rw [if_neg (by rw [h1]; decide), if_neg (by rw [far_count]; omega)]
  refine ⟨h2, ?_⟩
  rw [askT, if_pos h2, far_succ, hp]
def farK (H n r p : Nat) : Nat := if r = 0 then min H (16 * p) else min H (16 * n)
theorem farK_le (H n r p : Nat) : farK H n r p ≤ H := by unfold farK; split <;> omega
theorem farK_step {H n r p : Nat} (hp : p < n) : farK H n r (p + 1) = farK H n r p + min (16 - min 16 (farK H n r p - 16 * p)) (H - farK H n r p) ∧
    ∀ a, a < min (16 - min 16 (farK H n r p - 16 * p)) (H - farK H n r p) → (farK H n r p + a) / 16 = p := by
  unfold farK
  split
  · exact ⟨by omega, fun a ha => by omega⟩
  · exact ⟨by omega, fun a ha => by omega⟩
theorem farK_next (H n r : Nat) : farK H n r n = farK H n (r + 1) 0 := by
  unfold farK
  split <;> simp
end
end Go.Ab
set_option linter.unusedSimpArgs false
set_option linter.unusedVariables false
set_option maxRecDepth 10000
namespace Go.Ab
open Go Go.RowKit
def upTo (m : Nat) : List Int := (List.range m).map fun i : Nat => (i : Int)
theorem upTo_len (m : Nat) : (upTo m).length = m := by simp [upTo]
theorem upTo_succ (m : Nat) : upTo (m + 1) = upTo m ++ [(m : Int)] := by simp [upTo, List.range_succ]
def seenW (W : List Int) (k : Nat) : List (Int × Bool) := (W.take k).map fun x => (x, true)
theorem seenW_len {W : List Int} {k : Nat} (hk : k ≤ W.length) : (seenW W k).length = k := by simp [seenW]; omega
theorem seenW_lk {W : List Int} (hn : W.Nodup) {k : Nat} (hk : k < W.length) : lk (W.getD k 0) (seenW W k) = none := by
  refine lk_none_of fun e he => ?_
  obtain ⟨x, hx, rfl⟩ := List.mem_map.1 he
  intro h
  have h : x = W.getD k 0 := h
  subst h
  obtain ⟨j, hj, e⟩ := List.mem_iff_getElem.1 hx
  rw [List.length_take] at hj
  rw [List.getElem_take, List.getD_eq_getElem?_getD, List.getElem?_eq_getElem hk, Option.getD_some] at e
  have := nodup_inj hn _ _ e
  omega
theorem seenW_set {W : List Int} (hn : W.Nodup) {k : Nat} (hk : k < W.length) : aSet (W.getD k 0) true (seenW W k) = seenW W (k + 1) := by
  rw [aSet_app _ _ _ (seenW_lk hn hk)]
  unfold seenW
  rw [List.take_succ_eq_append_getElem hk, List.map_append, List.getD_eq_getElem?_getD, List.getElem?_eq_getElem hk]
  rfl
section
variable {P : Program} {F : Fn}
set_option maxHeartbeats 8000000 in
theorem spec294 (ok : OkLaw18 P F) (hc : CloneC P (F 256)) (st : St) (n peers : Int) : ACalls P (F 294) [.int .i64 n, .int .i64 peers] st fun v st' => v = .bool true ∧ st' = st := by
  have okw := ok.toOkWindow
  have okc := okw.toOkChain
  have oki := okc.toOkLocate.toOkIndexZ.toOkIndex
  refine shows_call ok.mixed ok.h294 (by simp [k294]) ?_
  simp only [k294]
  have eqp : ∀ c, eqK .ptr (V.ptr (some (c, 0))) (V.ptr none) = some false := fun _ => rfl
  have hfH : ∀ x, fldV false 102 1 (V.agg (eNd x)) = some (.int .i64 x.height) := fun x => by
    show (segOf _ 102 1).bind (packV false) = _
    rw [osegHgt]; rfl
  simp
  refine (wants_true ok hc st).mono ?_
  rintro v st1 ⟨rfl, rfl⟩
  by_cases c1 : n < 0
  · simp [c1]
  by_cases c2 : 60 < n
  · simp [c1, c2]
  by_cases c3 : peers < 1
  · simp [c1, c2, c3]
  by_cases c4 : 5 < peers
  · simp [c1, c2, c3, c4]
  obtain ⟨m, rfl⟩ : ∃ m : Nat, n = m := ⟨n.toNat, by omega⟩
  obtain ⟨q, rfl⟩ : ∃ q : Nat, peers = q := ⟨peers.toNat, by omega⟩
  simp [c1, c2, c3, c4]
  refine vc_joinB (M := fun env' st' => Sep [Slx 1 e1 (env' 5) (upTo m), Was st1] st') ?_ ?_
  · refine vc_loopJ (fun k env' st' => ∃ i : Nat, i ≤ m ∧ k = m - i ∧ env' 31 = .int .i64 (i : Nat) ∧ Sep [Slx 1 e1 (env' 5) (upTo i), Was st1] st') m
      ⟨0, by omega, by omega, by simp, by simpa [upTo] using (Sep.start st1).slxNil (sz := 1) (f := e1)⟩ ?_
    rintro J hJ k env' st3 hsame ⟨i, hi, rfl, h31, S⟩
    have g30 := (hsame.get 30 rfl).trans (by simp : _ = V.int .i64 (m : Int))
    clear hsame
    by_cases hlt : i < m
    · have w1 : IntKind.i64.wrap ((i : Int) + 1) = (i : Int) + 1 := wrap64 (by omega) (by omega)
      have hfb : fillV (repV [V.int .i64 0] 1) [(0, 1, V.int .i64 (i : Int))] = some [.int .i64 (i : Int)] := rfl
      have hel : elems st3 1 (.sl .full [.int .i64 (i : Int)] 1) = some (rowsOf e1 [(i : Int)], 1) := by simp [elems, e1]
      simp [g30, h31, hlt, hfb, hel]
      refine Sep.appx' (b := 8) e1_len (by omega) S [(i : Int)] rfl rfl (by rw [upTo_len]; simp only [List.length_singleton]; omega) ?_
      intro s' st4 S
      rw [← upTo_succ] at S
      simp [h31, w1]
      exact Round.mk (m - (i + 1)) _ (by omega) (sub_self _) (hJ _ _ _ ⟨i + 1, by omega, rfl, by simp, by simpa using S⟩)
    · have : i = m := by omega
      subst this
      simp [g30, h31]
      exact S
  rintro env' st3 hsame S
  have g1 := (hsame.get 1 rfl).trans (by simp : _ = V.int .i64 (q : Int))
  clear hsame
  simp
  refine (spec291 ok hc st3 (Sep.rd e1_len (S.head fun h hh => hh.sl)) (by rw [upTo_len]; omega)).mono ?_
  rintro v st4 ⟨cid, s', rfl, S2⟩
  have hsub1 : St.sub st1 st3 := S.was' (by simp)
  obtain ⟨hW, hlen⟩ := w18M_sound (upTo m)
  rw [upTo_len] at hlen
  generalize (w18M (upTo m)).2 = bl at S2
  generalize (w18M (upTo m)).1 = l at S2 hW hlen
  have w := hW.wf
  simp [eqp]
  intro i9 hi9
  have W : WinS i9 [] 0 (ChA cid (w18C l) :: [Was st3]) (st4.upd i9 (.cells [.map none, .int .i64 0])) := WinS.start ((S2.drop).new hi9 _)
  generalize st4.upd i9 _ = st5 at W ⊢
  clear S2 S
  simp
  intro sm hsm
  have W := W.new hsm (.mp [])
  generalize st5.upd sm _ = st6 at W ⊢
  obtain ⟨b, hb⟩ : ∃ b, b = bestM l := ⟨_, rfl⟩
  have hbl : b < l.length := by rw [hb]; exact bestM_lt w
  obtain ⟨Y, hY⟩ : ∃ Y, Y = wayM l 0 b := ⟨_, rfl⟩
  have hYn : Y.Nodup := by rw [hY]; exact wl_nodup w hbl
  have hYl : Y.length = hgt l b := by rw [hY]; exact wl_len w hbl
  have hYh : Y.length ≤ 60 := by
    have := w.hgt_le hbl
    omega
  have hYm : ∀ x ∈ Y, ((nd l (inI l x)).height : Int) ≤ 60 := fun x hx => by
    rw [hY] at hx
    obtain ⟨k, rfl, -, h2, h3⟩ := wl_mem w hbl hx
    rw [inI_nat h2, nd_hgt_eq h2]
    omega
  have far0 : farRows Y 0 = [] := by simp [farRows]
  have seen0 : seenW Y 0 = [] := by simp [seenW]
  have hK := farK_le Y.length q
  simp
  refine vc_joinB (M := fun env' st' => WinS i9 (farRows Y (farK Y.length q 3 0)) 0 (pt sm (.mp (encM kInt V.bool (seenW Y (farK Y.length q 3 0)))) :: ChA cid (w18C l) :: [Was st3]) st') ?_ ?_
  · refine vc_loopJ (fun k env' st' => ∃ r : Nat, r ≤ 3 ∧ k = 3 - r ∧ env' 47 = .int .i64 (r : Nat) ∧ WinS i9 (farRows Y (farK Y.length q r 0)) 0 (pt sm (.mp (encM kInt V.bool (seenW Y (farK Y.length q r 0)))) :: ChA cid (w18C l) :: [Was st3]) st') 3
      ⟨0, by omega, by omega, by simp, by
        have e : farK Y.length q 0 0 = 0 := by simp [farK]
        rw [e, far0, seen0]
        exact W⟩ ?_
    clear W
    rintro J hJ k env2 st7 hsame ⟨r, hr, rfl, h47, W⟩
    have g1 := (hsame.get 1 rfl).trans (by simp [g1] : _ = V.int .i64 (q : Int))
    have g7 := (hsame.get 7 rfl).trans (by simp : _ = V.ptr (some (cid, 0)))
    have g9 := (hsame.get 9 rfl).trans (by simp : _ = V.ptr (some (i9, 0)))
    have g10 := (hsame.get 10 rfl).trans (by simp : _ = V.map (some sm))
    clear hsame
    by_cases hr3 : r < 3
    · have hr3' : (r : Int) < 3 := by omega
      have w1 : IntKind.i64.wrap ((r : Int) + 1) = (r : Int) + 1 := wrap64 (by omega) (by omega)
      simp [h47, hr3', g1]
      · refine vc_loopJ (fun k env' st' => ∃ p : Nat, p ≤ q ∧ k = q - p ∧ env' 50 = .int .i64 (p : Nat) ∧ WinS i9 (farRows Y (farK Y.length q r p)) 0 (pt sm (.mp (encM kInt V.bool (seenW Y (farK Y.length q r p)))) :: ChA cid (w18C l) :: [Was st3]) st') q
          ⟨0, by omega, by omega, by simp, W⟩ ?_
        clear W
        rintro J2 hJ2 k env3 st8 hsame ⟨p, hp, rfl, h50, W⟩
        have g7 := (hsame.get 7 rfl).trans (by simp [g7] : _ = V.ptr (some (cid, 0)))
        have g9 := (hsame.get 9 rfl).trans (by simp [g9] : _ = V.ptr (some (i9, 0)))
        have g10 := (hsame.get 10 rfl).trans (by simp [g10] : _ = V.map (some sm))
        have g49 := (hsame.get 49 rfl).trans (by simp : _ = V.int .i64 (q : Int))
        have g47 := (hsame.get 47 rfl).trans (by simp [h47] : _ = V.int .i64 (r : Int))
        clear hsame
        by_cases hpq : p < q
        · have w2 : IntKind.i64.wrap ((p : Int) + 1) = (p : Int) + 1 := wrap64 (by omega) (by omega)
          obtain ⟨k0, hk0⟩ : ∃ k0, k0 = farK Y.length q r p := ⟨_, rfl⟩
          have hk0l : k0 ≤ Y.length := by rw [hk0]; exact hK r p
          obtain ⟨hs1, hs2⟩ := farK_step (H := Y.length) (r := r) hpq
          rw [← hk0] at hs1 hs2 W
          have W := W.tail fun r h => h.swap
          obtain ⟨mo, tid, bid, uid, R⟩ := chRead W.rest
          simp [h50, g49, hpq, g7, g9]
          refine (spec272 okc R w hW.len).mono ?_
          rintro v st9 ⟨rfl, rfl⟩
          have hbb : ((bestM (w18C l).l : Nat) : Int) = b := by rw [hb]; rfl
          rw [hbb]
          simp [g9]
          refine (spec289 okw W w hW.len (by rw [far_len]; omega) p b).mono ?_
          clear W R
          intro vw st10 W
          have hwant : wantM (w18C l) (farRows Y k0) p b = (Y.drop k0).take (16 - min 16 (k0 - 16 * p)) := by
            rw [want18 hW hbl (by omega), ← hY, far_free hYn hk0l, far_count]
          rw [hwant] at W
          obtain ⟨X, hX⟩ : ∃ X, X = (Y.drop k0).take (16 - min 16 (k0 - 16 * p)) := ⟨_, rfl⟩
          rw [← hX] at W
          have hXl : X.length = min (16 - min 16 (k0 - 16 * p)) (Y.length - k0) := by rw [hX, List.length_take, List.length_drop]
          rw [← hXl] at hs1 hs2
          have hXg : ∀ (a : Nat) (ha : a < X.length), X[a] = Y.getD (k0 + a) 0 := fun a ha => by
            have : k0 + a < Y.length := by omega
            rw [List.getD_eq_getElem?_getD, List.getElem?_eq_getElem this]
            simp [hX]
          have hlv := (Sep.rd e1_len (W.rest.head fun h hh => hh.sl)).len
          have W : WinS i9 (farRows Y k0) 0 (pt sm (.mp (encM kInt V.bool (seenW Y k0))) :: Slx 1 e1 vw X :: ChA cid (w18C l) :: [Was st3]) st10 := W.tail fun r h => h.pull 2
          simp [hlv]
          refine vc_joinB (M := fun env' st' => WinS i9 (farRows Y (k0 + X.length)) 0 (pt sm (.mp (encM kInt V.bool (seenW Y (k0 + X.length)))) :: ChA cid (w18C l) :: [Was st3]) st') ?_ ?_
          · refine vc_loopJ (fun k env' st' => ∃ a : Nat, a ≤ X.length ∧ k = X.length - a ∧ env' 59 = .int .i64 (a : Nat) ∧ WinS i9 (farRows Y (k0 + a)) 0 (pt sm (.mp (encM kInt V.bool (seenW Y (k0 + a)))) :: Slx 1 e1 vw X :: ChA cid (w18C l) :: [Was st3]) st') X.length
              ⟨0, by omega, by omega, by simp, W⟩ ?_
            clear W
            rintro J3 hJ3 k env4 st11 hsame ⟨a, ha, rfl, h59, W⟩
            have g7 := (hsame.get 7 rfl).trans (by simp [g7] : _ = V.ptr (some (cid, 0)))
            have g9 := (hsame.get 9 rfl).trans (by simp [g9] : _ = V.ptr (some (i9, 0)))
            have g10 := (hsame.get 10 rfl).trans (by simp [g10] : _ = V.map (some sm))
            have g11 := (hsame.get 11 rfl).trans (by simp : _ = V.int .i64 (p : Int))
            have g57 := (hsame.get 57 rfl).trans (by simp : _ = vw)
            have g58 := (hsame.get 58 rfl).trans (by simp : _ = V.int .i64 (X.length : Int))
            clear hsame
            by_cases hax : a < X.length
            · have w3 : IntKind.i64.wrap ((a : Int) + 1) = (a : Int) + 1 := wrap64 (by omega) (by omega)
              obtain ⟨r1, r2, r3, r4⟩ := (Sep.rd e1_len (W.rest.drop.head fun h hh => hh.sl)).row e1_len hax
              obtain ⟨x, hx⟩ : ∃ x, x = X[a] := ⟨_, rfl⟩
              rw [← hx] at r3
              have hxg : Y.getD (k0 + a) 0 = x := by rw [hx, hXg a hax]
              have hky : k0 + a < Y.length := by omega
              have hxm : x ∈ Y := by
                rw [← hxg, List.getD_eq_getElem?_getD, List.getElem?_eq_getElem hky]
                exact List.getElem_mem hky
              have osm := W.rest.get
              have hl := lookup_lk0 keyed_int (ev := V.bool) osm (V.bool false) x
              have hsl := seenW_lk hYn hky
              rw [hxg] at hsl
              rw [hsl] at hl
              simp only [kInt, Option.map_none, Option.getD_none] at hl
              obtain ⟨a1, a2⟩ := far_ask hYn hky (hs2 a hax)
              rw [hxg] at a1 a2
              simp [g7, g9, g10, g11, g57, g58, h59, hax, r1, r3, e1, hl]
              refine (spec283 okw W x p 0 (by rw [far_len]; omega)).mono ?_
              clear W hl osm
              rintro v st12 ⟨rfl, W⟩
              rw [a1]
              rw [a2] at W
              obtain ⟨mo, tid, bid, uid, R⟩ := chRead W.rest.drop.drop
              have T := R.tree w.neNil
              have o1 := R.top
              simp [g7, St.seg, o1, cseg0]
              refine (spec161 oki T w x).mono ?_
              rintro v st13 ⟨rfl, rfl⟩
              have hh60 := hYm x hxm
              have hh : ¬ (1024 : Int) < ((nd (w18C l).l (inI (w18C l).l x)).height : Int) := by
                show ¬ (1024 : Int) < ((nd l (inI l x)).height : Int)
                omega
              clear R T o1
              have osm := W.rest.get
              have hms := mset_enc keyed_int (ev := V.bool) osm x true
              have hset := seenW_set hYn hky
              rw [hxg] at hset
              rw [hset] at hms
              simp only [kInt] at hms
              obtain ⟨mo2, h02, S⟩ := W.front
              have W := WinS.back h02 (S.set (.mp (encM kInt V.bool (seenW Y (k0 + a + 1)))))
              simp [hfH, hh, g10, hms, h59, w3]
              exact Round.mk (X.length - (a + 1)) _ (by omega) (sub_self _) (hJ3 _ _ _ ⟨a + 1, by omega, rfl, by simp, W⟩)
            · have : a = X.length := by omega
              subst this
              simp [g58, h59]
              exact W.tail fun r h => h.tail fun r h => h.drop
          rintro env4 st11 hsame W
          have g9 := (hsame.get 9 rfl).trans (by simp [g9] : _ = V.ptr (some (i9, 0)))
          have g11 := (hsame.get 11 rfl).trans (by simp : _ = V.int .i64 (p : Int))
          have g50 := (hsame.get 50 rfl).trans (by simp [h50] : _ = V.int .i64 (p : Int))
          clear hsame
          rw [← hs1] at W
          simp [g9, g11]
          refine (spec281 okw W p (by rw [far_len]; have := hK r (p + 1); omega)).mono ?_
          rintro v st12 ⟨rfl, W⟩
          have hcn : ¬ (16 : Int) < ((countM (farRows Y (farK Y.length q r (p + 1))) p : Nat) : Int) := by
            rw [far_count]
            omega
          simp [hcn, g50, w2]
          exact Round.mk (q - (p + 1)) _ (by omega) (sub_self _) (hJ2 _ _ _ ⟨p + 1, by omega, rfl, by simp, W⟩)
        · have : p = q := by omega
          subst this
          rw [farK_next] at W
          simp [g49, h50, g47, w1]
          exact Round.mk (3 - (r + 1)) _ (by omega) (sub_self _) (hJ _ _ _ ⟨r + 1, by omega, rfl, by simp, W⟩)
    · have : r = 3 := by omega
      subst this
      simp [h47]
      exact W
  clear W
  rintro env2 st7 hsame W
  have g1 := (hsame.get 1 rfl).trans (by simp [g1] : _ = V.int .i64 (q : Int))
  have g7 := (hsame.get 7 rfl).trans (by simp : _ = V.ptr (some (cid, 0)))
  have g9 := (hsame.get 9 rfl).trans (by simp : _ = V.ptr (some (i9, 0)))
  have g10 := (hsame.get 10 rfl).trans (by simp : _ = V.map (some sm))
  clear hsame
  obtain ⟨k, hk⟩ : ∃ k, k = farK Y.length q 3 0 := ⟨_, rfl⟩
  have hkv : k = min Y.length (16 * q) := by rw [hk]; simp [farK]
  rw [← hk] at W
  obtain ⟨mo, tid, bid, uid, R⟩ := chRead W.rest.drop
  have T := R.tree w.neNil
  have o1 := R.top
  have osm := W.rest.get
  have hlm := lenMap_mp osm
  rw [show (encM kInt V.bool (seenW Y k)).length = k by rw [encM, List.length_map, seenW_len (by omega)]] at hlm
  have w1 : IntKind.i64.wrap (16 * (q : Int)) = 16 * (q : Int) := wrap64 (by omega) (by omega)
  simp [g1, g7, g9, g10, w1, hlm, St.seg, o1, cseg0]
  refine still_call _ _ _ _ (by simpa using spec272 okc R w hW.len) ?_
  have hbb : ((bestM (w18C l).l : Nat) : Int) = b := by rw [hb]; rfl
  rw [hbb]
  simp
  refine still_call _ _ _ _ (by simpa using spec161 oki T w b) ?_
  have hnd : ((nd (w18C l).l (inI (w18C l).l (b : Int))).height : Int) = Y.length := by
    show ((nd l (inI l (b : Int))).height : Int) = _
    rw [inI_nat hbl, nd_hgt_eq hbl, hYl]
  have hmn : foldV min2V (V.int .i64 (Y.length : Int)) [V.int .i64 (16 * (q : Int))] = some (.int .i64 (k : Int)) := by
    simp only [foldV, min2V, if_true, Option.bind_some]
    congr 2
    split <;> omega
  simp [hfH, hnd, hmn, hlm, g9, g10]
  refine still_call _ _ _ _ (by simpa [g9] using spec280 okw W) ?_
  rw [far_len]
  simp [hlm]
  exact sub_trans hsub1 (W.rest.was' (st0 := st3) (by simp))
end
end Go.Ab
set_option linter.unusedSimpArgs false
set_option linter.unusedVariables false
set_option maxRecDepth 10000
namespace Go.Ab
open Go Go.RowKit
def rows1 (Z : List Int) : Fls := Z.map fun i => (i, ((1 : Int), (0 : Int)))
theorem rows1_keys (Z : List Int) : (rows1 Z).map (·.1) = Z := by simp [rows1, Function.comp_def]
theorem rows1_count (Z : List Int) : countM (rows1 Z) 1 = Z.length := by
  unfold countM rows1
  rw [List.countP_map]
  simp [Function.comp_def]
theorem rows1_lk {Z : List Int} {i : Int} : (lk i (rows1 Z)).isSome = decide (i ∈ Z) := by
  induction Z with
  | nil => simp [rows1, lk]
  | cons z Z ih =>
    unfold lk rows1 at ih ⊢
    rw [List.map_cons, List.lookup_cons]
    by_cases h : i = z
    · simp [h]
    · have hb : (i == z) = false := beq_eq_false_iff_ne.2 h
      simp only [hb]
      rw [ih]
      simp [h]
theorem rows1_ask {Z : List Int} {i : Int} (hi : i ∉ Z) (hl : Z.length < 16) : askM (rows1 Z) i 1 = 0 ∧ askT (rows1 Z) i 1 0 = rows1 (Z ++ [i]) := by
  have h : askM (rows1 Z) i 1 = 0 := by
    unfold askM
    rw [if_neg (by rw [rows1_lk]; simp [hi]), if_neg (by rw [rows1_count]; omega)]
  refine ⟨h, ?_⟩
  rw [askT, if_pos h]
  simp [rows1]
theorem rows1_del (k : Int) : ∀ Z : List Int, aDel k (rows1 Z) = rows1 (Z.erase k)
  | [] => rfl
  | z :: Z => by
    have ih := rows1_del k Z
    unfold rows1 at ih ⊢
    rw [List.map_cons, aDel, List.erase_cons]
    by_cases h : k = z
    · simp [h]
    · have hb : (z == k) = false := beq_eq_false_iff_ne.2 (fun e => h e.symm)
      simp only [if_neg h, hb, Bool.false_eq_true, if_false, List.map_cons]
      rw [ih]
theorem rows1_drop (Z : List Int) : (rows1 Z).filter (fun e => e.2.1 == 1) = rows1 Z ∧ (rows1 Z).filter (fun e => e.2.1 != 1) = [] := by
  constructor
  · rw [List.filter_eq_self]
    intro a ha
    obtain ⟨x, -, rfl⟩ := List.mem_map.1 ha
    rfl
  · rw [List.filter_eq_nil_iff]
    intro a ha
    obtain ⟨x, -, rfl⟩ := List.mem_map.1 ha
    simp
section
variable {P : Program} {F : Fn}
set_option maxHeartbeats 16000000 in
theorem spec296 (ok : OkLaw18 P F) (hc : CloneC P (F 256)) (oks : SortC P (F 286)) (st : St) {s : V} {got : List Int} (hr : Rd 1 e1 s got st) (n : Int) : ACalls P (F 296) [.int .i64 n, s] st fun v st' => v = .bool true ∧ st' = st := by
  have okw := ok.toOkWindow
  have okc := okw.toOkChain
  have oki := okc.toOkLocate.toOkIndexZ.toOkIndex
  refine shows_call ok.mixed ok.h296 (by simp [k296]) ?_
  simp only [k296]
  have eqp : ∀ c, eqK .ptr (V.ptr (some (c, 0))) (V.ptr none) = some false := fun _ => rfl
  simp
  refine (wants_true ok hc st).mono ?_
  rintro v st1 ⟨rfl, rfl⟩
  have hlen := hr.len
  by_cases c1 : n < 1
  · simp [c1]
  by_cases c2 : 30 < n
  · simp [c1, c2]
  by_cases c3 : 30 < got.length
  · have c3' : 30 < (got.length : Int) := by omega
    simp [c1, c2, hlen, c3']
  have c3' : ¬ 30 < (got.length : Int) := by omega
  obtain ⟨m, rfl⟩ : ∃ m : Nat, n = m := ⟨n.toNat, by omega⟩
  simp [c1, c2, c3', hlen]
  refine vc_joinB (M := fun env' st' => Sep [Slx 1 e1 (env' 5) (upTo m), Was st1] st') ?_ ?_
  · refine vc_loopJ (fun k env' st' => ∃ i : Nat, i ≤ m ∧ k = m - i ∧ env' 38 = .int .i64 (i : Nat) ∧ Sep [Slx 1 e1 (env' 5) (upTo i), Was st1] st') m
      ⟨0, by omega, by omega, by simp, by simpa [upTo] using (Sep.start st1).slxNil (sz := 1) (f := e1)⟩ ?_
    rintro J hJ k env' st3 hsame ⟨i, hi, rfl, h38, S⟩
    have g37 := (hsame.get 37 rfl).trans (by simp : _ = V.int .i64 (m : Int))
    clear hsame
    by_cases hlt : i < m
    · have w1 : IntKind.i64.wrap ((i : Int) + 1) = (i : Int) + 1 := wrap64 (by omega) (by omega)
      have hfb : fillV (repV [V.int .i64 0] 1) [(0, 1, V.int .i64 (i : Int))] = some [.int .i64 (i : Int)] := rfl
      have hel : elems st3 1 (.sl .full [.int .i64 (i : Int)] 1) = some (rowsOf e1 [(i : Int)], 1) := by simp [elems, e1]
      simp [g37, h38, hlt, hfb, hel]
      refine Sep.appx' (b := 8) e1_len (by omega) S [(i : Int)] rfl rfl (by rw [upTo_len]; simp only [List.length_singleton]; omega) ?_
      intro s' st4 S
      rw [← upTo_succ] at S
      simp [h38, w1]
      exact Round.mk (m - (i + 1)) _ (by omega) (sub_self _) (hJ _ _ _ ⟨i + 1, by omega, rfl, by simp, by simpa using S⟩)
    · have : i = m := by omega
      subst this
      simp [g37, h38]
      exact S
  rintro env' st3 hsame S
  have g1 := (hsame.get 1 rfl).trans (by simp : _ = s)
  clear hsame
  simp
  refine (spec291 ok hc st3 (Sep.rd e1_len (S.head fun h hh => hh.sl)) (by rw [upTo_len]; omega)).mono ?_
  rintro v st4 ⟨cid, s', rfl, S2⟩
  have hsub1 : St.sub st1 st3 := S.was' (by simp)
  have hr3 := hr.sub hsub1
  obtain ⟨hW, hlen3⟩ := w18M_sound (upTo m)
  rw [upTo_len] at hlen3
  generalize (w18M (upTo m)).2 = bl at S2
  generalize (w18M (upTo m)).1 = l at S2 hW hlen3
  have w := hW.wf
  simp [eqp]
  intro i9 hi9
  have W : WinS i9 [] 0 (ChA cid (w18C l) :: [Was st3]) (st4.upd i9 (.cells [.map none, .int .i64 0])) := WinS.start ((S2.drop).new hi9 _)
  generalize st4.upd i9 _ = st5 at W ⊢
  clear S2 S
  obtain ⟨b, hb⟩ : ∃ b, b = bestM l := ⟨_, rfl⟩
  have hbl : b < l.length := by rw [hb]; exact bestM_lt w
  obtain ⟨Y, hY⟩ : ∃ Y, Y = wayM l 0 b := ⟨_, rfl⟩
  have hYa : Y.Pairwise (· < ·) := by rw [hY]; exact wl_asc w hbl
  have hwant : ∀ p : Int, wantM (w18C l) [] p b = Y.take 16 := fun p => by
    rw [want18 hW hbl (by omega), ← hY]
    have : (Y.filter fun i => !(lk i ([] : Fls)).isSome) = Y := by
      rw [List.filter_eq_self]
      intro a _
      rfl
    rw [this]
    rfl
  obtain ⟨X, hX⟩ : ∃ X, X = Y.take 16 := ⟨_, rfl⟩
  have hXl : X.length ≤ 16 := by rw [hX, List.length_take]; omega
  have hXa : X.Pairwise (· < ·) := by rw [hX]; exact hYa.sublist (List.take_sublist _ _)
  have hXn : X.Nodup := hXa.imp fun h => by omega
  have hbb : ((bestM (w18C l).l : Nat) : Int) = b := by rw [hb]; rfl
  obtain ⟨mo, tid, bid, uid, R⟩ := chRead W.rest
  simp
  refine (spec272 okc R w hW.len).mono ?_
  rintro v st6 ⟨rfl, rfl⟩
  rw [hbb]
  simp
  refine (spec289 okw W w hW.len (by simp) 1 b).mono ?_
  clear W R
  intro vw st7 W
  rw [hwant, ← hX] at W
  have hlv := (Sep.rd e1_len (W.rest.head fun h hh => hh.sl)).len
  simp [hlv]
  refine vc_joinB (M := fun env' st' => WinS i9 (rows1 X) 0 (Slx 1 e1 vw X :: ChA cid (w18C l) :: [Was st3]) st') ?_ ?_
  · refine vc_loopJ (fun k env' st' => ∃ a : Nat, a ≤ X.length ∧ k = X.length - a ∧ env' 59 = .int .i64 (a : Nat) ∧ WinS i9 (rows1 (X.take a)) 0 (Slx 1 e1 vw X :: ChA cid (w18C l) :: [Was st3]) st') X.length
      ⟨0, by omega, by omega, by simp, W⟩ ?_
    clear W
    rintro J hJ k env4 st11 hsame ⟨a, ha, rfl, h59, W⟩
    have g9 := (hsame.get 9 rfl).trans (by simp : _ = V.ptr (some (i9, 0)))
    have g57 := (hsame.get 57 rfl).trans (by simp : _ = vw)
    have g58 := (hsame.get 58 rfl).trans (by simp : _ = V.int .i64 (X.length : Int))
    clear hsame
    by_cases hax : a < X.length
    · have w3 : IntKind.i64.wrap ((a : Int) + 1) = (a : Int) + 1 := wrap64 (by omega) (by omega)
      obtain ⟨r1, r2, r3, r4⟩ := (Sep.rd e1_len (W.rest.head fun h hh => hh.sl)).row e1_len hax
      obtain ⟨x, hx⟩ : ∃ x, x = X[a] := ⟨_, rfl⟩
      rw [← hx] at r3
      have hxn : x ∉ X.take a := fun h => by
        obtain ⟨j, hj, e⟩ := List.mem_iff_getElem.1 h
        rw [List.length_take] at hj
        rw [List.getElem_take, hx] at e
        have := nodup_inj hXn _ _ e
        omega
      obtain ⟨a1, a2⟩ := rows1_ask hxn (by rw [List.length_take]; omega)
      rw [hx, ← List.take_succ_eq_append_getElem hax, ← hx] at a2
      simp [g9, g57, g58, h59, hax, r1, r3, e1]
      refine (spec283 okw W x 1 0 (by simp [rows1]; omega)).mono ?_
      clear W
      rintro v st12 ⟨rfl, W⟩
      rw [a1]
      rw [a2] at W
      simp [h59, w3]
      exact Round.mk (X.length - (a + 1)) _ (by omega) (sub_self _) (hJ _ _ _ ⟨a + 1, by omega, rfl, by simp, W⟩)
    · have : a = X.length := by omega
      subst this
      rw [List.take_length] at W
      simp [g58, h59]
      exact W
  clear W
  rintro env4 st8 hsame W
  have g1 := (hsame.get 1 rfl).trans (by simp [g1] : _ = s)
  have g7 := (hsame.get 7 rfl).trans (by simp : _ = V.ptr (some (cid, 0)))
  have g9 := (hsame.get 9 rfl).trans (by simp : _ = V.ptr (some (i9, 0)))
  have g10 := (hsame.get 10 rfl).trans (by simp : _ = vw)
  clear hsame
  simp [g1, hlen]
  refine vc_joinB (M := fun env' st' => ∃ Z : List Int, Z.Sublist X ∧ WinS i9 (rows1 Z) 0 (Slx 1 e1 vw X :: ChA cid (w18C l) :: [Was st3]) st') ?_ ?_
  · refine vc_loopJ (fun k env' st' => ∃ (a : Nat) (Z : List Int), Z.Sublist X ∧ a ≤ got.length ∧ k = got.length - a ∧ env' 69 = .int .i64 (a : Nat) ∧ WinS i9 (rows1 Z) 0 (Slx 1 e1 vw X :: ChA cid (w18C l) :: [Was st3]) st') got.length
      ⟨0, X, List.Sublist.refl _, by omega, by omega, by simp, W⟩ ?_
    clear W
    rintro J hJ k env5 st11 hsame ⟨a, Z, hZ, ha, rfl, h69, W⟩
    have g9 := (hsame.get 9 rfl).trans (by simp [g9] : _ = V.ptr (some (i9, 0)))
    have g67 := (hsame.get 67 rfl).trans (by simp [g1] : _ = s)
    have g68 := (hsame.get 68 rfl).trans (by simp : _ = V.int .i64 (got.length : Int))
    clear hsame
    by_cases hax : a < got.length
    · have w3 : IntKind.i64.wrap ((a : Int) + 1) = (a : Int) + 1 := wrap64 (by omega) (by omega)
      obtain ⟨r1, r2, r3, r4⟩ := (hr3.sub (W.rest.was' (st0 := st3) (by simp))).row e1_len hax
      obtain ⟨x, hx⟩ : ∃ x, x = got[a] := ⟨_, rfl⟩
      rw [← hx] at r3
      simp [g9, g67, g68, h69, hax, r1, r3, e1]
      refine (spec287 okw W x).mono ?_
      clear W
      intro v st12 W
      rw [rows1_del] at W
      simp [h69, w3]
      exact Round.mk (got.length - (a + 1)) _ (by omega) (sub_self _) (hJ _ _ _ ⟨a + 1, Z.erase x, List.erase_sublist.trans hZ, by omega, rfl, by simp, W⟩)
    · have : a = got.length := by omega
      subst this
      simp [g68, h69]
      exact ⟨Z, hZ, W⟩
  clear W
  rintro env5 st9 hsame ⟨Z, hZ, W⟩
  have g7 := (hsame.get 7 rfl).trans (by simp [g7] : _ = V.ptr (some (cid, 0)))
  have g9 := (hsame.get 9 rfl).trans (by simp [g9] : _ = V.ptr (some (i9, 0)))
  have g10 := (hsame.get 10 rfl).trans (by simp [g10] : _ = vw)
  clear hsame
  have hlv := (Sep.rd e1_len (W.rest.head fun h hh => hh.sl)).len
  simp [g10, hlv]
  obtain ⟨Lf, hLf⟩ : ∃ Lf : Nat → List Int, Lf = fun a => (X.take a).filter fun x => decide (x ∈ Z) := ⟨_, rfl⟩
  have hLl : ∀ a, (Lf a).length ≤ 16 := fun a => by
    rw [hLf]
    refine Nat.le_trans (List.length_filter_le _ _) ?_
    rw [List.length_take]
    omega
  have hLs : ∀ (a : Nat) (ha : a < X.length), Lf (a + 1) = if X[a] ∈ Z then Lf a ++ [X[a]] else Lf a := fun a ha => by
    rw [hLf]
    simp only
    rw [List.take_succ_eq_append_getElem ha, List.filter_append]
    by_cases h : X[a] ∈ Z
    · simp [h]
    · simp [h]
  have W : WinS i9 (rows1 Z) 0 (Slx 1 e1 (.sl .nil [] 0) [] :: Slx 1 e1 vw X :: ChA cid (w18C l) :: [Was st3]) st9 := by
    obtain ⟨mo, h0, S⟩ := W
    exact WinS.back h0 (Sep.slxNil S)
  refine vc_joinB (M := fun env' st' => WinS i9 (rows1 Z) 0 (Slx 1 e1 (env' 15) (Lf X.length) :: Slx 1 e1 vw X :: ChA cid (w18C l) :: [Was st3]) st') ?_ ?_
  · refine vc_loopJ (fun k env' st' => ∃ a : Nat, a ≤ X.length ∧ k = X.length - a ∧ env' 78 = .int .i64 (a : Nat) ∧ WinS i9 (rows1 Z) 0 (Slx 1 e1 (env' 15) (Lf a) :: Slx 1 e1 vw X :: ChA cid (w18C l) :: [Was st3]) st') X.length
      ⟨0, by omega, by omega, by simp, by
        have e : Lf 0 = [] := by rw [hLf]; simp
        rw [e]
        simpa using W⟩ ?_
    clear W
    rintro J hJ k env6 st11 hsame ⟨a, ha, rfl, h78, W⟩
    have g9 := (hsame.get 9 rfl).trans (by simp [g9] : _ = V.ptr (some (i9, 0)))
    have g76 := (hsame.get 76 rfl).trans (by simp [g10] : _ = vw)
    have g77 := (hsame.get 77 rfl).trans (by simp : _ = V.int .i64 (X.length : Int))
    clear hsame
    by_cases hax : a < X.length
    · have w3 : IntKind.i64.wrap ((a : Int) + 1) = (a : Int) + 1 := wrap64 (by omega) (by omega)
      obtain ⟨r1, r2, r3, r4⟩ := (Sep.rd e1_len (W.rest.drop.head fun h hh => hh.sl)).row e1_len hax
      have hs := hLs a hax
      obtain ⟨x, hx⟩ : ∃ x, x = X[a] := ⟨_, rfl⟩
      rw [← hx] at r3 hs
      simp [g9, g76, g77, h78, hax, r1, r3, e1]
      refine (spec282 okw W x).mono ?_
      rintro v st12 ⟨rfl, rfl⟩
      rw [rows1_lk]
      by_cases hxz : x ∈ Z
      · rw [if_pos hxz] at hs
        have hfb : fillV (repV [V.int .i64 0] 1) [(0, 1, V.int .i64 x)] = some [.int .i64 x] := rfl
        have hel : elems st12 1 (.sl .full [.int .i64 x] 1) = some (rowsOf e1 [x], 1) := by simp [elems, e1]
        simp [hxz, hfb, hel]
        obtain ⟨mo, h0, S⟩ := W.front
        refine Sep.appx' (b := 8) e1_len (by omega) S [x] rfl rfl (by have := hLl a; simp only [List.length_singleton]; omega) ?_
        intro s' st13 S
        rw [← hs] at S
        have W := WinS.back h0 S
        simp [h78, w3]
        exact Round.mk (X.length - (a + 1)) _ (by omega) (sub_self _) (hJ _ _ _ ⟨a + 1, by omega, rfl, by simp, by simpa using W⟩)
      · rw [if_neg hxz] at hs
        rw [← hs] at W
        simp [hxz, h78, w3]
        exact Round.mk (X.length - (a + 1)) _ (by omega) (sub_self _) (hJ _ _ _ ⟨a + 1, by omega, rfl, by simp, by simpa using W⟩)
    · have : a = X.length := by omega
      subst this
      simp [g77, h78]
      exact W
  clear W
  rintro env6 st10 hsame W
  have g7 := (hsame.get 7 rfl).trans (by simp [g7] : _ = V.ptr (some (cid, 0)))
  have g9 := (hsame.get 9 rfl).trans (by simp [g9] : _ = V.ptr (some (i9, 0)))
  have g10 := (hsame.get 10 rfl).trans (by simp [g10] : _ = vw)
  clear hsame
  obtain ⟨D, hD⟩ : ∃ D, D = Lf X.length := ⟨_, rfl⟩
  rw [← hD] at W
  have hDX : D = X.filter fun x => decide (x ∈ Z) := by rw [hD, hLf]; simp
  have hDa : D.Pairwise (· < ·) := by rw [hDX]; exact hXa.sublist List.filter_sublist
  have hDl : D.length ≤ 16 := by rw [hD]; exact hLl _
  simp [g7, g9]
  obtain ⟨q1, q2⟩ := rows1_drop Z
  have hZn : Z.Nodup := hZ.nodup hXn
  refine (spec285 okw oks W (by rw [rows1_keys]; exact hZn) 1 (by simp [rows1]; have := hZ.length_le; omega)).mono ?_
  clear W
  rintro vd st11 ⟨D', hperm, hsort, W⟩
  rw [q1, rows1_keys] at hperm
  rw [q2] at W
  have hDD : D' = D := by
    refine asc_eq (asc_of hsort (hperm.nodup_iff.2 hZn)) hDa fun x => ?_
    rw [hperm.mem_iff, hDX, List.mem_filter, decide_eq_true_eq]
    exact ⟨fun h => ⟨hZ.subset h, h⟩, fun h => h.2⟩
  rw [hDD] at W
  have W : WinS i9 [] 0 (ChA cid (w18C l) :: Slx 1 e1 vd D :: Slx 1 e1 (env6 15) D :: Slx 1 e1 vw X :: [Was st3]) st11 := W.tail fun r h => h.pull 3
  obtain ⟨mo, tid, bid, uid, R⟩ := chRead W.rest
  simp [g7]
  refine (spec272 okc R w hW.len).mono ?_
  rintro v st12 ⟨rfl, rfl⟩
  rw [hbb]
  simp [g9]
  refine (spec289 okw W w hW.len (by simp) 2 b).mono ?_
  clear W R
  intro va st13 W
  rw [hwant, ← hX] at W
  have S := W.rest
  have ra := Sep.rd e1_len (S.head fun h hh => hh.sl)
  have rd := Sep.rd e1_len (S.drop.drop.head fun h hh => hh.sl)
  have rl := Sep.rd e1_len (S.drop.drop.drop.head fun h hh => hh.sl)
  have rw' := Sep.rd e1_len (S.drop.drop.drop.drop.head fun h hh => hh.sl)
  have hwas : St.sub st3 st13 := S.was' (by simp)
  simp [rd.len, rl.len, ra.len, rw'.len, g9, g10]
  refine (spec280 okw W).mono ?_
  rintro v st14 ⟨rfl, rfl⟩
  clear W S
  simp [rd.len]
  refine vc_joinB (M := fun env' st' => st' = st14) ?_ ?_
  · refine vc_loopJ (fun k env' st' => ∃ a : Nat, a ≤ D.length ∧ k = D.length - a ∧ env' 116 = .int .i64 (a : Nat) ∧ st' = st14) D.length
      ⟨0, by omega, by omega, by simp, rfl⟩ ?_
    rintro J hJ k env7 st15 hsame ⟨a, ha, rfl, h116, rfl⟩
    have g15 := (hsame.get 15 rfl).trans (by simp : _ = env6 15)
    have g20 := (hsame.get 20 rfl).trans (by simp : _ = vd)
    have g115 := (hsame.get 115 rfl).trans (by simp : _ = V.int .i64 (D.length : Int))
    clear hsame
    by_cases hax : a < D.length
    · have w3 : IntKind.i64.wrap ((a : Int) + 1) = (a : Int) + 1 := wrap64 (by omega) (by omega)
      obtain ⟨r1, r2, r3, r4⟩ := rd.row e1_len hax
      obtain ⟨t1, t2, t3, t4⟩ := rl.row e1_len hax
      simp [g15, g20, g115, h116, hax, r1, r3, t1, t3, e1, w3]
      exact Round.mk (D.length - (a + 1)) _ (by omega) (sub_self _) (hJ _ _ _ ⟨a + 1, by omega, rfl, by simp, rfl⟩)
    · have : a = D.length := by omega
      subst this
      simp [g115, h116]
  rintro env7 st15 hsame rfl
  have g10 := (hsame.get 10 rfl).trans (by simp [g10] : _ = vw)
  have g21 := (hsame.get 21 rfl).trans (by simp : _ = va)
  clear hsame
  simp [g10, rw'.len]
  refine vc_joinB (M := fun env' st' => st' = st15) ?_ ?_
  · refine vc_loopJ (fun k env' st' => ∃ a : Nat, a ≤ X.length ∧ k = X.length - a ∧ env' 131 = .int .i64 (a : Nat) ∧ st' = st15) X.length
      ⟨0, by omega, by omega, by simp, rfl⟩ ?_
    rintro J hJ k env8 st16 hsame ⟨a, ha, rfl, h131, rfl⟩
    have g10 := (hsame.get 10 rfl).trans (by simp [g10] : _ = vw)
    have g21 := (hsame.get 21 rfl).trans (by simp [g21] : _ = va)
    have g130 := (hsame.get 130 rfl).trans (by simp : _ = V.int .i64 (X.length : Int))
    clear hsame
    by_cases hax : a < X.length
    · have w3 : IntKind.i64.wrap ((a : Int) + 1) = (a : Int) + 1 := wrap64 (by omega) (by omega)
      obtain ⟨r1, r2, r3, r4⟩ := ra.row e1_len hax
      obtain ⟨t1, t2, t3, t4⟩ := rw'.row e1_len hax
      simp [g10, g21, g130, h131, hax, r1, r3, t1, t3, e1, w3]
      exact Round.mk (X.length - (a + 1)) _ (by omega) (sub_self _) (hJ _ _ _ ⟨a + 1, by omega, rfl, by simp, rfl⟩)
    · have : a = X.length := by omega
      subst this
      simp [g130, h131]
  rintro env8 st16 hsame rfl
  simp
  exact sub_trans hsub1 hwas
end
end Go.Ab

import Derived.Test.YtigmjhijbdpfkaaG5
import Derived.Test.YtigmjhijbdpfkaaG4
set_option linter.unusedSimpArgs false
set_option linter.unusedVariables false
set_option maxRecDepth 10000
namespace Go.Ab
open Go Go.RowKit
section
variable {P : Program} {F : Fn}
def tgtR (b : W32) : V := match tgt b with | some t => .tup [nU (natU t), .bool true] | none => .tup [nU 0#256, .bool false]
theorem and_word (b : W32) : (b &&& 8388607#32).toNat = b.toNat % 8388608 := by
  rw [BitVec.toNat_and]
  exact Nat.and_two_pow_sub_one_eq_mod b.toNat 23
theorem and_bit (b : W32) : ((b &&& 8388608#32) != 0#32) = decide (8388608 ≤ b.toNat % 16777216) := by
  have h2 : b.getLsbD 23 = decide (8388608 ≤ b.toNat % 16777216) := by
    rw [BitVec.getLsbD, Nat.testBit_eq_decide_div_mod_eq]
    congr 1
    rw [eq_iff_iff]
    show b.toNat / 8388608 % 2 = 1 ↔ _
    omega
  rw [show (8388608#32) = BitVec.twoPow 32 23 from rfl, BitVec.and_twoPow, ← h2]
  cases b.getLsbD 23 <;> rfl
set_option maxHeartbeats 2000000 in
theorem spec135 (ok : OkHead P F) (st : St) (b : W32) : ACalls P (F 135) [w32 b] st fun v st' => v = tgtR b ∧ st' = st := by
  have okn := ok.toOkNum
  have hb := b.isLt
  refine shows_call ok.mixed ok.h135 (by simp [k135]) ?_
  simp only [k135, eU_zero0]
  simp
  intro rid hrid
  have S := (Sep.start st).new hrid (.cells (eU 0#256))
  generalize st.upd rid _ = st1 at S ⊢
  have hsp : ∀ x y : U, spliceV (eU x) 0 (eU y) = eU y := fun _ _ => rfl
  have oR := S.get
  have hz : fillV (eU 0#256) [] = some (eU 0#256) := rfl
  have hst : ∀ x : U, storeS st1 4 (.ptr (some (rid, 0))) (nU x) = some (st1.upd rid (.cells (eU x))) := fun x => by
    simp [storeS, oR, nU, eU_len, hsp]
  obtain ⟨size, hsize⟩ : ∃ n, n = b.toNat / 16777216 := ⟨_, rfl⟩
  obtain ⟨word, hword⟩ : ∃ n, n = b.toNat % 16777216 := ⟨_, rfl⟩
  have hsz : (b >>> 24).toNat = size := by rw [BitVec.toNat_ushiftRight, Nat.shiftRight_eq_div_pow, hsize]
  have hw8 : (b &&& 8388607#32).toNat = b.toNat % 8388608 := and_word b
  obtain ⟨X, hX⟩ : ∃ X : W, X = (b &&& 8388607#32).setWidth 64 := ⟨_, rfl⟩
  have hXn : X.toNat = b.toNat % 8388608 := by
    rw [hX, BitVec.toNat_setWidth, hw8]
    exact Nat.mod_eq_of_lt (by omega)
  have hX0 : (X == 0#64) = decide (b.toNat % 8388608 = 0) := by
    rw [Bool.eq_iff_iff, beq_iff_eq, decide_eq_true_eq]
    constructor
    · intro h; rw [← hXn, h]; rfl
    · intro h; apply BitVec.eq_of_toNat_eq; rw [hXn, h]; rfl
  have hbit := and_bit b
  have hcv : convV .i64 (w32 (b >>> 24)) = some (.int .i64 (size : Nat)) := by rw [conv_32_i, hsz]
  have w0 : word % 8388608 = b.toNat % 8388608 := by omega
  simp [-conv_32_i, hcv, ← hX, hX0]
  by_cases h0 : b.toNat % 8388608 = 0
  · have e : tgtR b = .tup [nU 0#256, .bool false] := by
      have : tgt b = none := by
        unfold tgt
        rw [if_pos (by omega)]
      rw [tgtR, this]
    simp [h0, hz, storeS, oR, eU_len, hsp, St.seg, segU, e]
    exact ⟨(S.set (.cells (eU 0#256))).was' (by simp), rfl⟩
  by_cases h1 : 8388608 ≤ b.toNat % 16777216
  · have e : tgtR b = .tup [nU 0#256, .bool false] := by
      have : tgt b = none := by
        unfold tgt
        rw [if_pos (by omega)]
      rw [tgtR, this]
    simp [h0, h1, hbit, hz, storeS, oR, eU_len, hsp, St.seg, segU, e]
    exact ⟨(S.set (.cells (eU 0#256))).was' (by simp), rfl⟩
  have hwX : X.toNat = word := by omega
  have htg : tgt b = if tgtV size word = 0 ∨ 2 ^ 256 ≤ tgtV size word then none else some (tgtV size word) := by
    unfold tgt
    rw [if_neg (by omega), ← hsize, ← hword]
  have hszl : size ≤ 255 := by omega
  simp [h0, h1, hbit]
  refine (spec105 okn st1 X).mono ?_
  rintro v st1 ⟨rfl, rfl⟩
  simp
  intro nid hnid
  obtain ⟨N, hN⟩ : ∃ N : U, N = X.setWidth 256 := ⟨_, rfl⟩
  have hNn : N.toNat = word := by
    rw [hN, BitVec.toNat_setWidth, hwX]
    exact Nat.mod_eq_of_lt (by omega)
  rw [← hN]
  have S := S.new hnid (.cells (eU N))
  have hsn : storeS (st1.upd nid (.cells (eU 0#256))) 4 (.ptr (some (nid, 0))) (nU N) = some (st1.upd nid (.cells (eU N))) := by
    simp [storeS, nU, eU_len, hsp]
  simp [hsn]
  generalize st1.upd nid _ = st2 at S ⊢
  have oN := S.get
  have oR := S.mem (i := rid) (o := .cells (eU 0#256)) (by simp)
  have n12 := S.neq (i := nid) (j := rid) 0 1 rfl rfl (by omega)
  by_cases h3 : size ≤ 3
  · have h3' : (size : Int) ≤ 3 := by omega
    have w1 : IntKind.i64.wrap (3 - (size : Int)) = ((3 - size : Nat) : Int) := by rw [wrap64 (by omega) (by omega)]; omega
    have w2 : IntKind.i64.wrap (8 * ((3 - size : Nat) : Int)) = ((8 * (3 - size) : Nat) : Int) := by rw [wrap64 (by omega) (by omega)]; omega
    obtain ⟨m, hm⟩ : ∃ m, m = 3 - size := ⟨_, rfl⟩
    rw [← hm] at w1 w2
    simp [h3', w1, w2, St.seg, oN, segU]
    refine (spec113 okn st2 N (8 * (m : Int))).mono ?_
    rintro v st2 ⟨rfl, rfl⟩
    obtain ⟨R, hR⟩ : ∃ R, R = shrU N (8 * (m : Int)) := ⟨_, rfl⟩
    have hRn : R.toNat = tgtV size word := by
      rw [hR, shrU, if_neg (by omega), BitVec.toNat_ushiftRight, Nat.shiftRight_eq_div_pow, hNn, tgtV, if_pos h3, show (8 * (m : Int)).toNat = 8 * m by omega, hm]
    rw [← hR]
    have hs2 : storeS st2 4 (.ptr (some (nid, 0))) (nU R) = some (st2.upd nid (.cells (eU R))) := by
      simp [storeS, oN, nU, eU_len, hsp]
    have S := S.set (.cells (eU R))
    simp [hs2]
    generalize st2.upd nid _ = st3 at S ⊢
    have oN := S.get
    have oR := S.mem (i := rid) (o := .cells (eU 0#256)) (by simp)
    simp [St.seg, oN, segU]
    refine ⟨_, spec107 okn st3 R, ?_⟩
    have T := S.setAt (.cells (eU R)) 1 rfl
    simp [St.seg, oN, oR, segU, storeS, eU_len, hsp]
    refine ⟨T.was' (by simp), ?_⟩
    rw [tgtR, htg]
    by_cases hz0 : tgtV size word = 0
    · have : R = 0#256 := BitVec.eq_of_toNat_eq (by rw [hRn, hz0]; rfl)
      rw [if_pos (.inl hz0), this]
      simp [nU]
    · have h1 : R ≠ 0#256 := fun e => hz0 (by rw [← hRn, e]; rfl)
      have h2 : R = natU (tgtV size word) := by rw [← hRn, natU, BitVec.ofNat_toNat, BitVec.setWidth_eq]
      have h3 : ¬ 2 ^ 256 ≤ tgtV size word := by rw [← hRn]; exact Nat.not_le.2 R.isLt
      rw [if_neg (by rintro (h | h); exact hz0 h; exact h3 h)]
      simp only
      rw [← h2]
      simp [nU, h1]
  · have h3' : ¬ (size : Int) ≤ 3 := by omega
    have w1 : IntKind.i64.wrap ((size : Int) - 3) = ((size - 3 : Nat) : Int) := by rw [wrap64 (by omega) (by omega)]; omega
    have w2 : IntKind.i64.wrap (8 * ((size - 3 : Nat) : Int)) = ((8 * (size - 3) : Nat) : Int) := by rw [wrap64 (by omega) (by omega)]; omega
    obtain ⟨m, hm⟩ : ∃ m, m = size - 3 := ⟨_, rfl⟩
    rw [← hm] at w1 w2
    have hbl : bitlen word ≤ 24 := bitlen_le.2 (by show word < 16777216; omega)
    have w3 : IntKind.i64.wrap ((bitlen word : Int) + 8 * (m : Int)) = (bitlen word : Int) + 8 * (m : Int) := wrap64 (by omega) (by omega)
    have hw0 : 0 < word := by omega
    have htv : tgtV size word = word * 2 ^ (8 * m) := by rw [tgtV, if_neg h3, hm]
    have hfit : bitlen word + 8 * m ≤ 256 ↔ tgtV size word < 2 ^ 256 := by
      have : bitlen (tgtV size word) = bitlen word + 8 * m := by
        have := bitlen_add (n := word) (k := 8 * m) (m := 0) (Nat.two_pow_pos _) hw0
        rwa [Nat.add_zero, ← htv] at this
      rw [← this, bitlen_le]
    have hne : tgtV size word ≠ 0 := by
      rw [htv]
      exact Nat.ne_of_gt (Nat.mul_pos hw0 (Nat.two_pow_pos _))
    simp [h3', w1, w2, St.seg, oN, segU]
    refine (spec114 okn st2 N).mono ?_
    rintro v st2 ⟨rfl, rfl⟩
    rw [hNn]
    by_cases hb : (256 : Int) < (bitlen word : Int) + 8 * (m : Int)
    · have hbig : 2 ^ 256 ≤ tgtV size word := by
        have := mt hfit.2 (by omega)
        omega
      have e : tgtR b = .tup [nU 0#256, .bool false] := by
        rw [tgtR, htg, if_pos (.inr hbig)]
      have T := S.setAt (.cells (eU 0#256)) 1 rfl
      simp [w1, w2, w3, hb, hz, storeS, oR, eU_len, hsp, St.seg, segU, e]
      exact ⟨T.was' (by simp), rfl⟩
    · simp [w1, w2, w3, hb, St.seg, oN, segU]
      refine (spec112 okn st2 N (8 * (m : Int))).mono ?_
      rintro v st2 ⟨rfl, rfl⟩
      obtain ⟨R, hR⟩ : ∃ R, R = shlU N (8 * (m : Int)) := ⟨_, rfl⟩
      have hlt := hfit.1 (by omega)
      have hm31 : 8 * m ≤ 255 := by
        have := bitlen_pos.2 hw0
        omega
      have hRn : R = natU (tgtV size word) := by
        apply BitVec.eq_of_toNat_eq
        rw [natU_nat hlt, hR, shlU, if_neg (by omega), BitVec.toNat_shiftLeft, Nat.shiftLeft_eq, hNn, show (8 * (m : Int)).toNat = 8 * m by omega, htv]
        exact Nat.mod_eq_of_lt (by rw [← htv]; exact hlt)
      rw [← hR]
      have T := S.setAt (.cells (eU R)) 1 rfl
      have e : tgtR b = .tup [nU R, .bool true] := by
        rw [tgtR, htg, if_neg (by omega), hRn]
      have hs2 : storeS st2 4 (.ptr (some (rid, 0))) (nU R) = some (st2.upd rid (.cells (eU R))) := by
        simp [storeS, oR, nU, eU_len, hsp]
      simp [hs2, St.seg, segU, e]
      exact ⟨T.was' (by simp), rfl⟩
end
end Go.Ab
set_option linter.unusedSimpArgs false
set_option linter.unusedVariables false
set_option maxRecDepth 10000
namespace Go.Ab
open Go Go.RowKit
section
variable {P : Program} {F : Fn}
end
end Go.Ab
set_option linter.unusedSimpArgs false
set_option linter.unusedVariables false
set_option maxRecDepth 10000
namespace Go.Ab
open Go Go.RowKit
section
variable {P : Program} {F : Fn}
theorem gtr_cmp (a b : U) : decide (0 < cmpU a b) = decide (b.toNat < a.toNat) := by
  congr 1
  rw [eq_iff_iff]
  unfold cmpU
  constructor
  · intro h
    split at h
    · omega
    · split at h
      · omega
      · rename_i h1 h2
        have : a.toNat ≠ b.toNat := fun e => h2 (BitVec.eq_of_toNat_eq e)
        omega
  · intro h
    rw [if_neg (by omega), if_neg (by rintro rfl; omega)]
    omega
end
end Go.Ab
set_option linter.unusedVariables false
namespace Go.Ab
open Go
end Go.Ab
set_option linter.unusedVariables false
namespace Go.Ab
open Go
end Go.Ab
set_option linter.unusedSimpArgs false
set_option linter.unusedVariables false
set_option maxRecDepth 10000
namespace Go.Ab
open Go Go.RowKit
section
variable {P : Program} {F : Fn}
end
end Go.Ab
set_option linter.unusedSimpArgs false
set_option linter.unusedVariables false
set_option maxRecDepth 10000
namespace Go.Ab
open Go Go.RowKit
section
variable {P : Program} {F : Fn}
end
end Go.Ab
set_option linter.unusedSimpArgs false
set_option linter.unusedVariables false
namespace Go.Ab
open Go Go.RowKit
end Go.Ab
set_option linter.unusedSimpArgs false
set_option linter.unusedVariables false
set_option maxRecDepth 10000
namespace Go.Ab
open Go Go.RowKit
section
variable {P : Program} {F : Fn}
theorem hseg0 (h : Hdr) : segOf (eHdr h) 0 1 = some [w32 h.ver] := by
  simp [segOf, eHdr, eId_len]
theorem hdrop1 (h : Hdr) : (eHdr h).drop 1 = eId h.prev ++ (eId h.root ++ [w32 h.time, w32 h.bits, w32 h.nonce]) := rfl
theorem hdrop33 (h : Hdr) : (eHdr h).drop 33 = eId h.root ++ [w32 h.time, w32 h.bits, w32 h.nonce] := by
  rw [show 33 = 1 + 32 from rfl, ← List.drop_drop, hdrop1, List.drop_left' (eId_len _)]
theorem hdrop65 (h : Hdr) : (eHdr h).drop 65 = [w32 h.time, w32 h.bits, w32 h.nonce] := by
  rw [show 65 = 33 + 32 from rfl, ← List.drop_drop, hdrop33, List.drop_left' (eId_len _)]
theorem hdrop66 (h : Hdr) : (eHdr h).drop 66 = [w32 h.bits, w32 h.nonce] := by
  rw [show 66 = 65 + 1 from rfl, ← List.drop_drop, hdrop65]; rfl
theorem hdrop67 (h : Hdr) : (eHdr h).drop 67 = [w32 h.nonce] := by
  rw [show 67 = 65 + 2 from rfl, ← List.drop_drop, hdrop65]; rfl
theorem seg_of_drop {cs : List V} {off sz : Nat} {ys zs : List V} (h : cs.drop off = ys ++ zs) (hl : ys.length = sz) (hp : 0 < sz) : segOf cs off sz = some ys := by
  have hlen := congrArg List.length h
  rw [List.length_drop, List.length_append] at hlen
  rw [segOf, if_pos (by omega), h, ← hl, List.take_left]
theorem hsegPrev (h : Hdr) : segOf (eHdr h) 1 32 = some (eId h.prev) := seg_of_drop (hdrop1 h) (eId_len _) (by omega)
theorem hsegRoot (h : Hdr) : segOf (eHdr h) 33 32 = some (eId h.root) := seg_of_drop (hdrop33 h) (eId_len _) (by omega)
theorem hsegTime (h : Hdr) : segOf (eHdr h) 65 1 = some [w32 h.time] := seg_of_drop (zs := [w32 h.bits, w32 h.nonce]) (hdrop65 h) rfl (by omega)
theorem hsegBits (h : Hdr) : segOf (eHdr h) 66 1 = some [w32 h.bits] := seg_of_drop (zs := [w32 h.nonce]) (hdrop66 h) rfl (by omega)
theorem hsegNonce (h : Hdr) : segOf (eHdr h) 67 1 = some [w32 h.nonce] := seg_of_drop (zs := []) (hdrop67 h) rfl (by omega)
theorem hsegAll (h : Hdr) : segOf (eHdr h) 0 68 = some (eHdr h) := by
  rw [segOf, if_pos (by rw [eHdr_len]; omega), List.drop_zero, List.take_of_length_le (by rw [eHdr_len]; omega)]
theorem spec139 (ok : OkHead P F) {st : St} {s : V} {l : List UInt8} {L : List Asn} (h : Sep (Slx 1 e8 s l :: L) st) (hl : l.length ≤ 1000) (x : W32) :
    ACalls P (F 139) [s, w32 x] st fun v st' => Sep (Slx 1 e8 v (l ++ le4 x) :: L) st' := by
  refine shows_call ok.mixed ok.h139 (by simp [k139]) ?_
  simp only [k139]
  have hr : fillV (repV [w8 0] 4) [(0, 1, w8 (UInt8.ofBitVec (x.setWidth 8))), (1, 1, w8 (UInt8.ofBitVec ((x >>> 8).setWidth 8))), (2, 1, w8 (UInt8.ofBitVec ((x >>> 16).setWidth 8))), (3, 1, w8 (UInt8.ofBitVec ((x >>> 24).setWidth 8)))] = some (rowsOf e8 (le4 x)) := rfl
  simp [hr]
  have he : elems st 1 (.sl .full (rowsOf e8 (le4 x)) 4) = some (rowsOf e8 (le4 x), (le4 x).length) := rfl
  rw [he]
  refine Sep.appx (b := 1) e8_len (by omega) h (m := le4 x) (by simp [le4]; omega) ?_
  intro s' st' S'
  simp
  exact ⟨st', sub_self _, S'⟩
set_option maxHeartbeats 1000000 in
theorem spec140 (ok : OkHead P F) (st : St) (h : Hdr) : ACalls P (F 140) [.agg (eHdr h)] st fun v st' => Sep [Slx 1 e8 v (hBytes h), Was st] st' := by
  refine shows_call ok.mixed ok.h140 (by simp [k140]) ?_
  simp only [k140]
  simp
  intro i1 h1
  have S := (Sep.start st).new h1 (.cells (eHdr h))
  generalize st.upd i1 _ = st1 at S ⊢
  have o1 := S.get
  simp [Conf, St.seg, o1, hseg0, mkslS, mkNew, repV]
  intro i4 h4
  have S := S.new h4 (.cells [])
  generalize st1.upd i4 _ = st2 at S ⊢
  have S := S.head (A' := Slx 1 e8 (.hsl i4 0 1 0) []) fun g hg => .inr ⟨i4, rfl, hg⟩
  refine (spec139 ok S (by simp) h.ver).mono ?_
  intro v st3 S
  simp
  have o1 := S.mem (i := i1) (o := .cells (eHdr h)) (by
    simp)
  have S := S.setAt (.ro (eHdr h)) 1 rfl
  simp [frzP, frzV, frzOb, o1]
  generalize st3.upd i1 _ = st4 at S ⊢
  have p1 : segOf (eHdr h).tail 0 32 = some (eId h.prev) := seg_of_drop (by rw [List.drop_zero, ← List.drop_one]; exact hdrop1 h) (eId_len _) (by omega)
  have p2 : segOf ((eHdr h).drop 33) 0 32 = some (eId h.root) := seg_of_drop (by rw [List.drop_zero]; exact hdrop33 h) (eId_len _) (by omega)
  have t1 : List.take 32 (eId h.prev) = rowsOf e8 h.prev.toList := by rw [← eId_rows, List.take_of_length_le (by rw [eId_len]; omega)]
  have t2 : List.take 32 (eId h.root) = rowsOf e8 h.root.toList := by rw [← eId_rows, List.take_of_length_le (by rw [eId_len]; omega)]
  have e1 : ∀ (s : St) (x : Id), elems s 1 (.sl .full (rowsOf e8 x.toList) 32) = some (rowsOf e8 x.toList, x.toList.length) := fun s x => by
    have : (rowsOf e8 x.toList).length = 32 := by rw [rowsOf_length e8_len]; simp
    simp [elems, this]
  simp [Conf, slArrV, bounds, opV, p1, p2, t1, t2, e1]
  refine Sep.appx' (b := 1) e8_len (by omega) S h.prev.toList rfl (by simp) (by simp [le4]) ?_
  intro s5 st5 S
  simp [e1]
  refine Sep.appx' (b := 1) e8_len (by omega) S h.root.toList rfl (by simp) (by simp [le4]) ?_
  intro s6 st6 S
  have q1 : segOf ((eHdr h).drop 65) 0 1 = some [w32 h.time] := seg_of_drop (zs := [w32 h.bits, w32 h.nonce]) (by rw [List.drop_zero]; exact hdrop65 h) rfl (by omega)
  have q2 : segOf ((eHdr h).drop 66) 0 1 = some [w32 h.bits] := seg_of_drop (zs := [w32 h.nonce]) (by rw [List.drop_zero]; exact hdrop66 h) rfl (by omega)
  have q3 : segOf ((eHdr h).drop 67) 0 1 = some [w32 h.nonce] := seg_of_drop (zs := []) (by rw [List.drop_zero]; exact hdrop67 h) rfl (by omega)
  simp [q1, q2, q3]
  refine (spec139 ok S (by simp [le4]) h.time).mono ?_
  intro v7 st7 S
  simp
  refine (spec139 ok S (by simp [le4]) h.bits).mono ?_
  intro v8 st8 S
  simp
  refine (spec139 ok S (by simp [le4]) h.nonce).mono ?_
  intro v9 st9 S
  simp
  refine ⟨_, sub_self _, ?_⟩
  have hb : [] ++ le4 h.ver ++ h.prev.toList ++ h.root.toList ++ le4 h.time ++ le4 h.bits ++ le4 h.nonce = hBytes h := by simp [hBytes]
  rw [hb] at S
  exact Sep.tail (fun r hr => hr.drop) S
theorem spec141 (ok : OkHead P F) (st : St) (h : Hdr) : ACalls P (F 141) [.agg (eHdr h)] st fun v st' => v = .agg (eId (hId h)) ∧ st' = st := by
  have okh := ok.toOkHash
  refine shows_call ok.mixed ok.h141 (by simp [k141]) ?_
  simp only [k141]
  simp
  intro i1 h1
  have S := (Sep.start st).new h1 (.cells (eHdr h))
  generalize st.upd i1 _ = st1 at S ⊢
  simp
  intro i2 h2
  have S := S.new h2 (.cells zR32_w80)
  generalize st1.upd i2 _ = st2 at S ⊢
  have o1 := S.mem (i := i1) (o := .cells (eHdr h)) (by simp)
  simp [St.seg, o1, hsegAll]
  refine (Sep.call (S.put (A := Was fun _ => none) rfl) (fun g hg => by rw [hg]; exact spec140 ok _ h)).mono ?_
  intro v st3 S3
  have rd : Rd 1 e8 v (hBytes h) st3 := by
    obtain ⟨g, k1, k2⟩ := S3.part
    exact (Sep.rd e8_len (k2.head fun h hh => hh.sl)).sub k1
  have S := S3.drop
  have hp : Parts st3 [v] [hBytes h] := .cons rd .nil
  have hfl : fillV (repV [.sl .nil [] 0] 1) [(0, 1, v)] = some [v] := by
    rcases rd with ⟨k, rfl⟩ | ⟨_, _, rfl, _⟩ <;> rfl
  simp [hfl]
  have hc := spec104 okh st3 hp .full (by simp [hBytes_len]) (by simp)
  refine hc.mono ?_
  rintro w st3 ⟨rfl, rfl⟩
  have o2 := S.mem (i := i2) (o := .cells zR32_w80) (by simp)
  have hst := store_z32 o2 (sha2 ([hBytes h].flatten))
  have T := S.setAt (.cells (eId (sha2 ([hBytes h].flatten)))) 0 rfl
  have hf : [hBytes h].flatten = hBytes h := by simp
  rw [hf] at hst T ⊢
  simp [hst, St.seg, segId0]
  exact ⟨T.was' (by simp), rfl⟩
end
end Go.Ab
set_option linter.unusedSimpArgs false
set_option linter.unusedVariables false
set_option maxRecDepth 10000
namespace Go.Ab
open Go Go.RowKit
section
variable {P : Program} {F : Fn}
@[simp high] theorem bin8_eql (a b : UInt8) : binV .eql (w8 a) (w8 b) = some (.bool (a == b)) := by
  simp only [w8, binV, binI, if_true]
  congr 2
  by_cases h : a = b
  · simp [h]
  · have : (a == b) = false := by simp [h]
    rw [this]
    have h2 : a.toNat ≠ b.toNat := fun e => h (UInt8.toNat_inj.1 e)
    simp; omega
def h8 (b : UInt8) (q : Nat) : UInt8 := UInt8.ofNat (b.toNat / 2 ^ q)
theorem h8_nat (b : UInt8) (q : Nat) : (h8 b q).toNat = b.toNat / 2 ^ q := by
  have := b.toNat_lt
  have : b.toNat / 2 ^ q ≤ b.toNat := Nat.div_le_self _ _
  simp [h8]
  omega
@[simp high] theorem h8_rem (b : UInt8) (q : Nat) : binV .rem (w8 (h8 b q)) (w8 2) = some (w8 (UInt8.ofNat (b.toNat / 2 ^ q % 2))) := by
  simp only [w8, binV, binI, if_true, h8_nat]
  rw [if_neg (by decide)]
  have e2 : ((2 : UInt8).toNat : Int) = ((2 : Nat) : Int) := rfl
  rw [e2, tmod_nat]
  congr 3
  have := Nat.mod_lt (b.toNat / 2 ^ q) (show 0 < 2 by omega)
  simp
  omega
@[simp high] theorem h8_quo (b : UInt8) (q : Nat) : binV .quo (w8 (h8 b q)) (w8 2) = some (w8 (h8 b (q + 1))) := by
  have hb := b.toNat_lt
  have hd : b.toNat / 2 ^ q ≤ b.toNat := Nat.div_le_self _ _
  simp only [w8, binV, binI, if_true, h8_nat]
  rw [if_neg (by decide)]
  have e2 : ((2 : UInt8).toNat : Int) = ((2 : Nat) : Int) := rfl
  rw [e2, tdiv_nat, wrap_u8, Nat.pow_succ, ← Nat.div_div_eq_div_mul]
  congr 2
  rw [UInt8.toNat_ofBitVec, BitVec.ofInt_natCast, BitVec.toNat_ofNat]
  generalize b.toNat / 2 ^ q = m at hd ⊢
  omega
end
end Go.Ab
set_option linter.unusedSimpArgs false
set_option linter.unusedVariables false
namespace Go.Ab
open Go Go.RowKit
structure Nd where
  hdr : Hdr
  id : Id
  parent : Int
  skip : Nat
  height : Nat
  work : Nat
  failed : Bool
  deriving DecidableEq
def skipH (h : Nat) : Nat := if h < 2 then 0 else if h % 2 = 1 then ((h - 1) &&& (h - 2)) + 1 else h &&& (h - 1)
def hgt (l : List Nd) (i : Nat) : Nat := ((l[i]?).map (·.height)).getD 0
def par (l : List Nd) (i : Nat) : Nat := ((l[i]?).map (·.parent.toNat)).getD 0
def upN (l : List Nd) : Nat → Nat → Nat
  | 0, i => i
  | n + 1, i => upN l n (par l i)
def anc (l : List Nd) (i h : Nat) : Nat := upN l (hgt l i - h) i
structure Wf (l : List Nd) : Prop where
  ne : 0 < l.length
  zero : ∀ x : Nd, l[0]? = some x → x.parent = -1 ∧ x.height = 0
  succ : ∀ (i : Nat) (x : Nd), 0 < i → l[i]? = some x → 0 ≤ x.parent ∧ x.parent < (i : Int) ∧ x.height = hgt l x.parent.toNat + 1
  skip : ∀ (i : Nat) (x : Nd), 0 < i → l[i]? = some x → x.skip = anc l x.parent.toNat (skipH x.height)
section
variable {l : List Nd} (w : Wf l)
include w
theorem Wf.par_lt {i : Nat} (h0 : 0 < i) (hi : i < l.length) : par l i < i := by
  have h := w.succ i l[i] h0 (List.getElem?_eq_getElem hi)
  simp only [par, List.getElem?_eq_getElem hi, Option.map_some, Option.getD_some]
  omega
theorem Wf.hgt_par {i : Nat} (h0 : 0 < i) (hi : i < l.length) : hgt l i = hgt l (par l i) + 1 := by
  have h := w.succ i l[i] h0 (List.getElem?_eq_getElem hi)
  have e : par l i = l[i].parent.toNat := by simp [par, hi]
  rw [e, ← h.2.2]
  simp [hgt, hi]
theorem Wf.hgt_zero : hgt l 0 = 0 := by
  have e := List.getElem?_eq_getElem w.ne
  have h := w.zero _ e
  rw [hgt, e, Option.map_some, Option.getD_some, h.2]
theorem Wf.pos_of_hgt {i : Nat} (h : 0 < hgt l i) : 0 < i := by
  rcases Nat.eq_zero_or_pos i with e | e
  · rw [e, w.hgt_zero] at h; omega
  · exact e
theorem Wf.up {n i : Nat} (hi : i < l.length) (hn : n ≤ hgt l i) : upN l n i < l.length ∧ hgt l (upN l n i) = hgt l i - n ∧ upN l n i ≤ i := by
  induction n generalizing i with
  | zero => exact ⟨hi, rfl, Nat.le_refl _⟩
  | succ n ih =>
    have hp := w.pos_of_hgt (i := i) (by omega)
    have h1 := w.par_lt hp hi
    have h2 := w.hgt_par hp hi
    obtain ⟨a, b, c⟩ := ih (i := par l i) (by omega) (by omega)
    exact ⟨a, by rw [upN, b]; omega, by rw [upN]; omega⟩
omit w in
omit w in
end
theorem hgt_append {l : List Nd} {m : List Nd} {i : Nat} (hi : i < l.length) : hgt (l ++ m) i = hgt l i := by
  simp [hgt, List.getElem?_append_left hi]
theorem par_append {l : List Nd} {m : List Nd} {i : Nat} (hi : i < l.length) : par (l ++ m) i = par l i := by
  simp [par, List.getElem?_append_left hi]
theorem upN_append {l : List Nd} (w : Wf l) {m : List Nd} {n i : Nat} (hi : i < l.length) (hn : n ≤ hgt l i) : upN (l ++ m) n i = upN l n i := by
  induction n generalizing i with
  | zero => rfl
  | succ n ih =>
    have hp := w.pos_of_hgt (i := i) (by omega)
    have h1 := w.par_lt hp hi
    have h2 := w.hgt_par hp hi
    rw [upN, upN, par_append hi]
    exact ih (by omega) (by omega)
theorem anc_append {l : List Nd} (w : Wf l) {m : List Nd} {i h : Nat} (hi : i < l.length) : anc (l ++ m) i h = anc l i h := by
  rw [anc, anc, hgt_append hi, upN_append w hi (Nat.sub_le _ _)]
theorem Wf.push {l : List Nd} (w : Wf l) {x : Nd} {p : Nat} (hp : p < l.length) (h1 : x.parent = p) (h2 : x.height = hgt l p + 1) (h3 : x.skip = anc l p (skipH x.height)) : Wf (l ++ [x]) := by
  refine ⟨by simp, fun y hy => ?_, fun i y hi hy => ?_, fun i y hi hy => ?_⟩
  · rw [List.getElem?_append_left w.ne] at hy
    exact w.zero y hy
  · by_cases hl : i < l.length
    · rw [List.getElem?_append_left hl] at hy
      have := w.succ i y hi hy
      refine ⟨this.1, this.2.1, ?_⟩
      rw [this.2.2, hgt_append]
      omega
    · have : i = l.length := by
        have := (List.getElem?_eq_some_iff.1 hy).1
        simp at this
        omega
      subst this
      rw [List.getElem?_append_right (Nat.le_refl _), Nat.sub_self] at hy
      cases hy
      refine ⟨by omega, by omega, ?_⟩
      rw [h1, h2, Int.toNat_natCast, hgt_append hp]
  · by_cases hl : i < l.length
    · rw [List.getElem?_append_left hl] at hy
      have := w.succ i y hi hy
      rw [w.skip i y hi hy, anc_append w (by omega)]
    · have : i = l.length := by
        have := (List.getElem?_eq_some_iff.1 hy).1
        simp at this
        omega
      subst this
      rw [List.getElem?_append_right (Nat.le_refl _), Nat.sub_self] at hy
      cases hy
      rw [h1, h3, Int.toNat_natCast, anc_append w hp]
def findM : List Nd → Id → Option Nat
  | [], _ => none
  | x :: l, id => match findM l id with
    | some i => some (i + 1)
    | none => if x.id = id then some 0 else none
structure Rl where
  limit : W32
  every : Int
  spacing : Int
  subsidy : Int
  work : Int
  gen : Hdr
  txs : V
end Go.Ab
set_option linter.unusedSimpArgs false
set_option linter.unusedVariables false
set_option maxRecDepth 10000
namespace Go.Ab
open Go Go.RowKit
section
variable {P : Program} {F : Fn}
theorem tgtR_cases (b : W32) : ∃ (T : U) (t : Bool), tgtR b = .tup [nU T, .bool t] ∧ (t = false → tgt b = none) ∧ (t = true → tgt b = some T.toNat) := by
  unfold tgtR
  cases h : tgt b with
  | none => exact ⟨0#256, false, rfl, fun _ => rfl, fun h => by cases h⟩
  | some t => exact ⟨natU t, true, rfl, fun h => (by cases h), fun _ => (by rw [natU_nat (tgt_lt h).2])⟩
set_option maxHeartbeats 2000000 in
theorem spec142 (ok : OkHead P F) (st : St) (h : Hdr) (limit : W32) : ACalls P (F 142) [.agg (eHdr h), w32 limit] st fun v st' => v = .int .i64 (provedN h limit) ∧ st' = st := by
  have okn := ok.toOkNum
  refine shows_call ok.mixed ok.h142 (by simp [k142]) ?_
  have hsp : ∀ x y : U, spliceV (eU x) 0 (eU y) = eU y := fun _ _ => rfl
  simp only [k142]
  simp
  intro i2 h2
  have S := (Sep.start st).new h2 (.cells (eHdr h))
  generalize st.upd i2 _ = st1 at S ⊢
  have o2 := S.get
  simp [St.seg, o2, hsegBits]
  refine (spec135 ok st1 h.bits).mono ?_
  rintro v st1 ⟨rfl, rfl⟩
  obtain ⟨A, a, hA1, hA2, hA3⟩ := tgtR_cases h.bits
  rw [hA1, eU_zero]
  simp
  intro i5 h5
  have S := S.new h5 (.cells (eU A))
  have hs5 : storeS (st1.upd i5 (.cells (eU 0#256))) 4 (.ptr (some (i5, 0))) (nU A) = some (st1.upd i5 (.cells (eU A))) := by
    simp [storeS, nU, eU_len, hsp]
  simp [hs5]
  generalize st1.upd i5 _ = st2 at S ⊢
  refine (spec135 ok st2 limit).mono ?_
  rintro v st2 ⟨rfl, rfl⟩
  obtain ⟨B, b, hB1, hB2, hB3⟩ := tgtR_cases limit
  rw [hB1]
  simp
  intro i7 h7
  have S := S.new h7 (.cells (eU B))
  have hs7 : storeS (st2.upd i7 (.cells (eU 0#256))) 4 (.ptr (some (i7, 0))) (nU B) = some (st2.upd i7 (.cells (eU B))) := by
    simp [storeS, nU, eU_len, hsp]
  simp [hs7]
  generalize st2.upd i7 _ = st3 at S ⊢
  have sub : St.sub st st3 := S.was' (by simp)
  cases a with
  | false =>
    have e : provedN h limit = 30 := by simp [provedN, hA2 rfl]
    simp [e, sub]
  | true =>
    cases b with
    | false =>
      have e : provedN h limit = 30 := by simp [provedN, hB2 rfl, hA3 rfl]
      simp [e, sub]
    | true =>
      have e : provedN h limit = if B.toNat < A.toNat then 30 else if A.toNat < idN (hId h) then 50 else 0 := by
        simp [provedN, hA3 rfl, hB3 rfl]
      have o5 := S.mem (i := i5) (o := .cells (eU A)) (by simp)
      have o7 := S.mem (i := i7) (o := .cells (eU B)) (by simp)
      have o2 := S.mem (i := i2) (o := .cells (eHdr h)) (by simp)
      simp [St.seg, o5, o7, segU]
      refine (spec106 okn st3 A B).mono ?_
      rintro v st3 ⟨rfl, rfl⟩
      have hgt := gtr_cmp A B
      by_cases hl : B.toNat < A.toNat
      · rw [decide_eq_true hl] at hgt
        rw [e, if_pos hl]
        simp [hgt, sub]
      · rw [decide_eq_false hl] at hgt
        rw [e, if_neg hl]
        simp [hgt, St.seg, o2, hsegAll]
        refine ⟨_, spec141 ok st3 h, ?_⟩
        simp
        refine ⟨_, spec117 okn st3 (hId h), ?_⟩
        simp [St.seg, o5, segU]
        refine ⟨_, spec106 okn st3 (BitVec.ofNat 256 (idN (hId h))) A, ?_⟩
        have hgt2 := gtr_cmp (BitVec.ofNat 256 (idN (hId h))) A
        have hid : (BitVec.ofNat 256 (idN (hId h))).toNat = idN (hId h) := natU_nat (idN_lt _)
        rw [hid] at hgt2
        by_cases hl2 : A.toNat < idN (hId h)
        · rw [decide_eq_true hl2] at hgt2
          simp [hgt2, sub, hl2]
        · rw [decide_eq_false hl2] at hgt2
          simp [hgt2, sub, hl2]
def id0 : Id := ⟨⟨List.replicate 32 0⟩, rfl⟩
def hdr0 : Hdr := ⟨0, id0, id0, 0, 0, 0⟩
theorem z68_eq : z68_39b1 = eHdr hdr0 := rfl
def mineR (h : Hdr) (limit : W32) (n : Nat) : V := match mineN h limit n with | some x => .tup [.agg (eHdr x), .bool true] | none => .tup [.agg (eHdr hdr0), .bool false]
def eHpre (h : Hdr) : List V := w32 h.ver :: (eId h.prev ++ (eId h.root ++ [w32 h.time, w32 h.bits]))
theorem eHpre_len (h : Hdr) : (eHpre h).length = 67 := by simp [eHpre, eId_len]
theorem eHdr_pre (h : Hdr) : eHdr h = eHpre h ++ [w32 h.nonce] := by simp [eHdr, eHpre]
theorem splice_nonce (h : Hdr) (n : W32) : spliceV (eHdr h) 67 [w32 n] = eHdr { h with nonce := n } := by
  have hl := eHpre_len h
  rw [eHdr_pre, eHdr_pre]
  show spliceV (eHpre h ++ [w32 h.nonce]) 67 [w32 n] = eHpre h ++ [w32 n]
  unfold spliceV
  rw [← hl, List.take_left]
  simp
theorem splice_hdr (a b : Hdr) : spliceV (eHdr a) 0 (eHdr b) = eHdr b := by
  simp [spliceV, eHdr_len]
set_option maxHeartbeats 1000000 in
theorem spec143 (ok : OkHead P F) (st : St) (h : Hdr) (limit : W32) (tries : Int) : ACalls P (F 143) [.agg (eHdr h), w32 limit, .int .i64 tries] st fun v st' => v = mineR h limit (max 0 (min tries 65536)).toNat ∧ st' = st := by
  refine shows_call ok.mixed ok.h143 (by simp [k143]) ?_
  simp only [k143, z68_eq]
  simp
  intro i3 h3
  have S := (Sep.start st).new h3 (.cells (eHdr h))
  generalize st.upd i3 _ = st1 at S ⊢
  simp
  intro i6 h6
  have S := S.new h6 (.cells (eHdr hdr0))
  generalize st1.upd i6 _ = st2 at S ⊢
  obtain ⟨n, hn⟩ : ∃ n, n = (max 0 (min tries 65536)).toNat := ⟨_, rfl⟩
  rw [← hn]
  have hn6 : n ≤ 65536 := by omega
  have hmn : foldV min2V (.int .i64 tries) [.int .i64 65536] = some (.int .i64 (min tries 65536)) := by
    simp only [foldV, min2V, if_true, Option.bind_some]
    congr 2
    split <;> omega
  have hmx : foldV max2V (.int .i64 0) [.int .i64 (min tries 65536)] = some (.int .i64 (n : Int)) := by
    simp only [foldV, max2V, if_true, Option.bind_some]
    congr 2
    split <;> omega
  simp [hmn, hmx]
  refine vc_loopJ (fun k env' st' => ∃ (i : Nat) (g : Hdr), i ≤ n ∧ k = n - i ∧ env' 11 = .int .i64 (i : Nat) ∧ mineN h limit n = mineN g limit (n - i) ∧ Sep [pt i6 (.cells (eHdr hdr0)), pt i3 (.cells (eHdr g)), Was st] st') n
    ⟨0, h, by omega, by omega, rfl, rfl, S⟩ ?_
  clear S
  rintro J hJ k env' st3 hsame ⟨i, g, hi, rfl, h11, hm, S⟩
  have g1 := hsame.get 1 rfl
  have g3 := hsame.get 3 rfl
  have g6 := hsame.get 6 rfl
  have g10 := hsame.get 10 rfl
  simp at g1 g3 g6 g10
  clear hsame
  have o3 := S.mem (i := i3) (o := .cells (eHdr g)) (by simp)
  have o6 := S.get
  have w1 : IntKind.i64.wrap ((i : Int) + 1) = (i : Int) + 1 := wrap64 (by omega) (by omega)
  by_cases hlt : i < n
  · rw [show n - i = (n - (i + 1)) + 1 by omega, mineN] at hm
    simp [g1, g3, g6, g10, h11, hlt, St.seg, o3, hsegAll]
    refine (spec142 ok st3 g limit).mono ?_
    rintro v st3 ⟨rfl, rfl⟩
    by_cases hp : provedN g limit = 0
    · rw [if_pos hp] at hm
      have T := S.setAt (.cells (eHdr g)) 0 rfl
      simp [hp, g3, g6, St.seg, o3, o6, hsegAll, storeS, eHdr_len, splice_hdr, mineR, hm]
      exact T.was' (by simp)
    · have hp' : (provedN g limit == 0) = false := by simpa using hp
      rw [if_neg hp] at hm
      have T := S.setAt (.cells (eHdr { g with nonce := g.nonce + 1 })) 1 rfl
      simp [hp', g3, St.seg, o3, hsegNonce, storeS, eHdr_len, splice_nonce, h11, w1]
      exact Round.mk (n - (i + 1)) _ (by omega) (sub_self _) (hJ _ _ _ ⟨i + 1, _, by omega, rfl, by simp, hm, T⟩)
  · have : i = n := by omega
    subst this
    rw [Nat.sub_self, mineN] at hm
    have hz : fillV (eHdr hdr0) [] = some (eHdr hdr0) := rfl
    have T := S.setAt (.cells (eHdr hdr0)) 0 rfl
    simp [g6, g10, h11, hz, storeS, o6, eHdr_len, splice_hdr, St.seg, hsegAll, mineR, hm]
    exact T.was' (by simp)
end
end Go.Ab
set_option linter.unusedVariables false
namespace Go.Ab
open Go
end Go.Ab
set_option linter.unusedSimpArgs false
set_option linter.unusedVariables false
set_option maxRecDepth 10000
namespace Go.Ab
open Go Go.RowKit
def eNd (x : Nd) : List V := eHdr x.hdr ++ (eId x.id ++ (.int .i64 x.parent :: .int .i64 x.skip :: .int .i64 x.height :: (eU (natU x.work) ++ [.bool x.failed])))
def eRl (r : Rl) : List V := w32 r.limit :: .int .i64 r.every :: .int .i64 r.spacing :: .int .i64 r.subsidy :: .int .i64 r.work :: (eHdr r.gen ++ [r.txs])
theorem eRl_len (r : Rl) : (eRl r).length = 74 := by simp [eRl, eHdr_len]
section
variable {K A : Type} [DecidableEq K]
def lk (k : K) (l : List (K × A)) : Option A := l.lookup k
theorem lk_cons (k : K) (p : K × A) (l : List (K × A)) : lk k (p :: l) = if k = p.1 then some p.2 else lk k l := by
  obtain ⟨a, b⟩ := p
  unfold lk
  rw [List.lookup_cons]
  by_cases h : k = a
  · have : (k == a) = true := by simp [h]
    simp [h]
  · have : (k == a) = false := by simp [h]
    simp [h, this]
theorem lk_aSet (k k' : K) (v : A) (l : List (K × A)) : lk k (aSet k' v l) = if k = k' then some v else lk k l := by
  induction l with
  | nil => simp [aSet, lk_cons]
  | cons p l ih =>
    unfold aSet
    by_cases h1 : k' = p.1
    · rw [if_pos h1, lk_cons, lk_cons, ← h1]
      by_cases h : k = k' <;> simp [h]
    · rw [if_neg h1, lk_cons, lk_cons, ih]
      by_cases h2 : k = p.1
      · have : ¬ k = k' := by rw [h2]; exact fun e => h1 e.symm
        simp [h2, Ne.symm h1]
      · simp [h2]
theorem lookup_lk {ek : K → V} {ev : A → V} {kk : KK} (hk : Keyed ek kk) {st : St} {id : Nat} {l : List (K × A)} (h : st id = some (.mp (encM ek ev l))) (z : V) (k : K) :
    lookupV st kk z true (.map (some id)) (ek k) = some (.tup [((lk k l).map ev).getD z, .bool (lk k l).isSome]) := by
  rw [lookup_enc hk h, if_pos rfl]; rfl
end
structure TreeAt (tid sid mid : Nat) (spare : List V) (es : List (Id × Int)) (r : Rl) (l : List Nd) (st : St) : Prop where
  top : st tid = some (.cells (eRl r ++ [.hsl sid 0 108 l.length, .map (some mid)]))
  rows : st sid = some (.cells (rowsOf eNd l ++ spare))
  by_ : st mid = some (.mp (encM kId kInt es))
  room : 108 ∣ spare.length
  look : ∀ k, lk k es = (findM l k).map fun (i : Nat) => (i : Int)
def TreeR (tid : Nat) (r : Rl) (l : List Nd) (st : St) : Prop := ∃ sid mid spare es, TreeAt tid sid mid spare es r l st
theorem TreeAt.sub {tid sid mid : Nat} {spare : List V} {es : List (Id × Int)} {r : Rl} {l : List Nd} {st st' : St} (h : TreeAt tid sid mid spare es r l st) (hs : St.sub st st') : TreeAt tid sid mid spare es r l st' :=
  ⟨hs _ _ h.top, hs _ _ h.rows, hs _ _ h.by_, h.room, h.look⟩
theorem TreeR.sub {tid : Nat} {r : Rl} {l : List Nd} {st st' : St} (h : TreeR tid r l st) (hs : St.sub st st') : TreeR tid r l st' := by
  obtain ⟨sid, mid, spare, es, h⟩ := h
  exact ⟨sid, mid, spare, es, h.sub hs⟩
section
variable {l : List Nd} {i : Nat} {spare : List V}
end
section
variable {P : Program} {F : Fn}
end
end Go.Ab
set_option linter.unusedSimpArgs false
set_option linter.unusedVariables false
set_option maxRecDepth 10000
namespace Go.Ab
open Go Go.RowKit
section
variable {P : Program} {F : Fn}
end
end Go.Ab
set_option linter.unusedSimpArgs false
set_option linter.unusedVariables false
set_option maxRecDepth 10000
namespace Go.Ab
open Go Go.RowKit
section
variable {P : Program} {F : Fn}
end
end Go.Ab
set_option linter.unusedSimpArgs false
set_option linter.unusedVariables false
set_option maxRecDepth 10000
namespace Go.Ab
open Go Go.RowKit
theorem hf8 (b : UInt8) : fillV (repV [w8 0] 1) [(0, 1, w8 b)] = some (rowsOf e8 [b]) := rfl
section
variable {P : Program} {F : Fn}
end
end Go.Ab
set_option linter.unusedSimpArgs false
set_option linter.unusedVariables false
set_option maxRecDepth 10000
namespace Go.Ab
open Go Go.RowKit
section
variable {P : Program} {F : Fn}
end
end Go.Ab
set_option linter.unusedSimpArgs false
set_option linter.unusedVariables false
set_option maxRecDepth 10000
namespace Go.Ab
open Go Go.RowKit
theorem splice_right {a t vs : List V} {n k : Nat} (ha : a.length = n) : spliceV (a ++ t) (n + k) vs = a ++ spliceV t k vs := by
  subst ha
  unfold spliceV
  rw [List.take_length_add_append, Nat.add_assoc, List.drop_length_add_append]
  simp only [List.append_assoc]
section
variable {P : Program} {F : Fn}
end
end Go.Ab
set_option linter.unusedSimpArgs false
set_option linter.unusedVariables false
set_option maxRecDepth 10000
namespace Go.Ab
open Go Go.RowKit
section
variable {P : Program} {F : Fn}
end
end Go.Ab
set_option linter.unusedSimpArgs false
set_option linter.unusedVariables false
set_option maxRecDepth 10000
namespace Go.Ab
open Go Go.RowKit
section
variable {f : Nat → Bool} {l : List Nd}
end
section
variable {P : Program} {F : Fn}
end
end Go.Ab
set_option linter.unusedSimpArgs false
set_option linter.unusedVariables false
set_option maxRecDepth 10000
namespace Go.Ab
open Go Go.RowKit
theorem rseg (r : Rl) {o n : Nat} {ys : List V} (h : ((eRl r).drop o).take n = ys) (hl : o + n ≤ 74) : segOf (eRl r) o n = some ys := by
  unfold segOf
  rw [if_pos (by rw [eRl_len]; exact hl), h]
theorem rsegLimit (r : Rl) : segOf (eRl r) 0 1 = some [w32 r.limit] := rseg r rfl (by omega)
theorem rsegSpacing (r : Rl) : segOf (eRl r) 2 1 = some [.int .i64 r.spacing] := rseg r rfl (by omega)
theorem rsegSubsidy (r : Rl) : segOf (eRl r) 3 1 = some [.int .i64 r.subsidy] := rseg r rfl (by omega)
section
variable {P : Program} {F : Fn}
end
end Go.Ab
set_option linter.unusedVariables false
namespace Go.Ab
open Go
end Go.Ab
set_option linter.unusedSimpArgs false
set_option linter.unusedVariables false
set_option maxRecDepth 10000
namespace Go.Ab
open Go Go.RowKit
def rowP (sz : Nat) (s : V) (i : Nat) : V := (idxSlV sz s (.int .i64 (i : Int))).getD .junk
def fldP (o : Nat) (p : V) : V := (fldAV o p).getD .junk
section
variable {α : Type} {f : α → List V} {sz : Nat}
theorem Rd.row (hf : ∀ a, (f a).length = sz) {s : V} {l : List α} {st : St} (h : Rd sz f s l st) {i : Nat} (hi : i < l.length) :
    idxSlV sz s (.int .i64 (i : Int)) = some (rowP sz s i) ∧ fldAV 0 (rowP sz s i) = some (rowP sz s i) ∧ ldCells st sz (rowP sz s i) = some (f l[i]) ∧
      ∀ o n, o + n ≤ sz → fldAV o (rowP sz s i) = some (fldP o (rowP sz s i)) ∧ ldCells st n (fldP o (rowP sz s i)) = some (((f l[i]).drop o).take n) := by
  have hli := hf l[i]
  rcases h with ⟨k, rfl⟩ | ⟨sid, off, rfl, hs⟩
  · have e : idxSlV sz (.sl k (rowsOf f l) l.length) (.int .i64 (i : Int)) = some (.eptr ((rowsOf f l).drop (i * sz))) := by simp [hi]
    have er : rowP sz (.sl k (rowsOf f l) l.length) i = .eptr ((rowsOf f l).drop (i * sz)) := by rw [rowP, e]; rfl
    have hd : (rowsOf f l).drop (i * sz) = f l[i] ++ rowsOf f (l.drop (i + 1)) := by
      rw [rowsOf_drop hf, List.drop_eq_getElem_cons hi, rowsOf_cons]
    rw [er]
    refine ⟨e, by simp, ?_, fun o n hon => ⟨by simp [fldP], ?_⟩⟩
    · rw [ld_eptr, rowsOf_eptr hf l hi]
    · simp only [fldP, fldAV, Option.getD_some, ld_eptr]
      unfold segOf
      rw [hd, if_pos (by simp; omega), List.drop_zero, List.drop_append_of_le_length (by omega), List.take_append_of_le_length (by simp; omega)]
  · have e : idxSlV sz (.hsl sid off sz l.length) (.int .i64 (i : Int)) = some (.ptr (some (sid, off + i * sz))) := by simp [hi]
    have er : rowP sz (.hsl sid off sz l.length) i = .ptr (some (sid, off + i * sz)) := by rw [rowP, e]; rfl
    have hrow : st.seg sid (off + i * sz) sz = some (f l[i]) := by
      rw [seg_at hs hi]
      have := rowsOf_row hf l [] hi
      rw [List.append_nil] at this
      rw [this]
    rw [er]
    refine ⟨e, by simp, by rw [ld_ptr, hrow], fun o n hon => ⟨by simp [fldP], ?_⟩⟩
    simp only [fldP, fldAV, Option.getD_some, ld_ptr]
    unfold St.seg at hrow ⊢
    have key : ∀ cs : List V, segOf cs (off + i * sz) sz = some (f l[i]) → segOf cs (off + i * sz + o) n = some (((f l[i]).drop o).take n) := fun cs hc => by
      unfold segOf at hc ⊢
      split at hc
      · rename_i hle
        have hx := Option.some.inj hc
        rw [if_pos (by omega), ← hx, List.drop_take, List.drop_drop, List.take_take, Nat.min_eq_left (by omega)]
      · cases hc
    split at hrow <;> first | exact key _ hrow | cases hrow
end
abbrev Rw := Nd × SK × List Bool
section
variable {P : Program} {F : Fn}
end
end Go.Ab
set_option linter.unusedSimpArgs false
set_option linter.unusedVariables false
set_option maxRecDepth 10000
namespace Go.Ab
open Go Go.RowKit
structure In1 where
  tx : Id
  ix : W32
  kk : SK
  key : List UInt8
structure Out1 where
  amt : Int
  lock : Id
structure Tx1 where
  ik : SK
  ins : List In1
  uk : SK
  outs : List Out1
def eIn (x : In1) : List V := eId x.tx ++ [w32 x.ix, keyV x.kk x.key]
def eOut (x : Out1) : List V := .int .i64 x.amt :: eId x.lock
theorem eIn_len (x : In1) : (eIn x).length = 34 := by simp [eIn, eId_len]
theorem eOut_len (x : Out1) : (eOut x).length = 33 := by simp [eOut, eId_len]
def insV (t : Tx1) : V := .sl t.ik (rowsOf eIn t.ins) t.ins.length
def outsV (t : Tx1) : V := .sl t.uk (rowsOf eOut t.outs) t.outs.length
def eTx (t : Tx1) : List V := [insV t, outsV t]
theorem eTx_len (t : Tx1) : (eTx t).length = 2 := rfl
def inB (x : In1) : List UInt8 := x.tx.toList ++ (putB 4 (x.ix.setWidth 64) ++ textB x.key)
def outB (x : Out1) : List UInt8 := putB 8 (BitVec.ofInt 64 x.amt) ++ x.lock.toList
def txB (t : Tx1) : List UInt8 := countB (BitVec.ofNat 64 t.ins.length) ++ (t.ins.flatMap inB ++ (countB (BitVec.ofNat 64 t.outs.length) ++ t.outs.flatMap outB))
def txIdM (t : Tx1) : Id := sha2 (txB t)
theorem rd_ins (t : Tx1) (st : St) : Rd 34 eIn (insV t) t.ins st := .inl ⟨t.ik, rfl⟩
theorem rd_outs (t : Tx1) (st : St) : Rd 33 eOut (outsV t) t.outs st := .inl ⟨t.uk, rfl⟩
theorem textB_len (l : List UInt8) : (textB l).length ≤ l.length + 9 := by
  have := countB_len (BitVec.ofNat 64 l.length)
  rw [textB, List.length_append]; omega
def Tx1.ok (t : Tx1) (n : Nat) : Prop := t.ins.length ≤ n ∧ t.outs.length ≤ n ∧ ∀ x ∈ t.ins, x.key.length ≤ 1000
theorem fm_len {α β : Type} (f : α → List β) (n : Nat) (l : List α) (h : ∀ x ∈ l, (f x).length ≤ n) : (l.flatMap f).length ≤ l.length * n := by
  induction l with
  | nil => simp
  | cons a l ih =>
    have h1 := h a (by simp)
    have h2 := ih fun x hx => h x (by simp [hx])
    rw [List.flatMap_cons, List.length_append, List.length_cons, Nat.add_mul]
    omega
theorem inB_len (x : In1) (h : x.key.length ≤ 1000) : (inB x).length ≤ 1045 := by
  have := textB_len x.key
  simp [inB, putB_len]
  omega
theorem outB_len (x : Out1) : (outB x).length = 40 := by simp [outB, putB_len]
theorem insegTx (x : In1) : segOf (eIn x) 0 32 = some (eId x.tx) := seg_of_drop (zs := [w32 x.ix, keyV x.kk x.key]) rfl (eId_len _) (by omega)
theorem indrop (x : In1) : (eIn x).drop 32 = [w32 x.ix, keyV x.kk x.key] := by rw [eIn, List.drop_left' (eId_len _)]
theorem insegKey (x : In1) : segOf (eIn x) 33 1 = some [keyV x.kk x.key] := seg_of_drop (zs := []) (by rw [show 33 = 32 + 1 from rfl, ← List.drop_drop, indrop]; rfl) rfl (by omega)
theorem indrop33 (x : In1) : (eIn x).drop 33 = [keyV x.kk x.key] := by rw [show 33 = 32 + 1 from rfl, ← List.drop_drop, indrop]; rfl
theorem idFill (x : Id) : fillV (repV [V.sl SK.nil [] 0] 1) [(0, 1, V.sl SK.full (List.take 32 (eId x)) 32)] = some [keyV .full x.toList] := by
  have e : x.toList.length = 32 := by simp
  rw [List.take_of_length_le (by rw [eId_len]; omega), eId_rows, keyV, e]
  rfl
theorem ousegAmt (x : Out1) : segOf (eOut x) 0 1 = some [.int .i64 x.amt] := by simp [segOf, eOut, eId_len]
section
variable {P : Program} {F : Fn}
theorem WrR.new {wid : Nat} {l : List UInt8} {L : List Asn} {st : St} (h : WrR wid l L st) {i : Nat} (hi : st i = none) (o : AObj) : WrR wid l (pt i o :: L) (st.upd i o) := by
  obtain ⟨s, S⟩ := h
  exact ⟨s, (S.new hi o).swap.tail fun r h => h.swap⟩
theorem WrR.mem {wid : Nat} {l : List UInt8} {L : List Asn} {st : St} (h : WrR wid l L st) {i : Nat} {o : AObj} (hm : pt i o ∈ L) : st i = some o := by
  obtain ⟨s, S⟩ := h
  exact S.mem (by simp [hm])
theorem WrR.memA {wid : Nat} {l : List UInt8} {L : List Asn} {st : St} (h : WrR wid l L st) {A : Asn} (hm : A ∈ L) : ∃ h', St.sub h' st ∧ A h' := by
  obtain ⟨s, S⟩ := h
  exact S.memA (by simp [hm])
theorem WrR.setAt {wid : Nat} {l : List UInt8} {L : List Asn} {st : St} (h : WrR wid l L st) {i : Nat} {o : AObj} (o' : AObj) (n : Nat) (hn : L[n]? = some (pt i o)) : WrR wid l (L.set n (pt i o')) (st.upd i o') := by
  obtain ⟨s, S⟩ := h
  exact ⟨s, S.setAt o' (n + 2) hn⟩
theorem WrR.tail {wid : Nat} {l : List UInt8} {L L' : List Asn} {st : St} (h : WrR wid l L st) (hL : ∀ r, Sep L r → Sep L' r) : WrR wid l L' st := by
  obtain ⟨s, S⟩ := h
  exact ⟨s, S.tail fun r h => h.tail hL⟩
set_option maxHeartbeats 4000000 in
theorem spec201 (ok : OkTx P F) {st : St} {wid : Nat} {l : List UInt8} {L : List Asn} (S : WrR wid l L st) (t : Tx1) (ht : t.ok 100) (hl : l.length ≤ 400000) :
    ACalls P (F 201) [.ptr (some (wid, 0)), .agg (eTx t)] st fun v st' => v = .tup [] ∧ WrR wid (l ++ txB t) L st' := by
  refine shows_call ok.mixed ok.h201 (by simp [k201]) ?_
  simp only [k201]
  simp
  intro bid hb
  have S := S.new hb (.cells (eTx t))
  generalize st.upd bid _ = st1 at S ⊢
  have o := S.mem (i := bid) (o := .cells (eTx t)) (by simp)
  have hs0 : segOf (eTx t) 0 1 = some [insV t] := rfl
  have hs1 : segOf (eTx t) 1 1 = some [outsV t] := rfl
  have hn0 : lenSlV (insV t) = some (.int .i64 t.ins.length) := rfl
  have hn1 : lenSlV (outsV t) = some (.int .i64 t.outs.length) := rfl
  simp [St.seg, o, hs0, hn0]
  obtain ⟨hti, hto, htk⟩ := ht
  have hc1 := countB_len (BitVec.ofNat 64 t.ins.length)
  have hc2 := countB_len (BitVec.ofNat 64 t.outs.length)
  refine (spec203 ok S (by omega) (BitVec.ofNat 64 t.ins.length)).mono ?_
  rintro v st2 ⟨rfl, S⟩
  have o := S.mem (i := bid) (o := .cells (eTx t)) (by simp)
  simp [St.seg, o, hs0, hn0]
  have hfl : ∀ i, ((t.ins.take i).flatMap inB).length ≤ 104500 := fun i => by
    have := fm_len inB 1045 (t.ins.take i) fun x hx => inB_len x (htk x (List.mem_of_mem_take hx))
    rw [List.length_take] at this
    omega
  have hfo : ∀ i, ((t.outs.take i).flatMap outB).length ≤ 4000 := fun i => by
    have := fm_len outB 40 (t.outs.take i) fun x hx => by rw [outB_len]; omega
    rw [List.length_take] at this
    omega
  refine vc_loopJ (fun c env' st' => ∃ i, i ≤ t.ins.length ∧ c = t.ins.length - i ∧ env' 17 = .int .i64 (i : Nat) ∧ WrR wid (l ++ countB (BitVec.ofNat 64 t.ins.length) ++ (t.ins.take i).flatMap inB) (pt bid (.cells (eTx t)) :: L) st') t.ins.length
    ⟨0, by omega, by omega, by simp, S.imp (by simp)⟩ ?_
  rintro J hJ c env' st3 hsame ⟨i, hi, rfl, h17, S⟩
  have g0 := (hsame.get 0 rfl).trans (by simp : _ = V.ptr (some (wid, 0)))
  have g3 := (hsame.get 3 rfl).trans (by simp : _ = V.ptr (some (bid, 0)))
  have g15 := (hsame.get 15 rfl).trans (by simp : _ = insV t)
  have g16 := (hsame.get 16 rfl).trans (by simp : _ = V.int .i64 (t.ins.length : Int))
  clear hsame
  by_cases hlt : i < t.ins.length
  · have w1 : IntKind.i64.wrap ((i : Int) + 1) = (i : Int) + 1 := wrap64 (by omega) (by omega)
    obtain ⟨r1, r2, r3, r4⟩ := (rd_ins t st3).row eIn_len hlt
    obtain ⟨A, hA⟩ : ∃ A, A = l ++ countB (BitVec.ofNat 64 t.ins.length) ++ (t.ins.take i).flatMap inB := ⟨_, rfl⟩
    have hAl : A.length ≤ 505000 := by rw [hA, List.length_append, List.length_append]; have := hfl i; omega
    rw [← hA] at S
    obtain ⟨x, hx⟩ : ∃ x, x = t.ins[i] := ⟨_, rfl⟩
    have hxk := htk t.ins[i] (List.getElem_mem hlt)
    rw [← hx] at r3 hxk
    simp [g0, g3, g15, g16, h17, hlt, r1, r3]
    intro iid hiid
    have S := S.new hiid (.cells z34_1838)
    have hst : storeS (st3.upd iid (.cells z34_1838)) 34 (.ptr (some (iid, 0))) (.agg (eIn x)) = some ((st3.upd iid (.cells z34_1838)).upd iid (.cells (spliceV z34_1838 0 (eIn x)))) := store_pt (by simp) rfl (eIn_len x) (by simp)
    rw [show spliceV z34_1838 0 (eIn x) = eIn x by simp [spliceV, eIn_len]] at hst
    have S := S.setAt (.cells (eIn x)) 0 rfl
    simp [hst]
    simp at S
    generalize st3.upd iid (.cells (eIn x)) = st4 at S ⊢
    have o5 := S.mem (i := iid) (o := .cells (eIn x)) (by simp)
    have S := S.setAt (.ro (eIn x)) 0 rfl
    simp [frzP, frzV, frzOb, o5]
    simp at S
    generalize st4.upd iid (.ro (eIn x)) = st5 at S ⊢
    have o5 := S.mem (i := iid) (o := .ro (eIn x)) (by simp)
    simp [slArrV, bounds, o5, insegTx, St.seg, g0]
    simp [idFill]
    have hxl : x.tx.toList.length = 32 := by simp
    refine (spec204 ok S .full x.tx.toList (by omega)).mono ?_
    rintro v st6 ⟨rfl, S⟩
    have hsx : segOf [w32 x.ix, keyV x.kk x.key] 0 1 = some [w32 x.ix] := rfl
    have hsk : segOf [keyV x.kk x.key] 0 1 = some [keyV x.kk x.key] := rfl
    simp [g0, indrop, indrop33, hsx, hsk, w64_fill]
    refine (spec205 ok S (by rw [List.length_append]; omega) 4 (by omega) (x.ix.setWidth 64)).mono ?_
    rintro v st7 ⟨rfl, S⟩
    simp [g0, indrop33, hsk]
    refine (spec206 ok S x.kk x.key (by rw [List.length_append, List.length_append, putB_len]; omega)).mono ?_
    rintro v st8 ⟨rfl, S⟩
    simp [h17, w1]
    refine Round.mk (t.ins.length - (i + 1)) _ (by omega) (sub_self _) (hJ _ _ _ ⟨i + 1, by omega, rfl, by simp, ?_⟩)
    refine WrR.imp (S.tail fun r h => h.drop) ?_
    rw [List.take_succ_eq_append_getElem hlt, List.flatMap_append, List.flatMap_singleton, ← hx, hA]
    simp [inB]
  · have : i = t.ins.length := by omega
    subst this
    have hni : ¬ ((t.ins.length : Int) < (t.ins.length : Int)) := by omega
    rw [List.take_length] at S
    have hf1 := hfl t.ins.length
    rw [List.take_length] at hf1
    obtain ⟨A, hA⟩ : ∃ A, A = l ++ countB (BitVec.ofNat 64 t.ins.length) ++ t.ins.flatMap inB := ⟨_, rfl⟩
    have hAl : A.length ≤ 505000 := by rw [hA, List.length_append, List.length_append]; omega
    rw [← hA] at S
    have o := S.mem (i := bid) (o := .cells (eTx t)) (by simp)
    simp [g0, g3, g15, g16, h17, St.seg, o, hs1, hn1]
    refine (spec203 ok S (by omega) (BitVec.ofNat 64 t.outs.length)).mono ?_
    rintro v st4 ⟨rfl, S⟩
    have o := S.mem (i := bid) (o := .cells (eTx t)) (by simp)
    simp [g3, St.seg, o, hs1, hn1]
    clear hJ J
    refine vc_loopJ (fun c env' st' => ∃ i, i ≤ t.outs.length ∧ c = t.outs.length - i ∧ env' 48 = .int .i64 (i : Nat) ∧ WrR wid (A ++ countB (BitVec.ofNat 64 t.outs.length) ++ (t.outs.take i).flatMap outB) (pt bid (.cells (eTx t)) :: L) st') t.outs.length
      ⟨0, by omega, by omega, by simp, S.imp (by simp)⟩ ?_
    rintro J hJ c env2 st5 hsame ⟨i, hi, rfl, h48, S⟩
    have q0 := (hsame.get 0 rfl).trans (by simp [g0] : _ = V.ptr (some (wid, 0)))
    have q46 := (hsame.get 46 rfl).trans (by simp : _ = outsV t)
    have q47 := (hsame.get 47 rfl).trans (by simp : _ = V.int .i64 (t.outs.length : Int))
    clear hsame
    by_cases hlt : i < t.outs.length
    · have w1 : IntKind.i64.wrap ((i : Int) + 1) = (i : Int) + 1 := wrap64 (by omega) (by omega)
      obtain ⟨r1, r2, r3, r4⟩ := (rd_outs t st5).row eOut_len hlt
      obtain ⟨x, hx⟩ : ∃ x, x = t.outs[i] := ⟨_, rfl⟩
      rw [← hx] at r3
      obtain ⟨B, hB⟩ : ∃ B, B = A ++ countB (BitVec.ofNat 64 t.outs.length) ++ (t.outs.take i).flatMap outB := ⟨_, rfl⟩
      have hBl : B.length ≤ 510000 := by rw [hB, List.length_append, List.length_append]; have := hfo i; omega
      rw [← hB] at S
      simp [q0, q46, q47, h48, hlt, r1, r3]
      intro iid hiid
      have S := S.new hiid (.cells z33_0be4)
      have hst : storeS (st5.upd iid (.cells z33_0be4)) 33 (.ptr (some (iid, 0))) (.agg (eOut x)) = some ((st5.upd iid (.cells z33_0be4)).upd iid (.cells (spliceV z33_0be4 0 (eOut x)))) := store_pt (by simp) rfl (eOut_len x) (by simp)
      rw [show spliceV z33_0be4 0 (eOut x) = eOut x by simp [spliceV, eOut_len]] at hst
      have S := S.setAt (.cells (eOut x)) 0 rfl
      simp [hst]
      simp at S
      generalize st5.upd iid (.cells (eOut x)) = st6 at S ⊢
      have o7 := S.mem (i := iid) (o := .cells (eOut x)) (by simp)
      simp [St.seg, o7, ousegAmt, w64_fill, q0]
      refine (spec205 ok S (by omega) 8 (by omega) (BitVec.ofInt 64 x.amt)).mono ?_
      rintro v st7 ⟨rfl, S⟩
      have o7 := S.mem (i := iid) (o := .cells (eOut x)) (by simp)
      have S := S.setAt (.ro (eOut x)) 0 rfl
      simp [frzP, frzV, frzOb, o7]
      simp only [List.set_cons_zero] at S
      generalize st7.upd iid (.ro (eOut x)) = st8 at S ⊢
      have o7 := S.mem (i := iid) (o := .ro (eOut x)) (by simp)
      have hd1 : (eOut x).tail = eId x.lock := rfl
      have hsi := segId0 x.lock
      simp [slArrV, bounds, o7, hd1, hsi, q0, idFill]
      have hxl : x.lock.toList.length = 32 := by simp
      refine (spec204 ok S .full x.lock.toList (by rw [List.length_append, putB_len]; omega)).mono ?_
      rintro v st9 ⟨rfl, S⟩
      simp [h48, w1]
      refine Round.mk (t.outs.length - (i + 1)) _ (by omega) (sub_self _) (hJ _ _ _ ⟨i + 1, by omega, rfl, by simp, ?_⟩)
      refine WrR.imp (S.tail fun r h => h.drop) ?_
      rw [List.take_succ_eq_append_getElem hlt, List.flatMap_append, List.flatMap_singleton, ← hx, hB]
      simp [outB]
    · have : i = t.outs.length := by omega
      subst this
      simp [q0, q46, q47, h48]
      rw [List.take_length] at S
      exact ⟨st5, sub_self _, WrR.imp (S.tail fun r h => h.drop) (by rw [hA, txB]; simp)⟩
end
end Go.Ab
set_option linter.unusedSimpArgs false
set_option linter.unusedVariables false
set_option maxRecDepth 10000
namespace Go.Ab
open Go Go.RowKit
theorem txB_len (t : Tx1) (h : t.ok 100) : (txB t).length ≤ 200000 := by
  have hc1 := countB_len (BitVec.ofNat 64 t.ins.length)
  have hc2 := countB_len (BitVec.ofNat 64 t.outs.length)
  have h1 := fm_len inB 1045 t.ins fun x hx => inB_len x (h.2.2 x hx)
  have h2 := fm_len outB 40 t.outs fun x hx => by rw [outB_len]; omega
  have h3 := h.1
  have h4 := h.2.1
  rw [txB, List.length_append, List.length_append, List.length_append]
  omega
theorem partFill {s : V} (h : s.cells? = some [s]) : fillV (repV [V.sl SK.nil [] 0] 1) [(0, 1, s)] = some [s] := by
  simp [fillV, h, spliceV, repV]
theorem idFill2 (a b : Id) : fillV (repV [V.sl SK.nil [] 0] 2) [(0, 1, V.sl SK.full (List.take 32 (eId a)) 32), (1, 1, V.sl SK.full (List.take 32 (eId b)) 32)] = some [keyV .full a.toList, keyV .full b.toList] := by
  have e1 : a.toList.length = 32 := by simp
  have e2 : b.toList.length = 32 := by simp
  rw [List.take_of_length_le (by rw [eId_len]; omega), List.take_of_length_le (by rw [eId_len]; omega), eId_rows, eId_rows, keyV, keyV, e1, e2]
  rfl
theorem Sep.ov {A : Asn} {L : List Asn} {st st' : St} (h : Sep [A, Was st] st') (S : Sep L st) : Sep (A :: L) st' := by
  obtain ⟨a, r, h1, h2, h3, h4⟩ := h
  exact ⟨a, r, h1, h2, h3, S.sub (Sep.was h4)⟩
section
variable {P : Program} {F : Fn}
set_option maxHeartbeats 1000000 in
theorem spec200 (ok : OkTx P F) (st : St) (t : Tx1) (ht : t.ok 100) : ACalls P (F 200) [.agg (eTx t)] st fun v st' => Sep [Slx 1 e8 v (txB t), Was st] st' := by
  refine shows_call ok.mixed ok.h200 (by simp [k200]) ?_
  simp only [k200]
  simp
  intro bid hb
  have S := (Sep.start st).new hb (.cells (eTx t))
  generalize st.upd bid _ = st1 at S ⊢
  simp
  intro wid hw
  have S := S.slxNil (sz := 1) (f := e8)
  have S := S.new hw (.cells [.sl .nil [] 0])
  generalize st1.upd wid _ = st2 at S ⊢
  have o := S.mem (i := bid) (o := .cells (eTx t)) (by simp)
  have hsg : segOf (eTx t) 0 2 = some (eTx t) := rfl
  simp [St.seg, o, hsg]
  refine (spec201 ok ⟨_, S⟩ t ht (by simp)).mono ?_
  rintro v st3 ⟨rfl, S⟩
  simp
  have hl := txB_len t ht
  refine (spec202 ok S (by simp; omega)).mono ?_
  rintro v st4 ⟨s, S⟩
  simp
  refine ⟨st4, sub_self _, ?_⟩
  simp at S
  exact S.tail fun r h => h.drop.drop.drop
set_option maxHeartbeats 1000000 in
theorem spec198 (ok : OkTx P F) (st : St) (t : Tx1) (ht : t.ok 100) : ACalls P (F 198) [.agg (eTx t)] st fun v st' => v = .agg (eId (txIdM t)) ∧ st' = st := by
  refine shows_call ok.mixed ok.h198 (by simp [k198]) ?_
  simp only [k198]
  simp
  intro bid hb
  have S := (Sep.start st).new hb (.cells (eTx t))
  generalize st.upd bid _ = st1 at S ⊢
  simp
  intro rid hr
  have S := S.new hr (.cells zR32_w80)
  generalize st1.upd rid _ = st2 at S ⊢
  have o := S.mem (i := bid) (o := .cells (eTx t)) (by simp)
  have hsg : segOf (eTx t) 0 2 = some (eTx t) := rfl
  simp [St.seg, o, hsg]
  refine (spec200 ok st2 t ht).mono ?_
  rintro v st3 S1
  have S := S1.ov S
  have hf := partFill S.cells
  simp [hf]
  have hp : Parts st3 [v] [txB t] := .cons (Sep.rd e8_len (S.head fun h hh => hh.sl)) .nil
  have hl := txB_len t ht
  refine (spec104 ok.toOkHead.toOkHash st3 hp .full (by simp; omega) (by simp)).mono ?_
  rintro v st4 ⟨rfl, rfl⟩
  have S := S.drop
  have hst := store_z32 S.get (txIdM t)
  have e : sha2 [txB t].flatten = txIdM t := by simp [txIdM]
  rw [e]
  have S := S.set (.cells (eId (txIdM t)))
  have hsg := segId0 (txIdM t)
  simp [hst, St.seg, hsg]
  exact S.was' (by simp)
set_option maxHeartbeats 1000000 in
theorem spec207 (ok : OkTx P F) (st : St) (a b : Id) : ACalls P (F 207) [.agg (eId a), .agg (eId b)] st fun v st' => v = .agg (eId (sha2 (a.toList ++ b.toList))) ∧ st' = st := by
  refine shows_call ok.mixed ok.h207 (by simp [k207]) ?_
  simp only [k207]
  simp
  intro i2 h2
  have S := (Sep.start st).new h2 (.cells (eId a))
  generalize st.upd i2 _ = st1 at S ⊢
  simp
  intro i3 h3
  have S := S.new h3 (.cells (eId b))
  generalize st1.upd i3 _ = st2 at S ⊢
  simp
  intro i4 h4
  have S := S.new h4 (.cells zR32_w80)
  generalize st2.upd i4 _ = st3 at S ⊢
  have o2 := S.mem (i := i2) (o := .cells (eId a)) (by simp)
  have o3 := S.mem (i := i3) (o := .cells (eId b)) (by simp)
  have n32 := S.neq 1 2 rfl rfl (by omega)
  have S := S.setAt (.ro (eId a)) 2 rfl
  have S := S.setAt (.ro (eId b)) 1 rfl
  simp [frzP, frzV, frzOb, o2, o3, n32]
  simp only [List.set_cons_succ, List.set_cons_zero] at S
  generalize (st3.upd i2 (.ro (eId a))).upd i3 (.ro (eId b)) = st5 at S ⊢
  have ha : (eId a).length = 32 := eId_len a
  have hb : (eId b).length = 32 := eId_len b
  have hsa := segId0 a
  have hsb := segId0 b
  simp [slArrV, bounds, hsa, hsb]
  simp [idFill2]
  have hp : Parts st5 [keyV .full a.toList, keyV .full b.toList] [a.toList, b.toList] := .cons (.inl ⟨.full, rfl⟩) (.cons (.inl ⟨.full, rfl⟩) .nil)
  refine (spec104 ok.toOkHead.toOkHash st5 hp .full (by simp) (by simp)).mono ?_
  rintro v st6 ⟨rfl, rfl⟩
  have e : [a.toList, b.toList].flatten = a.toList ++ b.toList := by simp
  rw [e]
  obtain ⟨x, hx⟩ : ∃ x, x = sha2 (a.toList ++ b.toList) := ⟨_, rfl⟩
  rw [← hx]
  have hst := store_z32 S.get x
  have S := S.set (.cells (eId x))
  have hsg := segId0 x
  simp [hst, St.seg, hsg]
  exact S.was' (by simp)
end
end Go.Ab
set_option linter.unusedSimpArgs false
set_option linter.unusedVariables false
set_option maxRecDepth 10000
namespace Go.Ab
open Go Go.RowKit
def pairM (a b : Id) : Id := sha2 (a.toList ++ b.toList)
def upM : List Id → List Id
  | a :: b :: r => pairM a b :: upM r
  | [a] => [pairM a a]
  | [] => []
def twinM : List Id → Bool
  | a :: b :: r => decide (a = b) || twinM r
  | _ => false
theorem upM_len (l : List Id) : (upM l).length = (l.length + 1) / 2 := by
  fun_induction upM l with
  | case1 a b r ih => simp [ih]; omega
  | case2 a => simp
  | case3 => simp
def rootF : Nat → List Id → Bool → Id × Bool
  | 0, l, tw => (l.headD id0, tw)
  | n + 1, l, tw => if l.length ≤ 1 then (l.headD id0, tw) else rootF n (upM l) (tw || twinM l)
theorem rootF_done (n : Nat) (l : List Id) (tw : Bool) (h : l.length ≤ 1) : rootF n l tw = (l.headD id0, tw) := by
  cases n with
  | zero => rfl
  | succ n => rw [rootF, if_pos h]
theorem rootF_more : ∀ (n m : Nat) (l : List Id) (tw : Bool), l.length ≤ n + 1 → l.length ≤ m + 1 → rootF n l tw = rootF m l tw
  | 0, m, l, tw, h, _ => by rw [rootF_done _ _ _ (by omega), rootF_done _ _ _ (by omega)]
  | n + 1, 0, l, tw, _, h => by rw [rootF_done _ _ _ (by omega), rootF_done _ _ _ (by omega)]
  | n + 1, m + 1, l, tw, h1, h2 => by
    rw [rootF, rootF]
    split
    · rfl
    · have := upM_len l
      exact rootF_more n m _ _ (by omega) (by omega)
def rootM (l : List Id) : Id × Bool := rootF l.length l false
theorem rootF_step {n : Nat} {l : List Id} {tw : Bool} (h : 1 < l.length) (hn : l.length ≤ n + 1) : rootF n l tw = rootF n (upM l) (tw || twinM l) := by
  cases n with
  | zero => omega
  | succ n =>
    have := upM_len l
    rw [rootF, if_neg (by omega)]
    exact rootF_more _ _ _ _ (by omega) (by omega)
theorem splIdT (x : Id) : spliceV zR32_w80 0 (eId x) = eId x := by
  unfold spliceV
  rw [List.take_zero, List.nil_append, Nat.zero_add, eId_len, ← zR32_w80_len, List.drop_length, List.append_nil]
theorem fillIdT (x : Id) : fillV (repV zR32_w80 1) [(0, 32, .agg (eId x))] = some (eId x) := by
  have h0 : repV zR32_w80 1 = zR32_w80 := by simp [repV]
  rw [h0]
  have hc : (V.agg (eId x)).cells? = some (eId x) := rfl
  simp only [fillV, hc]
  rw [if_pos ⟨eId_len x, by rw [zR32_w80_len]; omega⟩, splIdT]
theorem fillNoT : fillV zR32_w80 [] = some (eId id0) := rfl
section
variable {P : Program} {F : Fn}
set_option maxHeartbeats 4000000 in
theorem spec199 (ok : OkTx P F) (st : St) {s : V} {l : List Id} (hr : Rd 32 eId s l st) (hl : l.length ≤ 1000) : ACalls P (F 199) [s] st fun v st' => v = .tup [.agg (eId (rootM l).1), .bool (rootM l).2] ∧ st' = st := by
  refine shows_call ok.mixed ok.h199 (by simp [k199]) ?_
  simp only [k199]
  have hlen := hr.len
  simp
  intro rid hrid
  have S := (Sep.start st).new hrid (.cells zR32_w80)
  generalize st.upd rid _ = st1 at S ⊢
  by_cases h0 : l.length = 0
  · have hl0 : l = [] := List.length_eq_zero_iff.1 h0
    subst hl0
    simp [hlen, fillNoT]
    have hst := store_z32 S.get id0
    have S := S.set (.cells (eId id0))
    have hsg := segId0 id0
    simp [hst, St.seg, hsg]
    exact ⟨S.was' (by simp), rfl, rfl⟩
  · have h0' : ((l.length : Int) == 0) = false := by rw [beq_eq_false_iff_ne]; omega
    simp [hlen, h0']
    have hel := (hr.sub (S.was' (st0 := st) (by simp))).elems eId_len
    have hf0 : fillV (repV zR32_w80 0) [] = some [] := rfl
    simp [hf0, hel]
    refine Sep.appx' (b := 32) eId_len (by omega) S.slxFull l rfl rfl (by simp; omega) ?_
    intro s1 st2 S
    rw [List.nil_append] at S
    simp
    refine vc_loopJ (fun c env' st' => ∃ s5 row tw, c = row.length ∧ row ≠ [] ∧ row.length ≤ 1000 ∧ env' 5 = s5 ∧ env' 4 = .bool tw ∧ rootF row.length row tw = rootM l ∧ Sep [Slx 32 eId s5 row, pt rid (.cells zR32_w80), Was st] st') l.length
      ⟨s1, l, false, rfl, fun e => h0 (by rw [e]; rfl), hl, by simp, by simp, rfl, S⟩ ?_
    rintro J hJ c env' st3 hsame ⟨s5, row, tw, rfl, hne, hrl, h5, h4, hrt, S⟩
    have g2 := (hsame.get 2 rfl).trans (by simp : _ = V.ptr (some (rid, 0)))
    clear hsame
    have rd5 := Sep.rd eId_len (S.head fun h hh => hh.sl)
    have hln := rd5.len
    by_cases h1 : 1 < row.length
    · have h1' : (1 : Int) < row.length := by omega
      simp [h5, hln, h1']
      have hul := upM_len row
      refine vc_loopJ (fun c env2 st' => ∃ i s6 up tw', i ≤ row.length ∧ c = row.length - i ∧ env2 7 = .int .i64 (i : Nat) ∧ env2 6 = s6 ∧ env2 4 = .bool tw' ∧ up ++ upM (row.drop i) = upM row ∧ up.length ≤ 1000 ∧ (tw' || twinM (row.drop i)) = (tw || twinM row) ∧ Sep [Slx 32 eId s6 up, Slx 32 eId s5 row, pt rid (.cells zR32_w80), Was st] st') row.length
        ⟨0, _, [], tw, by omega, by omega, by simp, by simp, by simp [h4], by simp, by simp, by simp, S.slxNil⟩ ?_
      clear S
      rintro J2 hJ2 c env2 st4 hsame ⟨i, s6, up, tw', hi, rfl, h7, h6, h4', hup, hupl, htw, S⟩
      have q2 := (hsame.get 2 rfl).trans (by simp [g2] : _ = V.ptr (some (rid, 0)))
      have q5 := (hsame.get 5 rfl).trans (by simp [h5] : _ = s5)
      clear hsame
      have rd5 := Sep.rd eId_len (S.drop.head fun h hh => hh.sl)
      have w1 : IntKind.i64.wrap ((i : Int) + 1) = (i : Int) + 1 := wrap64 (by omega) (by omega)
      have w2 : IntKind.i64.wrap ((i : Int) + 2) = (i : Int) + 2 := wrap64 (by omega) (by omega)
      by_cases hlt : i < row.length
      · obtain ⟨r1, r2, r3, r4⟩ := rd5.row eId_len hlt
        have hpa : ∀ x y : Id, sha2 (x.toList ++ y.toList) = pairM x y := fun _ _ => rfl
        by_cases hlast : i + 1 = row.length
        · have hd : row.drop i = [row[i]] := by rw [List.drop_eq_getElem_cons hlt, hlast, List.drop_length]
          rw [hd] at hup htw
          have he : ((i : Int) + 1 == (row.length : Int)) = true := by rw [beq_iff_eq]; omega
          simp [h7, q5, hln, hlt, w1, he, h6, r1, r3]
          refine (spec207 ok st4 row[i] row[i]).mono ?_
          rintro v st4 ⟨rfl, rfl⟩
          rw [hpa]
          have hel1 : elems st4 32 (.sl .full (eId (pairM row[i] row[i])) 1) = some (rowsOf eId [pairM row[i] row[i]], 1) := by simp [elems, eId_len]
          simp [fillIdT, hel1]
          refine Sep.appx' (b := 32) eId_len (by omega) S [pairM row[i] row[i]] (by simp) rfl (by rw [List.length_singleton]; omega) ?_
          intro s7 st5 S
          simp
          have e : up ++ [pairM row[i] row[i]] = upM row := by rw [← hup]; rfl
          have et : tw' = (tw || twinM row) := by rw [← htw]; simp [twinM]
          rw [e] at S
          refine Round.mk (upM row).length _ (by omega) (sub_self _) (hJ _ _ _ ⟨s7, upM row, tw', rfl, fun e => by rw [e] at hul; simp at hul; omega, by omega, by simp, by simp [h4'], ?_, S.tail fun r h => h.drop⟩)
          rw [← hrt, et, rootF_step h1 (by omega)]
          exact rootF_more _ _ _ _ (by omega) (by omega)
        · have hlt2 : i + 1 < row.length := by omega
          have hd : row.drop i = row[i] :: row[i + 1] :: row.drop (i + 2) := by rw [List.drop_eq_getElem_cons hlt, List.drop_eq_getElem_cons hlt2]
          rw [hd] at hup htw
          obtain ⟨p1, p2, p3, p4⟩ := rd5.row eId_len hlt2
          rw [Int.natCast_add, Int.natCast_one] at p1
          have he : ((i : Int) + 1 == (row.length : Int)) = false := by rw [beq_eq_false_iff_ne]; omega
          have htw2 : ((tw' || decide (row[i] = row[i + 1])) || twinM (row.drop (i + 2))) = (tw || twinM row) := by
            rw [← htw, twinM, Bool.or_assoc]
          have hup2 : (up ++ [pairM row[i] row[i + 1]]) ++ upM (row.drop (i + 2)) = upM row := by rw [← hup, List.append_assoc]; rfl
          have hul2 : (up ++ [pairM row[i] row[i + 1]]).length ≤ 1000 := by
            have := congrArg List.length hup2
            rw [List.length_append] at this
            omega
          have hel1 : elems st4 32 (.sl .full (eId (pairM row[i] row[i + 1])) 1) = some (rowsOf eId [pairM row[i] row[i + 1]], 1) := by simp [elems, eId_len]
          have hq : eqK (.agg 32) (.agg (eId row[i])) (.agg (eId row[i + 1])) = some (decide (row[i] = row[i + 1])) := by simp [eqK, eId_len, eqL_id]
          cases tw' with
          | true =>
            simp [h7, q5, hln, hlt, w1, he, h6, h4', r1, r3, p1, p3]
            refine (spec207 ok st4 row[i] row[i + 1]).mono ?_
            rintro v st4 ⟨rfl, rfl⟩
            rw [hpa]
            simp [fillIdT, hel1]
            refine Sep.appx' (b := 32) eId_len (by omega) S [pairM row[i] row[i + 1]] (by simp) rfl (by rw [List.length_singleton]; omega) ?_
            intro s7 st5 S
            simp [h7, w2]
            exact Round.mk (row.length - (i + 2)) _ (by omega) (sub_self _) (hJ2 _ _ _ ⟨i + 2, s7, _, true, by omega, rfl, by simp, by simp, by simp [h4'], hup2, hul2, by simpa using htw2, S⟩)
          | false =>
            simp [h7, q5, hln, hlt, w1, he, h6, h4', r1, r3, p1, p3, hq]
            refine (spec207 ok st4 row[i] row[i + 1]).mono ?_
            rintro v st4 ⟨rfl, rfl⟩
            rw [hpa]
            simp [fillIdT, hel1]
            refine Sep.appx' (b := 32) eId_len (by omega) S [pairM row[i] row[i + 1]] (by simp) rfl (by rw [List.length_singleton]; omega) ?_
            intro s7 st5 S
            simp [h7, w2]
            exact Round.mk (row.length - (i + 2)) _ (by omega) (sub_self _) (hJ2 _ _ _ ⟨i + 2, s7, _, decide (row[i] = row[i + 1]), by omega, rfl, by simp, by simp, by simp, hup2, hul2, by simpa using htw2, S⟩)
      · have : i = row.length := by omega
        subst this
        rw [List.drop_length] at hup htw
        have e : up = upM row := by rw [← hup]; simp [upM]
        have et : tw' = (tw || twinM row) := by rw [← htw]; simp [twinM]
        simp [h7, q5, hln, h6]
        rw [e] at S
        refine Round.mk (upM row).length _ (by omega) (sub_self _) (hJ _ _ _ ⟨s6, upM row, tw', rfl, fun e => by rw [e] at hul; simp at hul; omega, by omega, by simp [h6], by simp [h4'], ?_, S.tail fun r h => h.drop⟩)
        rw [← hrt, et, rootF_step h1 (by omega)]
        exact rootF_more _ _ _ _ (by omega) (by omega)
    · have h1' : ¬ (1 : Int) < row.length := by omega
      have h0l : 0 < row.length := List.length_pos_iff.2 hne
      obtain ⟨r1, r2, r3, r4⟩ := rd5.row eId_len h0l
      have r1' : idxSlV 32 s5 (.int .i64 0) = some (rowP 32 s5 0) := r1
      simp [h5, hln, h1', h4, g2, r1', r3]
      have hrm : rootM l = (row[0], tw) := by
        rw [← hrt, rootF_done _ _ _ (by omega)]
        congr 1
        cases row with
        | nil => exact absurd rfl hne
        | cons a r => rfl
      obtain ⟨x, hx⟩ : ∃ x, x = row[0] := ⟨_, rfl⟩
      rw [hrm, ← hx]
      have S := S.drop
      have hst := store_z32 S.get x
      have S := S.set (.cells (eId x))
      have hsg := segId0 x
      simp [hst, St.seg, hsg, g2]
      exact S.was' (st0 := st) (by simp)
theorem spec197 (ok : OkTx P F) (st : St) : ACalls P (F 197) [] st fun v st' => v = .agg (eId id0 ++ [w32 4294967295#32]) ∧ st' = st := by
  refine shows_call ok.mixed ok.h197 (by simp [k197]) ?_
  simp only [k197]
  simp
  intro rid hrid
  have S := (Sep.start st).new hrid (.cells z33_1371)
  generalize st.upd rid _ = st1 at S ⊢
  have hf : fillV z33_1371 [(32, 1, w32 4294967295#32)] = some (eId id0 ++ [w32 4294967295#32]) := rfl
  obtain ⟨c, hc⟩ : ∃ c, c = eId id0 ++ [w32 4294967295#32] := ⟨_, rfl⟩
  have hl : c.length = 33 := by rw [hc, List.length_append, eId_len]; rfl
  rw [← hc] at hf ⊢
  have hst := store_pt (sz := 33) (o := 0) S.get (v := .agg c) (vs := c) rfl hl (by simp)
  rw [show spliceV z33_1371 0 c = c by simp [spliceV, hl]] at hst
  have S := S.set (.cells c)
  have hsg : segOf c 0 33 = some c := by simp [segOf, hl, List.take_of_length_le]
  simp [hf, hst, St.seg, hsg]
  exact S.was' (by simp)
end
end Go.Ab
set_option linter.unusedSimpArgs false
set_option linter.unusedVariables false
set_option maxRecDepth 10000
namespace Go.Ab
open Go Go.RowKit
section
variable {P : Program} {F : Fn}
def rowsIds (l : List Tx1) : List Id := l.map txIdM
set_option maxHeartbeats 4000000 in
theorem spec192 (ok : OkTx P F) (st : St) {s : V} {l : List Tx1} (hr : Rd 2 eTx s l st) (hl : l.length ≤ 1000) (ht : ∀ t ∈ l, t.ok 100) : ACalls P (F 192) [s] st fun v st' => v = .tup [.agg (eId (rootM (rowsIds l)).1), .bool (rootM (rowsIds l)).2] ∧ st' = st := by
  refine shows_call ok.mixed ok.h192 (by simp [k192]) ?_
  simp only [k192]
  have hlen := hr.len
  simp
  intro rid hrid
  have S := (Sep.start st).new hrid (.cells zR32_w80)
  generalize st.upd rid _ = st1 at S ⊢
  simp [hlen]
  refine vc_loopJ (fun c env' st' => ∃ i s4, i ≤ l.length ∧ c = l.length - i ∧ env' 9 = .int .i64 (i : Nat) ∧ env' 4 = s4 ∧ Sep [Slx 32 eId s4 (rowsIds (l.take i)), pt rid (.cells zR32_w80), Was st] st') l.length
    ⟨0, _, by omega, by omega, by simp, by simp, S.slxNil⟩ ?_
  rintro J hJ c env' st2 hsame ⟨i, s4, hi, rfl, h9, h4, S⟩
  have g2 := (hsame.get 2 rfl).trans (by simp : _ = V.ptr (some (rid, 0)))
  have g7 := (hsame.get 7 rfl).trans (by simp : _ = s)
  have g8 := (hsame.get 8 rfl).trans (by simp : _ = V.int .i64 (l.length : Int))
  clear hsame
  by_cases hlt : i < l.length
  · have w1 : IntKind.i64.wrap ((i : Int) + 1) = (i : Int) + 1 := wrap64 (by omega) (by omega)
    obtain ⟨r1, r2, r3, r4⟩ := (hr.sub (S.was' (st0 := st) (by simp))).row eTx_len hlt
    have htx := ht l[i] (List.getElem_mem hlt)
    have hmp : rowsIds (l.take (i + 1)) = rowsIds (l.take i) ++ [txIdM l[i]] := by rw [rowsIds, List.take_succ_eq_append_getElem hlt, List.map_append]; rfl
    have hml : (rowsIds (l.take i)).length = i := by rw [rowsIds, List.length_map, List.length_take]; omega
    obtain ⟨x, hx⟩ : ∃ x, x = l[i] := ⟨_, rfl⟩
    rw [← hx] at r3 htx hmp
    simp [g7, g8, h9, hlt, r1, r3]
    intro iid hiid
    have S := S.new hiid (.cells [.sl .nil [] 0, .sl .nil [] 0])
    have hst := store_pt (id := iid) (o := 0) (sz := 2) (v := .agg (eTx x)) (vs := eTx x) (S.mem (i := iid) (o := .cells [.sl .nil [] 0, .sl .nil [] 0]) (by simp)) rfl rfl (by simp)
    rw [show spliceV [V.sl .nil [] 0, V.sl .nil [] 0] 0 (eTx x) = eTx x from rfl] at hst
    have S := S.setAt (.cells (eTx x)) 0 rfl
    simp [hst] at S ⊢
    generalize st2.upd iid (.cells (eTx x)) = st3 at S ⊢
    have o6 := S.mem (i := iid) (o := .cells (eTx x)) (by simp)
    have hsg : segOf (eTx x) 0 2 = some (eTx x) := rfl
    simp [h4, St.seg, o6, hsg]
    refine (spec198 ok st3 x htx).mono ?_
    rintro v st3 ⟨rfl, rfl⟩
    have hel1 : elems st3 32 (.sl .full (eId (txIdM x)) 1) = some (rowsOf eId [txIdM x], 1) := by simp [elems, eId_len]
    simp [fillIdT, hel1]
    refine Sep.appx' (b := 32) eId_len (by omega) S.drop [txIdM x] (by simp) rfl (by rw [hml, List.length_singleton]; omega) ?_
    intro s7 st5 S
    rw [← hmp] at S
    simp [h9, w1]
    exact Round.mk (l.length - (i + 1)) _ (by omega) (sub_self _) (hJ _ _ _ ⟨i + 1, s7, by omega, rfl, by simp, by simp, S⟩)
  · have : i = l.length := by omega
    subst this
    rw [List.take_length] at S
    simp [g7, g8, h9, h4]
    have rd := Sep.rd eId_len (S.head fun h hh => hh.sl)
    refine (spec199 ok st2 rd (by rw [rowsIds, List.length_map]; omega)).mono ?_
    rintro v st2 ⟨rfl, rfl⟩
    obtain ⟨x, hx⟩ : ∃ x, x = (rootM (rowsIds l)).1 := ⟨_, rfl⟩
    obtain ⟨b, hb⟩ : ∃ b, b = (rootM (rowsIds l)).2 := ⟨_, rfl⟩
    rw [← hx, ← hb]
    have S := S.drop
    have hst := store_z32 S.get x
    have S := S.set (.cells (eId x))
    have hsg := segId0 x
    simp [hst, St.seg, hsg, g2]
    exact S.was' (st0 := st) (by simp)
end
end Go.Ab
set_option linter.unusedVariables false
namespace Go.Ab
open Go
def k188 (F : Fn) : PF := PF.mk 39 3 [(.t 6)] (.seq (.ops [(PO.mk (some 3) (.box (.t 0)) none), (PO.mk (some 6) (.mv (.k (.sl .nil [] 0))) none)]) (.seq (.ops [(PO.mk (some 11) (.fldA 5 (.t 3)) none), (PO.mk (some 12) (.load true 69 (.t 11)) none), (PO.mk (some 13) (.bsl false 69 1 z69_adc1 [(0, (69, (.t 12)))]) none), (PO.mk (some 7) (.mv (.t 13)) none)]) (.seq (.seq (.ops [(PO.mk (some 8) (.mv (.k (.int .i64 1))) none)]) (.block 0 (.loop (.seq (.seq (.ops [(PO.mk (some 14) (.mv (.t 8)) none), (PO.mk (some 15) (.mv (.t 1)) none), (PO.mk (some 16) (.bin .leq (.t 14) (.t 15)) none)]) (.cond (.t 16) .skip (.exit 0))) (.seq (.block 1 (.seq (.draw [(.e, (PO.mk (some 21) (.mv (.t 7)) none)), (.e, (PO.mk (some 22) (.mv (.t 8)) none)), (.e, (PO.mk (some 23) (.bin .sub (.t 22) (.k (.int .i64 1))) none)), (.e, (PO.mk (some 24) (.idxSl 69 (.t 21) (.t 23)) none)), (.e, (PO.mk (some 25) (.fldA 0 (.t 24)) none)), (.e, (PO.mk (some 27) (.mv (.t 8)) none)), (.e, (PO.mk (some 28) (.mv (.t 2)) none)), (.s, (PO.mk (some 20) (.load true 74 (.t 3)) none)), (.s, (PO.mk (some 26) (.load true 68 (.t 25)) none)), (.x, (PO.mk (some 29) (.call (F 189) [(.t 20), (.t 26), (.t 27), (.t 28), (.k (.sl .nil [] 0))]) none)), (.e, (PO.mk (some 19) (.mv (.t 29)) none)), (.e, (PO.mk (some 30) (.ext 0 (.t 19)) none)), (.e, (PO.mk (some 31) (.ext 1 (.t 19)) none)), (.a, (PO.mk (some 9) (.alloc z69_adc1) none)), (.x, (PO.mk none (.store 69 (.t 9) (.t 30)) none)), (.e, (PO.mk (some 10) (.mv (.t 31)) none))]) (.seq (.seq (.ops [(PO.mk (some 32) (.mv (.t 10)) none), (PO.mk (some 33) (.not (.t 32)) none)]) (.cond (.t 33) (.exit 0) .skip)) (.ops [(PO.mk (some 34) (.mv (.t 7)) none), (PO.mk (some 35) (.load true 69 (.t 9)) none), (PO.mk (some 36) (.bsl false 69 1 z69_adc1 [(0, (69, (.t 35)))]) none), (PO.mk (some 37) (.app 69 104 (.t 34) (.t 36)) none), (PO.mk (some 7) (.mv (.t 37)) none)])))) (.ops [(PO.mk (some 17) (.mv (.t 8)) none), (PO.mk (some 18) (.bin .add (.t 17) (.k (.int .i64 1))) none), (PO.mk (some 8) (.mv (.t 18)) none)])))))) (.seq (.seq (.frz [7]) (.ops [(PO.mk (some 38) (.mv (.t 7)) none), (PO.mk (some 6) (.mv (.t 38)) none)])) .ret))))
def k190 (F : Fn) : PF := PF.mk 23 1 [(PR.cell 2 true 74)] (.seq (.ops [(PO.mk (some 2) (.alloc z74_2f53) none)]) (.seq (.ops [(PO.mk (some 5) (.mv (.t 0)) none), (PO.mk (some 6) (.build z74_2f53 [(0, (1, (.k (w32 545259519)))), (2, (1, (.k (.int .i64 10)))), (3, (1, (.k (.int .i64 50)))), (4, (1, (.t 5)))]) none), (PO.mk (some 3) (.alloc z74_2f53) none), (PO.mk none (.store 74 (.t 3) (.t 6)) none)]) (.seq (.ops [(PO.mk (some 7) (.build z68_39b1 [(66, (1, (.k (w32 545259519))))]) none), (PO.mk (some 8) (.load true 74 (.t 3)) none), (PO.mk (some 9) (.call (F 191) [(.t 8), (.k (.int .i64 0)), (.k (w8 0))]) none), (PO.mk (some 10) (.bsl false 2 1 [(.sl .nil [] 0), (.sl .nil [] 0)] [(0, (2, (.t 9)))]) none), (PO.mk (some 11) (.build z69_adc1 [(0, (68, (.t 7))), (68, (1, (.t 10)))]) none), (PO.mk (some 4) (.alloc z69_adc1) none), (PO.mk none (.store 69 (.t 4) (.t 11)) none)]) (.seq (.ops [(PO.mk (some 13) (.fldA 68 (.t 4)) none), (PO.mk (some 14) (.load false 1 (.t 13)) none), (PO.mk (some 15) (.call (F 192) [(.t 14)]) none), (PO.mk (some 12) (.mv (.t 15)) none), (PO.mk (some 16) (.ext 0 (.t 12)) none), (PO.mk (some 17) (.ext 1 (.t 12)) none), (PO.mk (some 18) (.fldA 0 (.t 4)) none), (PO.mk (some 19) (.fldA 33 (.t 18)) none), (PO.mk none (.store 32 (.t 19) (.t 16)) none)]) (.seq (.ops [(PO.mk (some 20) (.load true 69 (.t 4)) none), (PO.mk (some 21) (.fldA 5 (.t 3)) none), (PO.mk none (.store 69 (.t 21) (.t 20)) none)]) (.seq (.ops [(PO.mk (some 22) (.load true 74 (.t 3)) none), (PO.mk none (.store 74 (.t 2) (.t 22)) none)]) .ret))))))
def k193 (F : Fn) : PF := PF.mk 32 2 [(.t 4)] (.seq (.ops [(PO.mk (some 4) (.mv (.k (.ptr none))) none)]) (.seq (.ops [(PO.mk (some 8) (.mv (.t 0)) none), (PO.mk (some 9) (.bsl false 69 0 z69_adc1 []) none), (PO.mk (some 10) (.mv (.t 1)) none), (PO.mk (some 11) (.appz 69 104 (.t 9) (.t 10)) none), (PO.mk (some 12) POp.mkmap none), (PO.mk (some 13) (.build [(w64 0), (.sl .nil [] 0), (.map none), (.bool false)] [(0, (1, (.t 8))), (1, (1, (.t 11))), (2, (1, (.t 12)))]) none), (PO.mk (some 14) (.box (.t 13)) none), (PO.mk (some 5) (.mv (.t 14)) none)]) (.seq (.seq (.ops [(PO.mk (some 15) (.mv (.t 1)) none), (PO.mk (some 16) (.lenSl (.t 15)) none), (PO.mk (some 17) (.mv (.k (.int .i64 0))) none)]) (.block 0 (.loop (.seq (.ops [(PO.mk (some 18) (.bin .lss (.t 17) (.t 16)) none)]) (.seq (.cond (.t 18) .skip (.exit 0)) (.seq (.block 1 (.seq (.ops [(PO.mk (some 19) (.mv (.t 17)) none), (PO.mk (some 20) (.idxSl 69 (.t 15) (.t 17)) none), (PO.mk (some 21) (.load true 69 (.t 20)) none), (PO.mk (some 7) (.alloc z69_adc1) none), (PO.mk (some 6) (.mv (.t 19)) none), (PO.mk none (.store 69 (.t 7) (.t 21)) none)]) (.draw [(.e, (PO.mk (some 22) (.mv (.t 5)) none)), (.e, (PO.mk (some 23) (.nilck (.t 22)) none)), (.e, (PO.mk (some 24) (.fldA 2 (.t 23)) none)), (.e, (PO.mk (some 26) (.fldA 0 (.t 7)) none)), (.e, (PO.mk (some 29) (.mv (.t 6)) none)), (.s, (PO.mk (some 25) (.load false 1 (.t 24)) none)), (.s, (PO.mk (some 27) (.load true 68 (.t 26)) none)), (.s, (PO.mk (some 28) (.call (F 141) [(.t 27)]) none)), (.x, (PO.mk none (.mset (.agg 32) (.t 25) (.t 28) (.t 29)) none))]))) (.ops [(PO.mk (some 30) (.bin .add (.t 17) (.k (.int .i64 1))) none), (PO.mk (some 17) (.mv (.t 30)) none)]))))))) (.seq (.ops [(PO.mk (some 31) (.mv (.t 5)) none), (PO.mk (some 4) (.mv (.t 31)) none)]) .ret))))
def k194 (F : Fn) : PF := PF.mk 93 2 [(.t 4)] (.seq (.ops [(PO.mk (some 3) (.box (.t 1)) none), (PO.mk (some 4) (.mv (.k (.sl .nil [] 0))) none)]) (.seq (.seq (.ops [(PO.mk (some 11) (.fldA 0 (.t 3)) none), (PO.mk (some 12) (.load false 1 (.t 11)) none)]) (.block 0 (.seq (.ops [(PO.mk (some 14) (.bin .eql (.t 12) (.k (.int .i64 1))) none), (PO.mk (some 13) (.mv (.t 14)) none)]) (.cond (.t 13) (.seq (.seq (.ops [(PO.mk (some 15) (.mv (.t 0)) none), (PO.mk (some 16) (.nilck (.t 15)) none), (PO.mk (some 17) (.fldA 3 (.t 16)) none), (PO.mk (some 18) (.load false 1 (.t 17)) none)]) (.cond (.t 18) (.seq (.ops [(PO.mk (some 4) (.mv (.k (.sl .nil [] 0))) none)]) .ret) .skip)) (.seq (.ops [(PO.mk (some 19) (.mv (.t 0)) none), (PO.mk (some 20) (.nilck (.t 19)) none), (PO.mk (some 21) (.fldA 3 (.t 20)) none), (PO.mk none (.store 1 (.t 21) (.k (.bool true))) none)]) (.seq (.draw [(.e, (PO.mk (some 22) (.mv (.t 0)) none)), (.e, (PO.mk (some 23) (.nilck (.t 22)) none)), (.e, (PO.mk (some 24) (.fldA 0 (.t 23)) none)), (.e, (PO.mk (some 26) (.mv (.t 0)) none)), (.e, (PO.mk (some 27) (.nilck (.t 26)) none)), (.e, (PO.mk (some 28) (.fldA 1 (.t 27)) none)), (.e, (PO.mk (some 35) (.build z106_9145 [(0, (1, (.k (.int .i64 2))))]) none)), (.s, (PO.mk (some 25) (.load false 1 (.t 24)) none)), (.s, (PO.mk (some 29) (.load false 1 (.t 28)) none)), (.e, (PO.mk (some 30) (.lenSl (.t 29)) none)), (.e, (PO.mk (some 31) (.bin .sub (.t 30) (.k (.int .i64 1))) none)), (.e, (PO.mk (some 32) (.max [(.k (.int .i64 0)), (.t 31)]) none)), (.e, (PO.mk (some 33) (.conv .u32 (.t 32)) none)), (.e, (PO.mk (some 34) (.build z106_9145 [(0, (1, (.k (.int .i64 1)))), (1, (1, (.t 25))), (2, (1, (.t 33)))]) none)), (.e, (PO.mk (some 36) (.bsl false 106 2 z106_9145 [(0, (106, (.t 34))), (106, (106, (.t 35)))]) none)), (.e, (PO.mk (some 4) (.mv (.t 36)) none))]) .ret))) (.seq (.ops [(PO.mk (some 38) (.bin .eql (.t 12) (.k (.int .i64 3))) none), (PO.mk (some 37) (.mv (.t 38)) none)]) (.cond (.t 37) (.seq (.ops [(PO.mk (some 39) (.mv (.t 0)) none), (PO.mk (some 40) (.load true 106 (.t 3)) none), (PO.mk (some 41) (.call (F 195) [(.t 39), (.t 40)]) none), (PO.mk (some 42) (.bsl false 106 1 z106_9145 [(0, (106, (.t 41)))]) none), (PO.mk (some 4) (.mv (.t 42)) none)]) .ret) (.seq (.ops [(PO.mk (some 44) (.bin .eql (.t 12) (.k (.int .i64 6))) none), (PO.mk (some 43) (.mv (.t 44)) none)]) (.cond (.t 43) (.seq (.ops [(PO.mk (some 5) (.mv (.k (.sl .nil [] 0))) none)]) (.seq (.ops [(PO.mk (some 6) (.mv (.k (.sl .nil [] 0))) none)]) (.seq (.seq (.ops [(PO.mk (some 45) (.fldA 3 (.t 3)) none), (PO.mk (some 46) (.load false 1 (.t 45)) none), (PO.mk (some 47) (.lenSl (.t 46)) none), (PO.mk (some 48) (.mv (.k (.int .i64 0))) none)]) (.block 1 (.loop (.seq (.ops [(PO.mk (some 49) (.bin .lss (.t 48) (.t 47)) none)]) (.seq (.cond (.t 49) .skip (.exit 1)) (.seq (.block 2 (.seq (.ops [(PO.mk (some 50) (.idxSl 32 (.t 46) (.t 48)) none), (PO.mk (some 51) (.load true 32 (.t 50)) none), (PO.mk (some 8) (.alloc zR32_w80) none), (PO.mk none (.store 32 (.t 8) (.t 51)) none)]) (.seq (.draw [(.e, (PO.mk (some 53) (.mv (.t 0)) none)), (.e, (PO.mk (some 54) (.nilck (.t 53)) none)), (.e, (PO.mk (some 55) (.fldA 2 (.t 54)) none)), (.s, (PO.mk (some 56) (.load false 1 (.t 55)) none)), (.s, (PO.mk (some 57) (.load true 32 (.t 8)) none)), (.s, (PO.mk (some 58) (.lookup (.agg 32) (.int .i64 0) true (.t 56) (.t 57)) none)), (.e, (PO.mk (some 52) (.mv (.t 58)) none)), (.e, (PO.mk (some 59) (.ext 0 (.t 52)) none)), (.e, (PO.mk (some 60) (.ext 1 (.t 52)) none)), (.e, (PO.mk (some 9) (.mv (.t 59)) none)), (.e, (PO.mk (some 10) (.mv (.t 60)) none))]) (.seq (.ops [(PO.mk (some 61) (.mv (.t 10)) none)]) (.cond (.t 61) (.ops [(PO.mk (some 62) (.mv (.t 5)) none), (PO.mk (some 63) (.mv (.t 0)) none), (PO.mk (some 64) (.nilck (.t 63)) none), (PO.mk (some 65) (.fldA 1 (.t 64)) none), (PO.mk (some 66) (.load false 1 (.t 65)) none), (PO.mk (some 67) (.mv (.t 9)) none), (PO.mk (some 68) (.idxSl 69 (.t 66) (.t 67)) none), (PO.mk (some 69) (.load true 69 (.t 68)) none), (PO.mk (some 70) (.build z106_9145 [(0, (1, (.k (.int .i64 7)))), (37, (69, (.t 69)))]) none), (PO.mk (some 71) (.bsl false 106 1 z106_9145 [(0, (106, (.t 70)))]) none), (PO.mk (some 72) (.app 106 208 (.t 62) (.t 71)) none), (PO.mk (some 5) (.mv (.t 72)) none)]) (.ops [(PO.mk (some 73) (.mv (.t 6)) none), (PO.mk (some 74) (.load true 32 (.t 8)) none), (PO.mk (some 75) (.bsl false 32 1 zR32_w80 [(0, (32, (.t 74)))]) none), (PO.mk (some 76) (.app 32 32 (.t 73) (.t 75)) none), (PO.mk (some 6) (.mv (.t 76)) none)])))))) (.ops [(PO.mk (some 77) (.bin .add (.t 48) (.k (.int .i64 1))) none), (PO.mk (some 48) (.mv (.t 77)) none)]))))))) (.seq (.seq (.ops [(PO.mk (some 78) (.mv (.t 6)) none), (PO.mk (some 79) (.lenSl (.t 78)) none), (PO.mk (some 80) (.bin .gtr (.t 79) (.k (.int .i64 0))) none)]) (.cond (.t 80) (.ops [(PO.mk (some 81) (.mv (.t 5)) none), (PO.mk (some 82) (.mv (.t 6)) none), (PO.mk (some 83) (.build z106_9145 [(0, (1, (.k (.int .i64 8)))), (3, (1, (.t 82)))]) none), (PO.mk (some 84) (.bsl false 106 1 z106_9145 [(0, (106, (.t 83)))]) none), (PO.mk (some 85) (.app 106 208 (.t 81) (.t 84)) none), (PO.mk (some 5) (.mv (.t 85)) none)]) .skip)) (.seq (.ops [(PO.mk (some 86) (.mv (.t 5)) none), (PO.mk (some 4) (.mv (.t 86)) none)]) .ret))))) (.seq (.ops [(PO.mk (some 88) (.bin .eql (.t 12) (.k (.int .i64 9))) none), (PO.mk (some 87) (.mv (.t 88)) none)]) (.cond (.t 87) (.seq (.ops [(PO.mk (some 89) (.fldA 1 (.t 3)) none), (PO.mk (some 90) (.load false 1 (.t 89)) none), (PO.mk (some 91) (.build z106_9145 [(0, (1, (.k (.int .i64 10)))), (1, (1, (.t 90)))]) none), (PO.mk (some 92) (.bsl false 106 1 z106_9145 [(0, (106, (.t 91)))]) none), (PO.mk (some 4) (.mv (.t 92)) none)]) .ret) .skip)))))))))) (.seq (.ops [(PO.mk (some 4) (.mv (.k (.sl .nil [] 0))) none)]) .ret)))
def k196 (F : Fn) : PF := PF.mk 8 1 [(.t 2)] (.seq (.ops [(PO.mk (some 2) (.mv (.k (.int .i64 0))) none)]) (.seq (.ops [(PO.mk (some 3) (.mv (.t 0)) none), (PO.mk (some 4) (.nilck (.t 3)) none), (PO.mk (some 5) (.fldA 1 (.t 4)) none), (PO.mk (some 6) (.load false 1 (.t 5)) none), (PO.mk (some 7) (.lenSl (.t 6)) none), (PO.mk (some 2) (.mv (.t 7)) none)]) .ret))
def k189 (F : Fn) : PF := PF.mk 55 5 [(PR.cell 10 true 69), (.t 11)] (.seq (.ops [(PO.mk (some 5) (.box (.t 0)) none), (PO.mk (some 6) (.box (.t 1)) none), (PO.mk (some 10) (.alloc z69_adc1) none), (PO.mk (some 11) (.mv (.k (.bool false))) none)]) (.seq (.ops [(PO.mk (some 15) (.load true 74 (.t 5)) none), (PO.mk (some 16) (.mv (.t 2)) none), (PO.mk (some 17) (.mv (.t 3)) none), (PO.mk (some 18) (.call (F 191) [(.t 15), (.t 16), (.t 17)]) none), (PO.mk (some 19) (.bsl false 2 1 [(.sl .nil [] 0), (.sl .nil [] 0)] [(0, (2, (.t 18)))]) none), (PO.mk (some 20) (.mv (.t 4)) none), (PO.mk (some 21) (.appz 2 48 (.t 19) (.t 20)) none), (PO.mk (some 22) (.build z69_adc1 [(68, (1, (.t 21)))]) none), (PO.mk (some 12) (.alloc z69_adc1) none), (PO.mk none (.store 69 (.t 12) (.t 22)) none)]) (.seq (.draw [(.e, (PO.mk (some 25) (.fldA 65 (.t 6)) none)), (.e, (PO.mk (some 27) (.fldA 2 (.t 5)) none)), (.e, (PO.mk (some 31) (.fldA 66 (.t 6)) none)), (.s, (PO.mk (some 23) (.load true 68 (.t 6)) none)), (.s, (PO.mk (some 24) (.call (F 141) [(.t 23)]) none)), (.s, (PO.mk (some 26) (.load false 1 (.t 25)) none)), (.s, (PO.mk (some 28) (.load false 1 (.t 27)) none)), (.e, (PO.mk (some 29) (.conv .u32 (.t 28)) none)), (.e, (PO.mk (some 30) (.bin .add (.t 26) (.t 29)) none)), (.s, (PO.mk (some 32) (.load false 1 (.t 31)) none)), (.e, (PO.mk (some 33) (.build z68_39b1 [(0, (1, (.k (w32 1)))), (1, (32, (.t 24))), (65, (1, (.t 30))), (66, (1, (.t 32)))]) none)), (.e, (PO.mk (some 34) (.fldA 0 (.t 12)) none)), (.x, (PO.mk none (.store 68 (.t 34) (.t 33)) none))]) (.seq (.ops [(PO.mk (some 36) (.fldA 68 (.t 12)) none), (PO.mk (some 37) (.load false 1 (.t 36)) none), (PO.mk (some 38) (.call (F 192) [(.t 37)]) none), (PO.mk (some 35) (.mv (.t 38)) none), (PO.mk (some 39) (.ext 0 (.t 35)) none), (PO.mk (some 40) (.ext 1 (.t 35)) none), (PO.mk (some 41) (.fldA 0 (.t 12)) none), (PO.mk (some 42) (.fldA 33 (.t 41)) none), (PO.mk none (.store 32 (.t 42) (.t 39)) none)]) (.seq (.ops [(PO.mk (some 44) (.fldA 0 (.t 12)) none), (PO.mk (some 45) (.load true 68 (.t 44)) none), (PO.mk (some 46) (.fldA 0 (.t 5)) none), (PO.mk (some 47) (.load false 1 (.t 46)) none), (PO.mk (some 48) (.call (F 143) [(.t 45), (.t 47), (.k (.int .i64 4096))]) none), (PO.mk (some 43) (.mv (.t 48)) none), (PO.mk (some 49) (.ext 0 (.t 43)) none), (PO.mk (some 50) (.ext 1 (.t 43)) none), (PO.mk (some 13) (.alloc z68_39b1) none), (PO.mk none (.store 68 (.t 13) (.t 49)) none), (PO.mk (some 14) (.mv (.t 50)) none)]) (.seq (.ops [(PO.mk (some 51) (.load true 68 (.t 13)) none), (PO.mk (some 52) (.fldA 0 (.t 12)) none), (PO.mk none (.store 68 (.t 52) (.t 51)) none)]) (.seq (.ops [(PO.mk (some 53) (.load true 69 (.t 12)) none), (PO.mk (some 54) (.mv (.t 14)) none), (PO.mk none (.store 69 (.t 10) (.t 53)) none), (PO.mk (some 11) (.mv (.t 54)) none)]) .ret)))))))
def k191 (F : Fn) : PF := PF.mk 26 3 [(PR.cell 6 true 2)] (.seq (.ops [(PO.mk (some 3) (.box (.t 0)) none), (PO.mk (some 6) (.alloc [(.sl .nil [] 0), (.sl .nil [] 0)]) none)]) (.seq (.draw [(.e, (PO.mk (some 8) (.mv (.t 1)) none)), (.e, (PO.mk (some 9) (.conv .u8 (.t 8)) none)), (.e, (PO.mk (some 10) (.mv (.t 1)) none)), (.e, (PO.mk (some 11) (.bin .shr (.t 10) (.k (w64 8))) none)), (.e, (PO.mk (some 12) (.conv .u8 (.t 11)) none)), (.e, (PO.mk (some 13) (.mv (.t 2)) none)), (.e, (PO.mk (some 14) (.bsl false 1 3 [(w8 0)] [(0, (1, (.t 9))), (1, (1, (.t 12))), (2, (1, (.t 13)))]) none)), (.e, (PO.mk (some 17) (.fldA 3 (.t 3)) none)), (.e, (PO.mk (some 19) (.mv (.t 2)) none)), (.e, (PO.mk (some 20) (.bsl false 1 1 [(w8 0)] [(0, (1, (.t 19)))]) none)), (.e, (PO.mk (some 21) (.bsl false 1 1 [(.sl .nil [] 0)] [(0, (1, (.t 20)))]) none)), (.s, (PO.mk (some 7) (.call (F 197) []) none)), (.e, (PO.mk (some 15) (.build z34_1838 [(0, (33, (.t 7))), (33, (1, (.t 14)))]) none)), (.e, (PO.mk (some 16) (.bsl false 34 1 z34_1838 [(0, (34, (.t 15)))]) none)), (.s, (PO.mk (some 18) (.load false 1 (.t 17)) none)), (.s, (PO.mk (some 22) (.call (F 103) [(.t 21)]) none)), (.e, (PO.mk (some 23) (.build z33_0be4 [(0, (1, (.t 18))), (1, (32, (.t 22)))]) none)), (.e, (PO.mk (some 24) (.bsl false 33 1 z33_0be4 [(0, (33, (.t 23)))]) none)), (.e, (PO.mk (some 25) (.build [(.sl .nil [] 0), (.sl .nil [] 0)] [(0, (1, (.t 16))), (1, (1, (.t 24)))]) none)), (.x, (PO.mk none (.store 2 (.t 6) (.t 25)) none))]) .ret))
def k195 (F : Fn) : PF := PF.mk 75 2 [(PR.cell 4 true 106)] (.seq (.ops [(PO.mk (some 3) (.box (.t 1)) none), (PO.mk (some 4) (.alloc z106_9145) none)]) (.seq (.ops [(PO.mk (some 5) (.mv (.k (.int .i64 1))) none)]) (.seq (.seq (.ops [(PO.mk (some 12) (.fldA 3 (.t 3)) none), (PO.mk (some 13) (.load false 1 (.t 12)) none), (PO.mk (some 14) (.lenSl (.t 13)) none), (PO.mk (some 15) (.mv (.k (.int .i64 0))) none)]) (.block 0 (.loop (.seq (.ops [(PO.mk (some 16) (.bin .lss (.t 15) (.t 14)) none)]) (.seq (.cond (.t 16) .skip (.exit 0)) (.seq (.block 1 (.seq (.ops [(PO.mk (some 17) (.idxSl 32 (.t 13) (.t 15)) none), (PO.mk (some 18) (.load true 32 (.t 17)) none), (PO.mk (some 7) (.alloc zR32_w80) none), (PO.mk none (.store 32 (.t 7) (.t 18)) none)]) (.seq (.draw [(.e, (PO.mk (some 20) (.mv (.t 0)) none)), (.e, (PO.mk (some 21) (.nilck (.t 20)) none)), (.e, (PO.mk (some 22) (.fldA 2 (.t 21)) none)), (.s, (PO.mk (some 23) (.load false 1 (.t 22)) none)), (.s, (PO.mk (some 24) (.load true 32 (.t 7)) none)), (.s, (PO.mk (some 25) (.lookup (.agg 32) (.int .i64 0) true (.t 23) (.t 24)) none)), (.e, (PO.mk (some 19) (.mv (.t 25)) none)), (.e, (PO.mk (some 26) (.ext 0 (.t 19)) none)), (.e, (PO.mk (some 27) (.ext 1 (.t 19)) none)), (.e, (PO.mk (some 8) (.mv (.t 26)) none)), (.e, (PO.mk (some 9) (.mv (.t 27)) none))]) (.seq (.ops [(PO.mk (some 28) (.mv (.t 9)) none)]) (.cond (.t 28) (.seq (.ops [(PO.mk (some 29) (.mv (.t 8)) none), (PO.mk (some 30) (.bin .add (.t 29) (.k (.int .i64 1))) none), (PO.mk (some 5) (.mv (.t 30)) none)]) (.exit 0)) .skip))))) (.ops [(PO.mk (some 31) (.bin .add (.t 15) (.k (.int .i64 1))) none), (PO.mk (some 15) (.mv (.t 31)) none)]))))))) (.seq (.ops [(PO.mk (some 32) (.build z106_9145 [(0, (1, (.k (.int .i64 4))))]) none), (PO.mk (some 10) (.alloc z106_9145) none), (PO.mk none (.store 106 (.t 10) (.t 32)) none)]) (.seq (.seq (.ops [(PO.mk (some 33) (.mv (.t 5)) none), (PO.mk (some 11) (.mv (.t 33)) none)]) (.block 2 (.loop (.seq (.seq (.ops [(PO.mk (some 34) (.mv (.t 11)) none), (PO.mk (some 35) (.mv (.t 0)) none), (PO.mk (some 36) (.nilck (.t 35)) none), (PO.mk (some 37) (.fldA 1 (.t 36)) none), (PO.mk (some 38) (.load false 1 (.t 37)) none), (PO.mk (some 39) (.lenSl (.t 38)) none), (PO.mk (some 40) (.bin .lss (.t 34) (.t 39)) none), (PO.mk (some 41) (.mv (.t 40)) none), (PO.mk (some 42) (.fldA 36 (.t 10)) (some (41, true))), (PO.mk (some 43) (.load false 1 (.t 42)) (some (41, true))), (PO.mk (some 44) (.lenSl (.t 43)) (some (41, true))), (PO.mk (some 45) (.bin .lss (.t 44) (.k (.int .i64 32))) (some (41, true))), (PO.mk (some 46) (.pick (.t 41) (.t 45) (.k (.bool false))) none)]) (.cond (.t 46) .skip (.exit 2))) (.seq (.block 3 (.seq (.draw [(.e, (PO.mk (some 49) (.fldA 36 (.t 10)) none)), (.e, (PO.mk (some 51) (.mv (.t 0)) none)), (.e, (PO.mk (some 52) (.nilck (.t 51)) none)), (.e, (PO.mk (some 53) (.fldA 1 (.t 52)) none)), (.e, (PO.mk (some 55) (.mv (.t 11)) none)), (.s, (PO.mk (some 50) (.load false 1 (.t 49)) none)), (.s, (PO.mk (some 54) (.load false 1 (.t 53)) none)), (.e, (PO.mk (some 56) (.idxSl 69 (.t 54) (.t 55)) none)), (.e, (PO.mk (some 57) (.fldA 0 (.t 56)) none)), (.s, (PO.mk (some 58) (.load true 68 (.t 57)) none)), (.e, (PO.mk (some 59) (.bsl false 68 1 z68_39b1 [(0, (68, (.t 58)))]) none)), (.x, (PO.mk (some 60) (.app 68 80 (.t 50) (.t 59)) none)), (.e, (PO.mk (some 61) (.fldA 36 (.t 10)) none)), (.x, (PO.mk none (.store 1 (.t 61) (.t 60)) none))]) (.seq (.draw [(.e, (PO.mk (some 62) (.mv (.t 0)) none)), (.e, (PO.mk (some 63) (.nilck (.t 62)) none)), (.e, (PO.mk (some 64) (.fldA 1 (.t 63)) none)), (.e, (PO.mk (some 66) (.mv (.t 11)) none)), (.e, (PO.mk (some 71) (.fldA 4 (.t 3)) none)), (.s, (PO.mk (some 65) (.load false 1 (.t 64)) none)), (.e, (PO.mk (some 67) (.idxSl 69 (.t 65) (.t 66)) none)), (.e, (PO.mk (some 68) (.fldA 0 (.t 67)) none)), (.s, (PO.mk (some 69) (.load true 68 (.t 68)) none)), (.s, (PO.mk (some 70) (.call (F 141) [(.t 69)]) none)), (.s, (PO.mk (some 72) (.load true 32 (.t 71)) none)), (.e, (PO.mk (some 73) (.eqa (.agg 32) false (.t 70) (.t 72)) none))]) (.cond (.t 73) (.exit 2) .skip)))) (.ops [(PO.mk (some 47) (.mv (.t 11)) none), (PO.mk (some 48) (.bin .add (.t 47) (.k (.int .i64 1))) none), (PO.mk (some 11) (.mv (.t 48)) none)])))))) (.seq (.ops [(PO.mk (some 74) (.load true 106 (.t 10)) none), (PO.mk none (.store 106 (.t 4) (.t 74)) none)]) .ret))))))
structure OkHonest (P : Program) (F : Fn) : Prop where
  mixed : P.follows .mixedOrders = true
  toOkTx : OkTx P F
  h188 : compFn P ⟨[], [], [(8, [7])], [], []⟩ (F 188) = some (k188 F)
  h190 : compFn P ⟨[], [], [], [], []⟩ (F 190) = some (k190 F)
  h193 : compFn P ⟨[], [], [], [], [11]⟩ (F 193) = some (k193 F)
  h194 : compFn P ⟨[], [], [], [], []⟩ (F 194) = some (k194 F)
  h196 : compFn P ⟨[], [], [], [], []⟩ (F 196) = some (k196 F)
  h189 : compFn P ⟨[], [], [], [], [21]⟩ (F 189) = some (k189 F)
  h191 : compFn P ⟨[], [], [], [], []⟩ (F 191) = some (k191 F)
  h195 : compFn P ⟨[], [], [], [], []⟩ (F 195) = some (k195 F)
end Go.Ab
set_option linter.unusedSimpArgs false
set_option linter.unusedVariables false
set_option maxRecDepth 10000
namespace Go.Ab
open Go Go.RowKit
def firstM (sub : Int) (h : Nat) (mark : UInt8) : Tx1 :=
  ⟨.full, [⟨id0, 4294967295#32, .full, [UInt8.ofNat h, UInt8.ofNat (h / 256), mark]⟩], .full, [⟨sub, sha [mark]⟩]⟩
theorem firstM_ok (sub : Int) (h : Nat) (mark : UInt8) : (firstM sub h mark).ok 100 := by
  refine ⟨by simp [firstM], by simp [firstM], ?_⟩
  intro x hx
  simp [firstM] at hx
  rw [hx]
  simp
section
variable {P : Program} {F : Fn}
set_option maxHeartbeats 1000000 in
theorem spec191 (ok : OkHonest P F) (st : St) (r : Rl) (h : Nat) (hh : h ≤ 100000) (mark : UInt8) : ACalls P (F 191) [.agg (eRl r), .int .i64 (h : Int), w8 mark] st fun v st' => v = .agg (eTx (firstM r.subsidy h mark)) ∧ st' = st := by
  refine shows_call ok.mixed ok.h191 (by simp [k191]) ?_
  simp only [k191]
  simp
  intro bid hb
  have S := (Sep.start st).new hb (.cells (eRl r))
  generalize st.upd bid _ = st1 at S ⊢
  simp
  intro rid hr
  have S := S.new hr (.cells [.sl .nil [] 0, .sl .nil [] 0])
  generalize st1.upd rid _ = st2 at S ⊢
  obtain ⟨H2, hH2⟩ : ∃ H2, H2 = h / 256 := ⟨_, rfl⟩
  have hs : binV .shr (V.int .i64 (h : Int)) (w64 8#64) = some (.int .i64 (H2 : Int)) := by
    show binV .shr (V.int .i64 (h : Int)) (.int .u64 (8 : Int)) = _
    rw [binV_int]
    have e : (h : Int).fdiv (2 ^ 8) = (H2 : Int) := by
      rw [shr_nat, Nat.shiftRight_eq_div_pow, hH2]
    have e1 : Nat.min (8 : Int).toNat IntKind.i64.bits = 8 := rfl
    simp only [e1, e]
    rfl
  obtain ⟨K3, hK3⟩ : ∃ K3, K3 = [(OfNat.ofNat h : UInt8), (OfNat.ofNat H2 : UInt8), mark] := ⟨_, rfl⟩
  obtain ⟨K1, hK1⟩ : ∃ K1, K1 = [mark] := ⟨_, rfl⟩
  have hl3 : K3.length = 3 := by rw [hK3]; rfl
  have hl1 : K1.length = 1 := by rw [hK1]; rfl
  have hf3 : fillV (repV [w8 0] 3) [(0, 1, w8 (OfNat.ofNat h)), (1, 1, w8 (OfNat.ofNat H2)), (2, 1, w8 mark)] = some (rowsOf e8 K3) := by rw [hK3]; rfl
  have hf1 : fillV (repV [w8 0] 1) [(0, 1, w8 mark)] = some (rowsOf e8 K1) := by rw [hK1]; rfl
  have hfs : fillV (repV [V.sl SK.nil [] 0] 1) [(0, 1, V.sl .full (rowsOf e8 K1) 1)] = some [.sl .full (rowsOf e8 K1) 1] := rfl
  simp [hs, hf3, hf1, hfs]
  refine ⟨_, spec197 ok.toOkTx st2, ?_⟩
  obtain ⟨x, hx⟩ : ∃ x : In1, x = ⟨id0, 4294967295#32, .full, K3⟩ := ⟨_, rfl⟩
  have hfi : fillV z34_1838 [(0, 33, .agg (eId id0 ++ [w32 4294967295#32])), (33, 1, .sl .full (rowsOf e8 K3) 3)] = some (eIn x) := by
    rw [hx, ← hl3]; rfl
  have hfi2 : fillV (repV z34_1838 1) [(0, 34, .agg (eIn x))] = some (eIn x) := by
    rw [show repV z34_1838 1 = z34_1838 by simp [repV]]
    simp [fillV, eIn_len, spliceV]
  have o := S.mem (i := bid) (o := .cells (eRl r)) (by simp)
  have hp : Parts st2 [.sl .full (rowsOf e8 K1) 1] [K1] := .cons (.inl ⟨.full, by rw [hl1]⟩) .nil
  simp [hfi, hfi2, St.seg, o, rsegSubsidy]
  have hsp := spec103 ok.toOkTx.toOkHead.toOkHash st2 hp .full (by simp [hl1]) (by simp)
  rw [show [K1].flatten = K1 by simp] at hsp
  refine ⟨_, hsp, ?_⟩
  obtain ⟨y, hy⟩ : ∃ y : Out1, y = ⟨r.subsidy, sha K1⟩ := ⟨_, rfl⟩
  have hfo : fillV z33_0be4 [(0, 1, .int .i64 r.subsidy), (1, 32, .agg (eId (sha K1)))] = some (eOut y) := by
    rw [hy]; rfl
  have hfo2 : fillV (repV z33_0be4 1) [(0, 33, .agg (eOut y))] = some (eOut y) := by
    rw [show repV z33_0be4 1 = z33_0be4 by simp [repV]]
    simp [fillV, eOut_len, spliceV]
  simp [hfo, hfo2]
  obtain ⟨t, ht⟩ : ∃ t, t = firstM r.subsidy h mark := ⟨_, rfl⟩
  have ei : V.sl .full (eIn x) 1 = insV t := by
    have : t.ins = [x] := by rw [ht, hx, hK3, hH2]; rfl
    have h2 : t.ik = .full := by rw [ht]; rfl
    rw [insV, this, h2]
    simp
  have eo : V.sl .full (eOut y) 1 = outsV t := by
    have : t.outs = [y] := by rw [ht, hy, hK1]; rfl
    have h2 : t.uk = .full := by rw [ht]; rfl
    rw [outsV, this, h2]
    simp
  rw [ei, eo, ← ht]
  have hft : fillV [V.sl SK.nil [] 0, V.sl SK.nil [] 0] [(0, 1, insV t), (1, 1, outsV t)] = some (eTx t) := rfl
  have hst := store_pt (sz := 2) (o := 0) S.get (v := .agg (eTx t)) (vs := eTx t) rfl rfl (by simp)
  rw [show spliceV [V.sl SK.nil [] 0, V.sl SK.nil [] 0] 0 (eTx t) = eTx t from rfl] at hst
  have S := S.set (.cells (eTx t))
  have hsg : segOf (eTx t) 0 2 = some (eTx t) := rfl
  simp [hft, hst, St.seg, hsg]
  exact S.was' (st0 := st) (by simp)
structure Blk1 where
  hdr : Hdr
  tk : SK
  txs : List Tx1
def txsV (k : SK) (l : List Tx1) : V := .sl k (rowsOf eTx l) l.length
def eBlk (b : Blk1) : List V := eHdr b.hdr ++ [txsV b.tk b.txs]
theorem eBlk_len (b : Blk1) : (eBlk b).length = 69 := by simp [eBlk, eHdr_len]
theorem bsegH (b : Blk1) : segOf (eBlk b) 0 68 = some (eHdr b.hdr) := seg_of_drop (zs := [txsV b.tk b.txs]) rfl (eHdr_len _) (by omega)
theorem bdrop68 (b : Blk1) : (eBlk b).drop 68 = [txsV b.tk b.txs] := by rw [eBlk, List.drop_left' (eHdr_len _)]
theorem bsegT (b : Blk1) : segOf (eBlk b) 68 1 = some [txsV b.tk b.txs] := seg_of_drop (zs := []) (bdrop68 b) rfl (by omega)
theorem bsegAll (b : Blk1) : segOf (eBlk b) 0 69 = some (eBlk b) := by simp [segOf, eBlk_len, List.take_of_length_le]
theorem bsplH (b : Blk1) (h : Hdr) : spliceV (eBlk b) 0 (eHdr h) = eBlk { b with hdr := h } := by
  rw [spliceV, List.take_zero, List.nil_append, Nat.zero_add, eHdr_len, bdrop68]
  rfl
theorem splRoot (h : Hdr) (x : Id) (zs : List V) : spliceV (eHdr h ++ zs) 33 (eId x) = eHdr { h with root := x } ++ zs := by
  have e : eHdr h ++ zs = (w32 h.ver :: eId h.prev) ++ (eId h.root ++ ([w32 h.time, w32 h.bits, w32 h.nonce] ++ zs)) := by simp [eHdr]
  have hl : (w32 h.ver :: eId h.prev).length = 33 := by simp [eId_len]
  have e2 : 33 + (eId x).length = (w32 h.ver :: eId h.prev).length + 32 := by rw [eId_len, hl]
  rw [spliceV, e2, e, ← List.drop_drop, List.drop_left, List.drop_left' (eId_len _), ← hl, List.take_left]
  simp [eHdr]
theorem bsplRoot (b : Blk1) (x : Id) : spliceV (eBlk b) 33 (eId x) = eBlk { b with hdr := { b.hdr with root := x } } := splRoot b.hdr x _
theorem blkFill (h : Hdr) (k : SK) (l : List Tx1) : fillV z69_adc1 [(0, 68, .agg (eHdr h)), (68, 1, txsV k l)] = some (eBlk ⟨h, k, l⟩) := by
  have e1 : z69_adc1 = eBlk ⟨hdr0, .nil, []⟩ := rfl
  have hc1 : (V.agg (eHdr h)).cells? = some (eHdr h) := rfl
  have hc2 : (txsV k l).cells? = some [txsV k l] := rfl
  simp only [fillV, hc1, hc2]
  rw [if_pos ⟨eHdr_len h, by rw [z69_adc1_len]; omega⟩, e1, bsplH]
  rw [if_pos ⟨rfl, by rw [eBlk_len]; omega⟩]
  congr 1
  rw [spliceV, eBlk, List.take_left' (eHdr_len _), show 68 + [txsV k l].length = 69 from rfl, List.drop_of_length_le (by simp [eHdr_len])]
  simp [eBlk]
theorem rsplGen (r : Rl) (b : Blk1) : spliceV (eRl r) 5 (eBlk b) = eRl { r with gen := b.hdr, txs := txsV b.tk b.txs } := by
  rw [spliceV, eBlk_len, List.drop_of_length_le (by rw [eRl_len]; omega)]
  simp [eRl, eBlk]
def genM : Hdr := { hdr0 with bits := 545259519#32, root := txIdM (firstM 50 0 0) }
def rulesM (work : Int) : Rl := ⟨545259519#32, 0, 10, 50, work, genM, txsV .full [firstM 50 0 0]⟩
set_option maxHeartbeats 1000000 in
theorem spec190 (ok : OkHonest P F) (st : St) (work : Int) : ACalls P (F 190) [.int .i64 work] st fun v st' => v = .agg (eRl (rulesM work)) ∧ st' = st := by
  refine shows_call ok.mixed ok.h190 (by simp [k190]) ?_
  simp only [k190]
  simp
  intro rid hr
  have S := (Sep.start st).new hr (.cells z74_2f53)
  generalize st.upd rid _ = st1 at S ⊢
  obtain ⟨r0, hr0⟩ : ∃ r0 : Rl, r0 = ⟨545259519#32, 0, 10, 50, work, hdr0, .sl .nil [] 0⟩ := ⟨_, rfl⟩
  have hf0 : fillV z74_2f53 [(0, 1, w32 545259519#32), (2, 1, V.int .i64 10), (3, 1, V.int .i64 50), (4, 1, V.int .i64 work)] = some (eRl r0) := by rw [hr0]; rfl
  simp [hf0]
  intro i3 h3
  have S := S.new h3 (.cells z74_2f53)
  have hst := store_pt (sz := 74) (o := 0) S.get (v := .agg (eRl r0)) (vs := eRl r0) rfl (eRl_len r0) (by simp)
  rw [show spliceV z74_2f53 0 (eRl r0) = eRl r0 by simp [spliceV, eRl_len]] at hst
  have S := S.set (.cells (eRl r0))
  simp [hst] at S ⊢
  generalize st1.upd i3 (.cells (eRl r0)) = st2 at S ⊢
  have o3 := S.get
  have hsg : segOf (eRl r0) 0 74 = some (eRl r0) := by simp [segOf, eRl_len, List.take_of_length_le]
  obtain ⟨g0, hg0⟩ : ∃ g0 : Hdr, g0 = { hdr0 with bits := 545259519#32 } := ⟨_, rfl⟩
  have hfg : fillV z68_39b1 [(66, 1, w32 545259519#32)] = some (eHdr g0) := by rw [hg0]; rfl
  simp [hfg, St.seg, o3, hsg]
  refine (spec191 ok st2 r0 0 (by omega) 0).mono ?_
  rintro v st2 ⟨rfl, rfl⟩
  obtain ⟨t, ht⟩ : ∃ t, t = firstM 50 0 0 := ⟨_, rfl⟩
  have ht0 : firstM r0.subsidy 0 0 = t := by rw [hr0, ht]
  rw [ht0]
  have hft : fillV (repV [V.sl SK.nil [] 0, V.sl SK.nil [] 0] 1) [(0, 2, .agg (eTx t))] = some (eTx t) := rfl
  obtain ⟨b0, hb0⟩ : ∃ b0 : Blk1, b0 = ⟨g0, .full, [t]⟩ := ⟨_, rfl⟩
  have etx : V.sl .full (eTx t) 1 = txsV .full [t] := by simp [txsV]
  have hfb := blkFill g0 .full [t]
  rw [← hb0] at hfb
  simp [hft, etx, hfb]
  intro i4 h4
  have S := S.new h4 (.cells z69_adc1)
  have hst := store_pt (sz := 69) (o := 0) S.get (v := .agg (eBlk b0)) (vs := eBlk b0) rfl (eBlk_len b0) (by simp)
  rw [show spliceV z69_adc1 0 (eBlk b0) = eBlk b0 by simp [spliceV, eBlk_len]] at hst
  have S := S.set (.cells (eBlk b0))
  simp [hst] at S ⊢
  generalize st2.upd i4 (.cells (eBlk b0)) = st3 at S ⊢
  have o4 := S.get
  have hsx := bsegT b0
  have e0t : txsV b0.tk b0.txs = txsV .full [t] := by rw [hb0]
  rw [e0t] at hsx
  simp [St.seg, o4, hsx]
  have htk : t.ok 100 := by rw [ht]; exact firstM_ok _ _ _
  refine (spec192 ok.toOkTx st3 (s := txsV .full [t]) (l := [t]) (.inl ⟨.full, rfl⟩) (by simp) (by simpa using htk)).mono ?_
  rintro v st3 ⟨rfl, rfl⟩
  have hrt : rootM (rowsIds [t]) = (txIdM t, false) := rfl
  rw [hrt]
  obtain ⟨b1, hb1⟩ : ∃ b1 : Blk1, b1 = { b0 with hdr := { b0.hdr with root := txIdM t } } := ⟨_, rfl⟩
  have hst := store_pt (sz := 32) (o := 33) S.get (v := .agg (eId (txIdM t))) (vs := eId (txIdM t)) rfl (eId_len _) (by simp [eBlk_len])
  rw [bsplRoot, ← hb1] at hst
  have S := S.set (.cells (eBlk b1))
  simp [hst]
  generalize st3.upd i4 (.cells (eBlk b1)) = st4 at S ⊢
  have o4 := S.get
  obtain ⟨r1, hr1⟩ : ∃ r1 : Rl, r1 = { r0 with gen := b1.hdr, txs := txsV b1.tk b1.txs } := ⟨_, rfl⟩
  have hst := store_pt (sz := 69) (o := 5) (S.mem (i := i3) (o := .cells (eRl r0)) (by simp)) (v := .agg (eBlk b1)) (vs := eBlk b1) rfl (eBlk_len b1) (by simp [eRl_len])
  rw [rsplGen, ← hr1] at hst
  have S := S.setAt (.cells (eRl r1)) 1 rfl
  simp only [List.set_cons_succ, List.set_cons_zero] at S
  simp [St.seg, o4, bsegAll, hst]
  generalize st4.upd i3 (.cells (eRl r1)) = st5 at S ⊢
  have o3 := S.mem (i := i3) (o := .cells (eRl r1)) (by simp)
  have hsg1 : segOf (eRl r1) 0 74 = some (eRl r1) := by simp [segOf, eRl_len, List.take_of_length_le]
  have hst := store_pt (sz := 74) (o := 0) (S.mem (i := rid) (o := .cells z74_2f53) (by simp)) (v := .agg (eRl r1)) (vs := eRl r1) rfl (eRl_len r1) (by simp)
  rw [show spliceV z74_2f53 0 (eRl r1) = eRl r1 by simp [spliceV, eRl_len]] at hst
  have S := S.setAt (.cells (eRl r1)) 2 rfl
  have hr2 : r1 = rulesM work := by rw [hr1, hb1, hb0, hr0, hg0, ht]; rfl
  simp [St.seg, o3, hsg1, hst]
  exact ⟨S.was' (st0 := st) (by simp), by rw [hr2]⟩
end
end Go.Ab
set_option linter.unusedSimpArgs false
set_option linter.unusedVariables false
namespace Go.Ab
open Go Go.RowKit
end Go.Ab
set_option linter.unusedVariables false
namespace Go.Ab
open Go
end Go.Ab
set_option linter.unusedSimpArgs false
set_option linter.unusedVariables false
set_option maxRecDepth 10000
namespace Go.Ab
open Go Go.RowKit
theorem mineN_some {h : Hdr} {limit : W32} {n : Nat} {x : Hdr} (e : mineN h limit n = some x) : x.ver = h.ver ∧ x.prev = h.prev ∧ x.root = h.root ∧ x.time = h.time ∧ x.bits = h.bits ∧ provedN x limit = 0 := by
  induction n generalizing h with
  | zero => cases e
  | succ n ih =>
    unfold mineN at e
    split at e
    · cases e
      rename_i hp
      exact ⟨rfl, rfl, rfl, rfl, rfl, hp⟩
    · exact ih (h := { h with nonce := h.nonce + 1 }) e
theorem hspl_ver (h : Hdr) (x : W32) : spliceV (eHdr h) 0 [w32 x] = eHdr { h with ver := x } := rfl
theorem hspl_prev (h : Hdr) (p : Id) : spliceV (eHdr h) 1 (eId p) = eHdr { h with prev := p } := by
  have e : ∀ g : Hdr, eHdr g = [w32 g.ver] ++ (eId g.prev ++ (eId g.root ++ [w32 g.time, w32 g.bits, w32 g.nonce])) := fun g => rfl
  rw [e, show 1 = 1 + 0 from rfl, splice_right (n := 1) rfl]
  unfold spliceV
  rw [List.take_zero, List.nil_append, Nat.zero_add, show (eId p).length = (eId h.prev).length by rw [eId_len, eId_len], List.drop_left]; rfl
def eHpre65 (h : Hdr) : List V := w32 h.ver :: (eId h.prev ++ eId h.root)
theorem eHpre65_len (h : Hdr) : (eHpre65 h).length = 65 := by simp [eHpre65, eId_len]
theorem eHdr_pre65 (h : Hdr) : eHdr h = eHpre65 h ++ [w32 h.time, w32 h.bits, w32 h.nonce] := by simp [eHdr, eHpre65]
theorem hspl_time (h : Hdr) (x : W32) : spliceV (eHdr h) 65 [w32 x] = eHdr { h with time := x } := by
  rw [eHdr_pre65, show 65 = 65 + 0 from rfl, splice_right (eHpre65_len _), eHdr_pre65]; rfl
theorem hspl_bits (h : Hdr) (x : W32) : spliceV (eHdr h) 66 [w32 x] = eHdr { h with bits := x } := by
  rw [eHdr_pre65, show 66 = 65 + 1 from rfl, splice_right (eHpre65_len _), eHdr_pre65]; rfl
theorem build_h4 (v : W32) (p : Id) (t b : W32) : fillV (eHdr hdr0) [(0, 1, w32 v), (1, 32, .agg (eId p)), (65, 1, w32 t), (66, 1, w32 b)] = some (eHdr { hdr0 with ver := v, prev := p, time := t, bits := b }) := by
  simp [fillV, eHdr_len, eId_len, hspl_ver, hspl_prev, hspl_time, hspl_bits]
section
variable {P : Program} {F : Fn} {tid : Nat} {r : Rl} {l : List Nd} {L : List Asn} {st : St}
end
end Go.Ab
set_option linter.unusedSimpArgs false
set_option linter.unusedVariables false
set_option maxRecDepth 10000
namespace Go.Ab
open Go Go.RowKit
def preM (r : Rl) (prev : Hdr) (txs : List Tx1) : Hdr :=
  ⟨1, hId prev, (rootM (rowsIds txs)).1, prev.time + BitVec.ofInt 32 r.spacing, prev.bits, 0⟩
def moreK (more : List Tx1) : SK := if more = [] then .full else .some
def growR (r : Rl) (prev : Hdr) (h : Nat) (mark : UInt8) (more : List Tx1) : Hdr × Bool :=
  match mineN (preM r prev (firstM r.subsidy h mark :: more)) r.limit 4096 with
  | some x => (x, true)
  | none => (hdr0, false)
def growB (r : Rl) (prev : Hdr) (h : Nat) (mark : UInt8) (more : List Tx1) : Blk1 :=
  ⟨(growR r prev h mark more).1, moreK more, firstM r.subsidy h mark :: more⟩
theorem appz_more {t : Tx1} {more : List Tx1} {st : St} {K : V → St → Prop} (hm : more.length ≤ 900) (h : K (txsV (moreK more) (t :: more)) st) : appzS 2 48 (.sl .full (eTx t) 1) (some (rowsOf eTx more, more.length)) st K := by
  refine ⟨.inr rfl, rfl, by omega, ?_, ?_⟩
  · intro h0
    have : more = [] := List.length_eq_zero_iff.1 h0
    subst this
    simpa [txsV, moreK] using h
  · intro h0
    have h1 : more ≠ [] := fun e => h0 (by rw [e]; rfl)
    have e : txsV (moreK more) (t :: more) = .sl .some (eTx t ++ rowsOf eTx more) (1 + more.length) := by
      rw [txsV, moreK, if_neg h1, rowsOf_cons, List.length_cons]
      congr 1
      omega
    rwa [e] at h
theorem blkFill1 (k : SK) (l : List Tx1) : fillV z69_adc1 [(68, 1, txsV k l)] = some (eBlk ⟨hdr0, k, l⟩) := by
  have := blkFill hdr0 k l
  simp only [fillV] at this ⊢
  have hc1 : (V.agg (eHdr hdr0)).cells? = some (eHdr hdr0) := rfl
  rw [hc1] at this
  simp only [] at this
  rw [if_pos ⟨eHdr_len _, by rw [z69_adc1_len]; omega⟩] at this
  have e1 : z69_adc1 = eBlk ⟨hdr0, .nil, []⟩ := rfl
  rw [e1, bsplH] at this
  exact this
theorem growR_eq (r : Rl) (prev : Hdr) (h : Nat) (mark : UInt8) (more : List Tx1) : mineR (preM r prev (firstM r.subsidy h mark :: more)) r.limit 4096 = .tup [.agg (eHdr (growR r prev h mark more).1), .bool (growR r prev h mark more).2] := by
  rw [mineR, growR]
  cases mineN (preM r prev (firstM r.subsidy h mark :: more)) r.limit 4096 <;> rfl
section
variable {P : Program} {F : Fn}
set_option maxHeartbeats 4000000 in
theorem spec189 (ok : OkHonest P F) (st : St) (r : Rl) (prev : Hdr) (h : Nat) (hh : h ≤ 100000) (mark : UInt8) (k : SK) (more : List Tx1) (hm : more.length ≤ 900) (hmo : ∀ t ∈ more, t.ok 100) :
    ACalls P (F 189) [.agg (eRl r), .agg (eHdr prev), .int .i64 (h : Int), w8 mark, txsV k more] st fun v st' => v = .tup [.agg (eBlk (growB r prev h mark more)), .bool (growR r prev h mark more).2] ∧ st' = st := by
  refine shows_call ok.mixed ok.h189 (by simp [k189]) ?_
  simp only [k189]
  simp
  intro i5 h5
  have S := (Sep.start st).new h5 (.cells (eRl r))
  generalize st.upd i5 _ = st1 at S ⊢
  simp
  intro i6 h6
  have S := S.new h6 (.cells (eHdr prev))
  generalize st1.upd i6 _ = st2 at S ⊢
  simp
  intro i10 h10
  have S := S.new h10 (.cells z69_adc1)
  generalize st2.upd i10 _ = st3 at S ⊢
  have o5 := S.mem (i := i5) (o := .cells (eRl r)) (by simp)
  have hsg : segOf (eRl r) 0 74 = some (eRl r) := by simp [segOf, eRl_len, List.take_of_length_le]
  simp [St.seg, o5, hsg]
  refine (spec191 ok st3 r h hh mark).mono ?_
  rintro v st3 ⟨rfl, rfl⟩
  obtain ⟨t, ht⟩ : ∃ t, t = firstM r.subsidy h mark := ⟨_, rfl⟩
  have htk : t.ok 100 := by rw [ht]; exact firstM_ok _ _ _
  rw [← ht]
  have hft : fillV (repV [V.sl SK.nil [] 0, V.sl SK.nil [] 0] 1) [(0, 2, .agg (eTx t))] = some (eTx t) := rfl
  have hel : elems st3 2 (txsV k more) = some (rowsOf eTx more, more.length) := Rd.elems eTx_len (.inl ⟨k, rfl⟩)
  simp [hft, hel]
  refine appz_more hm ?_
  obtain ⟨b0, hb0⟩ : ∃ b0 : Blk1, b0 = ⟨hdr0, moreK more, t :: more⟩ := ⟨_, rfl⟩
  have hfb := blkFill1 (moreK more) (t :: more)
  rw [← hb0] at hfb
  simp [hfb]
  intro i12 h12
  have S := S.new h12 (.cells z69_adc1)
  have hst := store_pt (sz := 69) (o := 0) S.get (v := .agg (eBlk b0)) (vs := eBlk b0) rfl (eBlk_len b0) (by simp)
  rw [show spliceV z69_adc1 0 (eBlk b0) = eBlk b0 by simp [spliceV, eBlk_len]] at hst
  have S := S.set (.cells (eBlk b0))
  simp [hst] at S ⊢
  generalize st3.upd i12 (.cells (eBlk b0)) = st4 at S ⊢
  have o5 := S.mem (i := i5) (o := .cells (eRl r)) (by simp)
  have o6 := S.mem (i := i6) (o := .cells (eHdr prev)) (by simp)
  simp [St.seg, o5, o6, hsegAll]
  refine ⟨_, spec141 ok.toOkTx.toOkHead st4 prev, ?_⟩
  obtain ⟨p, hp⟩ : ∃ p, p = hId prev := ⟨_, rfl⟩
  obtain ⟨tm, htm⟩ : ∃ tm, tm = prev.time + BitVec.ofInt 32 r.spacing := ⟨_, rfl⟩
  have hfh : fillV z68_39b1 [(0, 1, w32 1#32), (1, 32, .agg (eId p)), (65, 1, w32 tm), (66, 1, w32 prev.bits)] = some (eHdr ⟨1, p, id0, tm, prev.bits, 0⟩) := by
    rw [z68_eq, build_h4]; rfl
  rw [← hp]
  simp [St.seg, o5, o6, hsegTime, hsegBits, rsegSpacing, ← htm, hfh]
  have hst := store_pt (sz := 68) (o := 0) S.get (v := .agg (eHdr ⟨1#32, p, id0, tm, prev.bits, 0#32⟩)) (vs := eHdr ⟨1#32, p, id0, tm, prev.bits, 0#32⟩) rfl (eHdr_len _) (by rw [eBlk_len]; omega)
  rw [bsplH] at hst
  obtain ⟨b1, hb1⟩ : ∃ b1 : Blk1, b1 = { b0 with hdr := ⟨1#32, p, id0, tm, prev.bits, 0#32⟩ } := ⟨_, rfl⟩
  rw [← hb1] at hst
  have S := S.set (.cells (eBlk b1))
  simp [hst]
  generalize st4.upd i12 (.cells (eBlk b1)) = st5 at S ⊢
  have o12 := S.get
  have et : txsV b1.tk b1.txs = txsV (moreK more) (t :: more) := by rw [hb1, hb0]
  have hsT := bsegT b1
  rw [et] at hsT
  simp [St.seg, o12, hsT]
  refine (spec192 ok.toOkTx st5 (s := txsV (moreK more) (t :: more)) (l := t :: more) (.inl ⟨_, rfl⟩) (by simp; omega) (by
    intro x hx
    rcases List.mem_cons.1 hx with rfl | hx
    · exact htk
    · exact hmo x hx)).mono ?_
  rintro v st5 ⟨rfl, rfl⟩
  obtain ⟨rt, hrt⟩ : ∃ rt, rt = (rootM (rowsIds (t :: more))).1 := ⟨_, rfl⟩
  rw [← hrt]
  have hst := store_pt (sz := 32) (o := 33) S.get (v := .agg (eId rt)) (vs := eId rt) rfl (eId_len _) (by rw [eBlk_len]; omega)
  rw [bsplRoot] at hst
  obtain ⟨b2, hb2⟩ : ∃ b2 : Blk1, b2 = { b1 with hdr := { b1.hdr with root := rt } } := ⟨_, rfl⟩
  rw [← hb2] at hst
  have S := S.set (.cells (eBlk b2))
  simp [hst]
  generalize st5.upd i12 (.cells (eBlk b2)) = st6 at S ⊢
  have o12 := S.get
  have o5 := S.mem (i := i5) (o := .cells (eRl r)) (by simp)
  have hpre : b2.hdr = preM r prev (t :: more) := by rw [hb2, hb1, hrt, htm, hp]; rfl
  have hsH := bsegH b2
  simp [St.seg, o12, o5, hsH, rsegLimit]
  refine (spec143 ok.toOkTx.toOkHead st6 b2.hdr r.limit 4096).mono ?_
  rintro v st6 ⟨rfl, rfl⟩
  have hge := growR_eq r prev h mark more
  rw [← ht] at hge
  rw [show (max 0 (min (4096 : Int) 65536)).toNat = 4096 from rfl, hpre, hge]
  obtain ⟨g, hg⟩ : ∃ g, g = growR r prev h mark more := ⟨_, rfl⟩
  rw [← hg]
  simp
  intro i13 h13
  have S := S.new h13 (.cells z68_39b1)
  have hst := store_pt (sz := 68) (o := 0) S.get (v := .agg (eHdr g.1)) (vs := eHdr g.1) rfl (eHdr_len _) (by simp)
  rw [z68_eq, splice_hdr, ← z68_eq] at hst
  have S := S.set (.cells (eHdr g.1))
  simp [hst] at S ⊢
  generalize st6.upd i13 (.cells (eHdr g.1)) = st7 at S ⊢
  have o13 := S.get
  have hst := store_pt (sz := 68) (o := 0) (S.mem (i := i12) (o := .cells (eBlk b2)) (by simp)) (v := .agg (eHdr g.1)) (vs := eHdr g.1) rfl (eHdr_len _) (by rw [eBlk_len]; omega)
  rw [bsplH] at hst
  obtain ⟨b3, hb3⟩ : ∃ b3 : Blk1, b3 = { b2 with hdr := g.1 } := ⟨_, rfl⟩
  rw [← hb3] at hst
  have S := S.setAt (.cells (eBlk b3)) 1 rfl
  simp only [List.set_cons_succ, List.set_cons_zero] at S
  simp [St.seg, o13, hsegAll, hst]
  generalize st7.upd i12 (.cells (eBlk b3)) = st8 at S ⊢
  have o12 := S.mem (i := i12) (o := .cells (eBlk b3)) (by simp)
  have hst := store_pt (sz := 69) (o := 0) (S.mem (i := i10) (o := .cells z69_adc1) (by simp)) (v := .agg (eBlk b3)) (vs := eBlk b3) rfl (eBlk_len b3) (by simp)
  rw [show spliceV z69_adc1 0 (eBlk b3) = eBlk b3 by simp [spliceV, eBlk_len]] at hst
  have S := S.setAt (.cells (eBlk b3)) 2 rfl
  have he : b3 = growB r prev h mark more := by rw [hb3, hb2, hb1, hb0, hg, ht]; rfl
  simp [St.seg, o12, bsegAll, hst]
  exact ⟨S.was' (st0 := st) (by simp), by rw [he]⟩
end
end Go.Ab
set_option linter.unusedSimpArgs false
set_option linter.unusedVariables false
set_option maxRecDepth 10000
namespace Go.Ab
open Go Go.RowKit
section
variable {α : Type} {f : α → List V} {sz : Nat}
def Slv (sz : Nat) (f : α → List V) (s : V) (l : List α) : Asn := fun h =>
  (∃ k, (k = .nil ∨ k = .full) ∧ s = .sl k (rowsOf f l) l.length) ∨ ∃ sid, s = .hsl sid 0 sz l.length ∧ h sid = some (.cells (rowsOf f l))
theorem Sep.slvPut {L : List Asn} {st : St} (h : Sep L st) (l : List α) : Sep (Slv sz f (.sl .full (rowsOf f l) l.length) l :: L) st := h.put (.inl ⟨.full, .inr rfl, rfl⟩)
theorem Sep.slvRd (hf : ∀ a, (f a).length = sz) {s : V} {l : List α} {L : List Asn} {st : St} (h : Sep (Slv sz f s l :: L) st) : Rd sz f s l st := by
  obtain ⟨h', h1, h2⟩ := h.part
  rcases h2 with ⟨k, _, hk⟩ | ⟨sid, hs, hc⟩
  · exact .inl ⟨k, hk⟩
  · refine .inr ⟨sid, 0, hs, ?_⟩
    have := h1 _ _ hc
    have hl := rowsOf_length hf l
    simp only [St.seg, this]
    simp [segOf, ← hl]
theorem Sep.appv (hf : ∀ a, (f a).length = sz) (hsz : 0 < sz) {s : V} {l : List α} {L : List Asn} {st : St} (h : Sep (Slv sz f s l :: L) st) {b : Nat} (m : List α) {ys : List V} {n : Nat} (hys : ys = rowsOf f m) (hn : n = m.length) (hb : (l.length + n) * b ≤ 140737488355328) {K : V → St → Prop}
    (hK : ∀ s' st', Sep (Slv sz f s' (l ++ m) :: L) st' → K s' st') : appS sz b s (some (ys, n)) st K := by
  subst hys
  subst hn
  have h0 := h
  obtain ⟨a0, r, h1, h2, h3, h4⟩ := h
  have hl := rowsOf_length hf l
  have hm := rowsOf_length hf m
  rcases h3 with ⟨k, hk, rfl⟩ | ⟨sid, rfl, h5⟩
  · refine ⟨hk, hl, hb, ?_, ?_⟩
    · intro h0'
      have : m = [] := List.length_eq_zero_iff.1 h0'
      subst this
      exact hK _ _ (by simpa using h0)
    · intro h0' id hid
      refine hK _ _ ?_
      have hsub : St.sub r st := sub_trans (sub_right h1) h2
      have := (h4.sub hsub).new hid (.cells (rowsOf f l ++ rowsOf f m))
      exact this.head fun h hh => .inr ⟨id, by simp, hh.trans (by simp)⟩
  · refine Sep.appx hf hsz (l := l) (L := L) ⟨a0, r, h1, h2, .inr ⟨sid, rfl, h5⟩, h4⟩ hb ?_
    intro s' st' S
    refine hK _ _ (S.head fun h hh => ?_)
    rcases hh with ⟨hs, he⟩ | hh
    · rw [he]
      rcases hs with rfl | rfl
      · exact .inl ⟨.nil, .inl rfl, rfl⟩
      · exact .inl ⟨.full, .inr rfl, rfl⟩
    · exact .inr hh
theorem Sep.frzSv (hf : ∀ a, (f a).length = sz) {s : V} {l : List α} {L : List Asn} {st : St} (h : Sep (Slv sz f s l :: L) st) :
    ∃ k st', frzV st s = some (.sl k (rowsOf f l) l.length, st') ∧ Sep L st' := by
  have h0 := h
  obtain ⟨a, r, h1, h2, h3, h4⟩ := h
  rcases h3 with ⟨k, hk, rfl⟩ | ⟨sid, rfl, h5⟩
  · exact ⟨k, st, by rcases hk with rfl | rfl <;> rfl, h0.drop⟩
  · obtain ⟨k, st', e, S, _⟩ := Sep.frzSl hf (s := .hsl sid 0 sz l.length) (l := l) (L := L) ⟨a, r, h1, h2, .inr ⟨sid, [], rfl, by rw [h5, List.append_nil], by simp⟩, h4⟩
    exact ⟨k, st', e, S⟩
end
def lastH (out : List Blk1) : Hdr := match out.getLast? with | some b => b.hdr | none => hdr0
def chainGo (r : Rl) (mark : UInt8) : Nat → Nat → List Blk1 → List Blk1
  | 0, _, out => out
  | n + 1, h, out => if (growR r (lastH out) h mark []).2 = true then chainGo r mark n (h + 1) (out ++ [growB r (lastH out) h mark []]) else out
def chainM (r : Rl) (g : Blk1) (n : Int) (mark : UInt8) : List Blk1 := chainGo r mark n.toNat 1 [g]
theorem lastH_at {out : List Blk1} {i : Nat} (h : i < out.length) (he : i + 1 = out.length) : lastH out = out[i].hdr := by
  unfold lastH
  rw [List.getLast?_eq_getElem?]
  have : out.length - 1 = i := by omega
  rw [this, List.getElem?_eq_getElem h]
section
variable {P : Program} {F : Fn}
theorem fldP_zero {s : V} {i sz : Nat} (h : fldAV 0 (rowP sz s i) = some (rowP sz s i)) : fldP 0 (rowP sz s i) = rowP sz s i := by
  rw [fldP, h]; rfl
set_option maxHeartbeats 4000000 in
theorem spec188 (ok : OkHonest P F) (st : St) (r : Rl) (g : Blk1) (hg : r.gen = g.hdr) (ht : r.txs = txsV g.tk g.txs) (n : Int) (hn : n ≤ 1000) (mark : UInt8) :
    ACalls P (F 188) [.agg (eRl r), .int .i64 n, w8 mark] st fun v st' => (∃ k, v = .sl k (rowsOf eBlk (chainM r g n mark)) (chainM r g n mark).length) ∧ st' = st := by
  refine shows_call ok.mixed ok.h188 (by simp [k188]) ?_
  simp only [k188]
  simp
  intro i3 h3
  have S := (Sep.start st).new h3 (.cells (eRl r))
  generalize st.upd i3 _ = st1 at S ⊢
  have o3 := S.get
  have hsg : segOf (eRl r) 5 69 = some (eBlk g) := seg_of_drop (zs := []) (by rw [List.append_nil, eBlk, ← ht, ← hg]; rfl) (eBlk_len g) (by omega)
  have hsa : segOf (eRl r) 0 74 = some (eRl r) := by simp [segOf, eRl_len, List.take_of_length_le]
  have hfb : ∀ b : Blk1, fillV (repV z69_adc1 1) [(0, 69, .agg (eBlk b))] = some (eBlk b) := fun b => by
    rw [show repV z69_adc1 1 = z69_adc1 by simp [repV]]
    simp [fillV, eBlk_len, spliceV]
  simp [St.seg, o3, hsg, hfb]
  have S := S.slvPut (sz := 69) (f := eBlk) [g]
  have e1 : V.sl .full (rowsOf eBlk [g]) [g].length = .sl .full (eBlk g) 1 := by simp
  rw [e1] at S
  refine vc_loopJ (fun c env' st' => ∃ (h : Nat) (out : List Blk1) (s7 : V), 1 ≤ h ∧ (h : Int) ≤ max 0 n + 1 ∧ c = (n + 1 - h).toNat ∧ out.length = h ∧ chainGo r mark (n + 1 - h).toNat h out = chainM r g n mark ∧ env' 8 = .int .i64 (h : Nat) ∧ env' 7 = s7 ∧ Sep [Slv 69 eBlk s7 out, pt i3 (.cells (eRl r)), Was st] st') n.toNat
    ⟨1, [g], _, by omega, by omega, by omega, rfl, by rw [chainM]; congr 1; omega, by simp, by simp, S⟩ ?_
  rintro J hJ c env' st2 hsame ⟨h, out, s7, hh1, hhn, rfl, hol, hgo, h8, h7, S⟩
  have g1 := (hsame.get 1 rfl).trans (by simp : _ = V.int .i64 n)
  have g2 := (hsame.get 2 rfl).trans (by simp : _ = w8 mark)
  have g3 := (hsame.get 3 rfl).trans (by simp : _ = V.ptr (some (i3, 0)))
  clear hsame
  by_cases hle : (h : Int) ≤ n
  · have w1 : IntKind.i64.wrap ((h : Int) - 1) = ((h - 1 : Nat) : Int) := by rw [wrap64 (by omega) (by omega)]; omega
    have w2 : IntKind.i64.wrap ((h : Int) + 1) = (h : Int) + 1 := wrap64 (by omega) (by omega)
    have rd := S.slvRd eBlk_len
    have hlt : h - 1 < out.length := by omega
    obtain ⟨r1, r2, r3, r4⟩ := rd.row eBlk_len hlt
    have r5 := (r4 0 68 (by omega)).2
    rw [fldP_zero r2] at r5
    have r6 : ((eBlk out[h - 1]).drop 0).take 68 = eHdr out[h - 1].hdr := by
      rw [List.drop_zero, eBlk, List.take_left' (eHdr_len _)]
    rw [r6] at r5
    have hlast := lastH_at hlt (by omega)
    rw [← hlast] at r5
    have o3 := S.mem (i := i3) (o := .cells (eRl r)) (by simp)
    have ef : (n + 1 - (h : Int)).toNat = (n + 1 - ((h + 1 : Nat) : Int)).toNat + 1 := by omega
    rw [ef, chainGo] at hgo
    simp [g1, g2, g3, h8, h7, hle, w1, r1, r2, r5, St.seg, o3, hsa]
    refine (spec189 ok st2 r (lastH out) h (by omega) mark .nil [] (by simp) (by simp)).mono ?_
    rintro v st2 ⟨rfl, rfl⟩
    obtain ⟨b, hb⟩ : ∃ b, b = growB r (lastH out) h mark [] := ⟨_, rfl⟩
    obtain ⟨y, hy⟩ : ∃ y, y = (growR r (lastH out) h mark []).2 := ⟨_, rfl⟩
    rw [← hb, ← hy] at hgo ⊢
    simp
    intro i9 h9
    have S := S.new h9 (.cells z69_adc1)
    have hst := store_pt (sz := 69) (o := 0) S.get (v := .agg (eBlk b)) (vs := eBlk b) rfl (eBlk_len b) (by simp)
    rw [show spliceV z69_adc1 0 (eBlk b) = eBlk b by simp [spliceV, eBlk_len]] at hst
    have S := S.set (.cells (eBlk b))
    simp [hst] at S ⊢
    generalize st2.upd i9 (.cells (eBlk b)) = st3 at S ⊢
    have o9 := S.get
    cases y with
    | true =>
      rw [if_pos rfl] at hgo
      have hel : elems st3 69 (.sl .full (eBlk b) 1) = some (rowsOf eBlk [b], 1) := by simp [elems, eBlk_len]
      simp [h7, St.seg, o9, bsegAll, hfb, hel]
      refine Sep.appv (b := 104) eBlk_len (by omega) (S.drop) [b] (by simp) rfl (by rw [List.length_singleton]; omega) ?_
      intro s' st4 S
      simp [h8, w2]
      exact Round.mk (n + 1 - ((h + 1 : Nat) : Int)).toNat _ (by omega) (sub_self _) (hJ _ _ _ ⟨h + 1, out ++ [b], s', by omega, by omega, rfl, by simp [hol], hgo, by simp, by simp, S⟩)
    | false =>
      rw [if_neg (by simp)] at hgo
      simp [h7]
      obtain ⟨k, st4, hfz, S⟩ := Sep.frzSv eBlk_len S.drop
      rw [hgo] at hfz
      refine frzP_one (by simpa [h7] using hfz) ?_
      simp
      exact S.was' (st0 := st) (by simp)
  · have : (n + 1 - (h : Int)).toNat = 0 := by omega
    rw [this, chainGo] at hgo
    simp [g1, h8, hle]
    obtain ⟨k, st4, hfz, S⟩ := Sep.frzSv eBlk_len S
    rw [hgo] at hfz
    refine frzP_one (by simpa [h7] using hfz) ?_
    simp
    exact S.was' (st0 := st) (by simp)
end
end Go.Ab
set_option linter.unusedSimpArgs false
set_option linter.unusedVariables false
set_option maxRecDepth 10000
namespace Go.Ab
open Go Go.RowKit
def atGo : Nat → List Blk1 → Id → Option Nat → Option Nat
  | _, [], _, r => r
  | i, b :: l, x, r => atGo (i + 1) l x (if x = hId b.hdr then some i else r)
def atM (l : List Blk1) (x : Id) : Option Nat := atGo 0 l x none
theorem atGo_app (l : List Blk1) (b : Blk1) (x : Id) : ∀ (i : Nat) (r : Option Nat), atGo i (l ++ [b]) x r = if x = hId b.hdr then some (i + l.length) else atGo i l x r := by
  induction l with
  | nil => intro i r; rfl
  | cons a l ih =>
    intro i r
    rw [List.cons_append, atGo, ih, atGo, List.length_cons]
    have : i + 1 + l.length = i + (l.length + 1) := by omega
    rw [this]
theorem atM_app (l : List Blk1) (b : Blk1) (x : Id) : atM (l ++ [b]) x = if x = hId b.hdr then some l.length else atM l x := by
  rw [atM, atGo_app, Nat.zero_add]; rfl
def AtMap (es : List (Id × Int)) (l : List Blk1) : Prop := ∀ x, lk x es = (atM l x).map fun i => (i : Int)
def blksV (k : SK) (l : List Blk1) : V := .sl k (rowsOf eBlk l) l.length
def srvO (nonce : BitVec 64) (k : SK) (l : List Blk1) (aid : Nat) (hello : Bool) : List V := [w64 nonce, blksV k l, .map (some aid), .bool hello]
def SrvR (mid : Nat) (nonce : BitVec 64) (l : List Blk1) (hello : Bool) (L : List Asn) (st : St) : Prop :=
  ∃ k aid es, AtMap es l ∧ Sep (pt mid (.cells (srvO nonce k l aid hello)) :: pt aid (.mp (encM kId kInt es)) :: L) st
section
variable {P : Program} {F : Fn}
set_option maxHeartbeats 4000000 in
theorem spec193 (ok : OkHonest P F) (st : St) (nonce : BitVec 64) (k0 : SK) (l : List Blk1) (hl : l.length ≤ 100000) :
    ACalls P (F 193) [w64 nonce, blksV k0 l] st fun v st' => ∃ mid, v = .ptr (some (mid, 0)) ∧ SrvR mid nonce l false [Was st] st' := by
  refine shows_call ok.mixed ok.h193 (by simp [k193]) ?_
  simp only [k193]
  have hel : elems st 69 (blksV k0 l) = some (rowsOf eBlk l, l.length) := Rd.elems eBlk_len (.inl ⟨k0, rfl⟩)
  have hlen : lenSlV (blksV k0 l) = some (.int .i64 l.length) := rfl
  have hf0 : fillV (repV z69_adc1 0) [] = some [] := rfl
  simp [hf0, hel]
  have happ : ∀ {K : V → St → Prop}, (∀ k, K (blksV k l) st) → appzS 69 104 (.sl .full [] 0) (some (rowsOf eBlk l, l.length)) st K := fun {K} hK => by
    refine ⟨.inr rfl, rfl, by omega, ?_, ?_⟩
    · intro h0
      have : l = [] := List.length_eq_zero_iff.1 h0
      subst this
      exact hK .full
    · intro h0
      have := hK .some
      rw [List.nil_append, Nat.zero_add]
      exact this
  refine happ fun k => ?_
  simp
  intro aid ha
  have S := (Sep.start st).new ha (.mp [])
  generalize st.upd aid _ = st1 at S ⊢
  have hfo : fillV [w64 0#64, V.sl SK.nil [] 0, V.map none, V.bool false] [(0, 1, w64 nonce), (1, 1, blksV k l), (2, 1, V.map (some aid))] = some (srvO nonce k l aid false) := rfl
  simp [hfo]
  intro mid hm
  have S := S.new hm (.cells (srvO nonce k l aid false))
  generalize st1.upd mid _ = st2 at S ⊢
  simp [hlen]
  refine vc_loopJ (fun c env' st' => ∃ (i : Nat) (es : List (Id × Int)), i ≤ l.length ∧ c = l.length - i ∧ env' 17 = .int .i64 (i : Nat) ∧ AtMap es (l.take i) ∧ Sep [pt mid (.cells (srvO nonce k l aid false)), pt aid (.mp (encM kId kInt es)), Was st] st') l.length
    ⟨0, [], by omega, by omega, by simp, fun x => rfl, S⟩ ?_
  rintro J hJ c env' st3 hsame ⟨i, es, hi, rfl, h17, hat, S⟩
  have g5 := (hsame.get 5 rfl).trans (by simp : _ = V.ptr (some (mid, 0)))
  have g15 := (hsame.get 15 rfl).trans (by simp : _ = blksV k0 l)
  have g16 := (hsame.get 16 rfl).trans (by simp : _ = V.int .i64 (l.length : Int))
  clear hsame
  by_cases hlt : i < l.length
  · have w1 : IntKind.i64.wrap ((i : Int) + 1) = (i : Int) + 1 := wrap64 (by omega) (by omega)
    have rd : Rd 69 eBlk (blksV k0 l) l st3 := .inl ⟨k0, rfl⟩
    obtain ⟨r1, r2, r3, r4⟩ := rd.row eBlk_len hlt
    obtain ⟨b, hb⟩ : ∃ b, b = l[i] := ⟨_, rfl⟩
    rw [← hb] at r3
    simp [g15, g16, h17, hlt, r1, r3]
    intro i7 h7
    have S := S.new h7 (.cells z69_adc1)
    have hst := store_pt (sz := 69) (o := 0) S.get (v := .agg (eBlk b)) (vs := eBlk b) rfl (eBlk_len b) (by simp)
    rw [show spliceV z69_adc1 0 (eBlk b) = eBlk b by simp [spliceV, eBlk_len]] at hst
    have S := S.set (.cells (eBlk b))
    simp [hst] at S ⊢
    generalize st3.upd i7 (.cells (eBlk b)) = st4 at S ⊢
    have o7 := S.get
    have om := S.mem (i := mid) (o := .cells (srvO nonce k l aid false)) (by simp)
    have hs2 : segOf (srvO nonce k l aid false) 2 1 = some [V.map (some aid)] := rfl
    have hsH := bsegH b
    simp [g5, St.seg, om, o7, hs2, hsH]
    refine ⟨_, spec141 ok.toOkTx.toOkHead st4 b.hdr, ?_⟩
    have oa := S.mem (i := aid) (o := .mp (encM kId kInt es)) (by simp)
    have hms := mset_enc keyed_id oa (hId b.hdr) (i : Int)
    simp only [kId, kInt] at hms
    simp [hms]
    have S := S.setAt (.mp (encM kId kInt (aSet (hId b.hdr) (i : Int) es))) 2 rfl
    simp at S
    simp [h17, w1]
    refine Round.mk (l.length - (i + 1)) _ (by omega) (sub_self _) (hJ _ _ _ ⟨i + 1, _, by omega, rfl, by simp, ?_, S.drop⟩)
    intro x
    rw [lk_aSet, hat x, List.take_succ_eq_append_getElem hlt, ← hb, atM_app, List.length_take]
    split
    · simp; omega
    · rfl
  · have : i = l.length := by omega
    subst this
    rw [List.take_length] at hat
    simp [g15, g16, h17, g5]
    exact ⟨st3, sub_self _, k, aid, es, hat, S⟩
set_option maxHeartbeats 4000000 in
theorem spec196 (ok : OkHonest P F) {st : St} {mid : Nat} {nonce : BitVec 64} {k : SK} {l : List Blk1} {aid : Nat} {hello : Bool} (h : st mid = some (.cells (srvO nonce k l aid hello))) :
    ACalls P (F 196) [.ptr (some (mid, 0))] st fun v st' => v = .int .i64 l.length ∧ st' = st := by
  refine shows_call ok.mixed ok.h196 (by simp [k196]) ?_
  simp only [k196]
  have hs : segOf (srvO nonce k l aid hello) 1 1 = some [blksV k l] := rfl
  have hlen : lenSlV (blksV k l) = some (.int .i64 l.length) := rfl
  simp [St.seg, h, hs, hlen]
end
end Go.Ab
set_option linter.unusedSimpArgs false
set_option linter.unusedVariables false
namespace Go.Ab
open Go Go.RowKit
theorem vc_joinB {P : Program} {c rest : PC} {id : Nat} {Q : Ex → Env → St → Prop} {env : Env} {st : St} (M : Env → St → Prop)
    (h : vc P c (blkK id (unrK M Q)) env st) (k : ∀ env' st', Same c.writes env env' → M env' st' → vc P rest Q env' st') : vc P c (blkK id (seqK P rest Q)) env st := by
  refine vc_frame c _ _ env st (fun ex env' st' hs hq => ?_) h
  cases ex with
  | normal => exact k env' st' hs hq
  | exit j =>
    unfold blkK at hq ⊢
    by_cases hj : j = id
    · simp only [hj, if_true] at hq ⊢
      exact k env' st' hs hq
    · simp only [hj, if_false] at hq ⊢
      exact hq
  | ret => exact hq
end Go.Ab
set_option linter.unusedSimpArgs false
set_option linter.unusedVariables false
set_option maxRecDepth 10000
namespace Go.Ab
open Go Go.RowKit
structure Ms where
  kind : Int
  nonce : BitVec 64
  height : W32
  names : V
  stop : Id
  heads : V
  blk : Hdr
  txs : V
def eMs (m : Ms) : List V := .int .i64 m.kind :: w64 m.nonce :: w32 m.height :: m.names :: (eId m.stop ++ (m.heads :: (eHdr m.blk ++ [m.txs])))
theorem eMs_len (m : Ms) : (eMs m).length = 106 := by simp [eMs, eId_len, eHdr_len]
def ms0 : Ms := ⟨0, 0, 0, .sl .nil [] 0, id0, .sl .nil [] 0, hdr0, .sl .nil [] 0⟩
theorem mdrop4 (m : Ms) : (eMs m).drop 4 = eId m.stop ++ (m.heads :: (eHdr m.blk ++ [m.txs])) := rfl
theorem mdrop36 (m : Ms) : (eMs m).drop 36 = m.heads :: (eHdr m.blk ++ [m.txs]) := by rw [show 36 = 4 + 32 from rfl, ← List.drop_drop, mdrop4, List.drop_left' (eId_len _)]
theorem mdrop37 (m : Ms) : (eMs m).drop 37 = eHdr m.blk ++ [m.txs] := by rw [show 37 = 36 + 1 from rfl, ← List.drop_drop, mdrop36]; rfl
theorem msegKind (m : Ms) : segOf (eMs m) 0 1 = some [.int .i64 m.kind] := seg_of_drop (cs := eMs m) (off := 0) rfl rfl (by omega)
theorem msegNonce (m : Ms) : segOf (eMs m) 1 1 = some [w64 m.nonce] := seg_of_drop (cs := eMs m) (off := 1) rfl rfl (by omega)
theorem msegNames (m : Ms) : segOf (eMs m) 3 1 = some [m.names] := seg_of_drop (cs := eMs m) (off := 3) rfl rfl (by omega)
theorem msegStop (m : Ms) : segOf (eMs m) 4 32 = some (eId m.stop) := seg_of_drop (mdrop4 m) (eId_len _) (by omega)
theorem msegHeads (m : Ms) : segOf (eMs m) 36 1 = some [m.heads] := seg_of_drop (ys := [m.heads]) (mdrop36 m) rfl (by omega)
theorem msegAll (m : Ms) : segOf (eMs m) 0 106 = some (eMs m) := by simp [segOf, eMs_len, List.take_of_length_le]
theorem msplHeads (m : Ms) (s : V) : spliceV (eMs m) 36 [s] = eMs { m with heads := s } := by
  have h4 : (eMs m).take 36 = .int .i64 m.kind :: w64 m.nonce :: w32 m.height :: m.names :: eId m.stop := by
    have hl : (V.int .i64 m.kind :: w64 m.nonce :: w32 m.height :: m.names :: eId m.stop).length = 36 := by simp [eId_len]
    have e : eMs m = (.int .i64 m.kind :: w64 m.nonce :: w32 m.height :: m.names :: eId m.stop) ++ (m.heads :: (eHdr m.blk ++ [m.txs])) := by simp [eMs]
    rw [e, ← hl, List.take_left]
  rw [spliceV, h4, show 36 + [s].length = 37 from rfl, mdrop37]
  simp [eMs]
theorem ms_kind (k : Int) : fillV z106_9145 [(0, 1, .int .i64 k)] = some (eMs { ms0 with kind := k }) := rfl
def idsV (k : SK) (l : List Id) : V := .sl k (rowsOf eId l) l.length
def fromM (l : List Blk1) (names : List Id) : Nat := match names.findSome? (atM l) with | some i => i + 1 | none => 1
def hdGo (l : List Blk1) (stop : Id) : Nat → Nat → List Hdr → List Hdr
  | 0, _, out => out
  | n + 1, i, out => if h : i < l.length then (if out.length < 32 then (if hId l[i].hdr = stop then out ++ [l[i].hdr] else hdGo l stop n (i + 1) (out ++ [l[i].hdr])) else out) else out
def hdM (l : List Blk1) (names : List Id) (stop : Id) : List Hdr := hdGo l stop l.length (fromM l names) []
theorem atGo_lt (l : List Blk1) (x : Id) : ∀ (i : Nat) (r : Option Nat) (y : Nat), atGo i l x r = some y → r = some y ∨ y < i + l.length := by
  induction l with
  | nil => intro i r y h; exact .inl h
  | cons a l ih =>
    intro i r y h
    rw [atGo] at h
    rcases ih _ _ _ h with h | h
    · split at h
      · cases h
        exact .inr (by simp)
      · exact .inl h
    · exact .inr (by rw [List.length_cons]; omega)
theorem atM_lt {l : List Blk1} {x : Id} {y : Nat} (h : atM l x = some y) : y < l.length := by
  rcases atGo_lt l x 0 none y h with h | h
  · cases h
  · omega
theorem fromM_le (l : List Blk1) (names : List Id) : fromM l names ≤ l.length + 1 := by
  unfold fromM
  split
  · rename_i y h
    obtain ⟨x, _, hx⟩ := List.exists_of_findSome?_eq_some h
    have := atM_lt hx
    omega
  · omega
theorem hdGo_done {l : List Blk1} {stop : Id} {i : Nat} {out : List Hdr} (h : ¬ (i < l.length ∧ out.length < 32)) (n : Nat) : hdGo l stop n i out = out := by
  cases n with
  | zero => rfl
  | succ n =>
    rw [hdGo]
    split
    · rw [if_neg (by omega)]
    · rfl
theorem fs_take {α β : Type} (f : α → Option β) (l : List α) {i : Nat} (hi : i < l.length) (h : (l.take i).findSome? f = none) :
    (∀ y, f l[i] = some y → l.findSome? f = some y) ∧ (f l[i] = none → (l.take (i + 1)).findSome? f = none) := by
  refine ⟨fun y hy => ?_, fun hn => ?_⟩
  · rw [← List.take_append_drop i l, List.findSome?_append, h, List.drop_eq_getElem_cons hi, List.findSome?_cons, hy]
    rfl
  · rw [List.take_succ_eq_append_getElem hi, List.findSome?_append, h]
    simp [hn]
theorem fillHT (x : Hdr) : fillV (repV z68_39b1 1) [(0, 68, .agg (eHdr x))] = some (eHdr x) := by
  rw [z68_eq]
  have h0 : repV (eHdr hdr0) 1 = eHdr hdr0 := by simp [repV]
  rw [h0]
  simp [fillV, eHdr_len, splice_hdr]
theorem Sep.cellsX {α : Type} {f : α → List V} {sz : Nat} {s : V} {l : List α} {L : List Asn} {st : St} (h : Sep (Slx sz f s l :: L) st) : s.cells? = some [s] := by
  obtain ⟨h', h1, h2⟩ := h.part
  rcases h2 with ⟨hs | hs, _⟩ | ⟨sid, rfl, _⟩
  · rw [hs]; rfl
  · rw [hs]; rfl
  · rfl
section
variable {P : Program} {F : Fn}
set_option maxHeartbeats 4000000 in
theorem spec195 (ok : OkHonest P F) {st : St} {mid : Nat} {nonce : BitVec 64} {l : List Blk1} {hello : Bool} {L : List Asn} (S : SrvR mid nonce l hello L st) (hl : l.length ≤ 100000) (m : Ms) (k : SK) (names : List Id) (hm : m.names = idsV k names) (hnl : names.length ≤ 100000) :
    ACalls P (F 195) [.ptr (some (mid, 0)), .agg (eMs m)] st fun v st' => ∃ s, v = .agg (eMs { ms0 with kind := 4, heads := s }) ∧ SrvR mid nonce l hello (Slx 68 eHdr s (hdM l names m.stop) :: L) st' := by
  refine shows_call ok.mixed ok.h195 (by simp [k195]) ?_
  simp only [k195]
  obtain ⟨kb, aid, es, hat, S⟩ := S
  simp
  intro i3 h3
  have S := S.new h3 (.cells (eMs m))
  generalize st.upd i3 _ = st1 at S ⊢
  simp
  intro i4 h4
  have S := S.new h4 (.cells z106_9145)
  generalize st1.upd i4 _ = st2 at S ⊢
  have o3 := S.mem (i := i3) (o := .cells (eMs m)) (by simp)
  have hsn := msegNames m
  rw [hm] at hsn
  have hln : lenSlV (idsV k names) = some (.int .i64 names.length) := rfl
  simp [St.seg, o3, hsn, hln]
  refine vc_joinB (M := fun env' st' => env' 5 = .int .i64 ((fromM l names : Nat) : Int) ∧ Sep (pt i4 (.cells z106_9145) :: pt i3 (.cells (eMs m)) :: pt mid (.cells (srvO nonce kb l aid hello)) :: pt aid (.mp (encM kId kInt es)) :: L) st') ?_ ?_
  · refine vc_loopJ (fun c env' st' => ∃ (i : Nat), i ≤ names.length ∧ c = names.length - i ∧ env' 15 = .int .i64 (i : Nat) ∧ env' 5 = .int .i64 1 ∧ (names.take i).findSome? (atM l) = none ∧ Sep (pt i4 (.cells z106_9145) :: pt i3 (.cells (eMs m)) :: pt mid (.cells (srvO nonce kb l aid hello)) :: pt aid (.mp (encM kId kInt es)) :: L) st') names.length
      ⟨0, by omega, by omega, by simp, by simp, rfl, S⟩ ?_
    rintro J hJ c env' st3 hsame ⟨i, hi, rfl, h15, h5, hnone, S⟩
    have g0 := (hsame.get 0 rfl).trans (by simp : _ = V.ptr (some (mid, 0)))
    have g13 := (hsame.get 13 rfl).trans (by simp : _ = idsV k names)
    have g14 := (hsame.get 14 rfl).trans (by simp : _ = V.int .i64 (names.length : Int))
    clear hsame
    by_cases hlt : i < names.length
    · have w1 : IntKind.i64.wrap ((i : Int) + 1) = (i : Int) + 1 := wrap64 (by omega) (by omega)
      have rd : Rd 32 eId (idsV k names) names st3 := .inl ⟨k, rfl⟩
      obtain ⟨r1, r2, r3, r4⟩ := rd.row eId_len hlt
      have hft := fs_take (atM l) names hlt hnone
      obtain ⟨x, hx⟩ : ∃ x, x = names[i] := ⟨_, rfl⟩
      rw [← hx] at r3 hft
      simp [g13, g14, h15, hlt, r1, r3]
      intro i7 h7
      have S := S.new h7 (.cells zR32_w80)
      have hst := store_z32 S.get x
      have S := S.set (.cells (eId x))
      simp [hst] at S ⊢
      generalize st3.upd i7 (.cells (eId x)) = st4 at S ⊢
      have o7 := S.get
      have om := S.mem (i := mid) (o := .cells (srvO nonce kb l aid hello)) (by simp)
      have oa := S.mem (i := aid) (o := .mp (encM kId kInt es)) (by simp)
      have hs2 : segOf (srvO nonce kb l aid hello) 2 1 = some [V.map (some aid)] := rfl
      have hlk := lookup_lk keyed_id (ev := kInt) oa (.int .i64 0) x
      rw [hat x] at hlk
      have hsx := segId0 x
      cases ha : atM l x with
      | none =>
        rw [ha] at hlk
        simp only [kId, Option.map_none, Option.getD_none, Option.isSome_none] at hlk
        simp [g0, St.seg, om, o7, hs2, hsx, hlk]
        simp [h15, w1]
        exact Round.mk (names.length - (i + 1)) _ (by omega) (sub_self _) (hJ _ _ _ ⟨i + 1, by omega, rfl, by simp, by simp [h5], hft.2 ha, S.drop⟩)
      | some y =>
        rw [ha] at hlk
        simp only [kId, kInt, Option.map_some, Option.getD_some, Option.isSome_some] at hlk
        have hyl := atM_lt ha
        have w3 : IntKind.i64.wrap ((y : Int) + 1) = (y : Int) + 1 := wrap64 (by omega) (by omega)
        have hfr : fromM l names = y + 1 := by rw [fromM, hft.1 y ha]
        simp [g0, St.seg, om, o7, hs2, hsx, hlk, kInt, w3, hfr]
        exact S.drop
    · have : i = names.length := by omega
      subst this
      rw [List.take_length] at hnone
      have hfr : fromM l names = 1 := by rw [fromM, hnone]
      simp [g14, h15, hfr, h5]
      exact S
  · rintro env' st3 hsame ⟨h5, S⟩
    have g0 := (hsame.get 0 rfl).trans (by simp : _ = V.ptr (some (mid, 0)))
    have g3 := (hsame.get 3 rfl).trans (by simp : _ = V.ptr (some (i3, 0)))
    have g4 := (hsame.get 4 rfl).trans (by simp : _ = V.ptr (some (i4, 0)))
    clear hsame
    obtain ⟨fr, hfr⟩ : ∃ fr, fr = fromM l names := ⟨_, rfl⟩
    rw [← hfr] at h5
    simp [h5, ms_kind]
    intro i10 h10
    have S := S.new h10 (.cells z106_9145)
    obtain ⟨m4, hm4⟩ : ∃ m4 : Ms, m4 = { ms0 with kind := 4 } := ⟨_, rfl⟩
    rw [← hm4]
    have hst := store_pt (sz := 106) (o := 0) S.get (v := .agg (eMs m4)) (vs := eMs m4) rfl (eMs_len m4) (by simp)
    rw [show spliceV z106_9145 0 (eMs m4) = eMs m4 by simp [spliceV, eMs_len]] at hst
    have S := S.set (.cells (eMs m4))
    simp [hst] at S ⊢
    generalize st3.upd i10 (.cells (eMs m4)) = st4 at S ⊢
    have hlb : lenSlV (blksV kb l) = some (.int .i64 l.length) := rfl
    have hsb : segOf (srvO nonce kb l aid hello) 1 1 = some [blksV kb l] := rfl
    refine vc_joinB (M := fun env' st' => ∃ s, Sep (pt i10 (.cells (eMs { m4 with heads := s })) :: Slx 68 eHdr s (hdM l names m.stop) :: pt i4 (.cells z106_9145) :: pt mid (.cells (srvO nonce kb l aid hello)) :: pt aid (.mp (encM kId kInt es)) :: L) st') ?_ ?_
    · refine vc_loopJ (fun c env' st' => ∃ (n i : Nat) (out : List Hdr) (s : V), l.length ≤ c + i ∧ n = c ∧ i ≤ 100001 ∧ out.length ≤ 32 ∧ env' 11 = .int .i64 (i : Nat) ∧ hdGo l m.stop n i out = hdM l names m.stop ∧ Sep (pt i10 (.cells (eMs { m4 with heads := s })) :: Slx 68 eHdr s out :: pt i4 (.cells z106_9145) :: pt i3 (.cells (eMs m)) :: pt mid (.cells (srvO nonce kb l aid hello)) :: pt aid (.mp (encM kId kInt es)) :: L) st') l.length
        ⟨l.length, fr, [], .sl .nil [] 0, by omega, rfl, ?_, by simp, by simp [h5], by rw [hdM, hfr], ?_⟩ ?_
      · have := fromM_le l names
        omega
      · have e : { m4 with heads := V.sl .nil [] 0 } = m4 := by rw [hm4]; rfl
        rw [e]
        exact (S.slxNil (sz := 68) (f := eHdr)).swap
      · rintro J hJ n env2 st5 hsame ⟨n', i, out, s, hni, rfl, hi, hol, h11, hgo, S⟩
        have q0 := (hsame.get 0 rfl).trans (by simp [g0] : _ = V.ptr (some (mid, 0)))
        have q3 := (hsame.get 3 rfl).trans (by simp [g3] : _ = V.ptr (some (i3, 0)))
        have q10 := (hsame.get 10 rfl).trans (by simp : _ = V.ptr (some (i10, 0)))
        clear hsame
        have om := S.mem (i := mid) (o := .cells (srvO nonce kb l aid hello)) (by simp)
        have o10 := S.get
        have hsh := msegHeads { m4 with heads := s }
        have hls := (Sep.rd eHdr_len (S.drop.head fun h hh => hh.sl)).len
        by_cases hlt : i < l.length
        · have w1 : IntKind.i64.wrap ((i : Int) + 1) = (i : Int) + 1 := wrap64 (by omega) (by omega)
          by_cases hl32 : out.length < 32
          · have hl32' : (out.length : Int) < 32 := by omega
            have rdb : Rd 69 eBlk (blksV kb l) l st5 := .inl ⟨kb, rfl⟩
            obtain ⟨r1, r2, r3, r4⟩ := rdb.row eBlk_len hlt
            have r5 := (r4 0 68 (by omega)).2
            rw [fldP_zero r2] at r5
            obtain ⟨x, hx⟩ : ∃ x, x = l[i].hdr := ⟨_, rfl⟩
            have r6 : ((eBlk l[i]).drop 0).take 68 = eHdr x := by
              rw [List.drop_zero, eBlk, List.take_left' (eHdr_len _), hx]
            rw [r6] at r5
            obtain ⟨n1, rfl⟩ : ∃ n1, n' = n1 + 1 := ⟨n' - 1, by omega⟩
            rw [hdGo, dif_pos hlt, if_pos hl32, ← hx] at hgo
            have hel : elems st5 68 (.sl .full (eHdr x) 1) = some (rowsOf eHdr [x], 1) := by simp [elems, eHdr_len]
            simp [q0, q10, h11, St.seg, om, o10, hsb, hlb, hlt, hsh, hls, hl32', r1, r2, r5, fillHT, hel]
            refine Sep.appx' (b := 80) eHdr_len (by omega) S.swap [x] (by simp) rfl (by rw [List.length_singleton]; omega) ?_
            intro s' st6 S
            have hc := S.cellsX
            have S := S.swap
            have hst := store_pt (sz := 1) (o := 36) S.get (v := s') (vs := [s']) hc rfl (by rw [eMs_len]; omega)
            rw [msplHeads] at hst
            have S := S.set (.cells (eMs { m4 with heads := s' }))
            simp [q10, hst]
            generalize st6.upd i10 (.cells (eMs { m4 with heads := s' })) = st7 at S ⊢
            have om := S.mem (i := mid) (o := .cells (srvO nonce kb l aid hello)) (by simp)
            have o3 := S.mem (i := i3) (o := .cells (eMs m)) (by simp)
            have r5' : ldCells st7 68 (rowP 69 (blksV kb l) i) = some (eHdr x) := by
              have rdb : Rd 69 eBlk (blksV kb l) l st7 := .inl ⟨kb, rfl⟩
              have := ((rdb.row eBlk_len hlt).2.2.2 0 68 (by omega)).2
              rw [fldP_zero r2, r6] at this
              exact this
            have hss := msegStop m
            simp [q0, q3, h11, St.seg, om, o3, hsb, hss, r1, r2, r5']
            refine ⟨_, spec141 ok.toOkTx.toOkHead st7 x, ?_⟩
            have hq : eqK (.agg 32) (.agg (eId (hId x))) (.agg (eId m.stop)) = some (decide (hId x = m.stop)) := by simp [eqK, eId_len, eqL_id]
            by_cases hst2 : hId x = m.stop
            · rw [if_pos hst2] at hgo
              rw [decide_eq_true hst2] at hq
              rw [hgo] at S
              simp [St.seg, o3, hss, hq]
              exact ⟨s', S.tail fun r h => h.tail fun r h => h.tail fun r h => h.drop⟩
            · rw [if_neg hst2] at hgo
              rw [decide_eq_false hst2] at hq
              simp [St.seg, o3, hss, hq, h11, w1]
              exact Round.mk n1 _ (by omega) (sub_self _) (hJ _ _ _ ⟨n1, i + 1, out ++ [x], s', by omega, rfl, by omega, by rw [List.length_append, List.length_singleton]; omega, by simp, hgo, S⟩)
          · have hl32' : ¬ (out.length : Int) < 32 := by omega
            simp [q0, q10, h11, St.seg, om, o10, hsb, hlb, hlt, hsh, hls, hl32']
            rw [hdGo_done (fun hc => hl32 hc.2)] at hgo
            rw [hgo] at S
            exact ⟨s, S.tail fun r h => h.tail fun r h => h.tail fun r h => h.drop⟩
        · simp [q0, q10, h11, St.seg, om, o10, hsb, hlb, hlt, hsh, hls]
          rw [hdGo_done (fun hc => hlt hc.1)] at hgo
          rw [hgo] at S
          exact ⟨s, S.tail fun r h => h.tail fun r h => h.tail fun r h => h.drop⟩
    · rintro env2 st5 hsame ⟨s, S⟩
      have q4 := (hsame.get 4 rfl).trans (by simp [g4] : _ = V.ptr (some (i4, 0)))
      have q10 := (hsame.get 10 rfl).trans (by simp : _ = V.ptr (some (i10, 0)))
      clear hsame
      obtain ⟨m5, hm5⟩ : ∃ m5 : Ms, m5 = { m4 with heads := s } := ⟨_, rfl⟩
      rw [← hm5] at S
      have o10 := S.get
      have hsa := msegAll m5
      have hst := store_pt (sz := 106) (o := 0) (S.mem (i := i4) (o := .cells z106_9145) (by simp)) (v := .agg (eMs m5)) (vs := eMs m5) rfl (eMs_len m5) (by simp)
      rw [show spliceV z106_9145 0 (eMs m5) = eMs m5 by simp [spliceV, eMs_len]] at hst
      have S := S.setAt (.cells (eMs m5)) 2 rfl
      simp only [List.set_cons_succ, List.set_cons_zero] at S
      simp [q4, q10, St.seg, o10, hsa, hst]
      have S : Sep (Slx 68 eHdr s (hdM l names m.stop) :: pt mid (.cells (srvO nonce kb l aid hello)) :: pt aid (.mp (encM kId kInt es)) :: L) _ := S.drop.tail fun r h => h.drop
      exact ⟨_, sub_self _, s, by rw [hm5, hm4], kb, aid, es, hat, S.swap.tail fun r h => h.swap⟩
end
end Go.Ab
set_option linter.unusedSimpArgs false
set_option linter.unusedVariables false
set_option maxRecDepth 10000
namespace Go.Ab
open Go Go.RowKit
def msVer (nonce : BitVec 64) (height : W32) : Ms := { ms0 with kind := 1, nonce := nonce, height := height }
def msAck : Ms := { ms0 with kind := 2 }
def msHeads (s : V) : Ms := { ms0 with kind := 4, heads := s }
theorem ms_ver (nonce : BitVec 64) (height : W32) : fillV z106_9145 [(0, 1, .int .i64 1), (1, 1, w64 nonce), (2, 1, w32 height)] = some (eMs (msVer nonce height)) := rfl
theorem ms_ack : fillV z106_9145 [(0, 1, .int .i64 2)] = some (eMs msAck) := rfl
theorem fillM1 (m : Ms) : fillV (repV z106_9145 1) [(0, 106, .agg (eMs m))] = some (eMs m) := by
  rw [show repV z106_9145 1 = z106_9145 by simp [repV]]
  simp [fillV, eMs_len, spliceV]
theorem fillM2 (a b : Ms) : fillV (repV z106_9145 2) [(0, 106, .agg (eMs a)), (106, 106, .agg (eMs b))] = some (rowsOf eMs [a, b]) := by
  rw [show repV z106_9145 2 = z106_9145 ++ z106_9145 by simp [repV]]
  have h1 : spliceV (z106_9145 ++ z106_9145) 0 (eMs a) = eMs a ++ z106_9145 := by
    rw [spliceV, List.take_zero, List.nil_append, Nat.zero_add, eMs_len, List.drop_left' z106_9145_len]
  have h2 : spliceV (eMs a ++ z106_9145) 106 (eMs b) = eMs a ++ eMs b := by
    rw [spliceV, List.take_left' (eMs_len a), eMs_len, List.drop_of_length_le (by simp [eMs_len]), List.append_nil]
  simp [fillV, eMs_len, h1, h2]
section
variable {P : Program} {F : Fn}
set_option maxHeartbeats 4000000 in
theorem spec194a (ok : OkHonest P F) {st : St} {mid : Nat} {nonce : BitVec 64} {l : List Blk1} {L : List Asn} (S : SrvR mid nonce l false L st) (hl : 1 ≤ l.length ∧ l.length ≤ 100000) (m : Ms) (hm : m.kind = 1) :
    ACalls P (F 194) [.ptr (some (mid, 0)), .agg (eMs m)] st fun v st' => v = .sl .full (rowsOf eMs [msVer nonce (BitVec.ofNat 32 (l.length - 1)), msAck]) 2 ∧ SrvR mid nonce l true L st' := by
  refine shows_call ok.mixed ok.h194 (by simp [k194]) ?_
  simp only [k194]
  obtain ⟨kb, aid, es, hat, S⟩ := S
  simp
  intro i3 h3
  have S := S.new h3 (.cells (eMs m))
  generalize st.upd i3 _ = st1 at S ⊢
  have o3 := S.get
  have hsk := msegKind m
  rw [hm] at hsk
  have om := S.mem (i := mid) (o := .cells (srvO nonce kb l aid false)) (by simp)
  have hs3 : segOf (srvO nonce kb l aid false) 3 1 = some [V.bool false] := rfl
  simp [St.seg, o3, hsk, om, hs3]
  have hst := store_pt (sz := 1) (o := 3) om (v := .bool true) (vs := [.bool true]) rfl rfl (by simp [srvO])
  rw [show spliceV (srvO nonce kb l aid false) 3 [V.bool true] = srvO nonce kb l aid true from rfl] at hst
  have S := S.setAt (.cells (srvO nonce kb l aid true)) 1 rfl
  simp [hst]
  simp only [List.set_cons_succ, List.set_cons_zero] at S
  generalize st1.upd mid _ = st2 at S ⊢
  have om := S.mem (i := mid) (o := .cells (srvO nonce kb l aid true)) (by simp)
  have hs0 : segOf (srvO nonce kb l aid true) 0 1 = some [w64 nonce] := rfl
  have hs1 : segOf (srvO nonce kb l aid true) 1 1 = some [blksV kb l] := rfl
  have hlb : lenSlV (blksV kb l) = some (.int .i64 l.length) := rfl
  have w1 : IntKind.i64.wrap ((l.length : Int) - 1) = ((l.length - 1 : Nat) : Int) := by rw [wrap64 (by omega) (by omega)]; omega
  obtain ⟨n, hn⟩ : ∃ n, n = l.length - 1 := ⟨_, rfl⟩
  rw [← hn] at w1 ⊢
  have hmax : foldV max2V (V.int .i64 0) [V.int .i64 (n : Int)] = some (.int .i64 (n : Int)) := by
    simp [foldV, max2V]
    omega
  have hv := ms_ver nonce (BitVec.ofNat 32 n)
  have hf2 := fillM2 (msVer nonce (BitVec.ofNat 32 n)) msAck
  simp [St.seg, om, hs0, hs1, hlb, w1, ms_ack, hmax, hv, hf2]
  exact ⟨st2, sub_self _, kb, aid, es, hat, S.drop⟩
set_option maxHeartbeats 4000000 in
theorem spec194b (ok : OkHonest P F) {st : St} {mid : Nat} {nonce : BitVec 64} {l : List Blk1} {hello : Bool} {L : List Asn} (S : SrvR mid nonce l hello L st) (hl : l.length ≤ 100000) (m : Ms) (hm : m.kind = 3) (k : SK) (names : List Id) (hmn : m.names = idsV k names) (hnl : names.length ≤ 100000) :
    ACalls P (F 194) [.ptr (some (mid, 0)), .agg (eMs m)] st fun v st' => ∃ s, v = .sl .full (eMs (msHeads s)) 1 ∧ SrvR mid nonce l hello (Slx 68 eHdr s (hdM l names m.stop) :: L) st' := by
  refine shows_call ok.mixed ok.h194 (by simp [k194]) ?_
  simp only [k194]
  obtain ⟨kb, aid, es, hat, S⟩ := S
  simp
  intro i3 h3
  have S := S.new h3 (.cells (eMs m))
  generalize st.upd i3 _ = st1 at S ⊢
  have o3 := S.get
  have hsk := msegKind m
  rw [hm] at hsk
  have hsa := msegAll m
  simp [St.seg, o3, hsk, hsa]
  refine (spec195 ok (L := L) ⟨kb, aid, es, hat, S.drop⟩ hl m k names hmn hnl).mono ?_
  rintro v st2 ⟨s, rfl, S⟩
  have e : ({ ms0 with kind := 4, heads := s } : Ms) = msHeads s := rfl
  rw [e]
  simp [fillM1]
  exact ⟨st2, sub_self _, s, rfl, S⟩
end
end Go.Ab
set_option linter.unusedSimpArgs false
set_option linter.unusedVariables false
namespace Go.Ab
def ln (X i : Nat) : Nat := (X >>> (64 * i)) % 2 ^ 64
def QL (X : Nat) (f : Nat → Nat) : Prop := ∀ i, i < 256 → ln X i = f i
def RL (X : Nat) (x : Nat → BitVec 32) : Prop := QL X fun i => (x i).toNat
theorem ln_lt (X i : Nat) : ln X i < 2 ^ 64 := Nat.mod_lt _ (by decide)
theorem ln_bit (X i j : Nat) (hj : j < 64) : (ln X i).testBit j = X.testBit (64 * i + j) := by
  rw [ln, Nat.testBit_mod_two_pow, Nat.testBit_shiftRight]
  simp [hj]
theorem ln_and (X Y i : Nat) : ln (X &&& Y) i = ln X i &&& ln Y i := by
  rw [ln, Nat.shiftRight_and_distrib, Nat.and_mod_two_pow]; rfl
theorem ln_xor (X Y i : Nat) : ln (X ^^^ Y) i = ln X i ^^^ ln Y i := by
  rw [ln, Nat.shiftRight_xor_distrib, Nat.xor_mod_two_pow]; rfl
theorem ln_zero (X : Nat) : ln X 0 = X % 2 ^ 64 := rfl
theorem ln_succ (X i : Nat) : ln X (i + 1) = ln (X / 2 ^ 64) i := by
  rw [ln, ln, show 64 * (i + 1) = 64 + 64 * i by omega, Nat.shiftRight_add, Nat.shiftRight_eq_div_pow X 64]
theorem ln_add : ∀ (i X Y : Nat), (∀ k, k ≤ i → ln X k + ln Y k < 2 ^ 64) → ln (X + Y) i = ln X i + ln Y i
  | 0, X, Y, h => by
    have h0 := h 0 (by omega)
    rw [ln_zero, ln_zero] at h0
    rw [ln_zero, ln_zero, ln_zero]
    omega
  | i + 1, X, Y, h => by
    have h0 := h 0 (by omega)
    rw [ln_zero, ln_zero] at h0
    have e : (X + Y) / 2 ^ 64 = X / 2 ^ 64 + Y / 2 ^ 64 := by omega
    rw [ln_succ, e, ln_add i, ← ln_succ, ← ln_succ]
    intro k hk
    have := h (k + 1) (by omega)
    rwa [ln_succ, ln_succ] at this
theorem QL.and {X Y : Nat} {f g : Nat → Nat} (hX : QL X f) (hY : QL Y g) : QL (X &&& Y) fun i => f i &&& g i := fun i hi => by rw [ln_and, hX i hi, hY i hi]
theorem QL.xor {X Y : Nat} {f g : Nat → Nat} (hX : QL X f) (hY : QL Y g) : QL (X ^^^ Y) fun i => f i ^^^ g i := fun i hi => by rw [ln_xor, hX i hi, hY i hi]
theorem QL.add {X Y : Nat} {f g : Nat → Nat} (hX : QL X f) (hY : QL Y g) (h : ∀ i, i < 256 → f i + g i < 2 ^ 64) : QL (X + Y) fun i => f i + g i := fun i hi => by
  rw [ln_add i X Y (fun k hk => by rw [hX k (by omega), hY k (by omega)]; exact h k (by omega)), hX i hi, hY i hi]
theorem QL.to {X : Nat} {f g : Nat → Nat} (hX : QL X f) (h : ∀ i, i < 256 → f i = g i) : QL X g := fun i hi => (hX i hi).trans (h i hi)
def geoL : Nat → Nat
  | 0 => 0
  | n + 1 => 1 + 18446744073709551616 * geoL n
def oneL : Nat := geoL 256
def maskL : Nat := 4294967295 * oneL
theorem geoL_ln (n : Nat) : ∀ i, i < n → ln (geoL n) i = 1 := by
  induction n with
  | zero => intro i hi; omega
  | succ n ih =>
    intro i hi
    rw [geoL]
    cases i with
    | zero => rw [ln_zero]; omega
    | succ i =>
      rw [ln_succ, show (1 + 18446744073709551616 * geoL n) / 2 ^ 64 = geoL n by omega]
      exact ih i (by omega)
theorem oneL_ln : QL oneL fun _ => 1 := geoL_ln 256
theorem mulL (k : Nat) (hk : k < 2 ^ 64) : QL (k * oneL) fun _ => k := by
  induction k with
  | zero => intro i hi; rw [Nat.zero_mul, ln]; simp
  | succ k ih =>
    rw [Nat.add_mul, Nat.one_mul]
    exact (ih (by omega)).add oneL_ln fun i _ => hk
theorem maskL_ln : QL maskL fun _ => 4294967295 := mulL _ (by decide)
theorem QL.mask {X : Nat} {f : Nat → Nat} (hX : QL X f) : QL (maskL &&& X) fun i => f i % 4294967296 := (maskL_ln.and hX).to fun i _ => by
  rw [Nat.and_comm]
  exact Nat.and_two_pow_sub_one_eq_mod (f i) 32
end Go.Ab

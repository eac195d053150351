import Derived.Test.YtgodabkifdmfcaaGreatK6
import Derived.Test.YtgodabkifdmfcaaGreatK4
set_option linter.unusedSimpArgs false
set_option linter.unusedVariables false
set_option maxRecDepth 10000
namespace Go.Ab
open Go Go.RowKit
section
variable {P : Program} {F : Fn}
def slK_ (k : SK) (l : List Bool) : V := .sl k (rowsOf eB l) l.length
theorem rd_slK (k : SK) (l : List Bool) (st : St) : Rd 1 eB (slK_ k l) l st := .inl ⟨k, rfl⟩
theorem spec144 (ok : OkRef05 P F) (st : St) (x : W) : ACalls P (F 144) [w64 x] st fun v st' => v = slB (bitsN 256 x.toNat) ∧ st' = st := by
  have okr := ok.toOkRef02
  refine shows_call ok.mixed ok.h144 (by simp [k144]) ?_
  simp only [k144, eU_zero0]
  simp
  have hf : fillV (eU 0#256) [(0, 1, w64 x), (1, 1, w64 0#64), (2, 1, w64 0#64), (3, 1, w64 0#64)] = some (eU (x.setWidth 256)) := by
    have : x.setWidth 256 = u4 x 0#64 0#64 0#64 := by
      apply BitVec.eq_of_toNat_eq
      have := x.isLt
      have h : ∀ z : W, z.toNat = 0 → (u4 x z z z).toNat = x.toNat := fun z hz => by rw [u4_nat]; omega
      rw [h _ rfl, BitVec.toNat_setWidth, Nat.mod_eq_of_lt (by omega)]
    rw [this, eU_u4]
    rfl
  have hn : (x.setWidth 256 : U).toNat = x.toNat := by
    have := x.isLt
    rw [BitVec.toNat_setWidth, Nat.mod_eq_of_lt (by omega)]
  simp [hf]
  refine (spec121 okr st (x.setWidth 256)).mono ?_
  rintro v st ⟨rfl, rfl⟩
  rw [hn]
  simp
theorem bitlen_top {V k : Nat} (h1 : V < 2 ^ (k + 1)) (h2 : V / 2 ^ k % 2 = 1) : bitlen V = k + 1 := by
  have h3 : 2 ^ k ≤ V := by
    rcases Nat.lt_or_ge V (2 ^ k) with h | h
    · rw [Nat.div_eq_of_lt h] at h2; cases h2
    · exact h
  have := bitlen_le.2 h1
  have := bitlen_lt.2 h3
  omega
theorem bitlen_down {V k : Nat} (h1 : V < 2 ^ (k + 1)) (h2 : V / 2 ^ k % 2 = 0) : V < 2 ^ k := by
  rcases Nat.lt_or_ge V (2 ^ k) with h | h
  · exact h
  · have : V / 2 ^ k = 1 := Nat.div_eq_of_lt_le (by omega) (by rw [Nat.pow_succ] at h1; omega)
    omega
theorem spec145 (ok : OkRef05 P F) {st : St} {s : V} {l : List Bool} (h : Rd 1 eB s l st) (hl : l.length ≤ 100000) : ACalls P (F 145) [s] st fun v st' => v = .int .i64 (bitlen (valB l)) ∧ st' = st := by
  refine shows_call ok.mixed ok.h145 (by simp [k145]) ?_
  simp only [k145]
  have hlen := h.len
  simp [hlen]
  refine vc_loopJ (fun k env' st' => k ≤ l.length ∧ env' 3 = .int .i64 (k : Nat) ∧ valB l < 2 ^ k ∧ st' = st) l.length
    ⟨by omega, rfl, valB_lt l, rfl⟩ ?_
  rintro J hJ k env' st2 hsame ⟨hk, h3, hv, rfl⟩
  have g0 := hsame.get 0 rfl
  simp at g0
  clear hsame
  cases k with
  | zero =>
    have : valB l = 0 := by simpa using hv
    simp at h3
    simp [h3, this, bitlen]
  | succ i =>
    have hi : i < l.length := by omega
    obtain ⟨p, hp1, hp2⟩ := h.idx eB_len hi .i64
    have hbit : l[i] = (valB l / 2 ^ i % 2 == 1) := by
      have := atB_eq l i
      rw [← this]; simp [atB, hi]
    have w1 : IntKind.i64.wrap (i : Int) = (i : Int) := wrap64 (by omega) (by omega)
    have hpos : (0 : Int) < ((i + 1 : Nat) : Int) := by omega
    rw [show ((i + 1 : Nat) : Int) = (i : Int) + 1 by omega] at h3 hpos
    cases hb : l[i] with
    | true =>
      rw [hb] at hbit hp2
      have := bitlen_top hv (by simpa using hbit.symm)
      simp [g0, h3, w1, hpos, hp1, hp2, eB, this]
    | false =>
      rw [hb] at hbit hp2
      have h2 : valB l / 2 ^ i % 2 = 0 := by
        have : ¬ valB l / 2 ^ i % 2 = 1 := by simpa using hbit.symm
        omega
      simp [g0, h3, w1, hpos, hp1, hp2, eB]
      exact Round.mk i _ (by omega) (sub_self _) (hJ _ _ _ ⟨by omega, by simp, bitlen_down hv h2, rfl⟩)
theorem shiftB_val (l : List Bool) (n : Int) : valB (shiftB l n) = if 0 ≤ n then valB l * 2 ^ n.toNat else valB l / 2 ^ (-n).toNat := by
  unfold shiftB
  split
  · rw [shlB_val]
  · rw [valB_drop]
def TgtB (b : W32) (v : V) : Prop := match tgt b with | none => v = .tup [.sl .nil [] 0, .bool false] | some t => ∃ k l, v = .tup [slK_ k l, .bool true] ∧ valB l = t ∧ l.length ≤ 3000
set_option maxHeartbeats 1000000 in
theorem spec146 (ok : OkRef05 P F) (st : St) (b : W32) : ACalls P (F 146) [w32 b] st fun v st' => TgtB b v ∧ st' = st := by
  have okr := ok.toOkRef02
  have hb := b.isLt
  refine shows_call ok.mixed ok.h146 (by simp [k146]) ?_
  simp only [k146]
  obtain ⟨size, hsize⟩ : ∃ n, n = b.toNat / 16777216 := ⟨_, rfl⟩
  obtain ⟨word, hword⟩ : ∃ n, n = b.toNat % 16777216 := ⟨_, rfl⟩
  have hsz : size ≤ 255 := by omega
  have c1 : convV .i64 (w32 (b / 16777216#32)) = some (.int .i64 (size : Int)) := by
    rw [conv_32_i, BitVec.toNat_udiv, hsize]; rfl
  obtain ⟨X, hX⟩ : ∃ X : W, X = (b % 16777216#32).setWidth 64 := ⟨_, rfl⟩
  have hXn : X.toNat = word := by
    rw [hX, BitVec.toNat_setWidth, BitVec.toNat_umod]
    show b.toNat % 16777216 % 18446744073709551616 = word
    omega
  have c2 : convV .u64 (w32 (b % 16777216#32)) = some (w64 X) := by rw [conv_32_64, hX]
  have e1 : (8388608#64 ≤ X) = (8388608 ≤ word) := by
    rw [BitVec.le_def, hXn]; rfl
  have e2 : (X == 0#64) = decide (word = 0) := by
    rw [Bool.eq_iff_iff, beq_iff_eq, decide_eq_true_eq]
    constructor
    · intro h; rw [← hXn, h]; rfl
    · intro h; apply BitVec.eq_of_toNat_eq; rw [hXn, h]; rfl
  simp [c1, c2, -conv_32_i, -conv_32_64, e1, e2]
  have htg : tgt b = if word = 0 ∨ 8388608 ≤ word then none else if tgtV size word = 0 ∨ 2 ^ 256 ≤ tgtV size word then none else some (tgtV size word) := by
    unfold tgt
    rw [← hsize, ← hword]
  by_cases h1 : 8388608 ≤ word
  · have : tgt b = none := by rw [htg, if_pos (.inr h1)]
    simp [h1, TgtB, this]
  by_cases h0 : word = 0
  · have : tgt b = none := by rw [htg, if_pos (.inl h0)]
    simp [h1, h0, e2, TgtB, this]
  rw [if_neg (by omega)] at htg
  have w1 : IntKind.i64.wrap ((size : Int) - 3) = (size : Int) - 3 := wrap64 (by omega) (by omega)
  have w2 : IntKind.i64.wrap (8 * ((size : Int) - 3)) = 8 * ((size : Int) - 3) := wrap64 (by omega) (by omega)
  simp [h1, h0, e2]
  refine (spec144 ok st X).mono ?_
  rintro v st ⟨rfl, rfl⟩
  rw [hXn]
  simp [w1, w2]
  refine (spec127 okr (st := st) (rd_slK .some (bitsN 256 word) st) (by rw [bitsN_len]; omega) (8 * ((size : Int) - 3)) (by omega)).mono ?_
  intro v st2 S
  obtain ⟨L, hL⟩ : ∃ L, L = shiftB (bitsN 256 word) (8 * ((size : Int) - 3)) := ⟨_, rfl⟩
  rw [← hL] at S
  have hLl : L.length ≤ 3000 := by
    have := shiftB_len (bitsN 256 word) (8 * ((size : Int) - 3))
    rw [bitsN_len, ← hL] at this
    omega
  have hLv : valB L = tgtV size word := by
    have hwl : word < 2 ^ 256 := Nat.lt_of_lt_of_le (show word < 2 ^ 24 by show word < 16777216; omega) (Nat.pow_le_pow_right (by omega) (by omega))
    rw [hL, shiftB_val, valB_bitsN, Nat.mod_eq_of_lt hwl, tgtV]
    by_cases h3 : size ≤ 3
    · rw [if_pos h3]
      by_cases h4 : size = 3
      · subst h4; simp
      · rw [if_neg (by omega), show (-(8 * ((size : Int) - 3))).toNat = 8 * (3 - size) by omega]
    · rw [if_neg h3, if_pos (by omega), show (8 * ((size : Int) - 3)).toNat = 8 * (size - 3) by omega]
  simp
  obtain ⟨k, st3, hf, S3, _⟩ := S.frzSl eB_len
  refine frzP_one (v := slK_ k L) (st' := st3) (by simp [hf, slK_]) ?_
  have hsub : St.sub st st3 := S3.was' (by simp)
  simp
  refine (spec145 ok (rd_slK k L st3) (by omega)).mono ?_
  rintro v st3 ⟨rfl, rfl⟩
  rw [hLv]
  by_cases hz : tgtV size word = 0
  · have h2 : tgt b = none := by rw [htg, if_pos (.inl hz)]
    have hb0 : bitlen (tgtV size word) = 0 := by rw [hz]; rfl
    simp [hb0, TgtB, h2]
    exact hsub
  · have hbp := bitlen_pos.2 (Nat.pos_of_ne_zero hz)
    have hb0 : ((bitlen (tgtV size word) : Int) == 0) = false := by simp; omega
    simp [hb0]
    refine (spec145 ok (rd_slK k L st3) (by omega)).mono ?_
    rintro v st3 ⟨rfl, rfl⟩
    rw [hLv]
    by_cases hbig : 2 ^ 256 ≤ tgtV size word
    · have h2 : tgt b = none := by rw [htg, if_pos (.inr hbig)]
      have hb1 : (256 : Int) < bitlen (tgtV size word) := by have := bitlen_lt.2 hbig; omega
      simp [hb1, TgtB, h2]
      exact hsub
    · have h2 : tgt b = some (tgtV size word) := by rw [htg, if_neg (by omega)]
      have hb1 : ¬ (256 : Int) < bitlen (tgtV size word) := by have := bitlen_le.2 (Nat.not_le.1 hbig); omega
      have hT : TgtB b (.tup [slK_ k L, .bool true]) := by
        rw [TgtB, h2]
        exact ⟨k, L, rfl, hLv, hLl⟩
      simp [hb1, hT]
      exact hsub
theorem short_join (z w : Nat) (X : W) (hX : X.toNat = w) : BitVec.ofInt 32 (z : Int) * 16777216#32 + X.setWidth 32 = BitVec.ofNat 32 (z * 16777216 + w) := by
  have e : X.setWidth 32 = BitVec.ofNat 32 w := by
    apply BitVec.eq_of_toNat_eq
    rw [BitVec.toNat_setWidth, BitVec.toNat_ofNat, hX]
  rw [BitVec.ofInt_natCast, BitVec.ofNat_add, BitVec.ofNat_mul, e]
theorem none_sub {st s : St} {i : Nat} (h : St.sub st s) (hi : s i = none) : st i = none := by
  cases e : st i with
  | none => rfl
  | some o => rw [h i o e] at hi; cases hi
set_option maxHeartbeats 1000000 in
theorem spec147 (ok : OkRef05 P F) {st : St} {s : V} {l : List Bool} (h : Rd 1 eB s l st) (hl : l.length ≤ 5000) : ACalls P (F 147) [s] st fun v st' => v = w32 (shortN (valB l)) ∧ st' = st := by
  have okr := ok.toOkRef02
  refine shows_call ok.mixed ok.h147 (by simp [k147]) ?_
  simp only [k147]
  obtain ⟨t, ht⟩ : ∃ t, t = valB l := ⟨_, rfl⟩
  rw [← ht]
  have hL : bitlen t ≤ l.length := by
    rw [ht]; exact bitlen_le.2 (valB_lt l)
  have len : ∀ {st : St}, Rd 1 eB s l st → ACalls P (F 145) [s] st fun v st' => v = .int .i64 (bitlen t) ∧ st' = st := fun h => by
    rw [ht]; exact spec145 ok h (by omega)
  have w1 : IntKind.i64.wrap ((bitlen t : Int) + 7) = (bitlen t : Int) + 7 := wrap64 (by omega) (by omega)
  obtain ⟨q, hq⟩ : ∃ q, q = (bitlen t + 7) / 8 := ⟨_, rfl⟩
  have d1 : ((bitlen t : Int) + 7).tdiv 8 = (q : Int) := by rw [Int.tdiv_eq_ediv_of_nonneg (by omega)]; omega
  have w2 : IntKind.i64.wrap (q : Int) = q := wrap64 (by omega) (by omega)
  obtain ⟨z, hz⟩ : ∃ z, z = sizeN t := ⟨_, rfl⟩
  have hz2 : z = q + (if 0 < bitlen t ∧ bitlen t % 8 = 0 then 1 else 0) := by rw [hz, sizeN, hq]
  have hzl : z ≤ 700 := by split at hz2 <;> omega
  have w4 : IntKind.i64.wrap ((z : Int) - 3) = (z : Int) - 3 := wrap64 (by omega) (by omega)
  have w5 : IntKind.i64.wrap (-8 * ((z : Int) - 3)) = -(8 * ((z : Int) - 3)) := by rw [wrap64 (by omega) (by omega)]; omega
  have w5' : IntKind.i64.wrap (-(8 * ((z : Int) - 3))) = -(8 * ((z : Int) - 3)) := wrap64 (by omega) (by omega)
  have hlv : valB (shiftB l (-(8 * ((z : Int) - 3)))) = wordN t := by
    rw [shiftB_val, ← ht, wordN, ← hz]
    by_cases h3 : z ≤ 3
    · rw [if_pos h3, if_pos (by omega), show (-(8 * ((z : Int) - 3))).toNat = 8 * (3 - z) by omega]
    · rw [if_neg h3, if_neg (by omega), show (- -(8 * ((z : Int) - 3))).toNat = 8 * (z - 3) by omega]
  have hll : (shiftB l (-(8 * ((z : Int) - 3)))).length ≤ 100000 := by
    have := shiftB_len l (-(8 * ((z : Int) - 3)))
    omega
  have hwl := wordN_lt t
  have hsp : ∀ x y : U, spliceV (eU x) 0 (eU y) = eU y := fun _ _ => rfl
  have hsg : segOf (eU (natU (wordN t))) 0 1 = some [w64 (limb (natU (wordN t)) 0)] := rfl
  have hlimb : (limb (natU (wordN t)) 0).toNat = wordN t := by
    have : (natU (wordN t)).toNat = wordN t := natU_nat (Nat.lt_of_lt_of_le (show wordN t < 2 ^ 23 from hwl) (Nat.pow_le_pow_right (by omega) (by omega)))
    rw [limb_small (by omega), this]
  have hres := short_join z (wordN t) _ hlimb
  have hsn : shortN t = BitVec.ofNat 32 (z * 16777216 + wordN t) := by rw [shortN, ← hz]
  rw [← hsn] at hres
  simp
  refine (len h).mono ?_
  rintro v st ⟨rfl, rfl⟩
  simp [w1, d1, w2]
  refine (len h).mono ?_
  rintro v st ⟨rfl, rfl⟩
  by_cases h0 : 0 < bitlen t
  · have h0' : (0 : Int) < bitlen t := by omega
    simp [h0]
    refine (len h).mono ?_
    rintro v st ⟨rfl, rfl⟩
    by_cases h8 : bitlen t % 8 = 0
    · have h8' : ((bitlen t : Int).tmod 8 == 0) = true := by rw [beq_iff_eq, Int.tmod_eq_emod_of_nonneg (by omega)]; omega
      have hzc : (z : Int) = (q : Int) + 1 := by rw [if_pos ⟨h0, h8⟩] at hz2; omega
      have w3 : IntKind.i64.wrap ((q : Int) + 1) = (z : Int) := by rw [wrap64 (by omega) (by omega)]; omega
      simp [h8', w3, w4, w5, w5']
      refine (spec127 okr h (by omega) (-(8 * ((z : Int) - 3))) (by omega)).mono ?_
      intro v st2 S
      have hsub := S.was' (st0 := st) (by simp)
      simp
      refine (spec122 okr (S.rd eB_len) hll).mono ?_
      rintro w st2 ⟨rfl, rfl⟩
      rw [hlv]
      simp [eU_zero]
      intro i4 h4
      have hst : storeS (st2.upd i4 (.cells (eU 0#256))) 4 (.ptr (some (i4, 0))) (nU (natU (wordN t))) = some (st2.upd i4 (.cells (eU (natU (wordN t))))) := by
        simp [storeS, nU, eU_len, hsp]
      simp [hst, idxArrV, St.seg, hsg, ← hres]
      exact sub_ups hsub (none_sub hsub h4)
    · have h8' : ((bitlen t : Int).tmod 8 == 0) = false := by
        rw [beq_eq_false_iff_ne, Int.tmod_eq_emod_of_nonneg (by omega)]; omega
      have hzc : z = q := by rw [if_neg (by omega)] at hz2; omega
      rw [← hzc]
      simp [h8', w4, w5, w5']
      refine (spec127 okr h (by omega) (-(8 * ((z : Int) - 3))) (by omega)).mono ?_
      intro v st2 S
      have hsub := S.was' (st0 := st) (by simp)
      simp
      refine (spec122 okr (S.rd eB_len) hll).mono ?_
      rintro w st2 ⟨rfl, rfl⟩
      rw [hlv]
      simp [eU_zero]
      intro i4 h4
      have hst : storeS (st2.upd i4 (.cells (eU 0#256))) 4 (.ptr (some (i4, 0))) (nU (natU (wordN t))) = some (st2.upd i4 (.cells (eU (natU (wordN t))))) := by
        simp [storeS, nU, eU_len, hsp]
      simp [hst, idxArrV, St.seg, hsg, ← hres]
      exact sub_ups hsub (none_sub hsub h4)
  · have h0' : ¬ (0 : Int) < bitlen t := by omega
    have hzc : z = q := by rw [if_neg (by omega)] at hz2; omega
    rw [← hzc]
    simp [h0, w4, w5, w5']
    refine (spec127 okr h (by omega) (-(8 * ((z : Int) - 3))) (by omega)).mono ?_
    intro v st2 S
    have hsub := S.was' (st0 := st) (by simp)
    simp
    refine (spec122 okr (S.rd eB_len) hll).mono ?_
    rintro w st2 ⟨rfl, rfl⟩
    rw [hlv]
    simp [eU_zero]
    intro i4 h4
    have hst : storeS (st2.upd i4 (.cells (eU 0#256))) 4 (.ptr (some (i4, 0))) (nU (natU (wordN t))) = some (st2.upd i4 (.cells (eU (natU (wordN t))))) := by
      simp [storeS, nU, eU_len, hsp]
    simp [hst, idxArrV, St.seg, hsg, ← hres]
    exact sub_ups hsub (none_sub hsub h4)
end
end Go.Ab
set_option linter.unusedSimpArgs false
set_option linter.unusedVariables false
set_option maxRecDepth 10000
namespace Go.Ab
open Go Go.RowKit
section
variable {P : Program} {F : Fn}
theorem one_nat : (1#64 : W).toNat = 1 := rfl
theorem val_one : valB (bitsN 256 1) = 1 := by
  rw [valB_bitsN]
set_option maxHeartbeats 1000000 in
theorem spec148 (ok : OkRef05 P F) {st : St} {s : V} {l : List Bool} (h : Rd 1 eB s l st) (hl : l.length ≤ 5000) (hv : valB l < 2 ^ 256) : ACalls P (F 148) [s] st fun v st' => v = slB (bitsN 512 (workN (valB l))) ∧ st' = st := by
  have okr := ok.toOkRef02
  refine shows_call ok.mixed ok.h148 (by simp [k148]) ?_
  simp only [k148]
  simp
  refine (spec144 ok st 1#64).mono ?_
  rintro v st ⟨rfl, rfl⟩
  rw [one_nat]
  simp
  refine (spec127 okr (st := st) (rd_slK .some (bitsN 256 1) st) (by rw [bitsN_len]; omega) 256 (by omega)).mono ?_
  intro v st2 S
  have hsub := S.was' (st0 := st) (by simp)
  obtain ⟨L, hL⟩ : ∃ L, L = shiftB (bitsN 256 1) 256 := ⟨_, rfl⟩
  have hLl : L.length = 512 := by rw [hL]; simp [shiftB, shlB, bitsN_len]
  have hLv : valB L = 2 ^ 256 := by rw [hL, shiftB_val, if_pos (by omega), val_one, Nat.one_mul]; rfl
  rw [← hL] at S
  simp
  refine (spec144 ok st2 1#64).mono ?_
  rintro w st2 ⟨rfl, rfl⟩
  rw [one_nat]
  simp
  refine (spec124 okr (st := st2) (h.sub hsub) (rd_slK .some (bitsN 256 1) st2) (by omega) (by rw [bitsN_len]; omega)).mono ?_
  rintro w st2 ⟨rfl, rfl⟩
  have hav : valB (addB l (bitsN 256 1)) = valB l + 1 := by rw [addB_val, val_one]
  simp
  refine (spec129 okr (st := st2) (S.rd eB_len) (rd_slK .some (addB l (bitsN 256 1)) st2) (by omega) (by rw [addB_len, bitsN_len]; omega) (by rw [hav]; omega) (by rw [hav]; omega)).mono ?_
  rintro w st2 ⟨⟨k, u, rfl, hk⟩, rfl⟩
  rw [hLl] at hk
  have hk := hk (by omega)
  subst hk
  rw [hav, hLv, hLl]
  simp
  exact ⟨hsub, by simp [slB, bitsN_len, workN]⟩
theorem tk_ref {took : Int} {sh : Nat} (hsh : sh ≤ 1099511627776) :
    ((max took ((sh : Int) / 4)) > 4 * (sh : Int) → clampT took sh = 4 * sh) ∧ (¬ (max took ((sh : Int) / 4)) > 4 * (sh : Int) → (clampT took sh : Int) = max took ((sh : Int) / 4)) := by
  unfold clampT
  rw [Int.tdiv_eq_ediv_of_nonneg (by omega)]
  constructor <;> intro h <;> omega
set_option maxHeartbeats 4000000 in
theorem spec149 (ok : OkRef05 P F) {st : St} (b : W32) (took should : Int) {s : V} {lim : List Bool} (hlim : Rd 1 eB s lim st) (ll : lim.length ≤ 5000) (hr : -9223372036854775808 ≤ took ∧ took ≤ 9223372036854775807) :
    ACalls P (F 149) [w32 b, .int .i64 took, .int .i64 should, s] st fun v st' => v = nextR b took should (valB lim) ∧ st' = st := by
  have okr := ok.toOkRef02
  refine shows_call ok.mixed ok.h149 (by simp [k149]) ?_
  simp only [k149]
  simp
  refine (spec146 ok st b).mono ?_
  rintro v st ⟨hT, rfl⟩
  unfold TgtB at hT
  cases htg : tgt b with
  | none =>
    rw [htg] at hT
    subst hT
    have : nextR b took should (valB lim) = .tup [w32 0#32, .bool false] := by rw [nextR, nextN, htg]
    simp [this]
  | some t =>
    rw [htg] at hT
    obtain ⟨k, T, rfl, hTv, hTl⟩ := hT
    simp
    by_cases hs1 : should < 1
    · have : nextR b took should (valB lim) = .tup [w32 0#32, .bool false] := by rw [nextR, nextN, htg]; simp [hs1]
      simp [hs1, this]
    by_cases hs2 : 1099511627776 < should
    · have : nextR b took should (valB lim) = .tup [w32 0#32, .bool false] := by rw [nextR, nextN, htg]; simp [hs1, hs2]
      simp [hs1, hs2, this]
    have e : nextR b took should (valB lim) = .tup [w32 (shortN (nextT t (clampT took should) should.toNat (valB lim))), .bool true] := by
      rw [nextR, nextN, htg]; simp [hs1, hs2]
    rw [e]
    have hcl := clampT_le (took := took) (should := should) (by omega) (by omega)
    obtain ⟨sh, rfl⟩ := Int.eq_ofNat_of_zero_le (show 0 ≤ should by omega)
    obtain ⟨t1, t2⟩ := tk_ref (took := took) (sh := sh) (by omega)
    obtain ⟨tk, htk⟩ : ∃ tk, tk = clampT took sh := ⟨_, rfl⟩
    rw [← htk] at hcl t1 t2 ⊢
    have hshl : sh ≤ 1099511627776 := by omega
    have hsh0 : 0 < sh := by omega
    have w4 : IntKind.i64.wrap (4 * (sh : Int)) = 4 * (sh : Int) := wrap64 (by omega) (by omega)
    have w0 : IntKind.i64.wrap ((sh : Int) / 4) = (sh : Int) / 4 := wrap64 (by omega) (by omega)
    obtain ⟨TK, hTK⟩ : ∃ TK : W, TK = BitVec.ofInt 64 (tk : Int) := ⟨_, rfl⟩
    have hTKn : TK.toNat = tk := by rw [hTK]; exact of64 (by omega)
    obtain ⟨SH, hSH⟩ : ∃ SH : W, SH = BitVec.ofInt 64 (sh : Int) := ⟨_, rfl⟩
    have hSHn : SH.toNat = sh := by rw [hSH]; exact of64 (by omega)
    have c1 : convV .u64 (.int .i64 (tk : Int)) = some (w64 TK) := by rw [hTK, conv_i_64]
    have c2 : convV .u64 (.int .i64 (sh : Int)) = some (w64 SH) := by rw [hSH, conv_i_64]
    have vtk : valB (bitsN 256 tk) = tk := by
      rw [valB_bitsN]; exact Nat.mod_eq_of_lt (Nat.lt_of_lt_of_le (show tk < 2 ^ 64 by omega) (Nat.pow_le_pow_right (by omega) (by omega)))
    have vsh : valB (bitsN 256 sh) = sh := by
      rw [valB_bitsN]; exact Nat.mod_eq_of_lt (Nat.lt_of_lt_of_le (show sh < 2 ^ 64 by omega) (Nat.pow_le_pow_right (by omega) (by omega)))
    have h256 : sh ≤ 2 ^ 256 := Nat.le_of_lt (Nat.lt_of_lt_of_le (show sh < 2 ^ 64 by omega) (Nat.pow_le_pow_right (by omega) (by omega)))
    rw [Int.toNat_natCast]
    -- the product
    obtain ⟨X, hX⟩ : ∃ X, X = mulB T (bitsN 256 tk) 0 [] := ⟨_, rfl⟩
    have hXv : valB X = t * tk := by rw [hX, mulB_val, hTv, vtk]; simp [valB]
    have hXl : X.length ≤ 4000 := by
      have := mulB_len T (bitsN 256 tk) 0 []
      rw [← hX, bitsN_len] at this
      simp at this
      omega
    have len : ∀ (k : SK) (l : List Bool) (st : St), l.length ≤ 100000 → ACalls P (F 145) [slK_ k l] st fun v st' => v = .int .i64 (bitlen (valB l)) ∧ st' = st := fun k l st hl => spec145 ok (rd_slK k l st) hl
    have big : ∀ n : Nat, ((256 : Int) < (bitlen n : Int)) = (2 ^ 256 ≤ n) := fun n => by
      rw [eq_iff_iff, ← bitlen_lt]; omega
    simp [hs1, hs2, w4, w0]
    refine condB_join (fun env' st' => env' 1 = .int .i64 (max took ((sh : Int) / 4)) ∧ st' = st) ?_ ?_
    · by_cases h : took < (sh : Int) / 4 <;> simp [h, w0] <;> omega
    rintro env' st' hsame ⟨h1, rfl⟩
    have g2 := hsame.get 2 rfl
    have g3 := hsame.get 3 rfl
    have g10 := hsame.get 10 rfl
    simp at g2 g3 g10
    clear hsame
    simp [g2, h1, w4]
    refine condB_join (fun env' st2 => env' 1 = .int .i64 (tk : Int) ∧ st2 = st') ?_ ?_
    · by_cases h : 4 * (sh : Int) < (max took ((sh : Int) / 4))
      · have := t1 h
        simp [h, g2, w4, this]
      · have := t2 h
        simp [h, h1, this]
    rintro env2 st2 hsame ⟨h1, rfl⟩
    have g2 := (hsame.get 2 rfl).trans g2
    have g3 := (hsame.get 3 rfl).trans g3
    have g10 := (hsame.get 10 rfl).trans g10
    clear hsame t1 t2
    simp [g2, g3, g10, h1, c1, -conv_i_64]
    refine (spec144 ok st2 TK).mono ?_
    rintro v st2 ⟨rfl, rfl⟩
    rw [hTKn]
    simp
    refine (spec128 okr (st := st2) (rd_slK k T st2) (rd_slK .some (bitsN 256 tk) st2) (by omega) (by rw [bitsN_len]; omega)).mono ?_
    rintro v st2 ⟨⟨kx, hv⟩, rfl⟩
    rw [← hX] at hv
    subst hv
    simp [g2, c2, -conv_i_64]
    refine (spec144 ok st2 SH).mono ?_
    rintro v st2 ⟨rfl, rfl⟩
    rw [hSHn]
    simp
    refine (spec129 okr (st := st2) (rd_slK kx X st2) (rd_slK .some (bitsN 256 sh) st2) (by omega) (by rw [bitsN_len]; omega) (by rw [vsh]; exact hsh0) (by rw [vsh]; exact h256)).mono ?_
    rintro v st2 ⟨⟨kq, u, rfl, -⟩, rfl⟩
    rw [vsh, hXv]
    simp
    refine (len kx X st2 (by omega)).mono ?_
    rintro v st2 ⟨rfl, rfl⟩
    rw [hXv]
    simp
    refine condB_join (fun env' st3 => ∃ (k3 : SK) (Q : List Bool), env' 13 = slK_ k3 Q ∧ Q.length ≤ 4000 ∧ valB Q = (if t * tk < 2 ^ 256 then t * tk / sh else t / sh * tk) ∧ st3 = st2) ?_ ?_
    · by_cases hb : 2 ^ 256 ≤ t * tk
      · have hb' : (256 : Int) < bitlen (t * tk) := (big _).mpr hb
        simp [hb', g2, g10, h1, c1, c2, -conv_i_64]
        refine (spec144 ok st2 SH).mono ?_
        rintro v st2 ⟨rfl, rfl⟩
        rw [hSHn]
        simp
        refine (spec129 okr (st := st2) (rd_slK k T st2) (rd_slK .some (bitsN 256 sh) st2) (by omega) (by rw [bitsN_len]; omega) (by rw [vsh]; exact hsh0) (by rw [vsh]; exact h256)).mono ?_
        rintro v st2 ⟨⟨kd, u2, rfl, -⟩, rfl⟩
        rw [vsh, hTv]
        simp [h1, c1, -conv_i_64]
        refine (spec144 ok st2 TK).mono ?_
        rintro v st2 ⟨rfl, rfl⟩
        rw [hTKn]
        have hql : (bitsN T.length (t / sh)).length = T.length := bitsN_len _ _
        have hqv : valB (bitsN T.length (t / sh)) = t / sh := by
          rw [valB_bitsN]
          have : t < 2 ^ T.length := by rw [← hTv]; exact valB_lt T
          exact Nat.mod_eq_of_lt (Nat.lt_of_le_of_lt (Nat.div_le_self _ _) this)
        simp
        refine (spec128 okr (st := st2) (a := bitsN T.length (t / sh)) (.inl ⟨kd, by rw [hql]⟩) (rd_slK .some (bitsN 256 tk) st2) (by rw [hql]; omega) (by rw [bitsN_len]; omega)).mono ?_
        rintro v st2 ⟨⟨km, rfl⟩, rfl⟩
        have hml := mulB_len (bitsN T.length (t / sh)) (bitsN 256 tk) 0 []
        rw [hql, bitsN_len] at hml
        simp at hml
        have hmv : valB (mulB (bitsN T.length (t / sh)) (bitsN 256 tk) 0 []) = t / sh * tk := by
          rw [mulB_val, hqv, vtk]; simp [valB]
        simp
        refine ⟨km, _, rfl, by omega, ?_⟩
        rw [hmv, if_neg (by omega)]
      · have hb' : ¬ (256 : Int) < bitlen (t * tk) := fun h => hb ((big _).mp h)
        have hXb : X.length = (bitsN X.length (t * tk / sh)).length := (bitsN_len _ _).symm
        simp [hb']
        refine ⟨kq, bitsN X.length (t * tk / sh), ?_, by rw [bitsN_len]; exact hXl, ?_⟩
        · rw [slK_, bitsN_len]
        · rw [valB_bitsN, if_pos (by omega), Nat.mod_eq_of_lt]
          have : t * tk < 2 ^ X.length := by rw [← hXv]; exact valB_lt X
          exact Nat.lt_of_le_of_lt (Nat.div_le_self _ _) this
    rintro env3 st3 hsame ⟨k3, Q, h13, hQl, hQv, rfl⟩
    have g3 := (hsame.get 3 rfl).trans (by simp [g3] : _ = s)
    clear hsame
    have hres : nextT t tk sh (valB lim) = if 2 ^ 256 ≤ valB Q ∨ valB lim < valB Q then valB lim else valB Q := by rw [nextT, ← hQv]
    simp [h13]
    refine (len k3 Q st3 (by omega)).mono ?_
    rintro v st3 ⟨rfl, rfl⟩
    by_cases hb : 2 ^ 256 ≤ valB Q
    · have hb' : (256 : Int) < bitlen (valB Q) := (big _).mpr hb
      rw [hres, if_pos (.inl hb)]
      simp [hb', g3]
      refine (spec147 ok hlim ll).mono ?_
      rintro v st3 ⟨rfl, rfl⟩
      simp
    · have hb' : ¬ (256 : Int) < bitlen (valB Q) := fun h => hb ((big _).mp h)
      simp [hb', g3, h13]
      refine (spec125 okr (st := st3) hlim (rd_slK k3 Q st3) (by omega) (by omega)).mono ?_
      rintro v st3 ⟨rfl, rfl⟩
      by_cases hl : valB lim < valB Q
      · rw [hres, if_pos (.inr hl)]
        simp [hl, g3]
        refine (spec147 ok hlim ll).mono ?_
        rintro v st3 ⟨rfl, rfl⟩
        simp
      · rw [hres, if_neg (by omega)]
        simp [hl, h13]
        refine (spec147 ok (rd_slK k3 Q st3) (by omega)).mono ?_
        rintro v st3 ⟨rfl, rfl⟩
        simp
end
end Go.Ab
set_option linter.unusedSimpArgs false
set_option linter.unusedVariables false
namespace Go.Ab
open Go Go.RowKit
def sB (l : List UInt8) : V := .str ⟨l.toArray⟩
theorem sB_add (a b : List UInt8) (h : a.length + b.length ≤ 1000000000) : binV .add (sB a) (sB b) = some (sB (a ++ b)) := by
  have e : (⟨a.toArray⟩ : ByteArray) ++ ⟨b.toArray⟩ = ⟨(a ++ b).toArray⟩ := by
    apply ByteArray.ext
    simp [ByteArray.data_append]
  simp only [sB, binV]
  rw [if_pos (by simpa [ByteArray.size] using h), e]
theorem sB_len (l : List UInt8) : lenStrV (sB l) = some (.int .i64 l.length) := by simp [sB, lenStrV, ByteArray.size]
theorem toStr_sB {s : V} {l : List UInt8} {st : St} (h : Rd 1 e8 s l st) (hs : ∀ x, s ≠ .str x) : toStrV st s = some (sB l) := toStr_rd h hs
end Go.Ab
set_option linter.unusedSimpArgs false
set_option linter.unusedVariables false
set_option maxRecDepth 10000
namespace Go.Ab
open Go Go.RowKit
section
variable {P : Program} {F : Fn}
theorem hseg0 (h : Hdr) : segOf (eHdr h) 0 1 = some [w32 h.ver] := by
  simp [segOf, eHdr, eId_len]
theorem hdrop1 (h : Hdr) : (eHdr h).drop 1 = eId h.prev ++ (eId h.root ++ [w32 h.time, w32 h.bits, w32 h.nonce]) := rfl
theorem hdrop33 (h : Hdr) : (eHdr h).drop 33 = eId h.root ++ [w32 h.time, w32 h.bits, w32 h.nonce] := by
  rw [show 33 = 1 + 32 from rfl, ← List.drop_drop, hdrop1, List.drop_left' (eId_len _)]
theorem hdrop65 (h : Hdr) : (eHdr h).drop 65 = [w32 h.time, w32 h.bits, w32 h.nonce] := by
  rw [show 65 = 33 + 32 from rfl, ← List.drop_drop, hdrop33, List.drop_left' (eId_len _)]
theorem hdrop66 (h : Hdr) : (eHdr h).drop 66 = [w32 h.bits, w32 h.nonce] := by
  rw [show 66 = 65 + 1 from rfl, ← List.drop_drop, hdrop65]; rfl
theorem hdrop67 (h : Hdr) : (eHdr h).drop 67 = [w32 h.nonce] := by
  rw [show 67 = 65 + 2 from rfl, ← List.drop_drop, hdrop65]; rfl
theorem seg_of_drop {cs : List V} {off sz : Nat} {ys zs : List V} (h : cs.drop off = ys ++ zs) (hl : ys.length = sz) (hp : 0 < sz) : segOf cs off sz = some ys := by
  have hlen := congrArg List.length h
  rw [List.length_drop, List.length_append] at hlen
  rw [segOf, if_pos (by omega), h, ← hl, List.take_left]
theorem hsegPrev (h : Hdr) : segOf (eHdr h) 1 32 = some (eId h.prev) := seg_of_drop (hdrop1 h) (eId_len _) (by omega)
theorem hsegTime (h : Hdr) : segOf (eHdr h) 65 1 = some [w32 h.time] := seg_of_drop (zs := [w32 h.bits, w32 h.nonce]) (hdrop65 h) rfl (by omega)
theorem hsegBits (h : Hdr) : segOf (eHdr h) 66 1 = some [w32 h.bits] := seg_of_drop (zs := [w32 h.nonce]) (hdrop66 h) rfl (by omega)
theorem hsegNonce (h : Hdr) : segOf (eHdr h) 67 1 = some [w32 h.nonce] := seg_of_drop (zs := []) (hdrop67 h) rfl (by omega)
theorem hsegAll (h : Hdr) : segOf (eHdr h) 0 68 = some (eHdr h) := by
  rw [segOf, if_pos (by rw [eHdr_len]; omega), List.drop_zero, List.take_of_length_le (by rw [eHdr_len]; omega)]
theorem spec139 (ok : OkHead P F) {st : St} {s : V} {l : List UInt8} {L : List Asn} (h : Sep (Slx 1 e8 s l :: L) st) (hl : l.length ≤ 1000) (x : W32) :
    ACalls P (F 139) [s, w32 x] st fun v st' => Sep (Slx 1 e8 v (l ++ le4 x) :: L) st' := by
  refine shows_call ok.mixed ok.h139 (by simp [k139]) ?_
  simp only [k139]
  have hr : fillV (repV [w8 0] 4) [(0, 1, w8 (UInt8.ofBitVec (x.setWidth 8))), (1, 1, w8 (UInt8.ofBitVec ((x >>> 8).setWidth 8))), (2, 1, w8 (UInt8.ofBitVec ((x >>> 16).setWidth 8))), (3, 1, w8 (UInt8.ofBitVec ((x >>> 24).setWidth 8)))] = some (rowsOf e8 (le4 x)) := rfl
  simp [hr]
  have he : elems st 1 (.sl .full (rowsOf e8 (le4 x)) 4) = some (rowsOf e8 (le4 x), (le4 x).length) := rfl
  rw [he]
  refine Sep.appx (b := 1) e8_len (by omega) h (m := le4 x) (by simp [le4]; omega) ?_
  intro s' st' S'
  simp
  exact ⟨st', sub_self _, S'⟩
set_option maxHeartbeats 1000000 in
theorem spec140 (ok : OkHead P F) (st : St) (h : Hdr) : ACalls P (F 140) [.agg (eHdr h)] st fun v st' => Sep [Slx 1 e8 v (hBytes h), Was st] st' := by
  refine shows_call ok.mixed ok.h140 (by simp [k140]) ?_
  simp only [k140]
  simp
  intro i1 h1
  have S := (Sep.start st).new h1 (.cells (eHdr h))
  generalize st.upd i1 _ = st1 at S ⊢
  have o1 := S.get
  simp [Conf, St.seg, o1, hseg0, mkslS, mkNew, repV]
  intro i4 h4
  have S := S.new h4 (.cells [])
  generalize st1.upd i4 _ = st2 at S ⊢
  have S := S.head (A' := Slx 1 e8 (.hsl i4 0 1 0) []) fun g hg => .inr ⟨i4, rfl, hg⟩
  refine (spec139 ok S (by simp) h.ver).mono ?_
  intro v st3 S
  simp
  have o1 := S.mem (i := i1) (o := .cells (eHdr h)) (by
    simp)
  have S := S.setAt (.ro (eHdr h)) 1 rfl
  simp [frzP, frzV, frzOb, o1]
  generalize st3.upd i1 _ = st4 at S ⊢
  have p1 : segOf (eHdr h).tail 0 32 = some (eId h.prev) := seg_of_drop (by rw [List.drop_zero, ← List.drop_one]; exact hdrop1 h) (eId_len _) (by omega)
  have p2 : segOf ((eHdr h).drop 33) 0 32 = some (eId h.root) := seg_of_drop (by rw [List.drop_zero]; exact hdrop33 h) (eId_len _) (by omega)
  have t1 : List.take 32 (eId h.prev) = rowsOf e8 h.prev.toList := by rw [← eId_rows, List.take_of_length_le (by rw [eId_len]; omega)]
  have t2 : List.take 32 (eId h.root) = rowsOf e8 h.root.toList := by rw [← eId_rows, List.take_of_length_le (by rw [eId_len]; omega)]
  have e1 : ∀ (s : St) (x : Id), elems s 1 (.sl .full (rowsOf e8 x.toList) 32) = some (rowsOf e8 x.toList, x.toList.length) := fun s x => by
    have : (rowsOf e8 x.toList).length = 32 := by rw [rowsOf_length e8_len]; simp
    simp [elems, this]
  simp [Conf, slArrV, bounds, opV, p1, p2, t1, t2, e1]
  refine Sep.appx' (b := 1) e8_len (by omega) S h.prev.toList rfl (by simp) (by simp [le4]) ?_
  intro s5 st5 S
  simp [e1]
  refine Sep.appx' (b := 1) e8_len (by omega) S h.root.toList rfl (by simp) (by simp [le4]) ?_
  intro s6 st6 S
  have q1 : segOf ((eHdr h).drop 65) 0 1 = some [w32 h.time] := seg_of_drop (zs := [w32 h.bits, w32 h.nonce]) (by rw [List.drop_zero]; exact hdrop65 h) rfl (by omega)
  have q2 : segOf ((eHdr h).drop 66) 0 1 = some [w32 h.bits] := seg_of_drop (zs := [w32 h.nonce]) (by rw [List.drop_zero]; exact hdrop66 h) rfl (by omega)
  have q3 : segOf ((eHdr h).drop 67) 0 1 = some [w32 h.nonce] := seg_of_drop (zs := []) (by rw [List.drop_zero]; exact hdrop67 h) rfl (by omega)
  simp [q1, q2, q3]
  refine (spec139 ok S (by simp [le4]) h.time).mono ?_
  intro v7 st7 S
  simp
  refine (spec139 ok S (by simp [le4]) h.bits).mono ?_
  intro v8 st8 S
  simp
  refine (spec139 ok S (by simp [le4]) h.nonce).mono ?_
  intro v9 st9 S
  simp
  refine ⟨_, sub_self _, ?_⟩
  have hb : [] ++ le4 h.ver ++ h.prev.toList ++ h.root.toList ++ le4 h.time ++ le4 h.bits ++ le4 h.nonce = hBytes h := by simp [hBytes]
  rw [hb] at S
  exact Sep.tail (fun r hr => hr.drop) S
theorem spec141 (ok : OkHead P F) (st : St) (h : Hdr) : ACalls P (F 141) [.agg (eHdr h)] st fun v st' => v = .agg (eId (hId h)) ∧ st' = st := by
  have okh := ok.toOkHash
  refine shows_call ok.mixed ok.h141 (by simp [k141]) ?_
  simp only [k141]
  simp
  intro i1 h1
  have S := (Sep.start st).new h1 (.cells (eHdr h))
  generalize st.upd i1 _ = st1 at S ⊢
  simp
  intro i2 h2
  have S := S.new h2 (.cells zR32_w80)
  generalize st1.upd i2 _ = st2 at S ⊢
  have o1 := S.mem (i := i1) (o := .cells (eHdr h)) (by simp)
  simp [St.seg, o1, hsegAll]
  refine (Sep.call (S.put (A := Was fun _ => none) rfl) (fun g hg => by rw [hg]; exact spec140 ok _ h)).mono ?_
  intro v st3 S3
  have rd : Rd 1 e8 v (hBytes h) st3 := by
    obtain ⟨g, k1, k2⟩ := S3.part
    exact (Sep.rd e8_len (k2.head fun h hh => hh.sl)).sub k1
  have S := S3.drop
  have hp : Parts st3 [v] [hBytes h] := .cons rd .nil
  have hfl : fillV (repV [.sl .nil [] 0] 1) [(0, 1, v)] = some [v] := by
    rcases rd with ⟨k, rfl⟩ | ⟨_, _, rfl, _⟩ <;> rfl
  simp [hfl]
  have hc := spec104 okh st3 hp .full (by simp [hBytes_len]) (by simp)
  refine hc.mono ?_
  rintro w st3 ⟨rfl, rfl⟩
  have o2 := S.mem (i := i2) (o := .cells zR32_w80) (by simp)
  have hst := store_z32 o2 (sha2 ([hBytes h].flatten))
  have T := S.setAt (.cells (eId (sha2 ([hBytes h].flatten)))) 0 rfl
  have hf : [hBytes h].flatten = hBytes h := by simp
  rw [hf] at hst T ⊢
  simp [hst, St.seg, segId0]
  exact ⟨T.was' (by simp), rfl⟩
end
end Go.Ab
set_option linter.unusedSimpArgs false
set_option linter.unusedVariables false
set_option maxRecDepth 10000
namespace Go.Ab
open Go Go.RowKit
theorem low8 (x : W32) : (x % 256#32).setWidth 8 = x.setWidth 8 := by
  apply BitVec.eq_of_toNat_eq
  simp only [BitVec.toNat_setWidth, BitVec.toNat_umod]
  show x.toNat % 256 % 256 = x.toNat % 256
  omega
theorem div8 (x : W32) : x / 256#32 = x >>> 8 := by
  apply BitVec.eq_of_toNat_eq
  rw [BitVec.toNat_udiv, BitVec.toNat_ushiftRight, Nat.shiftRight_eq_div_pow]; rfl
section
variable {P : Program} {F : Fn}
theorem spec150 (ok : OkRef05 P F) (st : St) (x : W32) : ACalls P (F 150) [w32 x] st fun v st' => v = sB (le4 x) ∧ st' = st := by
  refine shows_call ok.mixed ok.h150 (by simp [k150]) ?_
  simp only [k150]
  have hz : V.str (ByteArray.mk ⟨[]⟩) = sB [] := rfl
  simp only [hz]
  simp
  refine vc_unroll 5 ?_
  have hf : ∀ b : UInt8, fillV (repV [w8 0] 1) [(0, 1, w8 b)] = some (rowsOf e8 [b]) := fun b => rfl
  have hs : ∀ b : UInt8, toStrV st (.sl .full (e8 b) 1) = some (sB [b]) := fun b => toStr_sB (.inl ⟨.full, rfl⟩) (by simp)
  have ha : ∀ (a : List UInt8) (b : UInt8), a.length ≤ 100 → binV .add (sB a) (sB [b]) = some (sB (a ++ [b])) := fun a b h => sB_add a [b] (by simp; omega)
  have s2 : x >>> 8 >>> 8 = x >>> 16 := by rw [← BitVec.shiftRight_add]
  have s3 : x >>> 16 >>> 8 = x >>> 24 := by rw [← BitVec.shiftRight_add]
  simp [unr_succ, hf, hs, ha, low8, div8, s2, s3, le4]
theorem spec151 (ok : OkRef05 P F) (st : St) (h : Hdr) : ACalls P (F 151) [.agg (eHdr h)] st fun v st' => v = sB (hBytes h) ∧ st' = st := by
  refine shows_call ok.mixed ok.h151 (by simp [k151]) ?_
  simp only [k151]
  have hz : V.str (ByteArray.mk ⟨[]⟩) = sB [] := rfl
  simp only [hz]
  simp
  intro i1 h1
  have S := (Sep.start st).new h1 (.cells (eHdr h))
  generalize st.upd i1 _ = st1 at S ⊢
  have o1 := S.get
  have S := S.setAt (.ro (eHdr h)) 0 rfl
  simp [frzP, frzV, frzOb, o1]
  generalize st1.upd i1 _ = st2 at S ⊢
  have hs := S.was' (st0 := st) (by simp)
  have q0 : segOf (eHdr h) 0 1 = some [w32 h.ver] := Go.Ab.hseg0 h
  have p1 : segOf (eHdr h).tail 0 32 = some (eId h.prev) := seg_of_drop (by rw [List.drop_zero, ← List.drop_one]; exact hdrop1 h) (eId_len _) (by omega)
  have p2 : segOf ((eHdr h).drop 33) 0 32 = some (eId h.root) := seg_of_drop (by rw [List.drop_zero]; exact hdrop33 h) (eId_len _) (by omega)
  have q1 : segOf ((eHdr h).drop 65) 0 1 = some [w32 h.time] := seg_of_drop (zs := [w32 h.bits, w32 h.nonce]) (by rw [List.drop_zero]; exact hdrop65 h) rfl (by omega)
  have q2 : segOf ((eHdr h).drop 66) 0 1 = some [w32 h.bits] := seg_of_drop (zs := [w32 h.nonce]) (by rw [List.drop_zero]; exact hdrop66 h) rfl (by omega)
  have q3 : segOf ((eHdr h).drop 67) 0 1 = some [w32 h.nonce] := seg_of_drop (zs := []) (by rw [List.drop_zero]; exact hdrop67 h) rfl (by omega)
  have t1 : List.take 32 (eId h.prev) = rowsOf e8 h.prev.toList := by rw [← eId_rows, List.take_of_length_le (by rw [eId_len]; omega)]
  have t2 : List.take 32 (eId h.root) = rowsOf e8 h.root.toList := by rw [← eId_rows, List.take_of_length_le (by rw [eId_len]; omega)]
  have e1 : ∀ (s : St) (x : Id), toStrV s (.sl .full (rowsOf e8 x.toList) 32) = some (sB x.toList) := fun s x => toStr_sB (.inl ⟨.full, by simp⟩) (by simp)
  simp [q0, q1, q2, q3]
  refine ⟨_, spec150 ok st2 h.ver, ?_⟩
  have a1 := sB_add (le4 h.ver) h.prev.toList (by simp [le4])
  have a2 := sB_add (le4 h.ver ++ h.prev.toList) h.root.toList (by simp [le4])
  have a3 := sB_add (le4 h.ver ++ (h.prev.toList ++ h.root.toList)) (le4 h.time) (by simp [le4])
  have a4 := sB_add (le4 h.ver ++ (h.prev.toList ++ (h.root.toList ++ le4 h.time))) (le4 h.bits) (by simp [le4])
  have a5 := sB_add (le4 h.ver ++ (h.prev.toList ++ (h.root.toList ++ (le4 h.time ++ le4 h.bits)))) (le4 h.nonce) (by simp [le4])
  simp only [List.append_assoc] at a1 a2 a3 a4 a5
  simp [slArrV, bounds, p1, p2, t1, t2, e1, a1, a2]
  refine ⟨_, spec150 ok st2 h.time, ?_⟩
  simp [a3]
  refine ⟨_, spec150 ok st2 h.bits, ?_⟩
  simp [a4]
  refine ⟨_, spec150 ok st2 h.nonce, ?_⟩
  simp [a5, hs, hBytes]
@[simp high] theorem bin8_eql (a b : UInt8) : binV .eql (w8 a) (w8 b) = some (.bool (a == b)) := by
  simp only [w8, binV, binI, if_true]
  congr 2
  by_cases h : a = b
  · simp [h]
  · have : (a == b) = false := by simp [h]
    rw [this]
    have h2 : a.toNat ≠ b.toNat := fun e => h (UInt8.toNat_inj.1 e)
    simp; omega
def h8 (b : UInt8) (q : Nat) : UInt8 := UInt8.ofNat (b.toNat / 2 ^ q)
theorem h8_nat (b : UInt8) (q : Nat) : (h8 b q).toNat = b.toNat / 2 ^ q := by
  have := b.toNat_lt
  have : b.toNat / 2 ^ q ≤ b.toNat := Nat.div_le_self _ _
  simp [h8]
  omega
@[simp high] theorem h8_rem (b : UInt8) (q : Nat) : binV .rem (w8 (h8 b q)) (w8 2) = some (w8 (UInt8.ofNat (b.toNat / 2 ^ q % 2))) := by
  simp only [w8, binV, binI, if_true, h8_nat]
  rw [if_neg (by decide)]
  have e2 : ((2 : UInt8).toNat : Int) = ((2 : Nat) : Int) := rfl
  rw [e2, tmod_nat]
  congr 3
  have := Nat.mod_lt (b.toNat / 2 ^ q) (show 0 < 2 by omega)
  simp
  omega
@[simp high] theorem h8_quo (b : UInt8) (q : Nat) : binV .quo (w8 (h8 b q)) (w8 2) = some (w8 (h8 b (q + 1))) := by
  have hb := b.toNat_lt
  have hd : b.toNat / 2 ^ q ≤ b.toNat := Nat.div_le_self _ _
  simp only [w8, binV, binI, if_true, h8_nat]
  rw [if_neg (by decide)]
  have e2 : ((2 : UInt8).toNat : Int) = ((2 : Nat) : Int) := rfl
  rw [e2, tdiv_nat, wrap_u8, Nat.pow_succ, ← Nat.div_div_eq_div_mul]
  congr 2
  rw [UInt8.toNat_ofBitVec, BitVec.ofInt_natCast, BitVec.toNat_ofNat]
  generalize b.toNat / 2 ^ q = m at hd ⊢
  omega
theorem bit8_one (n : Nat) : (UInt8.ofNat (n % 2) == 1) = (n % 2 == 1) := by
  have : n % 2 = 0 ∨ n % 2 = 1 := by omega
  rcases this with h | h <;> rw [h] <;> rfl
theorem leN_at : ∀ (l : List UInt8) (i : Nat) (h : i < l.length), leN l / 256 ^ i % 256 = l[i].toNat
  | b :: l, 0, _ => by
    have := b.toNat_lt
    simp only [leN, Nat.pow_zero, Nat.div_one, List.getElem_cons_zero]
    omega
  | b :: l, i + 1, h => by
    have := b.toNat_lt
    have ih := leN_at l i (by simpa using h)
    simp only [leN, List.getElem_cons_succ]
    rw [Nat.pow_succ', ← Nat.div_div_eq_div_mul, show (b.toNat + 256 * leN l) / 256 = leN l by omega]
    exact ih
theorem idN_bit (x : Id) {i q : Nat} (hi : i < x.toList.length) (hq : q < 8) : (x.toList[i].toNat / 2 ^ q) % 2 = idN x / 2 ^ (8 * i + q) % 2 := by
  have e : (256 : Nat) ^ i = 2 ^ (8 * i) := by rw [Nat.pow_mul]
  rw [← leN_at x.toList i hi, e, Nat.pow_add, ← Nat.div_div_eq_div_mul]
  show _ = leN x.toList / 2 ^ (8 * i) / 2 ^ q % 2
  generalize leN x.toList / 2 ^ (8 * i) = y
  have h1 : (y % 256).testBit q = y.testBit q := by
    rw [show (256 : Nat) = 2 ^ 8 from rfl, Nat.testBit_mod_two_pow, decide_eq_true hq, Bool.true_and]
  rw [Nat.testBit_eq_decide_div_mod_eq, Nat.testBit_eq_decide_div_mod_eq, decide_eq_decide] at h1
  omega
set_option maxHeartbeats 1000000 in
theorem spec152 (ok : OkRef05 P F) (st : St) (x : Id) : ACalls P (F 152) [.agg (eId x)] st fun v st' => v = slB (bitsN 256 (idN x)) ∧ st' = st := by
  refine shows_call ok.mixed ok.h152 (by simp [k152]) ?_
  simp only [k152]
  simp
  intro i1 h1
  have S := (Sep.start st).new h1 (.cells (eId x))
  generalize st.upd i1 _ = st1 at S ⊢
  have hxl : x.toList.length = 32 := by simp
  have S : Sep [Sl 1 eB (.sl .nil [] 0) (bitsN (8 * 0) (idN x)), pt i1 (.cells (eId x)), Was st] st1 := S.slNil
  refine vc_loopJ (fun k env' st' => ∃ i s, i ≤ 32 ∧ k = 32 - i ∧ env' 4 = .int .i64 (i : Nat) ∧ env' 3 = s ∧ Sep [Sl 1 eB s (bitsN (8 * i) (idN x)), pt i1 (.cells (eId x)), Was st] st') 32
    ⟨0, _, by omega, by omega, rfl, rfl, S⟩ ?_
  clear S
  rintro J hJ k env' st2 hsame ⟨i, s, hi, rfl, h4, h3, S⟩
  have g1 := hsame.get 1 rfl
  simp at g1
  clear hsame
  have w1 : IntKind.i64.wrap ((i : Int) + 1) = (i : Int) + 1 := wrap64 (by omega) (by omega)
  by_cases hlt : i < 32
  · have hlt' : (i : Int) < 32 := by omega
    have o1 := S.mem (i := i1) (o := .cells (eId x)) (by simp)
    have hix := idxArr_ptr 32 i1 (z := (i : Int)) rfl hlt
    have hix2 : i < x.toList.length := by omega
    have hsg : segOf (eId x) i 1 = some [w8 x.toList[i]] := by
      have := rowsOf_seg e8_len x.toList [] hix2
      rw [List.append_nil, ← eId_rows, Nat.mul_one] at this
      exact this
    have h80 : w8 x.toList[i] = w8 (h8 x.toList[i] 0) := by simp [h8]
    rw [h80] at hsg
    simp [g1, h4, h3, hlt', hix, St.seg, o1, hsg, -Vector.getElem_toList]
    have S : Sep [Sl 1 eB s (bitsN (8 * i + 0) (idN x)), pt i1 (.cells (eId x)), Was st] st2 := S
    refine vc_loopJ (fun k env' st' => ∃ q s, q ≤ 8 ∧ k = 8 - q ∧ env' 6 = .int .i64 (q : Nat) ∧ env' 5 = w8 (h8 x.toList[i] q) ∧ env' 3 = s ∧ Sep [Sl 1 eB s (bitsN (8 * i + q) (idN x)), pt i1 (.cells (eId x)), Was st] st') 8
      ⟨0, _, by omega, by omega, rfl, by simp, by simp [h3], S⟩ ?_
    clear S
    rintro J2 hJ2 k env2 st3 hsame ⟨q, s3, hq, rfl, h6, h5, h3, S⟩
    have g4 := hsame.get 4 rfl
    simp [h4] at g4
    clear hsame
    have w2 : IntKind.i64.wrap ((q : Int) + 1) = (q : Int) + 1 := wrap64 (by omega) (by omega)
    by_cases hq8 : q < 8
    · have hq' : (q : Int) < 8 := by omega
      have hbit := idN_bit x hix2 hq8
      have hsn := bitsN_snoc (8 * i + q) (idN x)
      simp [h6, h5, h3, hq', bit8_one, hbit, bfill, belems, -Vector.getElem_toList]
      refine Sep.app1 (b := 1) eB_len (by omega) S (a := (idN x / 2 ^ (8 * i + q) % 2 == 1)) rfl (by rw [bitsN_len]; omega) ?_
      intro s4 st4 S
      simp [h6, w2, h5, -Vector.getElem_toList]
      refine Round.mk (8 - (q + 1)) _ (by omega) (sub_self _) (hJ2 _ _ _ ⟨q + 1, s4, by omega, rfl, by simp, by simp, by simp, ?_⟩)
      rw [show 8 * i + (q + 1) = 8 * i + q + 1 by omega, hsn]
      exact S
    · have : q = 8 := by omega
      subst this
      simp [h6, g4, w1]
      exact Round.mk (32 - (i + 1)) _ (by omega) (sub_self _) (hJ _ _ _ ⟨i + 1, s3, by omega, rfl, by simp, by simp [h3], S⟩)
  · have : i = 32 := by omega
    subst this
    simp [h4]
    obtain ⟨k, st4, hf, S, hk⟩ := S.frzSl eB_len
    refine frzP_one (v := .sl k (rowsOf eB (bitsN (8 * 32) (idN x))) (bitsN (8 * 32) (idN x)).length) (st' := st4) (by simp [h3, hf]) ?_
    have hk := hk (fun e => by have := congrArg List.length e; rw [bitsN_len] at this; simp at this)
    subst hk
    simp [slB]
    exact S.was' (by simp)
end
end Go.Ab
set_option linter.unusedSimpArgs false
set_option linter.unusedVariables false
namespace Go.Ab
open Go Go.RowKit
structure Nd where
  hdr : Hdr
  id : Id
  parent : Int
  skip : Nat
  height : Nat
  work : Nat
  failed : Bool
  deriving DecidableEq
def skipH (h : Nat) : Nat := if h < 2 then 0 else if h % 2 = 1 then ((h - 1) &&& (h - 2)) + 1 else h &&& (h - 1)
theorem skipH_lt {h : Nat} (hp : 0 < h) : skipH h < h := by
  unfold skipH
  split
  · omega
  · split
    · have : (h - 1) &&& (h - 2) ≤ h - 2 := Nat.and_le_right
      omega
    · have : h &&& (h - 1) ≤ h - 1 := Nat.and_le_right
      omega
def hgt (l : List Nd) (i : Nat) : Nat := ((l[i]?).map (·.height)).getD 0
def par (l : List Nd) (i : Nat) : Nat := ((l[i]?).map (·.parent.toNat)).getD 0
def upN (l : List Nd) : Nat → Nat → Nat
  | 0, i => i
  | n + 1, i => upN l n (par l i)
def anc (l : List Nd) (i h : Nat) : Nat := upN l (hgt l i - h) i
structure Wf (l : List Nd) : Prop where
  ne : 0 < l.length
  zero : ∀ x : Nd, l[0]? = some x → x.parent = -1 ∧ x.height = 0
  succ : ∀ (i : Nat) (x : Nd), 0 < i → l[i]? = some x → 0 ≤ x.parent ∧ x.parent < (i : Int) ∧ x.height = hgt l x.parent.toNat + 1
  skip : ∀ (i : Nat) (x : Nd), 0 < i → l[i]? = some x → x.skip = anc l x.parent.toNat (skipH x.height)
section
variable {l : List Nd} (w : Wf l)
include w
theorem Wf.par_lt {i : Nat} (h0 : 0 < i) (hi : i < l.length) : par l i < i := by
  have h := w.succ i l[i] h0 (List.getElem?_eq_getElem hi)
  simp only [par, List.getElem?_eq_getElem hi, Option.map_some, Option.getD_some]
  omega
theorem Wf.hgt_par {i : Nat} (h0 : 0 < i) (hi : i < l.length) : hgt l i = hgt l (par l i) + 1 := by
  have h := w.succ i l[i] h0 (List.getElem?_eq_getElem hi)
  have e : par l i = l[i].parent.toNat := by simp [par, hi]
  rw [e, ← h.2.2]
  simp [hgt, hi]
theorem Wf.hgt_zero : hgt l 0 = 0 := by
  have e := List.getElem?_eq_getElem w.ne
  have h := w.zero _ e
  rw [hgt, e, Option.map_some, Option.getD_some, h.2]
theorem Wf.pos_of_hgt {i : Nat} (h : 0 < hgt l i) : 0 < i := by
  rcases Nat.eq_zero_or_pos i with e | e
  · rw [e, w.hgt_zero] at h; omega
  · exact e
theorem Wf.hgt_le {i : Nat} (hi : i < l.length) : hgt l i ≤ i := by
  induction i using Nat.strongRecOn with
  | _ i ih =>
    rcases Nat.eq_zero_or_pos i with e | e
    · rw [e, w.hgt_zero]; exact Nat.le_refl _
    · have := w.par_lt e hi
      rw [w.hgt_par e hi]
      have := ih _ this (by omega)
      omega
theorem Wf.up {n i : Nat} (hi : i < l.length) (hn : n ≤ hgt l i) : upN l n i < l.length ∧ hgt l (upN l n i) = hgt l i - n ∧ upN l n i ≤ i := by
  induction n generalizing i with
  | zero => exact ⟨hi, rfl, Nat.le_refl _⟩
  | succ n ih =>
    have hp := w.pos_of_hgt (i := i) (by omega)
    have h1 := w.par_lt hp hi
    have h2 := w.hgt_par hp hi
    obtain ⟨a, b, c⟩ := ih (i := par l i) (by omega) (by omega)
    exact ⟨a, by rw [upN, b]; omega, by rw [upN]; omega⟩
omit w in
theorem upN_add (n m i : Nat) : upN l (n + m) i = upN l m (upN l n i) := by
  induction n generalizing i with
  | zero => rw [Nat.zero_add]; rfl
  | succ n ih => rw [Nat.succ_add, upN, ih, upN]
theorem Wf.anc_lt {i h : Nat} (hi : i < l.length) : anc l i h < l.length := (w.up hi (Nat.sub_le _ _)).1
theorem Wf.anc_le {i h : Nat} (hi : i < l.length) : anc l i h ≤ i := (w.up hi (Nat.sub_le _ _)).2.2
theorem Wf.anc_hgt {i h : Nat} (hi : i < l.length) (hh : h ≤ hgt l i) : hgt l (anc l i h) = h := by
  have := (w.up hi (Nat.sub_le (hgt l i) h)).2.1
  rw [anc, this]; omega
omit w in
theorem anc_self (i : Nat) : anc l i (hgt l i) = i := by rw [anc, Nat.sub_self]; rfl
theorem Wf.anc_par {i h : Nat} (hi : i < l.length) (hh : h < hgt l i) : anc l i h = anc l (par l i) h := by
  have hp := w.pos_of_hgt (i := i) (by omega)
  have h2 := w.hgt_par hp hi
  rw [anc, anc, show hgt l i - h = (hgt l (par l i) - h) + 1 by omega]
  rfl
theorem Wf.anc_anc {i h h' : Nat} (hi : i < l.length) (h1 : h ≤ h') (h2 : h' ≤ hgt l i) : anc l (anc l i h') h = anc l i h := by
  have e := w.anc_hgt hi h2
  rw [anc, e, anc, anc, ← upN_add, show hgt l i - h' + (h' - h) = hgt l i - h by omega]
end
theorem hgt_append {l : List Nd} {m : List Nd} {i : Nat} (hi : i < l.length) : hgt (l ++ m) i = hgt l i := by
  simp [hgt, List.getElem?_append_left hi]
theorem par_append {l : List Nd} {m : List Nd} {i : Nat} (hi : i < l.length) : par (l ++ m) i = par l i := by
  simp [par, List.getElem?_append_left hi]
theorem upN_append {l : List Nd} (w : Wf l) {m : List Nd} {n i : Nat} (hi : i < l.length) (hn : n ≤ hgt l i) : upN (l ++ m) n i = upN l n i := by
  induction n generalizing i with
  | zero => rfl
  | succ n ih =>
    have hp := w.pos_of_hgt (i := i) (by omega)
    have h1 := w.par_lt hp hi
    have h2 := w.hgt_par hp hi
    rw [upN, upN, par_append hi]
    exact ih (by omega) (by omega)
theorem anc_append {l : List Nd} (w : Wf l) {m : List Nd} {i h : Nat} (hi : i < l.length) : anc (l ++ m) i h = anc l i h := by
  rw [anc, anc, hgt_append hi, upN_append w hi (Nat.sub_le _ _)]
theorem Wf.push {l : List Nd} (w : Wf l) {x : Nd} {p : Nat} (hp : p < l.length) (h1 : x.parent = p) (h2 : x.height = hgt l p + 1) (h3 : x.skip = anc l p (skipH x.height)) : Wf (l ++ [x]) := by
  refine ⟨by simp, fun y hy => ?_, fun i y hi hy => ?_, fun i y hi hy => ?_⟩
  · rw [List.getElem?_append_left w.ne] at hy
    exact w.zero y hy
  · by_cases hl : i < l.length
    · rw [List.getElem?_append_left hl] at hy
      have := w.succ i y hi hy
      refine ⟨this.1, this.2.1, ?_⟩
      rw [this.2.2, hgt_append]
      omega
    · have : i = l.length := by
        have := (List.getElem?_eq_some_iff.1 hy).1
        simp at this
        omega
      subst this
      rw [List.getElem?_append_right (Nat.le_refl _), Nat.sub_self] at hy
      cases hy
      refine ⟨by omega, by omega, ?_⟩
      rw [h1, h2, Int.toNat_natCast, hgt_append hp]
  · by_cases hl : i < l.length
    · rw [List.getElem?_append_left hl] at hy
      have := w.succ i y hi hy
      rw [w.skip i y hi hy, anc_append w (by omega)]
    · have : i = l.length := by
        have := (List.getElem?_eq_some_iff.1 hy).1
        simp at this
        omega
      subst this
      rw [List.getElem?_append_right (Nat.le_refl _), Nat.sub_self] at hy
      cases hy
      rw [h1, h3, Int.toNat_natCast, anc_append w hp]
def ancI (l : List Nd) (i h : Int) : Int := if i < 0 ∨ (l.length : Int) ≤ i ∨ h < 0 ∨ (hgt l i.toNat : Int) < h then -1 else (anc l i.toNat h.toNat : Nat)
def onB (l : List Nd) (i tip : Int) : Bool := decide (0 ≤ i) && decide (i < l.length) && (ancI l tip (hgt l i.toNat) == i)
def findM : List Nd → Id → Option Nat
  | [], _ => none
  | x :: l, id => match findM l id with
    | some i => some (i + 1)
    | none => if x.id = id then some 0 else none
theorem findM_append (l : List Nd) (x : Nd) (id : Id) : findM (l ++ [x]) id = if x.id = id then some l.length else findM l id := by
  induction l with
  | nil => simp [findM]
  | cons y l ih =>
    simp only [List.cons_append, findM, ih]
    by_cases h : x.id = id
    · simp [h]
    · simp [h]
theorem findM_some {l : List Nd} {id : Id} {i : Nat} (h : findM l id = some i) : ∃ x, l[i]? = some x ∧ x.id = id := by
  induction l generalizing i with
  | nil => cases h
  | cons y l ih =>
    simp only [findM] at h
    split at h
    · rename_i j hj
      cases h
      obtain ⟨x, h1, h2⟩ := ih hj
      exact ⟨x, by simpa using h1, h2⟩
    · split at h
      · cases h
        rename_i hy
        exact ⟨y, rfl, hy⟩
      · cases h
theorem findM_lt {l : List Nd} {id : Id} {i : Nat} (h : findM l id = some i) : i < l.length := by
  obtain ⟨x, h1, _⟩ := findM_some h
  exact (List.getElem?_eq_some_iff.1 h1).1
theorem findM_none {l : List Nd} {id : Id} (h : findM l id = none) : ∀ x ∈ l, x.id ≠ id := by
  induction l with
  | nil => simp
  | cons y l ih =>
    simp only [findM] at h
    split at h
    · cases h
    · rename_i hj
      split at h
      · cases h
      · rename_i hy
        intro x hx
        rcases List.mem_cons.1 hx with rfl | hx
        · exact hy
        · exact ih hj x hx
def timesM (l : List Nd) : Nat → Nat → List W32
  | 0, _ => []
  | n + 1, i => match l[i]? with
    | some x => x.hdr.time :: (if x.parent < 0 then [] else timesM l n x.parent.toNat)
    | none => []
def sorted32 (l : List W32) : List W32 := l.mergeSort fun a b => decide (a ≤ b)
def middle32 (l : List W32) : W32 := (sorted32 l).getD (l.length / 2) 0
def medianM (l : List Nd) (i : Nat) : W32 := middle32 (timesM l 11 i)
structure Rl where
  limit : W32
  every : Int
  spacing : Int
  subsidy : Int
  work : Int
  gen : Hdr
  txs : V
def nd (l : List Nd) (i : Nat) : Nd := (l[i]?).getD ⟨hdr0', id0', 0, 0, 0, 0, false⟩
where
  id0' : Id := ⟨⟨List.replicate 32 0⟩, rfl⟩
  hdr0' : Hdr := ⟨0, id0', id0', 0, 0, 0⟩
def limitN (r : Rl) : Nat := (tgt r.limit).getD 0
def nextM (r : Rl) (l : List Nd) (i : Nat) : W32 :=
  let x := nd l i
  if r.every = 0 ∨ ((x.height : Int) + 1).tmod r.every ≠ 0 then x.hdr.bits
  else
    let first := nd l (anc l i (max 0 ((x.height : Int) + 1 - r.every)).toNat)
    (nextN x.hdr.bits ((x.hdr.time.toNat : Int) - first.hdr.time.toNat) (r.every * r.spacing) (limitN r)).getD 0
def fitsM (r : Rl) (l : List Nd) (h : Hdr) (p : Int) (now : Int) : Int :=
  if p < 0 ∨ (l.length : Int) ≤ p then 100
  else if provedN h r.limit ≠ 0 then provedN h r.limit
  else if (nd l p.toNat).failed = true then 101
  else if h.bits ≠ nextM r l p.toNat then 30
  else if h.time ≤ medianM l p.toNat then 102
  else if now < (h.time.toNat : Int) - 7200 then 103
  else 0
def ndOf (l : List Nd) (h : Hdr) (p : Nat) : Nd := ⟨h, hId h, p, anc l p (skipH (hgt l p + 1)), hgt l p + 1, workN ((tgt h.bits).getD 0) + (nd l p).work, false⟩
def addM (r : Rl) (l : List Nd) (h : Hdr) (now : Int) : List Nd × Int × Int :=
  match findM l (hId h) with
  | some i => (l, i, 5)
  | none => match findM l h.prev with
    | none => (l, -1, 100)
    | some p =>
      if fitsM r l h p now ≠ 0 then (l, -1, fitsM r l h p now)
      else if l.length = 16384 then (l, -1, 3)
      else (l ++ [ndOf l h p], l.length, 0)
def checkM (r : Rl) : Int :=
  if tgt r.limit = none ∨ r.gen.bits ≠ r.limit then 30
  else if r.every < 0 ∨ 1000 < r.every ∨ r.spacing < 1 ∨ 1048576 < r.spacing ∨ r.subsidy < 0 ∨ 1125899906842624 < r.subsidy ∨ r.work < 0 ∨ 1000 < r.work then 1 else 0
def newM (r : Rl) : List Nd := [⟨r.gen, hId r.gen, -1, 0, 0, workN ((tgt r.gen.bits).getD 0), false⟩]
end Go.Ab
set_option linter.unusedSimpArgs false
set_option linter.unusedVariables false
set_option maxRecDepth 10000
namespace Go.Ab
open Go Go.RowKit
section
variable {P : Program} {F : Fn}
theorem tgtR_cases (b : W32) : ∃ (T : U) (t : Bool), tgtR b = .tup [nU T, .bool t] ∧ (t = false → tgt b = none) ∧ (t = true → tgt b = some T.toNat) := by
  unfold tgtR
  cases h : tgt b with
  | none => exact ⟨0#256, false, rfl, fun _ => rfl, fun h => by cases h⟩
  | some t => exact ⟨natU t, true, rfl, fun h => (by cases h), fun _ => (by rw [natU_nat (tgt_lt h).2])⟩
set_option maxHeartbeats 2000000 in
theorem spec142 (ok : OkHead P F) (st : St) (h : Hdr) (limit : W32) : ACalls P (F 142) [.agg (eHdr h), w32 limit] st fun v st' => v = .int .i64 (provedN h limit) ∧ st' = st := by
  have okn := ok.toOkNum
  refine shows_call ok.mixed ok.h142 (by simp [k142]) ?_
  have hsp : ∀ x y : U, spliceV (eU x) 0 (eU y) = eU y := fun _ _ => rfl
  simp only [k142]
  simp
  intro i2 h2
  have S := (Sep.start st).new h2 (.cells (eHdr h))
  generalize st.upd i2 _ = st1 at S ⊢
  have o2 := S.get
  simp [St.seg, o2, hsegBits]
  refine (spec135 ok st1 h.bits).mono ?_
  rintro v st1 ⟨rfl, rfl⟩
  obtain ⟨A, a, hA1, hA2, hA3⟩ := tgtR_cases h.bits
  rw [hA1, eU_zero]
  simp
  intro i5 h5
  have S := S.new h5 (.cells (eU A))
  have hs5 : storeS (st1.upd i5 (.cells (eU 0#256))) 4 (.ptr (some (i5, 0))) (nU A) = some (st1.upd i5 (.cells (eU A))) := by
    simp [storeS, nU, eU_len, hsp]
  simp [hs5]
  generalize st1.upd i5 _ = st2 at S ⊢
  refine (spec135 ok st2 limit).mono ?_
  rintro v st2 ⟨rfl, rfl⟩
  obtain ⟨B, b, hB1, hB2, hB3⟩ := tgtR_cases limit
  rw [hB1]
  simp
  intro i7 h7
  have S := S.new h7 (.cells (eU B))
  have hs7 : storeS (st2.upd i7 (.cells (eU 0#256))) 4 (.ptr (some (i7, 0))) (nU B) = some (st2.upd i7 (.cells (eU B))) := by
    simp [storeS, nU, eU_len, hsp]
  simp [hs7]
  generalize st2.upd i7 _ = st3 at S ⊢
  have sub : St.sub st st3 := S.was' (by simp)
  cases a with
  | false =>
    have e : provedN h limit = 30 := by simp [provedN, hA2 rfl]
    simp [e, sub]
  | true =>
    cases b with
    | false =>
      have e : provedN h limit = 30 := by simp [provedN, hB2 rfl, hA3 rfl]
      simp [e, sub]
    | true =>
      have e : provedN h limit = if B.toNat < A.toNat then 30 else if A.toNat < idN (hId h) then 50 else 0 := by
        simp [provedN, hA3 rfl, hB3 rfl]
      have o5 := S.mem (i := i5) (o := .cells (eU A)) (by simp)
      have o7 := S.mem (i := i7) (o := .cells (eU B)) (by simp)
      have o2 := S.mem (i := i2) (o := .cells (eHdr h)) (by simp)
      simp [St.seg, o5, o7, segU]
      refine (spec106 okn st3 A B).mono ?_
      rintro v st3 ⟨rfl, rfl⟩
      have hgt := gtr_cmp A B
      by_cases hl : B.toNat < A.toNat
      · rw [decide_eq_true hl] at hgt
        rw [e, if_pos hl]
        simp [hgt, sub]
      · rw [decide_eq_false hl] at hgt
        rw [e, if_neg hl]
        simp [hgt, St.seg, o2, hsegAll]
        refine ⟨_, spec141 ok st3 h, ?_⟩
        simp
        refine ⟨_, spec117 okn st3 (hId h), ?_⟩
        simp [St.seg, o5, segU]
        refine ⟨_, spec106 okn st3 (BitVec.ofNat 256 (idN (hId h))) A, ?_⟩
        have hgt2 := gtr_cmp (BitVec.ofNat 256 (idN (hId h))) A
        have hid : (BitVec.ofNat 256 (idN (hId h))).toNat = idN (hId h) := natU_nat (idN_lt _)
        rw [hid] at hgt2
        by_cases hl2 : A.toNat < idN (hId h)
        · rw [decide_eq_true hl2] at hgt2
          simp [hgt2, sub, hl2]
        · rw [decide_eq_false hl2] at hgt2
          simp [hgt2, sub, hl2]
def id0 : Id := ⟨⟨List.replicate 32 0⟩, rfl⟩
def hdr0 : Hdr := ⟨0, id0, id0, 0, 0, 0⟩
theorem z68_eq : z68_39b1 = eHdr hdr0 := rfl
def mineR (h : Hdr) (limit : W32) (n : Nat) : V := match mineN h limit n with | some x => .tup [.agg (eHdr x), .bool true] | none => .tup [.agg (eHdr hdr0), .bool false]
def eHpre (h : Hdr) : List V := w32 h.ver :: (eId h.prev ++ (eId h.root ++ [w32 h.time, w32 h.bits]))
theorem eHpre_len (h : Hdr) : (eHpre h).length = 67 := by simp [eHpre, eId_len]
theorem eHdr_pre (h : Hdr) : eHdr h = eHpre h ++ [w32 h.nonce] := by simp [eHdr, eHpre]
theorem splice_nonce (h : Hdr) (n : W32) : spliceV (eHdr h) 67 [w32 n] = eHdr { h with nonce := n } := by
  have hl := eHpre_len h
  rw [eHdr_pre, eHdr_pre]
  show spliceV (eHpre h ++ [w32 h.nonce]) 67 [w32 n] = eHpre h ++ [w32 n]
  unfold spliceV
  rw [← hl, List.take_left]
  simp
theorem splice_hdr (a b : Hdr) : spliceV (eHdr a) 0 (eHdr b) = eHdr b := by
  simp [spliceV, eHdr_len]
set_option maxHeartbeats 1000000 in
theorem spec143 (ok : OkHead P F) (st : St) (h : Hdr) (limit : W32) (tries : Int) : ACalls P (F 143) [.agg (eHdr h), w32 limit, .int .i64 tries] st fun v st' => v = mineR h limit (max 0 (min tries 65536)).toNat ∧ st' = st := by
  refine shows_call ok.mixed ok.h143 (by simp [k143]) ?_
  simp only [k143, z68_eq]
  simp
  intro i3 h3
  have S := (Sep.start st).new h3 (.cells (eHdr h))
  generalize st.upd i3 _ = st1 at S ⊢
  simp
  intro i6 h6
  have S := S.new h6 (.cells (eHdr hdr0))
  generalize st1.upd i6 _ = st2 at S ⊢
  obtain ⟨n, hn⟩ : ∃ n, n = (max 0 (min tries 65536)).toNat := ⟨_, rfl⟩
  rw [← hn]
  have hn6 : n ≤ 65536 := by omega
  have hmn : foldV min2V (.int .i64 tries) [.int .i64 65536] = some (.int .i64 (min tries 65536)) := by
    simp only [foldV, min2V, if_true, Option.bind_some]
    congr 2
    split <;> omega
  have hmx : foldV max2V (.int .i64 0) [.int .i64 (min tries 65536)] = some (.int .i64 (n : Int)) := by
    simp only [foldV, max2V, if_true, Option.bind_some]
    congr 2
    split <;> omega
  simp [hmn, hmx]
  refine vc_loopJ (fun k env' st' => ∃ (i : Nat) (g : Hdr), i ≤ n ∧ k = n - i ∧ env' 11 = .int .i64 (i : Nat) ∧ mineN h limit n = mineN g limit (n - i) ∧ Sep [pt i6 (.cells (eHdr hdr0)), pt i3 (.cells (eHdr g)), Was st] st') n
    ⟨0, h, by omega, by omega, rfl, rfl, S⟩ ?_
  clear S
  rintro J hJ k env' st3 hsame ⟨i, g, hi, rfl, h11, hm, S⟩
  have g1 := hsame.get 1 rfl
  have g3 := hsame.get 3 rfl
  have g6 := hsame.get 6 rfl
  have g10 := hsame.get 10 rfl
  simp at g1 g3 g6 g10
  clear hsame
  have o3 := S.mem (i := i3) (o := .cells (eHdr g)) (by simp)
  have o6 := S.get
  have w1 : IntKind.i64.wrap ((i : Int) + 1) = (i : Int) + 1 := wrap64 (by omega) (by omega)
  by_cases hlt : i < n
  · rw [show n - i = (n - (i + 1)) + 1 by omega, mineN] at hm
    simp [g1, g3, g6, g10, h11, hlt, St.seg, o3, hsegAll]
    refine (spec142 ok st3 g limit).mono ?_
    rintro v st3 ⟨rfl, rfl⟩
    by_cases hp : provedN g limit = 0
    · rw [if_pos hp] at hm
      have T := S.setAt (.cells (eHdr g)) 0 rfl
      simp [hp, g3, g6, St.seg, o3, o6, hsegAll, storeS, eHdr_len, splice_hdr, mineR, hm]
      exact T.was' (by simp)
    · have hp' : (provedN g limit == 0) = false := by simpa using hp
      rw [if_neg hp] at hm
      have T := S.setAt (.cells (eHdr { g with nonce := g.nonce + 1 })) 1 rfl
      simp [hp', g3, St.seg, o3, hsegNonce, storeS, eHdr_len, splice_nonce, h11, w1]
      exact Round.mk (n - (i + 1)) _ (by omega) (sub_self _) (hJ _ _ _ ⟨i + 1, _, by omega, rfl, by simp, hm, T⟩)
  · have : i = n := by omega
    subst this
    rw [Nat.sub_self, mineN] at hm
    have hz : fillV (eHdr hdr0) [] = some (eHdr hdr0) := rfl
    have T := S.setAt (.cells (eHdr hdr0)) 0 rfl
    simp [g6, g10, h11, hz, storeS, o6, eHdr_len, splice_hdr, St.seg, hsegAll, mineR, hm]
    exact T.was' (by simp)
end
end Go.Ab
set_option linter.unusedVariables false
namespace Go.Ab
open Go
def k154 (F : Fn) : PF := PF.mk 60 1 [(.t 2)] (.seq (.ops [(PO.mk (some 1) (.box (.t 0)) none), (PO.mk (some 2) (.mv (.k (.int .i64 0))) none)]) (.seq (.seq (.ops [(PO.mk (some 6) (.fldA 0 (.t 1)) none), (PO.mk (some 7) (.load false 1 (.t 6)) none), (PO.mk (some 8) (.call (F 135) [(.t 7)]) none), (PO.mk (some 5) (.mv (.t 8)) none), (PO.mk (some 9) (.ext 0 (.t 5)) none), (PO.mk (some 10) (.ext 1 (.t 5)) none), (PO.mk (some 3) (.alloc [(w64 0), (w64 0), (w64 0), (w64 0)]) none), (PO.mk none (.store 4 (.t 3) (.t 9)) none), (PO.mk (some 4) (.mv (.t 10)) none)]) (.seq (.ops [(PO.mk (some 11) (.mv (.t 4)) none), (PO.mk (some 12) (.not (.t 11)) none), (PO.mk (some 13) (.mv (.t 12)) none), (PO.mk (some 14) (.fldA 5 (.t 1)) (some (13, false))), (PO.mk (some 15) (.fldA 0 (.t 14)) (some (13, false))), (PO.mk (some 16) (.fldA 66 (.t 15)) (some (13, false))), (PO.mk (some 17) (.load false 1 (.t 16)) (some (13, false))), (PO.mk (some 18) (.fldA 0 (.t 1)) (some (13, false))), (PO.mk (some 19) (.load false 1 (.t 18)) (some (13, false))), (PO.mk (some 20) (.bin .neq (.t 17) (.t 19)) (some (13, false))), (PO.mk (some 21) (.pick (.t 13) (.k (.bool true)) (.t 20)) none)]) (.cond (.t 21) (.seq (.ops [(PO.mk (some 2) (.mv (.k (.int .i64 30))) none)]) .ret) .skip))) (.seq (.seq (.ops [(PO.mk (some 22) (.fldA 1 (.t 1)) none), (PO.mk (some 23) (.load false 1 (.t 22)) none), (PO.mk (some 24) (.bin .lss (.t 23) (.k (.int .i64 0))) none), (PO.mk (some 25) (.mv (.t 24)) none), (PO.mk (some 26) (.fldA 1 (.t 1)) (some (25, false))), (PO.mk (some 27) (.load false 1 (.t 26)) (some (25, false))), (PO.mk (some 28) (.bin .gtr (.t 27) (.k (.int .i64 1000))) (some (25, false))), (PO.mk (some 29) (.pick (.t 25) (.k (.bool true)) (.t 28)) none), (PO.mk (some 30) (.mv (.t 29)) none), (PO.mk (some 31) (.fldA 2 (.t 1)) (some (30, false))), (PO.mk (some 32) (.load false 1 (.t 31)) (some (30, false))), (PO.mk (some 33) (.bin .lss (.t 32) (.k (.int .i64 1))) (some (30, false))), (PO.mk (some 34) (.pick (.t 30) (.k (.bool true)) (.t 33)) none), (PO.mk (some 35) (.mv (.t 34)) none), (PO.mk (some 36) (.fldA 2 (.t 1)) (some (35, false))), (PO.mk (some 37) (.load false 1 (.t 36)) (some (35, false))), (PO.mk (some 38) (.bin .gtr (.t 37) (.k (.int .i64 1048576))) (some (35, false))), (PO.mk (some 39) (.pick (.t 35) (.k (.bool true)) (.t 38)) none), (PO.mk (some 40) (.mv (.t 39)) none), (PO.mk (some 41) (.fldA 3 (.t 1)) (some (40, false))), (PO.mk (some 42) (.load false 1 (.t 41)) (some (40, false))), (PO.mk (some 43) (.bin .lss (.t 42) (.k (.int .i64 0))) (some (40, false))), (PO.mk (some 44) (.pick (.t 40) (.k (.bool true)) (.t 43)) none), (PO.mk (some 45) (.mv (.t 44)) none), (PO.mk (some 46) (.fldA 3 (.t 1)) (some (45, false))), (PO.mk (some 47) (.load false 1 (.t 46)) (some (45, false))), (PO.mk (some 48) (.bin .gtr (.t 47) (.k (.int .i64 1125899906842624))) (some (45, false))), (PO.mk (some 49) (.pick (.t 45) (.k (.bool true)) (.t 48)) none), (PO.mk (some 50) (.mv (.t 49)) none), (PO.mk (some 51) (.fldA 4 (.t 1)) (some (50, false))), (PO.mk (some 52) (.load false 1 (.t 51)) (some (50, false))), (PO.mk (some 53) (.bin .lss (.t 52) (.k (.int .i64 0))) (some (50, false))), (PO.mk (some 54) (.pick (.t 50) (.k (.bool true)) (.t 53)) none), (PO.mk (some 55) (.mv (.t 54)) none), (PO.mk (some 56) (.fldA 4 (.t 1)) (some (55, false))), (PO.mk (some 57) (.load false 1 (.t 56)) (some (55, false))), (PO.mk (some 58) (.bin .gtr (.t 57) (.k (.int .i64 1000))) (some (55, false))), (PO.mk (some 59) (.pick (.t 55) (.k (.bool true)) (.t 58)) none)]) (.cond (.t 59) (.seq (.ops [(PO.mk (some 2) (.mv (.k (.int .i64 1))) none)]) .ret) .skip)) (.seq (.ops [(PO.mk (some 2) (.mv (.k (.int .i64 0))) none)]) .ret))))
def k155 (F : Fn) : PF := PF.mk 21 1 [(.t 2), (.t 3)] (.seq (.ops [(PO.mk (some 1) (.box (.t 0)) none), (PO.mk (some 2) (.mv (.k (.ptr none))) none), (PO.mk (some 3) (.mv (.k (.int .i64 0))) none)]) (.seq (.seq (.ops [(PO.mk (some 6) (.load true 74 (.t 1)) none), (PO.mk (some 7) (.call (F 154) [(.t 6)]) none), (PO.mk (some 4) (.mv (.t 7)) none)]) (.seq (.ops [(PO.mk (some 8) (.mv (.t 4)) none), (PO.mk (some 9) (.bin .neq (.t 8) (.k (.int .i64 0))) none)]) (.cond (.t 9) (.seq (.ops [(PO.mk (some 10) (.mv (.t 4)) none), (PO.mk (some 2) (.mv (.k (.ptr none))) none), (PO.mk (some 3) (.mv (.t 10)) none)]) .ret) .skip))) (.seq (.ops [(PO.mk (some 11) (.load true 74 (.t 1)) none), (PO.mk (some 12) POp.mkmap none), (PO.mk (some 13) (.build z76_2d2c [(0, (74, (.t 11))), (75, (1, (.t 12)))]) none), (PO.mk (some 14) (.box (.t 13)) none), (PO.mk (some 5) (.mv (.t 14)) none)]) (.seq (.ops [(PO.mk (some 15) (.mv (.t 5)) none), (PO.mk (some 16) (.fldA 5 (.t 1)) none), (PO.mk (some 17) (.fldA 0 (.t 16)) none), (PO.mk (some 18) (.load true 68 (.t 17)) none), (PO.mk (some 19) (.call (F 156) [(.t 15), (.t 18), (.k (.int .i64 (-1)))]) none)]) (.seq (.ops [(PO.mk (some 20) (.mv (.t 5)) none), (PO.mk (some 2) (.mv (.t 20)) none), (PO.mk (some 3) (.mv (.k (.int .i64 0))) none)]) .ret)))))
def k156 (F : Fn) : PF := PF.mk 79 3 [(.t 6)] (.seq (.ops [(PO.mk (some 4) (.box (.t 1)) none), (PO.mk (some 6) (.mv (.k (.int .i64 0))) none)]) (.seq (.draw [(.e, (PO.mk (some 15) (.mv (.t 2)) none)), (.s, (PO.mk (some 12) (.load true 68 (.t 4)) none)), (.s, (PO.mk (some 13) (.load true 68 (.t 4)) none)), (.s, (PO.mk (some 14) (.call (F 141) [(.t 13)]) none)), (.e, (PO.mk (some 16) (.build z108_9b14 [(0, (68, (.t 12))), (68, (32, (.t 14))), (100, (1, (.t 15)))]) none)), (.a, (PO.mk (some 7) (.alloc z108_9b14) none)), (.x, (PO.mk none (.store 108 (.t 7) (.t 16)) none))]) (.seq (.ops [(PO.mk (some 18) (.fldA 66 (.t 4)) none), (PO.mk (some 19) (.load false 1 (.t 18)) none), (PO.mk (some 20) (.call (F 135) [(.t 19)]) none), (PO.mk (some 17) (.mv (.t 20)) none), (PO.mk (some 21) (.ext 0 (.t 17)) none), (PO.mk (some 22) (.ext 1 (.t 17)) none), (PO.mk (some 8) (.alloc [(w64 0), (w64 0), (w64 0), (w64 0)]) none), (PO.mk none (.store 4 (.t 8) (.t 21)) none), (PO.mk (some 9) (.mv (.t 22)) none)]) (.seq (.ops [(PO.mk (some 23) (.load true 4 (.t 8)) none), (PO.mk (some 24) (.call (F 137) [(.t 23)]) none), (PO.mk (some 25) (.fldA 103 (.t 7)) none), (PO.mk none (.store 4 (.t 25) (.t 24)) none)]) (.seq (.seq (.ops [(PO.mk (some 26) (.mv (.t 2)) none), (PO.mk (some 27) (.bin .geq (.t 26) (.k (.int .i64 0))) none)]) (.cond (.t 27) (.seq (.ops [(PO.mk (some 28) (.mv (.t 0)) none), (PO.mk (some 29) (.nilck (.t 28)) none), (PO.mk (some 30) (.fldA 74 (.t 29)) none), (PO.mk (some 31) (.load false 1 (.t 30)) none), (PO.mk (some 32) (.mv (.t 2)) none), (PO.mk (some 33) (.idxSl 108 (.t 31) (.t 32)) none), (PO.mk (some 34) (.load true 108 (.t 33)) none), (PO.mk (some 10) (.alloc z108_9b14) none), (PO.mk none (.store 108 (.t 10) (.t 34)) none)]) (.seq (.ops [(PO.mk (some 35) (.fldA 102 (.t 10)) none), (PO.mk (some 36) (.load false 1 (.t 35)) none), (PO.mk (some 37) (.bin .add (.t 36) (.k (.int .i64 1))) none), (PO.mk (some 38) (.fldA 102 (.t 7)) none), (PO.mk none (.store 1 (.t 38) (.t 37)) none)]) (.seq (.ops [(PO.mk (some 40) (.fldA 103 (.t 7)) none), (PO.mk (some 41) (.load true 4 (.t 40)) none), (PO.mk (some 42) (.fldA 103 (.t 10)) none), (PO.mk (some 43) (.load true 4 (.t 42)) none), (PO.mk (some 44) (.bsl false 4 2 [(w64 0), (w64 0), (w64 0), (w64 0)] [(0, (4, (.t 41))), (4, (4, (.t 43)))]) none), (PO.mk (some 45) (.call (F 108) [(.t 44)]) none), (PO.mk (some 39) (.mv (.t 45)) none), (PO.mk (some 46) (.ext 0 (.t 39)) none), (PO.mk (some 47) (.ext 1 (.t 39)) none), (PO.mk (some 48) (.fldA 103 (.t 7)) none), (PO.mk none (.store 4 (.t 48) (.t 46)) none)]) (.ops [(PO.mk (some 49) (.mv (.t 0)) none), (PO.mk (some 50) (.mv (.t 2)) none), (PO.mk (some 51) (.fldA 102 (.t 7)) none), (PO.mk (some 52) (.load false 1 (.t 51)) none), (PO.mk (some 53) (.call (F 157) [(.t 52)]) none), (PO.mk (some 54) (.call (F 158) [(.t 49), (.t 50), (.t 53)]) none), (PO.mk (some 55) (.fldA 101 (.t 7)) none), (PO.mk none (.store 1 (.t 55) (.t 54)) none)])))) .skip)) (.seq (.ops [(PO.mk (some 56) (.mv (.t 0)) none), (PO.mk (some 57) (.nilck (.t 56)) none), (PO.mk (some 58) (.fldA 74 (.t 57)) none), (PO.mk (some 59) (.load false 1 (.t 58)) none), (PO.mk (some 60) (.lenSl (.t 59)) none), (PO.mk (some 11) (.mv (.t 60)) none)]) (.seq (.draw [(.e, (PO.mk (some 61) (.mv (.t 0)) none)), (.e, (PO.mk (some 62) (.mv (.t 0)) none)), (.e, (PO.mk (some 63) (.nilck (.t 62)) none)), (.e, (PO.mk (some 64) (.fldA 74 (.t 63)) none)), (.s, (PO.mk (some 65) (.load false 1 (.t 64)) none)), (.s, (PO.mk (some 66) (.load true 108 (.t 7)) none)), (.e, (PO.mk (some 67) (.bsl false 108 1 z108_9b14 [(0, (108, (.t 66)))]) none)), (.x, (PO.mk (some 68) (.app 108 176 (.t 65) (.t 67)) none)), (.e, (PO.mk (some 69) (.nilck (.t 61)) none)), (.e, (PO.mk (some 70) (.fldA 74 (.t 69)) none)), (.x, (PO.mk none (.store 1 (.t 70) (.t 68)) none))]) (.seq (.draw [(.e, (PO.mk (some 71) (.mv (.t 0)) none)), (.e, (PO.mk (some 72) (.nilck (.t 71)) none)), (.e, (PO.mk (some 73) (.fldA 75 (.t 72)) none)), (.e, (PO.mk (some 75) (.fldA 68 (.t 7)) none)), (.e, (PO.mk (some 77) (.mv (.t 11)) none)), (.s, (PO.mk (some 74) (.load false 1 (.t 73)) none)), (.s, (PO.mk (some 76) (.load true 32 (.t 75)) none)), (.x, (PO.mk none (.mset (.agg 32) (.t 74) (.t 76) (.t 77)) none))]) (.seq (.ops [(PO.mk (some 78) (.mv (.t 11)) none), (PO.mk (some 6) (.mv (.t 78)) none)]) .ret)))))))))
def k157 (F : Fn) : PF := PF.mk 20 1 [(.t 2)] (.seq (.ops [(PO.mk (some 2) (.mv (.k (.int .i64 0))) none)]) (.seq (.block 0 (.seq (.ops [(PO.mk (some 4) (.mv (.t 0)) none), (PO.mk (some 5) (.bin .lss (.t 4) (.k (.int .i64 2))) none), (PO.mk (some 3) (.mv (.t 5)) none)]) (.cond (.t 3) (.seq (.ops [(PO.mk (some 2) (.mv (.k (.int .i64 0))) none)]) .ret) (.seq (.ops [(PO.mk (some 7) (.mv (.t 0)) none), (PO.mk (some 8) (.bin .rem (.t 7) (.k (.int .i64 2))) none), (PO.mk (some 9) (.bin .eql (.t 8) (.k (.int .i64 1))) none), (PO.mk (some 6) (.mv (.t 9)) none)]) (.cond (.t 6) (.seq (.ops [(PO.mk (some 10) (.mv (.t 0)) none), (PO.mk (some 11) (.bin .sub (.t 10) (.k (.int .i64 1))) none), (PO.mk (some 12) (.mv (.t 0)) none), (PO.mk (some 13) (.bin .sub (.t 12) (.k (.int .i64 2))) none), (PO.mk (some 14) (.bin .and (.t 11) (.t 13)) none), (PO.mk (some 15) (.bin .add (.t 14) (.k (.int .i64 1))) none), (PO.mk (some 2) (.mv (.t 15)) none)]) .ret) .skip))))) (.seq (.ops [(PO.mk (some 16) (.mv (.t 0)) none), (PO.mk (some 17) (.mv (.t 0)) none), (PO.mk (some 18) (.bin .sub (.t 17) (.k (.int .i64 1))) none), (PO.mk (some 19) (.bin .and (.t 16) (.t 18)) none), (PO.mk (some 2) (.mv (.t 19)) none)]) .ret)))
def k159 (F : Fn) : PF := PF.mk 8 1 [(.t 2)] (.seq (.ops [(PO.mk (some 2) (.mv (.k (.int .i64 0))) none)]) (.seq (.ops [(PO.mk (some 3) (.mv (.t 0)) none), (PO.mk (some 4) (.nilck (.t 3)) none), (PO.mk (some 5) (.fldA 74 (.t 4)) none), (PO.mk (some 6) (.load false 1 (.t 5)) none), (PO.mk (some 7) (.lenSl (.t 6)) none), (PO.mk (some 2) (.mv (.t 7)) none)]) .ret))
def k161 (F : Fn) : PF := PF.mk 23 2 [(PR.cell 4 true 108)] (.seq (.ops [(PO.mk (some 4) (.alloc z108_9b14) none)]) (.seq (.seq (.ops [(PO.mk (some 5) (.mv (.t 1)) none), (PO.mk (some 6) (.bin .lss (.t 5) (.k (.int .i64 0))) none), (PO.mk (some 7) (.mv (.t 6)) none), (PO.mk (some 8) (.mv (.t 1)) (some (7, false))), (PO.mk (some 9) (.mv (.t 0)) (some (7, false))), (PO.mk (some 10) (.nilck (.t 9)) (some (7, false))), (PO.mk (some 11) (.fldA 74 (.t 10)) (some (7, false))), (PO.mk (some 12) (.load false 1 (.t 11)) (some (7, false))), (PO.mk (some 13) (.lenSl (.t 12)) (some (7, false))), (PO.mk (some 14) (.bin .geq (.t 8) (.t 13)) (some (7, false))), (PO.mk (some 15) (.pick (.t 7) (.k (.bool true)) (.t 14)) none)]) (.cond (.t 15) (.ops [(PO.mk (some 1) (.mv (.k (.int .i64 0))) none)]) .skip)) (.seq (.ops [(PO.mk (some 16) (.mv (.t 0)) none), (PO.mk (some 17) (.nilck (.t 16)) none), (PO.mk (some 18) (.fldA 74 (.t 17)) none), (PO.mk (some 19) (.load false 1 (.t 18)) none), (PO.mk (some 20) (.mv (.t 1)) none), (PO.mk (some 21) (.idxSl 108 (.t 19) (.t 20)) none), (PO.mk (some 22) (.load true 108 (.t 21)) none), (PO.mk none (.store 108 (.t 4) (.t 22)) none)]) .ret)))
def k158 (F : Fn) : PF := PF.mk 73 3 [(.t 6)] (.seq (.ops [(PO.mk (some 6) (.mv (.k (.int .i64 0))) none)]) (.seq (.seq (.ops [(PO.mk (some 8) (.mv (.t 1)) none), (PO.mk (some 9) (.bin .lss (.t 8) (.k (.int .i64 0))) none), (PO.mk (some 10) (.mv (.t 9)) none), (PO.mk (some 11) (.mv (.t 1)) (some (10, false))), (PO.mk (some 12) (.mv (.t 0)) (some (10, false))), (PO.mk (some 13) (.nilck (.t 12)) (some (10, false))), (PO.mk (some 14) (.fldA 74 (.t 13)) (some (10, false))), (PO.mk (some 15) (.load false 1 (.t 14)) (some (10, false))), (PO.mk (some 16) (.lenSl (.t 15)) (some (10, false))), (PO.mk (some 17) (.bin .geq (.t 11) (.t 16)) (some (10, false))), (PO.mk (some 18) (.pick (.t 10) (.k (.bool true)) (.t 17)) none), (PO.mk (some 19) (.mv (.t 18)) none), (PO.mk (some 20) (.mv (.t 2)) (some (19, false))), (PO.mk (some 21) (.bin .lss (.t 20) (.k (.int .i64 0))) (some (19, false))), (PO.mk (some 22) (.pick (.t 19) (.k (.bool true)) (.t 21)) none), (PO.mk (some 23) (.mv (.t 22)) none), (PO.mk (some 24) (.mv (.t 2)) (some (23, false))), (PO.mk (some 25) (.mv (.t 0)) (some (23, false))), (PO.mk (some 26) (.nilck (.t 25)) (some (23, false))), (PO.mk (some 27) (.fldA 74 (.t 26)) (some (23, false))), (PO.mk (some 28) (.load false 1 (.t 27)) (some (23, false))), (PO.mk (some 29) (.mv (.t 1)) (some (23, false))), (PO.mk (some 30) (.idxSl 108 (.t 28) (.t 29)) (some (23, false))), (PO.mk (some 31) (.fldA 102 (.t 30)) (some (23, false))), (PO.mk (some 32) (.load false 1 (.t 31)) (some (23, false))), (PO.mk (some 33) (.bin .gtr (.t 24) (.t 32)) (some (23, false))), (PO.mk (some 34) (.pick (.t 23) (.k (.bool true)) (.t 33)) none)]) (.cond (.t 34) (.seq (.ops [(PO.mk (some 6) (.mv (.k (.int .i64 (-1)))) none)]) .ret) .skip)) (.seq (.block 0 (.loop (.seq (.seq (.ops [(PO.mk (some 35) (.mv (.t 0)) none), (PO.mk (some 36) (.nilck (.t 35)) none), (PO.mk (some 37) (.fldA 74 (.t 36)) none), (PO.mk (some 38) (.load false 1 (.t 37)) none), (PO.mk (some 39) (.mv (.t 1)) none), (PO.mk (some 40) (.idxSl 108 (.t 38) (.t 39)) none), (PO.mk (some 41) (.fldA 102 (.t 40)) none), (PO.mk (some 42) (.load false 1 (.t 41)) none), (PO.mk (some 43) (.mv (.t 2)) none), (PO.mk (some 44) (.bin .gtr (.t 42) (.t 43)) none)]) (.cond (.t 44) .skip (.exit 0))) (.block 1 (.seq (.ops [(PO.mk (some 45) (.mv (.t 0)) none), (PO.mk (some 46) (.nilck (.t 45)) none), (PO.mk (some 47) (.fldA 74 (.t 46)) none), (PO.mk (some 48) (.load false 1 (.t 47)) none), (PO.mk (some 49) (.mv (.t 1)) none), (PO.mk (some 50) (.idxSl 108 (.t 48) (.t 49)) none), (PO.mk (some 51) (.fldA 101 (.t 50)) none), (PO.mk (some 52) (.load false 1 (.t 51)) none), (PO.mk (some 7) (.mv (.t 52)) none)]) (.seq (.ops [(PO.mk (some 53) (.mv (.t 0)) none), (PO.mk (some 54) (.nilck (.t 53)) none), (PO.mk (some 55) (.fldA 74 (.t 54)) none), (PO.mk (some 56) (.load false 1 (.t 55)) none), (PO.mk (some 57) (.mv (.t 7)) none), (PO.mk (some 58) (.idxSl 108 (.t 56) (.t 57)) none), (PO.mk (some 59) (.fldA 102 (.t 58)) none), (PO.mk (some 60) (.load false 1 (.t 59)) none), (PO.mk (some 61) (.mv (.t 2)) none), (PO.mk (some 62) (.bin .geq (.t 60) (.t 61)) none)]) (.cond (.t 62) (.ops [(PO.mk (some 63) (.mv (.t 7)) none), (PO.mk (some 1) (.mv (.t 63)) none)]) (.ops [(PO.mk (some 64) (.mv (.t 0)) none), (PO.mk (some 65) (.nilck (.t 64)) none), (PO.mk (some 66) (.fldA 74 (.t 65)) none), (PO.mk (some 67) (.load false 1 (.t 66)) none), (PO.mk (some 68) (.mv (.t 1)) none), (PO.mk (some 69) (.idxSl 108 (.t 67) (.t 68)) none), (PO.mk (some 70) (.fldA 100 (.t 69)) none), (PO.mk (some 71) (.load false 1 (.t 70)) none), (PO.mk (some 1) (.mv (.t 71)) none)])))))))) (.seq (.ops [(PO.mk (some 72) (.mv (.t 1)) none), (PO.mk (some 6) (.mv (.t 72)) none)]) .ret))))
def k163 (F : Fn) : PF := PF.mk 33 3 [(.t 6)] (.seq (.ops [(PO.mk (some 6) (.mv (.k (.bool false))) none)]) (.seq (.ops [(PO.mk (some 7) (.mv (.t 1)) none), (PO.mk (some 8) (.bin .geq (.t 7) (.k (.int .i64 0))) none), (PO.mk (some 9) (.mv (.t 8)) none), (PO.mk (some 10) (.mv (.t 1)) (some (9, true))), (PO.mk (some 11) (.mv (.t 0)) (some (9, true))), (PO.mk (some 12) (.nilck (.t 11)) (some (9, true))), (PO.mk (some 13) (.fldA 74 (.t 12)) (some (9, true))), (PO.mk (some 14) (.load false 1 (.t 13)) (some (9, true))), (PO.mk (some 15) (.lenSl (.t 14)) (some (9, true))), (PO.mk (some 16) (.bin .lss (.t 10) (.t 15)) (some (9, true))), (PO.mk (some 17) (.pick (.t 9) (.t 16) (.k (.bool false))) none), (PO.mk (some 18) (.mv (.t 17)) none), (PO.mk (some 19) (.mv (.t 0)) (some (18, true))), (PO.mk (some 20) (.mv (.t 2)) (some (18, true))), (PO.mk (some 21) (.mv (.t 0)) (some (18, true))), (PO.mk (some 22) (.nilck (.t 21)) (some (18, true))), (PO.mk (some 23) (.fldA 74 (.t 22)) (some (18, true))), (PO.mk (some 24) (.load false 1 (.t 23)) (some (18, true))), (PO.mk (some 25) (.mv (.t 1)) (some (18, true))), (PO.mk (some 26) (.idxSl 108 (.t 24) (.t 25)) (some (18, true))), (PO.mk (some 27) (.fldA 102 (.t 26)) (some (18, true))), (PO.mk (some 28) (.load false 1 (.t 27)) (some (18, true))), (PO.mk (some 29) (.call (F 158) [(.t 19), (.t 20), (.t 28)]) (some (18, true))), (PO.mk (some 30) (.mv (.t 1)) (some (18, true))), (PO.mk (some 31) (.bin .eql (.t 29) (.t 30)) (some (18, true))), (PO.mk (some 32) (.pick (.t 18) (.t 31) (.k (.bool false))) none), (PO.mk (some 6) (.mv (.t 32)) none)]) .ret))
def k164 (F : Fn) : PF := PF.mk 11 1 [(.t 2)] (.seq (.ops [(PO.mk (some 2) (.mv (.k (w32 0))) none)]) (.seq (.ops [(PO.mk (some 3) (.mv (.t 0)) none), (PO.mk (some 4) (.call (F 165) [(.t 3)]) none)]) (.seq (.ops [(PO.mk (some 5) (.mv (.t 0)) none), (PO.mk (some 6) (.mv (.t 0)) none), (PO.mk (some 7) (.lenSl (.t 6)) none), (PO.mk (some 8) (.bin .quo (.t 7) (.k (.int .i64 2))) none), (PO.mk (some 9) (.idxSl 1 (.t 5) (.t 8)) none), (PO.mk (some 10) (.load false 1 (.t 9)) none), (PO.mk (some 2) (.mv (.t 10)) none)]) .ret)))
def k166 (F : Fn) : PF := PF.mk 44 2 [(.t 4)] (.seq (.ops [(PO.mk (some 4) (.mv (.k (w32 0))) none)]) (.seq (.ops [(PO.mk (some 5) (.mv (.k (.sl .nil [] 0))) none)]) (.seq (.seq (.ops [(PO.mk (some 6) (.mv (.t 1)) none), (PO.mk (some 7) (.mv (.t 0)) none), (PO.mk (some 8) (.nilck (.t 7)) none), (PO.mk (some 9) (.fldA 74 (.t 8)) none), (PO.mk (some 10) (.load false 1 (.t 9)) none), (PO.mk (some 11) (.lenSl (.t 10)) none), (PO.mk (some 12) (.bin .sub (.t 11) (.k (.int .i64 1))) none), (PO.mk (some 13) (.min [(.t 6), (.t 12)]) none), (PO.mk (some 14) (.max [(.k (.int .i64 0)), (.t 13)]) none), (PO.mk (some 1) (.mv (.t 14)) none)]) (.block 0 (.loop (.seq (.seq (.ops [(PO.mk (some 15) (.mv (.t 1)) none), (PO.mk (some 16) (.bin .geq (.t 15) (.k (.int .i64 0))) none), (PO.mk (some 17) (.mv (.t 16)) none), (PO.mk (some 18) (.mv (.t 5)) (some (17, true))), (PO.mk (some 19) (.lenSl (.t 18)) (some (17, true))), (PO.mk (some 20) (.bin .lss (.t 19) (.k (.int .i64 11))) (some (17, true))), (PO.mk (some 21) (.pick (.t 17) (.t 20) (.k (.bool false))) none)]) (.cond (.t 21) .skip (.exit 0))) (.seq (.block 1 (.ops [(PO.mk (some 30) (.mv (.t 5)) none), (PO.mk (some 31) (.mv (.t 0)) none), (PO.mk (some 32) (.nilck (.t 31)) none), (PO.mk (some 33) (.fldA 74 (.t 32)) none), (PO.mk (some 34) (.load false 1 (.t 33)) none), (PO.mk (some 35) (.mv (.t 1)) none), (PO.mk (some 36) (.idxSl 108 (.t 34) (.t 35)) none), (PO.mk (some 37) (.fldA 0 (.t 36)) none), (PO.mk (some 38) (.fldA 65 (.t 37)) none), (PO.mk (some 39) (.load false 1 (.t 38)) none), (PO.mk (some 40) (.bsl false 1 1 [(w32 0)] [(0, (1, (.t 39)))]) none), (PO.mk (some 41) (.app 1 4 (.t 30) (.t 40)) none), (PO.mk (some 5) (.mv (.t 41)) none)])) (.ops [(PO.mk (some 22) (.mv (.t 0)) none), (PO.mk (some 23) (.nilck (.t 22)) none), (PO.mk (some 24) (.fldA 74 (.t 23)) none), (PO.mk (some 25) (.load false 1 (.t 24)) none), (PO.mk (some 26) (.mv (.t 1)) none), (PO.mk (some 27) (.idxSl 108 (.t 25) (.t 26)) none), (PO.mk (some 28) (.fldA 100 (.t 27)) none), (PO.mk (some 29) (.load false 1 (.t 28)) none), (PO.mk (some 1) (.mv (.t 29)) none)])))))) (.seq (.ops [(PO.mk (some 42) (.mv (.t 5)) none), (PO.mk (some 43) (.call (F 164) [(.t 42)]) none), (PO.mk (some 4) (.mv (.t 43)) none)]) .ret))))
def k167 (F : Fn) : PF := PF.mk 100 2 [(.t 4)] (.seq (.ops [(PO.mk (some 4) (.mv (.k (w32 0))) none)]) (.seq (.ops [(PO.mk (some 11) (.mv (.t 0)) none), (PO.mk (some 12) (.mv (.t 1)) none), (PO.mk (some 13) (.call (F 161) [(.t 11), (.t 12)]) none), (PO.mk (some 5) (.alloc z108_9b14) none), (PO.mk none (.store 108 (.t 5) (.t 13)) none)]) (.seq (.seq (.draw [(.e, (PO.mk (some 14) (.mv (.t 0)) none)), (.e, (PO.mk (some 15) (.nilck (.t 14)) none)), (.e, (PO.mk (some 16) (.fldA 0 (.t 15)) none)), (.e, (PO.mk (some 17) (.fldA 1 (.t 16)) none)), (.s, (PO.mk (some 18) (.load false 1 (.t 17)) none)), (.e, (PO.mk (some 19) (.bin .eql (.t 18) (.k (.int .i64 0))) none)), (.e, (PO.mk (some 20) (.mv (.t 19)) none)), (.e, (PO.mk (some 21) (.fldA 102 (.t 5)) (some (20, false)))), (.e, (PO.mk (some 24) (.mv (.t 0)) (some (20, false)))), (.e, (PO.mk (some 25) (.nilck (.t 24)) (some (20, false)))), (.e, (PO.mk (some 26) (.fldA 0 (.t 25)) (some (20, false)))), (.e, (PO.mk (some 27) (.fldA 1 (.t 26)) (some (20, false)))), (.s, (PO.mk (some 22) (.load false 1 (.t 21)) (some (20, false)))), (.e, (PO.mk (some 23) (.bin .add (.t 22) (.k (.int .i64 1))) (some (20, false)))), (.s, (PO.mk (some 28) (.load false 1 (.t 27)) (some (20, false)))), (.e, (PO.mk (some 29) (.bin .rem (.t 23) (.t 28)) (some (20, false)))), (.e, (PO.mk (some 30) (.bin .neq (.t 29) (.k (.int .i64 0))) (some (20, false)))), (.e, (PO.mk (some 31) (.pick (.t 20) (.k (.bool true)) (.t 30)) none))]) (.cond (.t 31) (.seq (.ops [(PO.mk (some 32) (.fldA 0 (.t 5)) none), (PO.mk (some 33) (.fldA 66 (.t 32)) none), (PO.mk (some 34) (.load false 1 (.t 33)) none), (PO.mk (some 4) (.mv (.t 34)) none)]) .ret) .skip)) (.seq (.draw [(.e, (PO.mk (some 35) (.mv (.t 0)) none)), (.e, (PO.mk (some 36) (.nilck (.t 35)) none)), (.e, (PO.mk (some 37) (.fldA 74 (.t 36)) none)), (.e, (PO.mk (some 39) (.mv (.t 0)) none)), (.e, (PO.mk (some 40) (.mv (.t 1)) none)), (.e, (PO.mk (some 41) (.mv (.t 0)) none)), (.e, (PO.mk (some 42) (.nilck (.t 41)) none)), (.e, (PO.mk (some 43) (.fldA 74 (.t 42)) none)), (.e, (PO.mk (some 49) (.fldA 102 (.t 5)) none)), (.e, (PO.mk (some 52) (.mv (.t 0)) none)), (.e, (PO.mk (some 53) (.nilck (.t 52)) none)), (.e, (PO.mk (some 54) (.fldA 0 (.t 53)) none)), (.e, (PO.mk (some 55) (.fldA 1 (.t 54)) none)), (.s, (PO.mk (some 38) (.load false 1 (.t 37)) none)), (.s, (PO.mk (some 44) (.load false 1 (.t 43)) none)), (.e, (PO.mk (some 45) (.lenSl (.t 44)) none)), (.e, (PO.mk (some 46) (.bin .sub (.t 45) (.k (.int .i64 1))) none)), (.e, (PO.mk (some 47) (.min [(.t 40), (.t 46)]) none)), (.e, (PO.mk (some 48) (.max [(.k (.int .i64 0)), (.t 47)]) none)), (.s, (PO.mk (some 50) (.load false 1 (.t 49)) none)), (.e, (PO.mk (some 51) (.bin .add (.t 50) (.k (.int .i64 1))) none)), (.s, (PO.mk (some 56) (.load false 1 (.t 55)) none)), (.e, (PO.mk (some 57) (.bin .sub (.t 51) (.t 56)) none)), (.e, (PO.mk (some 58) (.max [(.k (.int .i64 0)), (.t 57)]) none)), (.s, (PO.mk (some 59) (.call (F 158) [(.t 39), (.t 48), (.t 58)]) none)), (.e, (PO.mk (some 60) (.idxSl 108 (.t 38) (.t 59)) none)), (.s, (PO.mk (some 61) (.load true 108 (.t 60)) none)), (.a, (PO.mk (some 6) (.alloc z108_9b14) none)), (.x, (PO.mk none (.store 108 (.t 6) (.t 61)) none))]) (.seq (.ops [(PO.mk (some 63) (.mv (.t 0)) none), (PO.mk (some 64) (.nilck (.t 63)) none), (PO.mk (some 65) (.fldA 0 (.t 64)) none), (PO.mk (some 66) (.fldA 0 (.t 65)) none), (PO.mk (some 67) (.load false 1 (.t 66)) none), (PO.mk (some 68) (.call (F 135) [(.t 67)]) none), (PO.mk (some 62) (.mv (.t 68)) none), (PO.mk (some 69) (.ext 0 (.t 62)) none), (PO.mk (some 70) (.ext 1 (.t 62)) none), (PO.mk (some 7) (.alloc [(w64 0), (w64 0), (w64 0), (w64 0)]) none), (PO.mk none (.store 4 (.t 7) (.t 69)) none), (PO.mk (some 8) (.mv (.t 70)) none)]) (.seq (.draw [(.e, (PO.mk (some 72) (.fldA 0 (.t 5)) none)), (.e, (PO.mk (some 73) (.fldA 66 (.t 72)) none)), (.e, (PO.mk (some 75) (.fldA 0 (.t 5)) none)), (.e, (PO.mk (some 76) (.fldA 65 (.t 75)) none)), (.e, (PO.mk (some 79) (.fldA 0 (.t 6)) none)), (.e, (PO.mk (some 80) (.fldA 65 (.t 79)) none)), (.e, (PO.mk (some 84) (.mv (.t 0)) none)), (.e, (PO.mk (some 85) (.nilck (.t 84)) none)), (.e, (PO.mk (some 86) (.fldA 0 (.t 85)) none)), (.e, (PO.mk (some 87) (.fldA 1 (.t 86)) none)), (.e, (PO.mk (some 89) (.mv (.t 0)) none)), (.e, (PO.mk (some 90) (.nilck (.t 89)) none)), (.e, (PO.mk (some 91) (.fldA 0 (.t 90)) none)), (.e, (PO.mk (some 92) (.fldA 2 (.t 91)) none)), (.s, (PO.mk (some 74) (.load false 1 (.t 73)) none)), (.s, (PO.mk (some 77) (.load false 1 (.t 76)) none)), (.e, (PO.mk (some 78) (.conv .i64 (.t 77)) none)), (.s, (PO.mk (some 81) (.load false 1 (.t 80)) none)), (.e, (PO.mk (some 82) (.conv .i64 (.t 81)) none)), (.e, (PO.mk (some 83) (.bin .sub (.t 78) (.t 82)) none)), (.s, (PO.mk (some 88) (.load false 1 (.t 87)) none)), (.s, (PO.mk (some 93) (.load false 1 (.t 92)) none)), (.e, (PO.mk (some 94) (.bin .mul (.t 88) (.t 93)) none)), (.s, (PO.mk (some 95) (.load true 4 (.t 7)) none)), (.x, (PO.mk (some 96) (.call (F 138) [(.t 74), (.t 83), (.t 94), (.t 95)]) none)), (.e, (PO.mk (some 71) (.mv (.t 96)) none)), (.e, (PO.mk (some 97) (.ext 0 (.t 71)) none)), (.e, (PO.mk (some 98) (.ext 1 (.t 71)) none)), (.e, (PO.mk (some 9) (.mv (.t 97)) none)), (.e, (PO.mk (some 10) (.mv (.t 98)) none))]) (.seq (.ops [(PO.mk (some 99) (.mv (.t 9)) none), (PO.mk (some 4) (.mv (.t 99)) none)]) .ret)))))))
def k168 (F : Fn) : PF := PF.mk 61 4 [(.t 8)] (.seq (.ops [(PO.mk (some 5) (.box (.t 1)) none), (PO.mk (some 8) (.mv (.k (.int .i64 0))) none)]) (.seq (.seq (.ops [(PO.mk (some 10) (.mv (.t 2)) none), (PO.mk (some 11) (.bin .lss (.t 10) (.k (.int .i64 0))) none), (PO.mk (some 12) (.mv (.t 11)) none), (PO.mk (some 13) (.mv (.t 2)) (some (12, false))), (PO.mk (some 14) (.mv (.t 0)) (some (12, false))), (PO.mk (some 15) (.nilck (.t 14)) (some (12, false))), (PO.mk (some 16) (.fldA 74 (.t 15)) (some (12, false))), (PO.mk (some 17) (.load false 1 (.t 16)) (some (12, false))), (PO.mk (some 18) (.lenSl (.t 17)) (some (12, false))), (PO.mk (some 19) (.bin .geq (.t 13) (.t 18)) (some (12, false))), (PO.mk (some 20) (.pick (.t 12) (.k (.bool true)) (.t 19)) none)]) (.cond (.t 20) (.seq (.ops [(PO.mk (some 8) (.mv (.k (.int .i64 100))) none)]) .ret) .skip)) (.seq (.seq (.draw [(.e, (PO.mk (some 22) (.mv (.t 0)) none)), (.e, (PO.mk (some 23) (.nilck (.t 22)) none)), (.e, (PO.mk (some 24) (.fldA 0 (.t 23)) none)), (.e, (PO.mk (some 25) (.fldA 0 (.t 24)) none)), (.s, (PO.mk (some 21) (.load true 68 (.t 5)) none)), (.s, (PO.mk (some 26) (.load false 1 (.t 25)) none)), (.x, (PO.mk (some 27) (.call (F 142) [(.t 21), (.t 26)]) none)), (.e, (PO.mk (some 9) (.mv (.t 27)) none))]) (.seq (.ops [(PO.mk (some 28) (.mv (.t 9)) none), (PO.mk (some 29) (.bin .neq (.t 28) (.k (.int .i64 0))) none)]) (.cond (.t 29) (.seq (.ops [(PO.mk (some 30) (.mv (.t 9)) none), (PO.mk (some 8) (.mv (.t 30)) none)]) .ret) .skip))) (.seq (.block 0 (.seq (.ops [(PO.mk (some 32) (.mv (.t 0)) none), (PO.mk (some 33) (.nilck (.t 32)) none), (PO.mk (some 34) (.fldA 74 (.t 33)) none), (PO.mk (some 35) (.load false 1 (.t 34)) none), (PO.mk (some 36) (.mv (.t 2)) none), (PO.mk (some 37) (.idxSl 108 (.t 35) (.t 36)) none), (PO.mk (some 38) (.fldA 107 (.t 37)) none), (PO.mk (some 39) (.load false 1 (.t 38)) none), (PO.mk (some 31) (.mv (.t 39)) none)]) (.cond (.t 31) (.seq (.ops [(PO.mk (some 8) (.mv (.k (.int .i64 101))) none)]) .ret) (.seq (.draw [(.e, (PO.mk (some 41) (.fldA 66 (.t 5)) none)), (.e, (PO.mk (some 43) (.mv (.t 0)) none)), (.e, (PO.mk (some 44) (.mv (.t 2)) none)), (.s, (PO.mk (some 42) (.load false 1 (.t 41)) none)), (.s, (PO.mk (some 45) (.call (F 167) [(.t 43), (.t 44)]) none)), (.e, (PO.mk (some 46) (.bin .neq (.t 42) (.t 45)) none)), (.e, (PO.mk (some 40) (.mv (.t 46)) none))]) (.cond (.t 40) (.seq (.ops [(PO.mk (some 8) (.mv (.k (.int .i64 30))) none)]) .ret) (.seq (.draw [(.e, (PO.mk (some 48) (.fldA 65 (.t 5)) none)), (.e, (PO.mk (some 50) (.mv (.t 0)) none)), (.e, (PO.mk (some 51) (.mv (.t 2)) none)), (.s, (PO.mk (some 49) (.load false 1 (.t 48)) none)), (.s, (PO.mk (some 52) (.call (F 166) [(.t 50), (.t 51)]) none)), (.e, (PO.mk (some 53) (.bin .leq (.t 49) (.t 52)) none)), (.e, (PO.mk (some 47) (.mv (.t 53)) none))]) (.cond (.t 47) (.seq (.ops [(PO.mk (some 8) (.mv (.k (.int .i64 102))) none)]) .ret) (.seq (.ops [(PO.mk (some 55) (.fldA 65 (.t 5)) none), (PO.mk (some 56) (.load false 1 (.t 55)) none), (PO.mk (some 57) (.conv .i64 (.t 56)) none), (PO.mk (some 58) (.bin .sub (.t 57) (.k (.int .i64 7200))) none), (PO.mk (some 59) (.mv (.t 3)) none), (PO.mk (some 60) (.bin .gtr (.t 58) (.t 59)) none), (PO.mk (some 54) (.mv (.t 60)) none)]) (.cond (.t 54) (.seq (.ops [(PO.mk (some 8) (.mv (.k (.int .i64 103))) none)]) .ret) .skip))))))))) (.seq (.ops [(PO.mk (some 8) (.mv (.k (.int .i64 0))) none)]) .ret)))))
def k169 (F : Fn) : PF := PF.mk 55 3 [(.t 6), (.t 7)] (.seq (.ops [(PO.mk (some 4) (.box (.t 1)) none), (PO.mk (some 6) (.mv (.k (.int .i64 0))) none), (PO.mk (some 7) (.mv (.k (.int .i64 0))) none)]) (.seq (.seq (.draw [(.e, (PO.mk (some 14) (.mv (.t 0)) none)), (.e, (PO.mk (some 15) (.nilck (.t 14)) none)), (.e, (PO.mk (some 16) (.fldA 75 (.t 15)) none)), (.s, (PO.mk (some 17) (.load false 1 (.t 16)) none)), (.s, (PO.mk (some 18) (.load true 68 (.t 4)) none)), (.s, (PO.mk (some 19) (.call (F 141) [(.t 18)]) none)), (.s, (PO.mk (some 20) (.lookup (.agg 32) (.int .i64 0) true (.t 17) (.t 19)) none)), (.e, (PO.mk (some 13) (.mv (.t 20)) none)), (.e, (PO.mk (some 21) (.ext 0 (.t 13)) none)), (.e, (PO.mk (some 22) (.ext 1 (.t 13)) none)), (.e, (PO.mk (some 8) (.mv (.t 21)) none)), (.e, (PO.mk (some 9) (.mv (.t 22)) none))]) (.seq (.ops [(PO.mk (some 23) (.mv (.t 9)) none)]) (.cond (.t 23) (.seq (.ops [(PO.mk (some 24) (.mv (.t 8)) none), (PO.mk (some 6) (.mv (.t 24)) none), (PO.mk (some 7) (.mv (.k (.int .i64 5))) none)]) .ret) .skip))) (.seq (.draw [(.e, (PO.mk (some 26) (.mv (.t 0)) none)), (.e, (PO.mk (some 27) (.nilck (.t 26)) none)), (.e, (PO.mk (some 28) (.fldA 75 (.t 27)) none)), (.e, (PO.mk (some 30) (.fldA 1 (.t 4)) none)), (.s, (PO.mk (some 29) (.load false 1 (.t 28)) none)), (.s, (PO.mk (some 31) (.load true 32 (.t 30)) none)), (.s, (PO.mk (some 32) (.lookup (.agg 32) (.int .i64 0) true (.t 29) (.t 31)) none)), (.e, (PO.mk (some 25) (.mv (.t 32)) none)), (.e, (PO.mk (some 33) (.ext 0 (.t 25)) none)), (.e, (PO.mk (some 34) (.ext 1 (.t 25)) none)), (.e, (PO.mk (some 10) (.mv (.t 33)) none)), (.e, (PO.mk (some 11) (.mv (.t 34)) none))]) (.seq (.seq (.ops [(PO.mk (some 35) (.mv (.t 11)) none), (PO.mk (some 36) (.not (.t 35)) none)]) (.cond (.t 36) (.seq (.ops [(PO.mk (some 6) (.mv (.k (.int .i64 (-1)))) none), (PO.mk (some 7) (.mv (.k (.int .i64 100))) none)]) .ret) .skip)) (.seq (.seq (.ops [(PO.mk (some 37) (.mv (.t 0)) none), (PO.mk (some 38) (.load true 68 (.t 4)) none), (PO.mk (some 39) (.mv (.t 10)) none), (PO.mk (some 40) (.mv (.t 2)) none), (PO.mk (some 41) (.call (F 168) [(.t 37), (.t 38), (.t 39), (.t 40)]) none), (PO.mk (some 12) (.mv (.t 41)) none)]) (.seq (.ops [(PO.mk (some 42) (.mv (.t 12)) none), (PO.mk (some 43) (.bin .neq (.t 42) (.k (.int .i64 0))) none)]) (.cond (.t 43) (.seq (.ops [(PO.mk (some 44) (.mv (.t 12)) none), (PO.mk (some 6) (.mv (.k (.int .i64 (-1)))) none), (PO.mk (some 7) (.mv (.t 44)) none)]) .ret) .skip))) (.seq (.seq (.ops [(PO.mk (some 45) (.mv (.t 0)) none), (PO.mk (some 46) (.nilck (.t 45)) none), (PO.mk (some 47) (.fldA 74 (.t 46)) none), (PO.mk (some 48) (.load false 1 (.t 47)) none), (PO.mk (some 49) (.lenSl (.t 48)) none), (PO.mk (some 50) (.bin .eql (.t 49) (.k (.int .i64 16384))) none)]) (.cond (.t 50) (.seq (.ops [(PO.mk (some 6) (.mv (.k (.int .i64 (-1)))) none), (PO.mk (some 7) (.mv (.k (.int .i64 3))) none)]) .ret) .skip)) (.seq (.ops [(PO.mk (some 51) (.mv (.t 0)) none), (PO.mk (some 52) (.load true 68 (.t 4)) none), (PO.mk (some 53) (.mv (.t 10)) none), (PO.mk (some 54) (.call (F 156) [(.t 51), (.t 52), (.t 53)]) none), (PO.mk (some 6) (.mv (.t 54)) none), (PO.mk (some 7) (.mv (.k (.int .i64 0))) none)]) .ret)))))))
def k170 (F : Fn) : PF := PF.mk 65 2 [(.t 4)] (.seq (.ops [(PO.mk (some 4) (.mv (.k (.int .i64 0))) none)]) (.seq (.seq (.ops [(PO.mk (some 8) (.mv (.t 1)) none), (PO.mk (some 9) (.bin .lss (.t 8) (.k (.int .i64 1))) none), (PO.mk (some 10) (.mv (.t 9)) none), (PO.mk (some 11) (.mv (.t 1)) (some (10, false))), (PO.mk (some 12) (.mv (.t 0)) (some (10, false))), (PO.mk (some 13) (.nilck (.t 12)) (some (10, false))), (PO.mk (some 14) (.fldA 74 (.t 13)) (some (10, false))), (PO.mk (some 15) (.load false 1 (.t 14)) (some (10, false))), (PO.mk (some 16) (.lenSl (.t 15)) (some (10, false))), (PO.mk (some 17) (.bin .geq (.t 11) (.t 16)) (some (10, false))), (PO.mk (some 18) (.pick (.t 10) (.k (.bool true)) (.t 17)) none)]) (.cond (.t 18) (.seq (.ops [(PO.mk (some 4) (.mv (.k (.int .i64 0))) none)]) .ret) .skip)) (.seq (.ops [(PO.mk (some 5) (.mv (.k (.int .i64 0))) none)]) (.seq (.seq (.ops [(PO.mk (some 19) (.mv (.t 1)) none), (PO.mk (some 6) (.mv (.t 19)) none)]) (.block 0 (.loop (.seq (.seq (.ops [(PO.mk (some 20) (.mv (.t 6)) none), (PO.mk (some 21) (.mv (.t 0)) none), (PO.mk (some 22) (.nilck (.t 21)) none), (PO.mk (some 23) (.fldA 74 (.t 22)) none), (PO.mk (some 24) (.load false 1 (.t 23)) none), (PO.mk (some 25) (.lenSl (.t 24)) none), (PO.mk (some 26) (.bin .lss (.t 20) (.t 25)) none)]) (.cond (.t 26) .skip (.exit 0))) (.seq (.block 1 (.seq (.ops [(PO.mk (some 29) (.mv (.t 0)) none), (PO.mk (some 30) (.nilck (.t 29)) none), (PO.mk (some 31) (.fldA 74 (.t 30)) none), (PO.mk (some 32) (.load false 1 (.t 31)) none), (PO.mk (some 33) (.mv (.t 6)) none), (PO.mk (some 34) (.idxSl 108 (.t 32) (.t 33)) none), (PO.mk (some 7) (.mv (.t 34)) none)]) (.seq (.ops [(PO.mk (some 35) (.mv (.t 7)) none), (PO.mk (some 36) (.nilck (.t 35)) none), (PO.mk (some 37) (.fldA 107 (.t 36)) none), (PO.mk (some 38) (.load false 1 (.t 37)) none), (PO.mk (some 39) (.not (.t 38)) none), (PO.mk (some 40) (.mv (.t 39)) none), (PO.mk (some 41) (.mv (.t 6)) (some (40, true))), (PO.mk (some 42) (.mv (.t 1)) (some (40, true))), (PO.mk (some 43) (.bin .eql (.t 41) (.t 42)) (some (40, true))), (PO.mk (some 44) (.mv (.t 43)) (some (40, true))), (PO.mk (some 45) (.mv (.t 7)) (some (44, false))), (PO.mk (some 46) (.nilck (.t 45)) (some (44, false))), (PO.mk (some 47) (.fldA 100 (.t 46)) (some (44, false))), (PO.mk (some 48) (.load false 1 (.t 47)) (some (44, false))), (PO.mk (some 49) (.mv (.t 1)) (some (44, false))), (PO.mk (some 50) (.bin .geq (.t 48) (.t 49)) (some (44, false))), (PO.mk (some 51) (.mv (.t 50)) (some (44, false))), (PO.mk (some 52) (.mv (.t 0)) (some (51, true))), (PO.mk (some 53) (.mv (.t 1)) (some (51, true))), (PO.mk (some 54) (.mv (.t 6)) (some (51, true))), (PO.mk (some 55) (.call (F 163) [(.t 52), (.t 53), (.t 54)]) (some (51, true))), (PO.mk (some 56) (.pick (.t 51) (.t 55) (.k (.bool false))) (some (44, false))), (PO.mk (some 57) (.pick (.t 44) (.k (.bool true)) (.t 56)) (some (40, true))), (PO.mk (some 58) (.pick (.t 40) (.t 57) (.k (.bool false))) none)]) (.cond (.t 58) (.seq (.ops [(PO.mk (some 59) (.mv (.t 7)) none), (PO.mk (some 60) (.nilck (.t 59)) none), (PO.mk (some 61) (.fldA 107 (.t 60)) none), (PO.mk none (.store 1 (.t 61) (.k (.bool true))) none)]) (.ops [(PO.mk (some 62) (.mv (.t 5)) none), (PO.mk (some 63) (.bin .add (.t 62) (.k (.int .i64 1))) none), (PO.mk (some 5) (.mv (.t 63)) none)])) .skip)))) (.ops [(PO.mk (some 27) (.mv (.t 6)) none), (PO.mk (some 28) (.bin .add (.t 27) (.k (.int .i64 1))) none), (PO.mk (some 6) (.mv (.t 28)) none)])))))) (.seq (.ops [(PO.mk (some 64) (.mv (.t 5)) none), (PO.mk (some 4) (.mv (.t 64)) none)]) .ret)))))
def k165 (F : Fn) : PF := PF.mk 11 1 [] (.seq (.ops [(PO.mk (some 3) (.mv (.t 0)) none), (PO.mk (some 4) (.lenSl (.t 3)) none), (PO.mk (some 2) (.mv (.t 4)) none)]) (.ops [(PO.mk (some 5) (.mv (.t 0)) none), (PO.mk (some 6) (.mv (.t 2)) none), (PO.mk (some 7) (.mv (.t 2)) none), (PO.mk (some 8) (.conv .u64 (.t 7)) none), (PO.mk (some 9) (.call (F 171) [(.t 8)]) none), (PO.mk (some 10) (.call (F 172) [(.t 5), (.k (.int .i64 0)), (.t 6), (.t 9)]) none)]))
def k172 (F : Fn) : PF := PF.mk 134 4 [] (.seq (.ops [(PO.mk (some 8) (.mv (.k (.bool true))) none)]) (.seq (.ops [(PO.mk (some 9) (.mv (.k (.bool true))) none)]) (.block 0 (.loop (.block 1 (.seq (.ops [(PO.mk (some 19) (.mv (.t 2)) none), (PO.mk (some 20) (.mv (.t 1)) none), (PO.mk (some 21) (.bin .sub (.t 19) (.t 20)) none), (PO.mk (some 10) (.mv (.t 21)) none)]) (.seq (.seq (.ops [(PO.mk (some 22) (.mv (.t 10)) none), (PO.mk (some 23) (.bin .leq (.t 22) (.k (.int .i64 12))) none)]) (.cond (.t 23) (.seq (.ops [(PO.mk (some 24) (.mv (.t 0)) none), (PO.mk (some 25) (.mv (.t 1)) none), (PO.mk (some 26) (.mv (.t 2)) none), (PO.mk (some 27) (.call (F 173) [(.t 24), (.t 25), (.t 26)]) none)]) .ret) .skip)) (.seq (.seq (.ops [(PO.mk (some 28) (.mv (.t 3)) none), (PO.mk (some 29) (.bin .eql (.t 28) (.k (.int .i64 0))) none)]) (.cond (.t 29) (.seq (.ops [(PO.mk (some 30) (.mv (.t 0)) none), (PO.mk (some 31) (.mv (.t 1)) none), (PO.mk (some 32) (.mv (.t 2)) none), (PO.mk (some 33) (.call (F 174) [(.t 30), (.t 31), (.t 32)]) none)]) .ret) .skip)) (.seq (.seq (.ops [(PO.mk (some 34) (.mv (.t 8)) none), (PO.mk (some 35) (.not (.t 34)) none)]) (.cond (.t 35) (.seq (.ops [(PO.mk (some 36) (.mv (.t 0)) none), (PO.mk (some 37) (.mv (.t 1)) none), (PO.mk (some 38) (.mv (.t 2)) none), (PO.mk (some 39) (.call (F 175) [(.t 36), (.t 37), (.t 38)]) none)]) (.ops [(PO.mk (some 40) (.mv (.t 3)) none), (PO.mk (some 41) (.bin .sub (.t 40) (.k (.int .i64 1))) none), (PO.mk (some 3) (.mv (.t 41)) none)])) .skip)) (.seq (.ops [(PO.mk (some 43) (.mv (.t 0)) none), (PO.mk (some 44) (.mv (.t 1)) none), (PO.mk (some 45) (.mv (.t 2)) none), (PO.mk (some 46) (.call (F 176) [(.t 43), (.t 44), (.t 45)]) none), (PO.mk (some 42) (.mv (.t 46)) none), (PO.mk (some 47) (.ext 0 (.t 42)) none), (PO.mk (some 48) (.ext 1 (.t 42)) none), (PO.mk (some 11) (.mv (.t 47)) none), (PO.mk (some 12) (.mv (.t 48)) none)]) (.seq (.seq (.ops [(PO.mk (some 49) (.mv (.t 12)) none), (PO.mk (some 50) (.bin .eql (.t 49) (.k (.int .i64 2))) none)]) (.cond (.t 50) (.seq (.ops [(PO.mk (some 51) (.mv (.t 0)) none), (PO.mk (some 52) (.mv (.t 1)) none), (PO.mk (some 53) (.mv (.t 2)) none), (PO.mk (some 54) (.call (F 177) [(.t 51), (.t 52), (.t 53)]) none)]) (.seq (.ops [(PO.mk (some 55) (.mv (.t 2)) none), (PO.mk (some 56) (.bin .sub (.t 55) (.k (.int .i64 1))) none), (PO.mk (some 57) (.mv (.t 11)) none), (PO.mk (some 58) (.mv (.t 1)) none), (PO.mk (some 59) (.bin .sub (.t 57) (.t 58)) none), (PO.mk (some 60) (.bin .sub (.t 56) (.t 59)) none), (PO.mk (some 11) (.mv (.t 60)) none)]) (.ops [(PO.mk (some 12) (.mv (.k (.int .i64 1))) none)]))) .skip)) (.seq (.seq (.ops [(PO.mk (some 61) (.mv (.t 8)) none), (PO.mk (some 62) (.mv (.t 61)) none), (PO.mk (some 63) (.mv (.t 9)) (some (62, true))), (PO.mk (some 64) (.pick (.t 62) (.t 63) (.k (.bool false))) none), (PO.mk (some 65) (.mv (.t 64)) none), (PO.mk (some 66) (.mv (.t 12)) (some (65, true))), (PO.mk (some 67) (.bin .eql (.t 66) (.k (.int .i64 1))) (some (65, true))), (PO.mk (some 68) (.pick (.t 65) (.t 67) (.k (.bool false))) none)]) (.cond (.t 68) (.seq (.ops [(PO.mk (some 69) (.mv (.t 0)) none), (PO.mk (some 70) (.mv (.t 1)) none), (PO.mk (some 71) (.mv (.t 2)) none), (PO.mk (some 72) (.call (F 178) [(.t 69), (.t 70), (.t 71)]) none)]) (.cond (.t 72) .ret .skip)) .skip)) (.seq (.seq (.draw [(.e, (PO.mk (some 73) (.mv (.t 1)) none)), (.e, (PO.mk (some 74) (.bin .gtr (.t 73) (.k (.int .i64 0))) none)), (.e, (PO.mk (some 75) (.mv (.t 74)) none)), (.e, (PO.mk (some 76) (.mv (.t 0)) (some (75, true)))), (.e, (PO.mk (some 77) (.mv (.t 1)) (some (75, true)))), (.e, (PO.mk (some 78) (.bin .sub (.t 77) (.k (.int .i64 1))) (some (75, true)))), (.e, (PO.mk (some 79) (.idxSl 1 (.t 76) (.t 78)) (some (75, true)))), (.e, (PO.mk (some 81) (.mv (.t 0)) (some (75, true)))), (.e, (PO.mk (some 82) (.mv (.t 11)) (some (75, true)))), (.e, (PO.mk (some 83) (.idxSl 1 (.t 81) (.t 82)) (some (75, true)))), (.s, (PO.mk (some 80) (.load false 1 (.t 79)) (some (75, true)))), (.s, (PO.mk (some 84) (.load false 1 (.t 83)) (some (75, true)))), (.x, (PO.mk (some 85) (.call (F 179) [(.t 80), (.t 84)]) (some (75, true)))), (.e, (PO.mk (some 86) (.not (.t 85)) (some (75, true)))), (.e, (PO.mk (some 87) (.pick (.t 75) (.t 86) (.k (.bool false))) none))]) (.cond (.t 87) (.seq (.ops [(PO.mk (some 88) (.mv (.t 0)) none), (PO.mk (some 89) (.mv (.t 1)) none), (PO.mk (some 90) (.mv (.t 2)) none), (PO.mk (some 91) (.mv (.t 11)) none), (PO.mk (some 92) (.call (F 180) [(.t 88), (.t 89), (.t 90), (.t 91)]) none), (PO.mk (some 13) (.mv (.t 92)) none)]) (.seq (.ops [(PO.mk (some 93) (.mv (.t 13)) none), (PO.mk (some 1) (.mv (.t 93)) none)]) (.exit 1))) .skip)) (.seq (.ops [(PO.mk (some 95) (.mv (.t 0)) none), (PO.mk (some 96) (.mv (.t 1)) none), (PO.mk (some 97) (.mv (.t 2)) none), (PO.mk (some 98) (.mv (.t 11)) none), (PO.mk (some 99) (.call (F 181) [(.t 95), (.t 96), (.t 97), (.t 98)]) none), (PO.mk (some 94) (.mv (.t 99)) none), (PO.mk (some 100) (.ext 0 (.t 94)) none), (PO.mk (some 101) (.ext 1 (.t 94)) none), (PO.mk (some 14) (.mv (.t 100)) none), (PO.mk (some 15) (.mv (.t 101)) none)]) (.seq (.ops [(PO.mk (some 102) (.mv (.t 15)) none), (PO.mk (some 9) (.mv (.t 102)) none)]) (.seq (.ops [(PO.mk (some 103) (.mv (.t 14)) none), (PO.mk (some 104) (.mv (.t 1)) none), (PO.mk (some 105) (.bin .sub (.t 103) (.t 104)) none), (PO.mk (some 106) (.mv (.t 2)) none), (PO.mk (some 107) (.mv (.t 14)) none), (PO.mk (some 108) (.bin .sub (.t 106) (.t 107)) none), (PO.mk (some 16) (.mv (.t 105)) none), (PO.mk (some 17) (.mv (.t 108)) none)]) (.seq (.ops [(PO.mk (some 109) (.mv (.t 10)) none), (PO.mk (some 110) (.bin .quo (.t 109) (.k (.int .i64 8))) none), (PO.mk (some 18) (.mv (.t 110)) none)]) (.seq (.ops [(PO.mk (some 111) (.mv (.t 16)) none), (PO.mk (some 112) (.mv (.t 17)) none), (PO.mk (some 113) (.bin .lss (.t 111) (.t 112)) none)]) (.cond (.t 113) (.seq (.ops [(PO.mk (some 114) (.mv (.t 16)) none), (PO.mk (some 115) (.mv (.t 18)) none), (PO.mk (some 116) (.bin .geq (.t 114) (.t 115)) none), (PO.mk (some 8) (.mv (.t 116)) none)]) (.seq (.ops [(PO.mk (some 117) (.mv (.t 0)) none), (PO.mk (some 118) (.mv (.t 1)) none), (PO.mk (some 119) (.mv (.t 14)) none), (PO.mk (some 120) (.mv (.t 3)) none), (PO.mk (some 121) (.call (F 172) [(.t 117), (.t 118), (.t 119), (.t 120)]) none)]) (.ops [(PO.mk (some 122) (.mv (.t 14)) none), (PO.mk (some 123) (.bin .add (.t 122) (.k (.int .i64 1))) none), (PO.mk (some 1) (.mv (.t 123)) none)]))) (.seq (.ops [(PO.mk (some 124) (.mv (.t 17)) none), (PO.mk (some 125) (.mv (.t 18)) none), (PO.mk (some 126) (.bin .geq (.t 124) (.t 125)) none), (PO.mk (some 8) (.mv (.t 126)) none)]) (.seq (.ops [(PO.mk (some 127) (.mv (.t 0)) none), (PO.mk (some 128) (.mv (.t 14)) none), (PO.mk (some 129) (.bin .add (.t 128) (.k (.int .i64 1))) none), (PO.mk (some 130) (.mv (.t 2)) none), (PO.mk (some 131) (.mv (.t 3)) none), (PO.mk (some 132) (.call (F 172) [(.t 127), (.t 129), (.t 130), (.t 131)]) none)]) (.ops [(PO.mk (some 133) (.mv (.t 14)) none), (PO.mk (some 2) (.mv (.t 133)) none)]))))))))))))))))))))))
def k173 (F : Fn) : PF := PF.mk 49 3 [] (.seq (.ops [(PO.mk (some 8) (.mv (.t 1)) none), (PO.mk (some 9) (.bin .add (.t 8) (.k (.int .i64 1))) none), (PO.mk (some 6) (.mv (.t 9)) none)]) (.block 0 (.loop (.seq (.seq (.ops [(PO.mk (some 10) (.mv (.t 6)) none), (PO.mk (some 11) (.mv (.t 2)) none), (PO.mk (some 12) (.bin .lss (.t 10) (.t 11)) none)]) (.cond (.t 12) .skip (.exit 0))) (.seq (.block 1 (.seq (.ops [(PO.mk (some 15) (.mv (.t 6)) none), (PO.mk (some 7) (.mv (.t 15)) none)]) (.block 2 (.loop (.seq (.seq (.draw [(.e, (PO.mk (some 16) (.mv (.t 7)) none)), (.e, (PO.mk (some 17) (.mv (.t 1)) none)), (.e, (PO.mk (some 18) (.bin .gtr (.t 16) (.t 17)) none)), (.e, (PO.mk (some 19) (.mv (.t 18)) none)), (.e, (PO.mk (some 20) (.mv (.t 0)) (some (19, true)))), (.e, (PO.mk (some 21) (.mv (.t 7)) (some (19, true)))), (.e, (PO.mk (some 22) (.idxSl 1 (.t 20) (.t 21)) (some (19, true)))), (.e, (PO.mk (some 24) (.mv (.t 0)) (some (19, true)))), (.e, (PO.mk (some 25) (.mv (.t 7)) (some (19, true)))), (.e, (PO.mk (some 26) (.bin .sub (.t 25) (.k (.int .i64 1))) (some (19, true)))), (.e, (PO.mk (some 27) (.idxSl 1 (.t 24) (.t 26)) (some (19, true)))), (.s, (PO.mk (some 23) (.load false 1 (.t 22)) (some (19, true)))), (.s, (PO.mk (some 28) (.load false 1 (.t 27)) (some (19, true)))), (.x, (PO.mk (some 29) (.call (F 179) [(.t 23), (.t 28)]) (some (19, true)))), (.e, (PO.mk (some 30) (.pick (.t 19) (.t 29) (.k (.bool false))) none))]) (.cond (.t 30) .skip (.exit 2))) (.seq (.block 3 (.draw [(.e, (PO.mk (some 33) (.mv (.t 0)) none)), (.e, (PO.mk (some 34) (.mv (.t 7)) none)), (.e, (PO.mk (some 35) (.mv (.t 0)) none)), (.e, (PO.mk (some 36) (.mv (.t 7)) none)), (.e, (PO.mk (some 37) (.bin .sub (.t 36) (.k (.int .i64 1))) none)), (.e, (PO.mk (some 38) (.mv (.t 0)) none)), (.e, (PO.mk (some 39) (.mv (.t 7)) none)), (.e, (PO.mk (some 40) (.bin .sub (.t 39) (.k (.int .i64 1))) none)), (.e, (PO.mk (some 41) (.idxSl 1 (.t 38) (.t 40)) none)), (.e, (PO.mk (some 43) (.mv (.t 0)) none)), (.e, (PO.mk (some 44) (.mv (.t 7)) none)), (.e, (PO.mk (some 45) (.idxSl 1 (.t 43) (.t 44)) none)), (.s, (PO.mk (some 42) (.load false 1 (.t 41)) none)), (.s, (PO.mk (some 46) (.load false 1 (.t 45)) none)), (.e, (PO.mk (some 47) (.idxSl 1 (.t 33) (.t 34)) none)), (.x, (PO.mk none (.store 1 (.t 47) (.t 42)) none)), (.e, (PO.mk (some 48) (.idxSl 1 (.t 35) (.t 37)) none)), (.x, (PO.mk none (.store 1 (.t 48) (.t 46)) none))])) (.ops [(PO.mk (some 31) (.mv (.t 7)) none), (PO.mk (some 32) (.bin .sub (.t 31) (.k (.int .i64 1))) none), (PO.mk (some 7) (.mv (.t 32)) none)]))))))) (.ops [(PO.mk (some 13) (.mv (.t 6)) none), (PO.mk (some 14) (.bin .add (.t 13) (.k (.int .i64 1))) none), (PO.mk (some 6) (.mv (.t 14)) none)]))))))
def k179 (F : Fn) : PF := PF.mk 17 2 [(.t 4)] (.seq (.ops [(PO.mk (some 4) (.mv (.k (.bool false))) none)]) (.seq (.ops [(PO.mk (some 5) (.mv (.t 0)) none), (PO.mk (some 6) (.call (F 182) [(.t 5)]) none), (PO.mk (some 7) (.mv (.t 6)) none), (PO.mk (some 8) (.mv (.t 1)) (some (7, true))), (PO.mk (some 9) (.call (F 182) [(.t 8)]) (some (7, true))), (PO.mk (some 10) (.not (.t 9)) (some (7, true))), (PO.mk (some 11) (.pick (.t 7) (.t 10) (.k (.bool false))) none), (PO.mk (some 12) (.mv (.t 11)) none), (PO.mk (some 13) (.mv (.t 0)) (some (12, false))), (PO.mk (some 14) (.mv (.t 1)) (some (12, false))), (PO.mk (some 15) (.bin .lss (.t 13) (.t 14)) (some (12, false))), (PO.mk (some 16) (.pick (.t 12) (.k (.bool true)) (.t 15)) none), (PO.mk (some 4) (.mv (.t 16)) none)]) .ret))
def k182 (F : Fn) : PF := PF.mk 6 1 [(.t 2)] (.seq (.ops [(PO.mk (some 2) (.mv (.k (.bool false))) none)]) (.seq (.ops [(PO.mk (some 3) (.mv (.t 0)) none), (PO.mk (some 4) (.mv (.t 0)) none), (PO.mk (some 5) (.bin .neq (.t 3) (.t 4)) none), (PO.mk (some 2) (.mv (.t 5)) none)]) .ret))
def k171 (F : Fn) : PF := PF.mk 8 1 [(.t 2)] (.seq (.ops [(PO.mk (some 2) (.mv (.k (.int .i64 0))) none)]) (.seq (.cond (.k (.bool false)) (.seq (.ops [(PO.mk (some 3) (.mv (.t 0)) none), (PO.mk (some 4) (.conv .u32 (.t 3)) none), (PO.mk (some 5) (.call (F 183) [(.t 4)]) none), (PO.mk (some 2) (.mv (.t 5)) none)]) .ret) .skip) (.seq (.ops [(PO.mk (some 6) (.mv (.t 0)) none), (PO.mk (some 7) (.call (F 115) [(.t 6)]) none), (PO.mk (some 2) (.mv (.t 7)) none)]) .ret)))
structure OkIndex (P : Program) (F : Fn) : Prop where
  mixed : P.follows .mixedOrders = true
  toOkHead : OkHead P F
  h154 : compFn P ⟨[], [], [], [], []⟩ (F 154) = some (k154 F)
  h155 : compFn P ⟨[], [], [], [], []⟩ (F 155) = some (k155 F)
  h156 : compFn P ⟨[], [], [], [], []⟩ (F 156) = some (k156 F)
  h157 : compFn P ⟨[], [], [], [], []⟩ (F 157) = some (k157 F)
  h159 : compFn P ⟨[], [], [], [], []⟩ (F 159) = some (k159 F)
  h161 : compFn P ⟨[], [], [], [], []⟩ (F 161) = some (k161 F)
  h158 : compFn P ⟨[], [], [], [], []⟩ (F 158) = some (k158 F)
  h163 : compFn P ⟨[], [], [], [], []⟩ (F 163) = some (k163 F)
  h164 : compFn P ⟨[], [], [], [], []⟩ (F 164) = some (k164 F)
  h166 : compFn P ⟨[], [], [], [], []⟩ (F 166) = some (k166 F)
  h167 : compFn P ⟨[], [], [], [], []⟩ (F 167) = some (k167 F)
  h168 : compFn P ⟨[], [], [], [], []⟩ (F 168) = some (k168 F)
  h169 : compFn P ⟨[], [], [], [], []⟩ (F 169) = some (k169 F)
  h170 : compFn P ⟨[], [], [], [], []⟩ (F 170) = some (k170 F)
  h165 : compFn P ⟨[], [], [], [], []⟩ (F 165) = some (k165 F)
  h172 : compFn P ⟨[], [], [], [], []⟩ (F 172) = some (k172 F)
  h173 : compFn P ⟨[], [], [], [], []⟩ (F 173) = some (k173 F)
  h179 : compFn P ⟨[], [], [], [], []⟩ (F 179) = some (k179 F)
  h182 : compFn P ⟨[], [], [], [], []⟩ (F 182) = some (k182 F)
  h171 : compFn P ⟨[], [], [], [], []⟩ (F 171) = some (k171 F)
end Go.Ab
set_option linter.unusedSimpArgs false
set_option linter.unusedVariables false
set_option maxRecDepth 10000
namespace Go.Ab
open Go Go.RowKit
def eNd (x : Nd) : List V := eHdr x.hdr ++ (eId x.id ++ (.int .i64 x.parent :: .int .i64 x.skip :: .int .i64 x.height :: (eU (natU x.work) ++ [.bool x.failed])))
theorem eNd_len (x : Nd) : (eNd x).length = 108 := by simp [eNd, eHdr_len, eId_len, eU_len]
def eRl (r : Rl) : List V := w32 r.limit :: .int .i64 r.every :: .int .i64 r.spacing :: .int .i64 r.subsidy :: .int .i64 r.work :: (eHdr r.gen ++ [r.txs])
theorem eRl_len (r : Rl) : (eRl r).length = 74 := by simp [eRl, eHdr_len]
theorem eNd_drop68 (x : Nd) : (eNd x).drop 68 = eId x.id ++ (.int .i64 x.parent :: .int .i64 x.skip :: .int .i64 x.height :: (eU (natU x.work) ++ [.bool x.failed])) := by
  rw [eNd, ← eHdr_len x.hdr, List.drop_left]
theorem eNd_drop100 (x : Nd) : (eNd x).drop 100 = .int .i64 x.parent :: .int .i64 x.skip :: .int .i64 x.height :: (eU (natU x.work) ++ [.bool x.failed]) := by
  rw [show 100 = 68 + 32 from rfl, ← List.drop_drop, eNd_drop68]
  rw [show 32 = (eId x.id).length from (eId_len _).symm, List.drop_left]
theorem nsegHdr (x : Nd) : ((eNd x).drop 0).take 68 = eHdr x.hdr := by rw [List.drop_zero, eNd, ← eHdr_len x.hdr, List.take_left]
theorem nsegId (x : Nd) : ((eNd x).drop 68).take 32 = eId x.id := by rw [eNd_drop68, ← eId_len x.id, List.take_left]
theorem nsegPar (x : Nd) : ((eNd x).drop 100).take 1 = [.int .i64 x.parent] := by rw [eNd_drop100]; rfl
theorem nsegSkip (x : Nd) : ((eNd x).drop 101).take 1 = [.int .i64 x.skip] := by rw [show 101 = 100 + 1 from rfl, ← List.drop_drop, eNd_drop100]; rfl
theorem nsegHgt (x : Nd) : ((eNd x).drop 102).take 1 = [.int .i64 x.height] := by rw [show 102 = 100 + 2 from rfl, ← List.drop_drop, eNd_drop100]; rfl
theorem nsegWork (x : Nd) : ((eNd x).drop 103).take 4 = eU (natU x.work) := by rw [show 103 = 100 + 3 from rfl, ← List.drop_drop, eNd_drop100]; rfl
theorem nsegFail (x : Nd) : ((eNd x).drop 107).take 1 = [.bool x.failed] := by rw [show 107 = 100 + 7 from rfl, ← List.drop_drop, eNd_drop100]; rfl
theorem take_drop_take {cs : List V} {a n o k : Nat} (h : o + k ≤ n) : ((cs.drop (a + o)).take k) = ((((cs.drop a).take n).drop o).take k) := by
  rw [List.drop_take, List.drop_drop, List.take_take, Nat.min_eq_left (by omega)]
theorem nsegTime (x : Nd) : ((eNd x).drop 65).take 1 = [w32 x.hdr.time] := by
  have := take_drop_take (cs := eNd x) (a := 0) (n := 68) (o := 65) (k := 1) (by omega)
  rw [Nat.zero_add] at this
  rw [this, nsegHdr, hdrop65]; rfl
theorem nsegBits (x : Nd) : ((eNd x).drop 66).take 1 = [w32 x.hdr.bits] := by
  have := take_drop_take (cs := eNd x) (a := 0) (n := 68) (o := 66) (k := 1) (by omega)
  rw [Nat.zero_add] at this
  rw [this, nsegHdr, hdrop66]; rfl
section
variable {K A : Type} [DecidableEq K]
def lk (k : K) (l : List (K × A)) : Option A := l.lookup k
theorem lk_cons (k : K) (p : K × A) (l : List (K × A)) : lk k (p :: l) = if k = p.1 then some p.2 else lk k l := by
  obtain ⟨a, b⟩ := p
  unfold lk
  rw [List.lookup_cons]
  by_cases h : k = a
  · have : (k == a) = true := by simp [h]
    simp [h]
  · have : (k == a) = false := by simp [h]
    simp [h, this]
theorem lk_aSet (k k' : K) (v : A) (l : List (K × A)) : lk k (aSet k' v l) = if k = k' then some v else lk k l := by
  induction l with
  | nil => simp [aSet, lk_cons]
  | cons p l ih =>
    unfold aSet
    by_cases h1 : k' = p.1
    · rw [if_pos h1, lk_cons, lk_cons, ← h1]
      by_cases h : k = k' <;> simp [h]
    · rw [if_neg h1, lk_cons, lk_cons, ih]
      by_cases h2 : k = p.1
      · have : ¬ k = k' := by rw [h2]; exact fun e => h1 e.symm
        simp [h2, Ne.symm h1]
      · simp [h2]
theorem lookup_lk {ek : K → V} {ev : A → V} {kk : KK} (hk : Keyed ek kk) {st : St} {id : Nat} {l : List (K × A)} (h : st id = some (.mp (encM ek ev l))) (z : V) (k : K) :
    lookupV st kk z true (.map (some id)) (ek k) = some (.tup [((lk k l).map ev).getD z, .bool (lk k l).isSome]) := by
  rw [lookup_enc hk h, if_pos rfl]; rfl
end
structure TreeAt (tid sid mid : Nat) (spare : List V) (es : List (Id × Int)) (r : Rl) (l : List Nd) (st : St) : Prop where
  top : st tid = some (.cells (eRl r ++ [.hsl sid 0 108 l.length, .map (some mid)]))
  rows : st sid = some (.cells (rowsOf eNd l ++ spare))
  by_ : st mid = some (.mp (encM kId kInt es))
  room : 108 ∣ spare.length
  look : ∀ k, lk k es = (findM l k).map fun (i : Nat) => (i : Int)
def TreeR (tid : Nat) (r : Rl) (l : List Nd) (st : St) : Prop := ∃ sid mid spare es, TreeAt tid sid mid spare es r l st
theorem TreeAt.sub {tid sid mid : Nat} {spare : List V} {es : List (Id × Int)} {r : Rl} {l : List Nd} {st st' : St} (h : TreeAt tid sid mid spare es r l st) (hs : St.sub st st') : TreeAt tid sid mid spare es r l st' :=
  ⟨hs _ _ h.top, hs _ _ h.rows, hs _ _ h.by_, h.room, h.look⟩
theorem TreeR.sub {tid : Nat} {r : Rl} {l : List Nd} {st st' : St} (h : TreeR tid r l st) (hs : St.sub st st') : TreeR tid r l st' := by
  obtain ⟨sid, mid, spare, es, h⟩ := h
  exact ⟨sid, mid, spare, es, h.sub hs⟩
theorem tree_seg74 (r : Rl) (a b : V) : segOf (eRl r ++ [a, b]) 74 1 = some [a] := by
  have h := eRl_len r
  unfold segOf
  rw [if_pos (by simp [h]), ← h, List.drop_left]; rfl
theorem tree_seg75 (r : Rl) (a b : V) : segOf (eRl r ++ [a, b]) 75 1 = some [b] := by
  have h := eRl_len r
  unfold segOf
  rw [if_pos (by simp [h]), show 75 = 74 + 1 from rfl, ← List.drop_drop, ← h, List.drop_left]; rfl
theorem tree_limit (r : Rl) (a b : V) : segOf (eRl r ++ [a, b]) 0 1 = some [w32 r.limit] := by
  unfold segOf; rw [if_pos (by simp)]; rfl
theorem tree_every (r : Rl) (a b : V) : segOf (eRl r ++ [a, b]) 1 1 = some [.int .i64 r.every] := by
  unfold segOf; rw [if_pos (by simp [eRl])]; rfl
theorem tree_spacing (r : Rl) (a b : V) : segOf (eRl r ++ [a, b]) 2 1 = some [.int .i64 r.spacing] := by
  unfold segOf; rw [if_pos (by simp [eRl])]; rfl
section
variable {l : List Nd} {i : Nat} {spare : List V}
theorem nd_part (hi : i < l.length) {o n : Nat} (h : o + n ≤ 108) : segOf (rowsOf eNd l ++ spare) (i * 108 + o) n = some (((eNd l[i]).drop o).take n) := rowsOf_part eNd_len l spare hi h
theorem nd_all (hi : i < l.length) : segOf (rowsOf eNd l ++ spare) (i * 108) 108 = some (eNd l[i]) := rowsOf_seg eNd_len l spare hi
theorem nd_par (hi : i < l.length) : segOf (rowsOf eNd l ++ spare) (i * 108 + 100) 1 = some [.int .i64 l[i].parent] := by rw [nd_part hi (by omega), nsegPar]
theorem nd_skip (hi : i < l.length) : segOf (rowsOf eNd l ++ spare) (i * 108 + 101) 1 = some [.int .i64 l[i].skip] := by rw [nd_part hi (by omega), nsegSkip]
theorem nd_hgt (hi : i < l.length) : segOf (rowsOf eNd l ++ spare) (i * 108 + 102) 1 = some [.int .i64 l[i].height] := by rw [nd_part hi (by omega), nsegHgt]
theorem nd_fail (hi : i < l.length) : segOf (rowsOf eNd l ++ spare) (i * 108 + 107) 1 = some [.bool l[i].failed] := by rw [nd_part hi (by omega), nsegFail]
theorem nd_time (hi : i < l.length) : segOf (rowsOf eNd l ++ spare) (i * 108 + 65) 1 = some [w32 l[i].hdr.time] := by rw [nd_part hi (by omega), nsegTime]
theorem hgt_at (hi : i < l.length) : hgt l i = l[i].height := by simp [hgt, hi]
theorem par_at (hi : i < l.length) : par l i = l[i].parent.toNat := by simp [par, hi]
end
theorem bits_and_nat {a b : Nat} (ha : a < 2 ^ 62) (hb : b < 2 ^ 62) : bits .and .i64 (a : Int) (b : Int) = ((a &&& b : Nat) : Int) := by
  have h1 : BitVec.ofInt IntKind.i64.bits (a : Int) = BitVec.ofNat 64 a := BitVec.ofInt_natCast _ _
  have h2 : BitVec.ofInt IntKind.i64.bits (b : Int) = BitVec.ofNat 64 b := BitVec.ofInt_natCast _ _
  have h3 : a &&& b ≤ a := Nat.and_le_left
  unfold bits
  rw [h1, h2]
  show IntKind.i64.wrap (((BitVec.ofNat 64 a &&& BitVec.ofNat 64 b).toNat : Nat) : Int) = _
  rw [BitVec.toNat_and, BitVec.toNat_ofNat, BitVec.toNat_ofNat, Nat.mod_eq_of_lt (by omega), Nat.mod_eq_of_lt (by omega)]
  exact wrap64 (by omega) (by omega)
section
variable {P : Program} {F : Fn}
theorem spec157 (ok : OkIndex P F) (st : St) (h : Nat) (hh : h < 2 ^ 61) : ACalls P (F 157) [.int .i64 (h : Nat)] st fun v st' => v = .int .i64 (skipH h : Nat) ∧ st' = st := by
  refine shows_call ok.mixed ok.h157 (by simp [k157]) ?_
  simp only [k157]
  by_cases h2 : h < 2
  · have e : skipH h = 0 := by simp [skipH, h2]
    have : (h : Int) < 2 := by omega
    simp [this, e]
  · obtain ⟨m, rfl⟩ : ∃ m, h = m + 2 := ⟨h - 2, by omega⟩
    have a1 : ¬ ((m : Int) + 2 < 2) := by omega
    have w1 : IntKind.i64.wrap ((m : Int) + 2 - 1) = ((m + 1 : Nat) : Int) := by rw [wrap64 (by omega) (by omega)]; omega
    have w2 : IntKind.i64.wrap (m : Int) = (m : Int) := wrap64 (by omega) (by omega)
    have b1 : bits .and .i64 ((m + 1 : Nat) : Int) (m : Int) = ((m + 1 &&& m : Nat) : Int) := bits_and_nat (by omega) (by omega)
    have b2 : bits .and .i64 ((m : Int) + 2) ((m + 1 : Nat) : Int) = ((m + 2 &&& m + 1 : Nat) : Int) := by
      have := bits_and_nat (a := m + 2) (b := m + 1) (by omega) (by omega)
      rw [← this]
      congr 1
    have l1 : m + 1 &&& m ≤ m := Nat.and_le_right
    have w3 : IntKind.i64.wrap ((m + 1 &&& m : Nat) + 1) = ((m + 1 &&& m : Nat) : Int) + 1 := wrap64 (by omega) (by omega)
    obtain ⟨A, hA⟩ : ∃ A, A = (m + 1 &&& m) := ⟨_, rfl⟩
    obtain ⟨B, hB⟩ : ∃ B, B = (m + 2 &&& m + 1) := ⟨_, rfl⟩
    obtain ⟨M, hM⟩ : ∃ M, M = ((m + 1 : Nat) : Int) := ⟨_, rfl⟩
    rw [← hA] at b1 w3
    rw [← hB] at b2
    rw [← hM] at w1 b1 b2
    have es : skipH (m + 2) = if m % 2 = 1 then A + 1 else B := by
      unfold skipH
      rw [if_neg h2, hA, hB]
      have : (m + 2) % 2 = m % 2 := by omega
      rw [this]
      rfl
    have em : ((m : Int) + 2) % 2 = ((m % 2 : Nat) : Int) := by omega
    have e2 : ((m : Int) + 2).tmod 2 = ((m % 2 : Nat) : Int) := by rw [Int.tmod_eq_emod_of_nonneg (by omega)]; exact em
    have hm2 : m % 2 < 2 := Nat.mod_lt _ (by omega)
    have wr : IntKind.i64.wrap (((m % 2 : Nat)) : Int) = ((m % 2 : Nat) : Int) := wrap64 (by omega) (by omega)
    obtain ⟨R, hR⟩ : ∃ R, R = m % 2 := ⟨_, rfl⟩
    rw [← hR] at es em e2 wr hm2
    rw [es]
    by_cases hm : R = 1
    · subst hm
      simp [a1, em, e2, wr, w1, w2, b1, w3]
    · have hz : R = 0 := by omega
      subst hz
      simp [a1, em, e2, wr, w1, w2, b2, hm]
theorem spec159 (ok : OkIndex P F) {st : St} {tid : Nat} {r : Rl} {l : List Nd} (h : TreeR tid r l st) : ACalls P (F 159) [.ptr (some (tid, 0))] st fun v st' => v = .int .i64 (l.length : Nat) ∧ st' = st := by
  obtain ⟨sid, mid, spare, es, h⟩ := h
  refine shows_call ok.mixed ok.h159 (by simp [k159]) ?_
  simp only [k159]
  simp [St.seg, h.top, tree_seg74]
theorem nd_at {l : List Nd} {j : Nat} (hj : j < l.length) : nd l j = l[j] := by simp [nd, hj]
def inI (l : List Nd) (i : Int) : Nat := if i < 0 ∨ (l.length : Int) ≤ i then 0 else i.toNat
theorem spec161 (ok : OkIndex P F) {st : St} {tid : Nat} {r : Rl} {l : List Nd} (h : TreeR tid r l st) (w : Wf l) (i : Int) : ACalls P (F 161) [.ptr (some (tid, 0)), .int .i64 i] st fun v st' => v = .agg (eNd (nd l (inI l i))) ∧ st' = st := by
  obtain ⟨sid, mid, spare, es, h⟩ := h
  refine shows_call ok.mixed ok.h161 (by simp [k161]) ?_
  simp only [k161]
  simp
  intro i4 h4
  have hz : z108_9b14.length = 108 := rfl
  have hsp : ∀ x, spliceV z108_9b14 0 (eNd x) = eNd x := fun x => by simp [spliceV, eNd_len, hz]
  have hst : ∀ (x : Nd), storeS (st.upd i4 (.cells z108_9b14)) 108 (.ptr (some (i4, 0))) (.agg (eNd x)) = some (st.upd i4 (.cells (eNd x))) := fun x => by
    simp [storeS, eNd_len, hsp, hz]
  have hall' : ∀ x, segOf (eNd x) 0 108 = some (eNd x) := fun x => by
    unfold segOf
    rw [if_pos (by rw [eNd_len]; omega), List.drop_zero, ← eNd_len x, List.take_length]
  have h' := h.sub (sub_upd (o := .cells z108_9b14) h4)
  generalize hst1 : st.upd i4 (.cells z108_9b14) = st1 at h' hst ⊢
  have o1 := h'.top
  have o2 := h'.rows
  simp [St.seg, o1, tree_seg74]
  have hl0 := w.ne
  have hsub : ∀ x, St.sub st (st.upd i4 (.cells x)) := fun x => sub_upd h4
  by_cases h1 : i < 0
  · have e : inI l i = 0 := by simp [inI, h1]
    have hall := nd_all (spare := spare) hl0
    simp at hall
    rw [e, nd_at hl0]
    simp [h1, e, hl0, o1, o2, hall, hst, St.seg, hall', hsub, tree_seg74]
  · by_cases h2 : (l.length : Int) ≤ i
    · have e : inI l i = 0 := by simp [inI, h2]
      have hall := nd_all (spare := spare) hl0
      simp at hall
      rw [e, nd_at hl0]
      simp [h1, h2, e, hl0, o1, o2, hall, hst, St.seg, hall', hsub, tree_seg74]
    · obtain ⟨n, rfl⟩ : ∃ n : Nat, i = n := ⟨i.toNat, by omega⟩
      have hn : n < l.length := by omega
      have e : inI l n = n := by simp [inI]; omega
      have e2 : ¬ l.length ≤ n := by omega
      have hall := nd_all (spare := spare) hn
      rw [e, nd_at hn]
      simp [h1, e, e2, hn, o1, o2, hall, hst, St.seg, hall', hsub, tree_seg74]
theorem anc_step {l : List Nd} (w : Wf l) {i h : Nat} (hi : i < l.length) (hh : h < hgt l i) :
    ∃ p s, l[i].parent = (p : Nat) ∧ l[i].skip = s ∧ p < i ∧ s ≤ p ∧ anc l p h = anc l i h ∧ h ≤ hgt l p ∧ (h ≤ hgt l s → anc l s h = anc l i h) ∧ s < l.length := by
  have hp := w.pos_of_hgt (i := i) (by omega)
  have e := List.getElem?_eq_getElem hi
  obtain ⟨a, b, c⟩ := w.succ i _ hp e
  have d := w.skip i _ hp e
  have hgi := hgt_at hi
  refine ⟨par l i, l[i].skip, ?_, rfl, w.par_lt hp hi, ?_, (w.anc_par hi hh).symm, ?_, ?_, ?_⟩
  · rw [par_at hi]; omega
  · rw [d, par_at hi]; exact w.anc_le (by omega)
  · have := w.hgt_par hp hi; omega
  · intro hs
    have hpp := w.hgt_par hp hi
    have hlt := w.par_lt hp hi
    have hk := skipH_lt (h := l[i].height) (by omega)
    have e2 : l[i].skip = anc l (par l i) (skipH l[i].height) := by rw [d, par_at hi]
    rw [e2] at hs ⊢
    have hh2 : skipH l[i].height ≤ hgt l (par l i) := by omega
    rw [w.anc_hgt (by omega) hh2] at hs
    rw [w.anc_anc (by omega) hs hh2, ← w.anc_par hi hh]
  · have := w.anc_lt (i := l[i].parent.toNat) (h := skipH l[i].height) (by omega)
    rw [d]; exact this
theorem spec158 (ok : OkIndex P F) {st : St} {tid : Nat} {r : Rl} {l : List Nd} (h : TreeR tid r l st) (w : Wf l) (i k : Int) : ACalls P (F 158) [.ptr (some (tid, 0)), .int .i64 i, .int .i64 k] st fun v st' => v = .int .i64 (ancI l i k) ∧ st' = st := by
  obtain ⟨sid, mid, spare, es, h⟩ := h
  refine shows_call ok.mixed ok.h158 (by simp [k158]) ?_
  simp only [k158]
  have o1 := h.top
  have o2 := h.rows
  by_cases h1 : i < 0
  · simp [h1, ancI]
  · by_cases h2 : (l.length : Int) ≤ i
    · simp [h1, h2, ancI, St.seg, o1, tree_seg74]
    · obtain ⟨n, rfl⟩ : ∃ n : Nat, i = n := ⟨i.toNat, by omega⟩
      have hn : n < l.length := by omega
      have e2 : ¬ l.length ≤ n := by omega
      by_cases h3 : k < 0
      · simp [h1, h3, ancI, St.seg, o1, tree_seg74, e2]
      · obtain ⟨m, rfl⟩ : ∃ m : Nat, k = m := ⟨k.toNat, by omega⟩
        have eh := hgt_at hn
        by_cases h4 : l[n].height < m
        · have : hgt l n < m := by omega
          simp [h1, h3, ancI, St.seg, o1, o2, tree_seg74, e2, hn, nd_hgt hn, h4, this]
        · have h4' : ¬ hgt l n < m := by omega
          have ea : ancI l n m = (anc l n m : Nat) := by simp [ancI, e2, h4', h1, h3]
          rw [ea]
          simp [h1, h3, St.seg, o1, o2, tree_seg74, e2, hn, nd_hgt hn, h4]
          refine vc_loopJ (fun c env' st' => ∃ j, j = c ∧ j < l.length ∧ m ≤ hgt l j ∧ anc l j m = anc l n m ∧ env' 1 = .int .i64 (j : Nat) ∧ st' = st) n ⟨n, rfl, hn, by omega, rfl, rfl, rfl⟩ ?_
          rintro J hJ c env' st2 hsame ⟨j, rfl, hj, hm, he, g1, rfl⟩
          have g0 := hsame.get 0 rfl
          have g2 := hsame.get 2 rfl
          simp at g0 g2
          clear hsame
          have ej := hgt_at hj
          by_cases hlt : m < l[j].height
          · obtain ⟨p, s, p1, p2, p3, p4, p5, p6, p7, p8⟩ := anc_step w hj (h := m) (by omega)
            have hp : p < l.length := by omega
            have es := hgt_at p8
            simp [g0, g1, g2, St.seg, o1, o2, tree_seg74, hj, nd_hgt hj, hlt, nd_skip hj, nd_par hj, p2, p8, nd_hgt p8]
            by_cases hs : m ≤ l[s].height
            · simp [hs]
              exact Round.mk s _ (by omega) (sub_self _) (hJ _ _ _ ⟨s, rfl, p8, by omega, by rw [p7 (by omega), he], by simp, rfl⟩)
            · simp [hs, g0, g1, g2, St.seg, o1, o2, tree_seg74, hj, nd_par hj, p1]
              exact Round.mk p _ (by omega) (sub_self _) (hJ _ _ _ ⟨p, rfl, hp, p6, by rw [p5, he], by simp, rfl⟩)
          · have hm' : hgt l j = m := by omega
            have : anc l n m = j := by rw [← he, ← hm']; exact anc_self j
            simp [g0, g1, g2, St.seg, o1, o2, tree_seg74, hj, nd_hgt hj, hlt, this]
theorem spec163 (ok : OkIndex P F) {st : St} {tid : Nat} {r : Rl} {l : List Nd} (h : TreeR tid r l st) (w : Wf l) (i tip : Int) : ACalls P (F 163) [.ptr (some (tid, 0)), .int .i64 i, .int .i64 tip] st fun v st' => v = .bool (onB l i tip) ∧ st' = st := by
  obtain ⟨sid, mid, spare, es, h⟩ := h
  refine shows_call ok.mixed ok.h163 (by simp [k163]) ?_
  simp only [k163]
  have o1 := h.top
  have o2 := h.rows
  by_cases h1 : 0 ≤ i
  · by_cases h2 : i < (l.length : Int)
    · obtain ⟨n, rfl⟩ : ∃ n : Nat, i = n := ⟨i.toNat, by omega⟩
      have hn : n < l.length := by omega
      have eh := hgt_at hn
      simp [St.seg, o1, o2, tree_seg74, hn, nd_hgt hn]
      refine (spec158 ok ⟨sid, mid, spare, es, h⟩ w tip (l[n].height : Nat)).mono ?_
      rintro v st' ⟨rfl, rfl⟩
      simp [onB, hn, eh]
    · simp [h1, h2, onB, St.seg, o1, tree_seg74]
  · simp [h1, onB]
end
end Go.Ab
set_option linter.unusedSimpArgs false
set_option linter.unusedVariables false
set_option maxRecDepth 10000
namespace Go.Ab
open Go Go.RowKit
def e32 (x : W32) : List V := [w32 x]
theorem e32_len (x : W32) : (e32 x).length = 1 := rfl
def UpTo (m : List W32) (i : Nat) : Prop := ∀ a b, a < b → b < i → m.getD a 0 ≤ m.getD b 0
def UpBut (m : List W32) (i j : Nat) : Prop := (∀ a b, a < b → b ≤ i → a ≠ j → b ≠ j → m.getD a 0 ≤ m.getD b 0) ∧ ∀ k, j < k → k ≤ i → m.getD j 0 ≤ m.getD k 0
theorem upBut_start {m : List W32} {i : Nat} (h : UpTo m i) : UpBut m i i := ⟨fun a b h1 h2 h3 h4 => h a b h1 (by omega), fun k h1 h2 => by omega⟩
theorem upBut_end {m : List W32} {i j : Nat} (h : UpBut m i j) (hj : j = 0 ∨ m.getD (j - 1) 0 ≤ m.getD j 0) (hji : j ≤ i) : UpTo m (i + 1) := by
  intro a b h1 h2
  by_cases ha : a = j
  · subst ha; exact h.2 b h1 (by omega)
  · by_cases hb : b = j
    · subst hb
      rcases hj with hj | hj
      · omega
      · by_cases e : a = b - 1
        · rw [e]; exact hj
        · exact Nat.le_trans (h.1 a (b - 1) (by omega) (by omega) ha (by omega)) hj
    · exact h.1 a b h1 (by omega) ha hb
theorem getD_swap {m : List W32} {j : Nat} (h0 : 0 < j) (hj : j < m.length) (k : Nat) : ((m.set j (m.getD (j - 1) 0)).set (j - 1) (m.getD j 0)).getD k 0 = if k = j then m.getD (j - 1) 0 else if k = j - 1 then m.getD j 0 else m.getD k 0 := by
  simp only [List.getD_eq_getElem?_getD, List.getElem?_set, List.length_set]
  by_cases h1 : k = j
  · subst h1
    simp [show ¬ (k - 1 = k) by omega, hj]
  · by_cases h2 : k = j - 1
    · subst h2
      simp [h1, show j - 1 < m.length by omega]
    · simp [h1, h2, Ne.symm h1, Ne.symm h2]
theorem upBut_step {m : List W32} {i j : Nat} (h : UpBut m i j) (h0 : 0 < j) (hj : j < m.length) (hji : j ≤ i) (hlt : m.getD j 0 < m.getD (j - 1) 0) :
    UpBut ((m.set j (m.getD (j - 1) 0)).set (j - 1) (m.getD j 0)) i (j - 1) := by
  have hle : m.getD j 0 ≤ m.getD (j - 1) 0 := Nat.le_of_lt hlt
  refine ⟨fun a b h1 h2 h3 h4 => ?_, fun k h1 h2 => ?_⟩
  · rw [getD_swap h0 hj, getD_swap h0 hj, if_neg h3, if_neg h4]
    by_cases ha : a = j
    · have hb : b ≠ j := by omega
      rw [if_pos ha, if_neg hb]
      exact h.1 (j - 1) b (by omega) h2 (by omega) hb
    · rw [if_neg ha]
      by_cases hb : b = j
      · rw [if_pos hb]
        exact h.1 a (j - 1) (by omega) (by omega) ha (by omega)
      · rw [if_neg hb]
        exact h.1 a b h1 h2 ha hb
  · rw [getD_swap h0 hj, getD_swap h0 hj, if_neg (by omega), if_pos rfl]
    by_cases hk : k = j
    · rw [if_pos hk]; exact hle
    · rw [if_neg hk, if_neg (by omega)]
      exact h.2 k (by omega) h2
theorem swap_perm {m : List W32} {j : Nat} (h0 : 0 < j) (hj : j < m.length) : ((m.set j (m.getD (j - 1) 0)).set (j - 1) (m.getD j 0)).Perm m := by
  have e1 : m.getD (j - 1) 0 = m[j - 1] := by simp [show j - 1 < m.length by omega]
  have e2 : m.getD j 0 = m[j] := by simp [hj]
  rw [e1, e2]
  exact List.set_set_perm hj (by omega)
theorem sorted_of {m l : List W32} (h : UpTo m m.length) (hp : m.Perm l) : m = sorted32 l := by
  have hm : m.Pairwise (fun a b => decide (a ≤ b) = true) := by
    rw [List.pairwise_iff_getElem]
    intro a b ha hb hab
    have := h a b hab hb
    simpa [ha, hb] using this
  have hs : (sorted32 l).Pairwise (fun a b => decide (a ≤ b) = true) := by
    refine List.pairwise_mergeSort (fun a b c h1 h2 => ?_) (fun a b => ?_) l
    · simp at h1 h2 ⊢; exact Nat.le_trans h1 h2
    · simp; exact Nat.le_total a.toNat b.toNat
  refine List.Perm.eq_of_pairwise (le := fun a b => decide (a ≤ b) = true) ?_ hm hs (hp.trans (List.mergeSort_perm l _).symm)
  intro a b _ _ h1 h2
  simp at h1 h2
  exact BitVec.eq_of_toNat_eq (Nat.le_antisymm h1 h2)
theorem sorted32_length (l : List W32) : (sorted32 l).length = l.length := (List.mergeSort_perm l _).length_eq
section
variable {P : Program} {F : Fn}
theorem spec182 (ok : OkIndex P F) (st : St) (x : W32) : ACalls P (F 182) [w32 x] st fun v st' => v = .bool false ∧ st' = st := by
  refine shows_call ok.mixed ok.h182 (by simp [k182]) ?_
  simp only [k182]
  simp
theorem spec179 (ok : OkIndex P F) (st : St) (x y : W32) : ACalls P (F 179) [w32 x, w32 y] st fun v st' => v = .bool (decide (x < y)) ∧ st' = st := by
  refine shows_call ok.mixed ok.h179 (by simp [k179]) ?_
  simp only [k179]
  simp
  refine (spec182 ok st x).mono ?_
  rintro v st ⟨rfl, rfl⟩
  simp
theorem spec173 (ok : OkIndex P F) {st : St} {sid : Nat} {l : List W32} {spare : List V} (h : st sid = some (.cells (rowsOf e32 l ++ spare))) (hl : l.length ≤ 1000) (hne : l ≠ []) :
    ACalls P (F 173) [.hsl sid 0 1 l.length, .int .i64 0, .int .i64 (l.length : Nat)] st fun v st' => v = .tup [] ∧ st' = st.upd sid (.cells (rowsOf e32 (sorted32 l) ++ spare)) := by
  refine shows_call ok.mixed ok.h173 (by simp [k173]) ?_
  simp only [k173]
  simp
  refine vc_loopJ (fun c env' st' => ∃ (i : Nat) (m : List W32), 0 < i ∧ i ≤ l.length ∧ c = l.length - i ∧ m.Perm l ∧ UpTo m i ∧ env' 6 = .int .i64 (i : Nat) ∧ st' = st.upd sid (.cells (rowsOf e32 m ++ spare))) (l.length - 1) ⟨1, l, by omega, ?_, rfl, .refl _, ?_, by simp, ?_⟩ ?_
  · have := List.length_pos_iff.2 hne; omega
  · intro a b h1 h2; omega
  · funext q
    by_cases e : q = sid
    · subst e; simp [h]
    · simp [e]
  · rintro J hJ c env' st2 hsame ⟨i, m, h0, hi, rfl, hp, hu, g6, rfl⟩
    have g0 := hsame.get 0 rfl
    have g1 := hsame.get 1 rfl
    have g2 := hsame.get 2 rfl
    simp at g0 g1 g2
    clear hsame
    have hml := hp.length_eq
    by_cases hlt : i < l.length
    · simp [g0, g1, g2, g6, hlt]
      refine vc_loopJ (fun c env' st' => ∃ (j : Nat) (m' : List W32), j ≤ i ∧ c = j ∧ m'.Perm l ∧ UpBut m' i j ∧ env' 7 = .int .i64 (j : Nat) ∧ st' = st.upd sid (.cells (rowsOf e32 m' ++ spare))) i ⟨i, m, Nat.le_refl _, rfl, hp, upBut_start hu, by simp, rfl⟩ ?_
      clear hu hp hml m
      rintro J2 hJ2 j env2 st2 hsame ⟨_, m, hj, rfl, hp, hu, g7, rfl⟩
      have e0 := hsame.get 0 rfl
      have e1 := hsame.get 1 rfl
      have e2 := hsame.get 2 rfl
      have e6 := hsame.get 6 rfl
      simp [g0, g1, g2, g6] at e0 e1 e2 e6
      clear hsame
      have hml := hp.length_eq
      by_cases hj0 : 0 < j
      · have hjl : j < m.length := by omega
        obtain ⟨j', hj'⟩ : ∃ k, k = j - 1 := ⟨_, rfl⟩
        have hjl' : j' < m.length := by omega
        have s1 := rowsOf_seg e32_len m spare hjl
        have s2 := rowsOf_seg e32_len m spare hjl'
        obtain ⟨x, hx⟩ : ∃ x, x = m.getD j 0 := ⟨_, rfl⟩
        obtain ⟨y, hy⟩ : ∃ y, y = m.getD (j - 1) 0 := ⟨_, rfl⟩
        have d1 : m[j] = x := by rw [hx]; simp [hjl]
        have d2 : m[j'] = y := by rw [hy, ← hj']; simp [hjl']
        rw [d1, Nat.mul_one] at s1
        rw [d2, Nat.mul_one] at s2
        have hw : IntKind.i64.wrap ((j : Int) - 1) = (j' : Int) := by rw [wrap64 (by omega) (by omega)]; omega
        have hl1 : j < l.length := by omega
        have hl2 : j' < l.length := by omega
        have hr : (rowsOf e32 m).length = l.length := by rw [rowsOf_length e32_len, hml, Nat.mul_one]
        have p1 := rowsOf_splice e32_len m spare hjl (o := 0) (vs := [w32 y]) (by simp) (a := y) (by rw [d1]; rfl)
        have p2 := rowsOf_splice e32_len (m.set j y) spare (i := j') (by simpa using hjl') (o := 0) (vs := [w32 x]) (by simp) (a := x) (by rw [List.getElem_set_ne (by omega), d2]; rfl)
        rw [Nat.mul_one, Nat.add_zero] at p1 p2
        have hr2 : (rowsOf e32 (m.set j y)).length = l.length := by rw [rowsOf_length e32_len, List.length_set, hml, Nat.mul_one]
        have sh1 : (e32 x) = [w32 x] := rfl
        have sh2 : (e32 y) = [w32 y] := rfl
        rw [sh1] at s1
        rw [sh2] at s2
        simp [e0, e1, g7, hj0, hw, St.seg, s1, s2, hl1, hl2]
        refine (spec179 ok _ x y).mono ?_
        rintro v st3 ⟨rfl, rfl⟩
        by_cases hxy : x < y
        · simp [hxy, e0, e1, g7, hj0, hw, St.seg, s1, s2, hl1, hl2, storeS, p1, p2, hr, hr2, show j + 1 ≤ l.length + spare.length by omega, show j' + 1 ≤ l.length + spare.length by omega]
          refine Round.mk j' _ (by omega) (sub_self _) (hJ2 _ _ _ ⟨j', _, by omega, rfl, (swap_perm hj0 hjl).trans hp, ?_, by simp, ?_⟩)
          · rw [hj']
            exact upBut_step hu hj0 hjl hj (by rw [← hx, ← hy]; exact hxy)
          · rw [← hx, ← hy, ← hj']
        · have hle : y ≤ x := Nat.le_of_not_lt hxy
          have hu2 := upBut_end hu (.inr (by rw [← hx, ← hy]; exact hle)) hj
          have hw6 : IntKind.i64.wrap ((i : Int) + 1) = (i : Int) + 1 := wrap64 (by omega) (by omega)
          simp [hxy, e6, hw6]
          exact Round.mk (l.length - (i + 1)) _ (by omega) (sub_self _) (hJ _ _ _ ⟨i + 1, m, by omega, by omega, rfl, hp, hu2, by simp, rfl⟩)
      · have hjz : j = 0 := by omega
        subst hjz
        have hu2 := upBut_end hu (.inl rfl) (by omega)
        have hw6 : IntKind.i64.wrap ((i : Int) + 1) = (i : Int) + 1 := wrap64 (by omega) (by omega)
        simp [e0, e1, g7, e6, hw6]
        exact Round.mk (l.length - (i + 1)) _ (by omega) (sub_self _) (hJ _ _ _ ⟨i + 1, m, by omega, by omega, rfl, hp, hu2, by simp, rfl⟩)
    · have hil : i = l.length := by omega
      have hs : m = sorted32 l := sorted_of (by rw [hml, ← hil]; exact hu) hp
      simp [g0, g1, g2, g6, hlt, hs]
theorem spec172 (ok : OkIndex P F) {st : St} {sid : Nat} {l : List W32} {spare : List V} (h : st sid = some (.cells (rowsOf e32 l ++ spare))) (hl : l.length ≤ 12) (hne : l ≠ []) (k : Int) :
    ACalls P (F 172) [.hsl sid 0 1 l.length, .int .i64 0, .int .i64 (l.length : Nat), .int .i64 k] st fun v st' => v = .tup [] ∧ st' = st.upd sid (.cells (rowsOf e32 (sorted32 l) ++ spare)) := by
  refine shows_call ok.mixed ok.h172 (by simp [k172]) ?_
  simp only [k172]
  simp
  refine vc_unroll 1 ?_
  have hw : IntKind.i64.wrap (l.length : Int) = (l.length : Int) := wrap64 (by omega) (by omega)
  have h12 : (l.length : Int) ≤ 12 := by omega
  simp [unr_succ, hw, h12]
  refine (spec173 ok h (by omega) hne).mono ?_
  rintro v st' ⟨rfl, rfl⟩
  simp
theorem spec171 (ok : OkIndex P F) (st : St) (x : W) : ACalls P (F 171) [w64 x] st fun v st' => v = .int .i64 (bitlen x.toNat) ∧ st' = st := by
  refine shows_call ok.mixed ok.h171 (by simp [k171]) ?_
  simp only [k171]
  simp
  refine (spec115 ok.toOkHead.toOkNum st x).mono ?_
  rintro v st' ⟨rfl, rfl⟩
  simp
theorem spec165 (ok : OkIndex P F) {st : St} {sid : Nat} {l : List W32} {spare : List V} (h : st sid = some (.cells (rowsOf e32 l ++ spare))) (hl : l.length ≤ 12) (hne : l ≠ []) :
    ACalls P (F 165) [.hsl sid 0 1 l.length] st fun v st' => v = .tup [] ∧ st' = st.upd sid (.cells (rowsOf e32 (sorted32 l) ++ spare)) := by
  refine shows_call ok.mixed ok.h165 (by simp [k165]) ?_
  simp only [k165]
  have hc : convV .u64 (.int .i64 (l.length : Nat)) = some (w64 (BitVec.ofNat 64 l.length)) := by
    rw [conv_i_64]; congr 2
  simp [-conv_i_64, hc]
  refine (spec171 ok st _).mono ?_
  rintro v st' ⟨rfl, rfl⟩
  simp
  refine (spec172 ok h hl hne _).mono ?_
  rintro v st' ⟨rfl, rfl⟩
  simp
theorem spec164 (ok : OkIndex P F) {st : St} {sid : Nat} {l : List W32} {spare : List V} (h : st sid = some (.cells (rowsOf e32 l ++ spare))) (hl : l.length ≤ 12) (hne : l ≠ []) :
    ACalls P (F 164) [.hsl sid 0 1 l.length] st fun v st' => v = w32 (middle32 l) ∧ st' = st.upd sid (.cells (rowsOf e32 (sorted32 l) ++ spare)) := by
  refine shows_call ok.mixed ok.h164 (by simp [k164]) ?_
  simp only [k164]
  simp
  refine (spec165 ok h hl hne).mono ?_
  rintro v st' ⟨rfl, rfl⟩
  have hpos := List.length_pos_iff.2 hne
  have hd : (l.length : Int).tdiv 2 = ((l.length / 2 : Nat) : Int) := by rw [Int.tdiv_eq_ediv_of_nonneg (by omega)]; omega
  have hw : IntKind.i64.wrap ((l.length : Int) / 2) = ((l.length / 2 : Nat) : Int) := by rw [wrap64 (by omega) (by omega)]; omega
  have hlt : l.length / 2 < (sorted32 l).length := by rw [sorted32_length]; omega
  have hs := rowsOf_seg e32_len (sorted32 l) spare hlt
  have hm : (sorted32 l)[l.length / 2] = middle32 l := by simp [middle32, hlt]
  rw [hm, Nat.mul_one, show e32 (middle32 l) = [w32 (middle32 l)] from rfl] at hs
  obtain ⟨k, hk⟩ : ∃ k, k = l.length / 2 := ⟨_, rfl⟩
  rw [← hk] at hd hw hs
  have hkl : k < l.length := by omega
  simp [hw, hkl, St.seg, hs]
end
end Go.Ab
set_option linter.unusedSimpArgs false
set_option linter.unusedVariables false
set_option maxRecDepth 10000
namespace Go.Ab
open Go Go.RowKit
theorem sB_idx (l : List UInt8) (k : IntKind) {i : Nat} (h : i < l.length) : idxStrV (sB l) (.int k (i : Int)) = some (w8 l[i]) := idxStr_w ⟨l.toArray⟩ k (i := i) h
theorem low8_64 (x : W) : (x % 256#64).setWidth 8 = x.setWidth 8 := by
  apply BitVec.eq_of_toNat_eq
  simp only [BitVec.toNat_setWidth, BitVec.toNat_umod]
  show x.toNat % 256 % 256 = x.toNat % 256
  omega
theorem div8_64 (x : W) : x / 256#64 = x >>> 8 := by
  apply BitVec.eq_of_toNat_eq
  rw [BitVec.toNat_udiv, BitVec.toNat_ushiftRight, Nat.shiftRight_eq_div_pow]; rfl
theorem sh8_64 (x : W) (a : Nat) : x >>> a >>> 8 = x >>> (a + 8) := by rw [← BitVec.shiftRight_add]
theorem rd_full {α : Type} {f : α → List V} {sz : Nat} (l : List α) (st : St) {n : Nat} (hn : n = l.length) : Rd sz f (.sl .full (rowsOf f l) n) l st := .inl ⟨.full, by rw [hn]⟩
theorem onV_fill {z : List V} {ps : List (Nat × Nat × V)} {cs : List V} {n : Nat} {K : V → St → Prop} {st : St} (h : fillV z ps = some cs) (hk : K (.sl .full cs n) st) : onV ((fillV z ps).map fun cs => .sl .full cs n) K st := by
  rw [h]; exact hk
section
variable {P : Program} {F : Fn}
theorem spec131 (ok : OkRef01 P F) (st : St) : ACalls P (F 131) [] st fun v st' => v = .sl .full (rowsOf e32 shaK) 64 ∧ st' = st := by
  refine shows_call ok.mixed ok.h131 (by simp [k131]) ?_
  simp only [k131]
  simp only [vc_seq, vc_ops, runP_cons0, step_mv, runK_ap, env_put_some, runP_nil, seqK_n, step_bsl, X.ev, List.map_cons, List.map_nil]
  refine onV_fill (cs := rowsOf e32 shaK) rfl ?_
  simp
theorem spec132 (ok : OkRef01 P F) (st : St) (x : W32) (n : Nat) (hn : n < 32) {k : Int} (hk : k = (n : Int)) : ACalls P (F 132) [w32 x, .int .i64 k] st fun v st' => v = w32 (ror x n) ∧ st' = st := by
  subst hk
  refine shows_call ok.mixed ok.h132 (by simp [k132]) ?_
  simp only [k132]
  simp
  rw [← turnM_ror x n hn]
  refine vc_loopJ (fun k env' st' => ∃ i : Nat, i ≤ n ∧ k = n - i ∧ env' 5 = .int .i64 (i : Nat) ∧ env' 0 = w32 (turnM i x) ∧ st' = st) n
    ⟨0, by omega, by omega, rfl, rfl, rfl⟩ ?_
  rintro J hJ k env' st2 hsame ⟨i, hi, rfl, h5, h0, rfl⟩
  have g1 := hsame.get 1 rfl
  simp at g1
  clear hsame
  have w1 : IntKind.i64.wrap ((i : Int) + 1) = (i : Int) + 1 := wrap64 (by omega) (by omega)
  by_cases hlt : i < n
  · have e : turnM (i + 1) x = turnM i x / 2#32 + turnM i x % 2#32 * 2147483648#32 := rfl
    simp [g1, h5, h0, hlt, w1]
    exact Round.mk (n - (i + 1)) _ (by omega) (sub_self _) (hJ _ _ _ ⟨i + 1, by omega, rfl, by simp, by simp [e], rfl⟩)
  · have : i = n := by omega
    subst this
    simp [g1, h5, h0]
theorem spec133 (ok : OkRef01 P F) (st : St) (x : W32) (n : Nat) (hn : n < 32) {k : Int} (hk : k = (n : Int)) : ACalls P (F 133) [w32 x, .int .i64 k] st fun v st' => v = w32 (x >>> n) ∧ st' = st := by
  subst hk
  refine shows_call ok.mixed ok.h133 (by simp [k133]) ?_
  simp only [k133]
  simp
  rw [← lowM_shr x n]
  refine vc_loopJ (fun k env' st' => ∃ i : Nat, i ≤ n ∧ k = n - i ∧ env' 5 = .int .i64 (i : Nat) ∧ env' 0 = w32 (lowM i x) ∧ st' = st) n
    ⟨0, by omega, by omega, rfl, rfl, rfl⟩ ?_
  rintro J hJ k env' st2 hsame ⟨i, hi, rfl, h5, h0, rfl⟩
  have g1 := hsame.get 1 rfl
  simp at g1
  clear hsame
  have w1 : IntKind.i64.wrap ((i : Int) + 1) = (i : Int) + 1 := wrap64 (by omega) (by omega)
  by_cases hlt : i < n
  · have e : lowM (i + 1) x = lowM i x / 2#32 := rfl
    simp [g1, h5, h0, hlt, w1]
    exact Round.mk (n - (i + 1)) _ (by omega) (sub_self _) (hJ _ _ _ ⟨i + 1, by omega, rfl, by simp, by simp [e], rfl⟩)
  · have : i = n := by omega
    subst this
    simp [g1, h5, h0]
end
end Go.Ab

import Derived.Test.YtgodabkifdmfcaaGreatJ5
import Derived.Test.YtgodabkifdmfcaaGreatJ4
/-
  num: quotients; numbers of bytes.
-/
set_option linter.unusedSimpArgs false
set_option linter.unusedVariables false
set_option maxRecDepth 10000
namespace Go.Ab
open Go Go.RowKit
section
variable {P : Program} {F : Fn}

theorem limb_bit (x : U) (j i : Nat) (hi : i < 64) : (limb x j).getLsbD i = x.getLsbD (64 * j + i) := by
  have e : (18446744073709551616 : Nat) ^ j = 2 ^ (64 * j) := by
    rw [Nat.pow_mul]
  rw [limb, e, BitVec.getLsbD_ofNat, decide_eq_true hi, Bool.true_and, Nat.testBit_div_two_pow, BitVec.getLsbD, Nat.add_comm]
theorem limb_or (x y : U) (j : Nat) : limb (x ||| y) j = limb x j ||| limb y j := by
  apply BitVec.eq_of_getLsbD_eq
  intro i hi
  rw [BitVec.getLsbD_or, limb_bit _ _ _ hi, limb_bit _ _ _ hi, limb_bit _ _ _ hi, BitVec.getLsbD_or]
theorem u_ext {x y : U} (h : ∀ j, j < 4 → limb x j = limb y j) : x = y := by
  rw [← u4_limb x, ← u4_limb y, h 0 (by omega), h 1 (by omega), h 2 (by omega), h 3 (by omega)]
/-- One word of a number is or-ed with something. -/
theorem splice_or (x y : U) {j : Nat} (hj : j < 4) (hy : ∀ k, k < 4 → k ≠ j → limb y k = 0#64) : spliceV (eU x) j [w64 (limb x j ||| limb y j)] = eU (x ||| y) := by
  have e : ∀ k, k < 4 → limb (x ||| y) k = if k = j then limb x j ||| limb y j else limb x k := fun k hk => by
    rw [limb_or]
    split
    · rename_i h; rw [h]
    · rename_i h; rw [hy k hk h, BitVec.or_zero]
  simp only [eU, e 0 (by omega), e 1 (by omega), e 2 (by omega), e 3 (by omega)]
  have : j = 0 ∨ j = 1 ∨ j = 2 ∨ j = 3 := by omega
  rcases this with rfl | rfl | rfl | rfl <;> rfl
theorem seg_limb (x : U) {j : Nat} (hj : j < 4) : segOf (eU x) j 1 = some [w64 (limb x j)] := by
  have : j = 0 ∨ j = 1 ∨ j = 2 ∨ j = 3 := by omega
  rcases this with rfl | rfl | rfl | rfl <;> rfl
def putU (v : W) (i : Nat) : U := v.setWidth 256 <<< i
theorem limb_put (v : W) (q r k : Nat) (hr : r < 64) (hk : k < 4) (hv : v.toNat < 2 ^ (64 - r)) : limb (putU v (64 * q + r)) k = if k = q then v <<< r else 0#64 := by
  have zero : ∀ t, 64 - r ≤ t → v.getLsbD t = false := fun t ht => by
    rw [BitVec.getLsbD]
    exact Nat.testBit_lt_two_pow (Nat.lt_of_lt_of_le hv (Nat.pow_le_pow_right (by omega) ht))
  apply BitVec.eq_of_getLsbD_eq
  intro t ht
  rw [limb_bit _ _ _ ht, putU, BitVec.getLsbD_shiftLeft, BitVec.getLsbD_setWidth]
  rw [decide_eq_true (show 64 * k + t < 256 by omega), Bool.true_and]
  split
  · rename_i h
    subst h
    rw [BitVec.getLsbD_shiftLeft, decide_eq_true ht, Bool.true_and]
    by_cases h2 : t < r
    · simp [h2]
    · rw [decide_eq_false (show ¬ 64 * k + t < 64 * k + r by omega), decide_eq_false h2, decide_eq_true (show 64 * k + t - (64 * k + r) < 256 by omega), show 64 * k + t - (64 * k + r) = t - r by omega]
      simp
  · rename_i h
    rcases Nat.lt_or_gt_of_ne h with h2 | h2
    · rw [decide_eq_true (show 64 * k + t < 64 * q + r by omega)]
      simp
    · rw [zero _ (show 64 - r ≤ 64 * k + t - (64 * q + r) by omega)]
      simp
theorem put_nat (v : W) (i : Nat) : (putU v i).toNat = v.toNat * 2 ^ i % 2 ^ 256 := by
  have := v.isLt
  rw [putU, BitVec.toNat_shiftLeft, Nat.shiftLeft_eq, BitVec.toNat_setWidth, Nat.mod_eq_of_lt (show v.toNat < 2 ^ 256 from Nat.lt_of_lt_of_le this (Nat.pow_le_pow_right (by omega) (by omega)))]

/-! ### Div -/
theorem eU_zero0 : [w64 0, w64 0, w64 0, w64 0] = eU 0#256 := eU_zero
theorem or_put {x : U} {v : W} {i : Nat} (hx : x.toNat < 2 ^ i) (hs : v.toNat * 2 ^ i < 2 ^ 256) : (x ||| putU v i).toNat = v.toNat * 2 ^ i + x.toNat := by
  rw [BitVec.toNat_or, put_nat, Nat.mod_eq_of_lt hs, Nat.or_comm]
  exact or_disj _ _ _ hx
theorem or_low {x : U} {i : Nat} (hx : x.toNat % 2 ^ (i + 1) = 0) (hi : i < 256) : (x ||| putU 1#64 i).toNat = x.toNat + 2 ^ i := by
  have h1 : 2 ^ i < 2 ^ 256 := Nat.pow_lt_pow_right (by omega) hi
  have e1 : (1#64 : W).toNat = 1 := rfl
  rw [BitVec.toNat_or, put_nat, e1, Nat.one_mul, Nat.mod_eq_of_lt h1]
  have e : x.toNat = x.toNat / 2 ^ (i + 1) * 2 ^ (i + 1) := by
    have := Nat.div_add_mod x.toNat (2 ^ (i + 1))
    rw [hx, Nat.add_zero, Nat.mul_comm] at this
    exact this.symm
  rw [e]
  exact or_disj _ _ _ (Nat.pow_lt_pow_right (by omega) (by omega))
def divU (x y : U) : U := BitVec.ofNat 256 (x.toNat / y.toNat)
def modU (x y : U) : U := BitVec.ofNat 256 (x.toNat % y.toNat)
theorem bitlen_ge {n : Nat} (h : 0 < n) : 2 ^ (bitlen n - 1) ≤ n := by
  have := bitlen_pos.2 h
  exact bitlen_lt.1 (by omega)
theorem div_start {x y : Nat} (hy : 0 < y) (h : bitlen y ≤ bitlen x) : x < y * 2 ^ (bitlen x - bitlen y + 1) := by
  have h1 := lt_bitlen x
  have h2 := bitlen_ge hy
  have h3 := bitlen_pos.2 hy
  calc x < 2 ^ bitlen x := h1
    _ = 2 ^ (bitlen y - 1) * 2 ^ (bitlen x - bitlen y + 1) := by rw [← Nat.pow_add]; congr 1; omega
    _ ≤ y * 2 ^ (bitlen x - bitlen y + 1) := Nat.mul_le_mul_right _ h2
theorem div_none {x y : Nat} (h : bitlen x < bitlen y) : x < y := by
  have h1 := lt_bitlen x
  have : 2 ^ bitlen x ≤ y := bitlen_lt.1 h
  omega
theorem div_fit {x y i : Nat} (hy : 0 < y) (hx : x < 2 ^ 256) (h : i + bitlen y ≤ bitlen x) : y * 2 ^ i < 2 ^ 256 := by
  have h1 := lt_bitlen y
  have h2 : bitlen x ≤ 256 := bitlen_le.2 hx
  calc y * 2 ^ i < 2 ^ bitlen y * 2 ^ i := Nat.mul_lt_mul_of_pos_right h1 (Nat.two_pow_pos i)
    _ = 2 ^ (bitlen y + i) := (Nat.pow_add _ _ _).symm
    _ ≤ 2 ^ 256 := Nat.pow_le_pow_right (by omega) (by omega)

set_option maxHeartbeats 2000000 in
theorem spec116 (ok : OkNum P F) (st : St) (x y : U) : ACalls P (F 116) [nU x, nU y] st fun v st' => v = (if y = 0#256 then .tup [nU 0#256, nU 0#256, .int .i64 1] else .tup [nU (divU x y), nU (modU x y), .int .i64 0]) ∧ st' = st := by
  refine shows_call ok.mixed ok.h116 (by simp [k116]) ?_
  simp only [k116, nU, eU_zero0]
  simp
  intro i2 h2
  have S := (Sep.start st).new h2 (.cells (eU x))
  generalize st.upd i2 _ = st1 at S ⊢
  intro i3 h3
  have S := S.new h3 (.cells (eU y))
  generalize st1.upd i3 _ = st2 at S ⊢
  simp
  intro i4 h4
  have S := S.new h4 (.cells (eU 0#256))
  generalize st2.upd i4 _ = st3 at S ⊢
  simp
  intro i5 h5
  have S := S.new h5 (.cells (eU 0#256))
  generalize st3.upd i5 _ = st4 at S ⊢
  have o3 := S.mem (i := i3) (o := .cells (eU y)) (by simp)
  have o4 := S.mem (i := i4) (o := .cells (eU 0#256)) (by simp)
  have o5 := S.mem (i := i5) (o := .cells (eU 0#256)) (by simp)
  have n45 : i5 ≠ i4 := S.ne
  have hsp : ∀ x y : U, spliceV (eU x) 0 (eU y) = eU y := fun _ _ => rfl
  simp [St.seg, o3, segU]
  refine (spec107 ok st4 y).mono ?_
  rintro v s ⟨rfl, rfl⟩
  by_cases hy0 : y = 0#256
  · have hz : fillV (eU 0#256) [] = some (eU 0#256) := rfl
    simp [hy0, hz, storeS, o4, o5, n45, n45.symm, hsp, eU_len, St.seg, segU]
    have S := (S.setAt (.cells (eU 0#256)) 1 rfl).setAt (.cells (eU 0#256)) 0 rfl
    exact S.was' (st0 := st) (by simp)
  · have ypos : 0 < y.toNat := by
      have : y.toNat ≠ 0 := fun e => hy0 (BitVec.eq_of_toNat_eq e)
      omega
    simp [hy0]
    intro i7 h7
    have S := S.new h7 (.cells (eU 0#256))
    generalize s.upd i7 _ = s2 at S ⊢
    have o2 := S.mem (i := i2) (o := .cells (eU x)) (by simp)
    have o3 := S.mem (i := i3) (o := .cells (eU y)) (by simp)
    simp [St.seg, o2, o3, segU]
    refine ⟨_, spec114 ok s2 x, ?_⟩
    simp [St.seg, o2, o3, segU]
    refine ⟨_, spec114 ok s2 y, ?_⟩
    have bx : bitlen x.toNat ≤ 256 := bitlen_le.2 x.isLt
    have hby := bitlen_pos.2 ypos
    have by' : bitlen y.toNat ≤ 256 := bitlen_le.2 y.isLt
    have w1 : IntKind.i64.wrap ((bitlen x.toNat : Int) - bitlen y.toNat) = (bitlen x.toNat : Int) - bitlen y.toNat := wrap64 (by omega) (by omega)
    simp [w1]
    refine vc_loopJ (fun k env' st' => ∃ a q : U, (∃ j : Int, env' 8 = .int .i64 j ∧ (j + 1 = (k : Int) ∨ j < 0 ∧ k = 0)) ∧ k ≤ 256 ∧ (k ≠ 0 → k + bitlen y.toNat ≤ bitlen x.toNat + 1) ∧ a.toNat < y.toNat * 2 ^ k ∧ q.toNat % 2 ^ k = 0 ∧ x.toNat = q.toNat * y.toNat + a.toNat ∧
        Sep [pt i7 (.cells (eU q)), pt i5 (.cells (eU 0#256)), pt i4 (.cells (eU 0#256)), pt i3 (.cells (eU y)), pt i2 (.cells (eU a)), Was st] st') (bitlen x.toNat + 1 - bitlen y.toNat) ?_ ?_
    · by_cases hb : bitlen y.toNat ≤ bitlen x.toNat
      · refine ⟨x, 0#256, ⟨_, rfl, by omega⟩, by omega, fun _ => by omega, ?_, by simp, by simp, S⟩
        have := div_start ypos hb
        rw [show bitlen x.toNat + 1 - bitlen y.toNat = bitlen x.toNat - bitlen y.toNat + 1 by omega]
        exact this
      · refine ⟨x, 0#256, ⟨_, rfl, by omega⟩, by omega, fun _ => by omega, ?_, by simp, by simp, S⟩
        rw [show bitlen x.toNat + 1 - bitlen y.toNat = 0 by omega, Nat.pow_zero, Nat.mul_one]
        exact div_none (by omega)
    rintro J hJ k env' st5 hsame ⟨a, q, ⟨j, h8, hj⟩, hk, hkl, ha, hq, hx, S⟩
    have g2 := hsame.get 2 rfl
    have g3 := hsame.get 3 rfl
    have g4 := hsame.get 4 rfl
    have g5 := hsame.get 5 rfl
    have g7 := hsame.get 7 rfl
    simp at g2 g3 g4 g5 g7
    clear hsame
    have o2 := S.mem (i := i2) (o := .cells (eU a)) (by simp)
    have o3 := S.mem (i := i3) (o := .cells (eU y)) (by simp)
    have o7 := S.mem (i := i7) (o := .cells (eU q)) (by simp)
    by_cases hk0 : k = 0
    · subst hk0
      have hjn : ¬ 0 ≤ j := by omega
      simp [h8, hjn]
      have n74 := S.neq (i := i7) (j := i4) 0 2 rfl rfl (by omega)
      have n75 := S.neq (i := i7) (j := i5) 0 1 rfl rfl (by omega)
      have n54 := S.neq (i := i5) (j := i4) 1 2 rfl rfl (by omega)
      have n42 := S.neq (i := i4) (j := i2) 2 4 rfl rfl (by omega)
      have n52 := S.neq (i := i5) (j := i2) 1 4 rfl rfl (by omega)
      have o4 := S.mem (i := i4) (o := .cells (eU 0#256)) (by simp)
      have o5 := S.mem (i := i5) (o := .cells (eU 0#256)) (by simp)
      rw [Nat.pow_zero, Nat.mul_one] at ha
      have eq1 : q = divU x y := by
        rw [divU, hx, Nat.add_comm, Nat.add_mul_div_right _ _ ypos, Nat.div_eq_of_lt ha, Nat.zero_add, BitVec.ofNat_toNat, BitVec.setWidth_eq]
      have eq2 : a = modU x y := by
        rw [modU, hx, Nat.add_comm, Nat.add_mul_mod_self_right, Nat.mod_eq_of_lt ha, BitVec.ofNat_toNat, BitVec.setWidth_eq]
      refine ⟨?_, ?_⟩
      · intro p hp
        simp only [List.mem_cons, List.not_mem_nil, or_false] at hp
        rcases hp with rfl | rfl | rfl | rfl
        · simpa [g7, g4, apartV] using n74
        · simpa [g7, g5, apartV] using n75
        · simpa [g2, g4, apartV] using n42.symm
        · simpa [g2, g5, apartV] using n52.symm
      · have T := (S.setAt (.cells (eU q)) 2 rfl).setAt (.cells (eU a)) 1 rfl
        simp [g7, g2, g4, g5, St.seg, o7, o2, o4, o5, segU, storeS, eU_len, hsp, n54, n54.symm, n74, n74.symm, n75, n75.symm, n42, n42.symm, n52, n52.symm, ← eq1, ← eq2]
        exact T.was' (by simp)
    · obtain ⟨i, rfl⟩ : ∃ i, k = i + 1 := ⟨k - 1, by omega⟩
      have hji : j = (i : Int) := by omega
      subst hji
      simp [h8, g2, g3, g4, g5, g7, St.seg, o3, segU]
      refine (spec112 ok st5 y i).mono ?_
      rintro v st5 ⟨rfl, rfl⟩
      simp
      intro i9 h9
      have n92 : i9 ≠ i2 := fun e => by rw [e, o2] at h9; cases h9
      have n93 : i9 ≠ i3 := fun e => by rw [e, o3] at h9; cases h9
      have n97 : i9 ≠ i7 := fun e => by rw [e, o7] at h9; cases h9
      have n72 := S.neq (i := i7) (j := i2) 0 4 rfl rfl (by omega)
      have hfit := div_fit ypos x.isLt (show i + bitlen y.toNat ≤ bitlen x.toNat by omega)
      have hsh : (shlU y i).toNat = y.toNat * 2 ^ i := by
        rw [shlU, if_neg (by omega), Int.toNat_natCast, BitVec.toNat_shiftLeft, Nat.shiftLeft_eq, Nat.mod_eq_of_lt hfit]
      have T := S.new h9 (.cells (eU (shlU y i)))
      have hst9 : storeS (st5.upd i9 (.cells (eU 0#256))) 4 (.ptr (some (i9, 0))) (nU (shlU y i)) = some (st5.upd i9 (.cells (eU (shlU y i)))) := by
        simp [storeS, nU, eU_len, hsp]
      simp [hst9, n92.symm, St.seg, segU, g2, o2]
      have hcmp : decide (cmpU (shlU y i) a ≤ 0) = decide (y.toNat * 2 ^ i ≤ a.toNat) := by
        congr 1
        rw [← hsh, eq_iff_iff]
        unfold cmpU
        constructor
        · intro h
          split at h
          · omega
          · split at h
            · rename_i e; rw [e]; exact Nat.le_refl _
            · omega
        · intro h
          split
          · omega
          · rename_i h1
            have : shlU y i = a := BitVec.eq_of_toNat_eq (by omega)
            rw [if_pos this]
            omega
      refine (spec106 ok (st5.upd i9 (.cells (eU (shlU y i)))) (shlU y i) a).mono ?_
      rintro v s ⟨rfl, rfl⟩
      simp [hcmp]
      by_cases hle : y.toNat * 2 ^ i ≤ a.toNat
      · simp [hle, g2, n92.symm, St.seg, segU, o2]
        refine (spec109 ok (st5.upd i9 (.cells (eU (shlU y i)))) a (shlU y i)).mono ?_
        rintro v s ⟨rfl, rfl⟩
        have hsub2 : ∀ z : U, storeS (st5.upd i9 (.cells (eU (shlU y i)))) 4 (.ptr (some (i2, 0))) (nU z) = some ((st5.upd i9 (.cells (eU (shlU y i)))).upd i2 (.cells (eU z))) := fun z => by
          simp [storeS, nU, eU_len, hsp, n92.symm, o2]
        obtain ⟨qq, r, hr, hi⟩ : ∃ qq r, r < 64 ∧ i = 64 * qq + r := ⟨i / 64, i % 64, Nat.mod_lt _ (by omega), by omega⟩
        have hqq : qq < 4 := by omega
        have e1 : Int.tdiv (i : Int) 64 = (qq : Int) := by rw [Int.tdiv_eq_ediv_of_nonneg (by omega)]; omega
        have e2 : Int.tmod (i : Int) 64 = (r : Int) := by rw [Int.tmod_eq_emod_of_nonneg (by omega)]; omega
        have wq : IntKind.i64.wrap (qq : Int) = qq := wrap64 (by omega) (by omega)
        have hR : (BitVec.ofNat 64 r).toNat = r := by rw [BitVec.toNat_ofNat]; exact Nat.mod_eq_of_lt (by omega)
        have hconv : convV .u64 (.int .i64 (r : Int)) = some (w64 (BitVec.ofNat 64 r)) := by rw [conv_i_64, BitVec.ofInt_natCast]
        have hidx := idxArr_ptr 4 i7 (z := (qq : Int)) (j := qq) rfl hqq
        have hone : (1#64 : W).toNat < 2 ^ (64 - r) := by
          show 1 < 2 ^ (64 - r)
          exact Nat.one_lt_two_pow (by omega)
        have hput : ∀ k, k < 4 → limb (putU 1#64 i) k = if k = qq then 1#64 <<< r else 0#64 := fun k hk => by
          rw [hi]; exact limb_put 1#64 qq r k hr hk hone
        have hspl : spliceV (eU q) qq [w64 (limb q qq ||| 1#64 <<< r)] = eU (q ||| putU 1#64 i) := by
          have := splice_or q (putU 1#64 i) hqq (fun k hk hne => by rw [hput k hk, if_neg hne])
          rwa [hput qq hqq, if_pos rfl] at this
        have wi : IntKind.i64.wrap ((i : Int) - 1) = (i : Int) - 1 := wrap64 (by omega) (by omega)
        have hql : qq + 1 ≤ 4 := hqq
        have hst7 : ∀ s7 : St, s7 i7 = some (.cells (eU q)) → storeS s7 1 (.ptr (some (i7, qq))) (w64 (limb q qq ||| 1#64 <<< r)) = some (s7.upd i7 (.cells (eU (q ||| putU 1#64 i)))) := fun s7 h => by
          simp [storeS, h, eU_len, hql, hspl]
        simp [hsub2, h8, e1, e2, wq, g2, g7, hidx, hst7, St.seg, n97.symm, n72, o7, seg_limb q hqq, hconv, -conv_i_64, hR, wi]
        have hk2 := or_low hq (show i < 256 by omega)
        have hp2 : y.toNat * 2 ^ (i + 1) = 2 * (y.toNat * 2 ^ i) := by rw [Nat.pow_succ, ← Nat.mul_assoc, Nat.mul_comm]
        have hYq : (q.toNat + 2 ^ i) * y.toNat = q.toNat * y.toNat + y.toNat * 2 ^ i := by rw [Nat.add_mul, Nat.mul_comm (2 ^ i)]
        have hsubn : (a - shlU y i).toNat = a.toNat - y.toNat * 2 ^ i := by
          rw [BitVec.toNat_sub_of_le (by rw [BitVec.le_def, hsh]; exact hle), hsh]
        have T2 := ((T.setAt (.cells (eU (a - shlU y i))) 5 rfl).setAt (.cells (eU (q ||| putU 1#64 i))) 1 rfl).drop
        refine Round.mk i _ (Nat.lt_succ_self i) (sub_self _) (hJ _ _ _ ⟨a - shlU y i, q ||| putU 1#64 i, ⟨(i : Int) - 1, by simp, by omega⟩, by omega, fun h => by omega, ?_, ?_, ?_, T2⟩)
        · rw [hsubn]
          rw [hp2] at ha
          generalize y.toNat * 2 ^ i = Y at *
          omega
        · rw [hk2, Nat.add_mod_right]
          exact Nat.mod_eq_zero_of_dvd (Nat.dvd_trans (Nat.pow_dvd_pow 2 (Nat.le_succ i)) (Nat.dvd_of_mod_eq_zero hq))
        · rw [hk2, hsubn, hYq, hx]
          generalize y.toNat * 2 ^ i = Y at *
          omega
      · have wi : IntKind.i64.wrap ((i : Int) - 1) = (i : Int) - 1 := wrap64 (by omega) (by omega)
        simp [hle, h8, wi]
        refine Round.mk i _ (Nat.lt_succ_self i) (sub_self _) (hJ _ _ _ ⟨a, q, ⟨(i : Int) - 1, by simp, by omega⟩, by omega, fun h => by omega, by omega, ?_, hx, T.drop⟩)
        exact Nat.mod_eq_zero_of_dvd (Nat.dvd_trans (Nat.pow_dvd_pow 2 (Nat.le_succ i)) (Nat.dvd_of_mod_eq_zero hq))

/-! ### FromID -/
theorem leN_append : ∀ a b : List UInt8, leN (a ++ b) = leN a + 256 ^ a.length * leN b
  | [], b => by simp [leN]
  | x :: a, b => by
    have ih := leN_append a b
    simp only [List.cons_append, leN, ih, List.length_cons, Nat.pow_succ]
    rw [Nat.mul_add, ← Nat.mul_assoc, Nat.mul_comm 256 (256 ^ a.length)]
    omega
theorem idx_id (x : Id) (k : IntKind) {i : Nat} (hi : i < 32) : idxV 32 false 1 (.agg (eId x)) (.int k (i : Int)) = some (w8 (x.toList[i]'(by simpa using hi))) := by
  simp only [idxV]
  rw [if_pos (by omega), Int.toNat_natCast, Nat.mul_one, segOf, if_pos (by rw [eId_len]; omega), List.drop_eq_getElem_cons (by rw [eId_len]; exact hi)]
  simp [packV, eId, w8]
theorem segId (x : Id) : segOf (eId x) 0 32 = some (eId x) := by
  rw [segOf, if_pos (by rw [eId_len]; omega), List.drop_zero, List.take_of_length_le (by rw [eId_len]; omega)]
set_option maxHeartbeats 1000000 in
theorem spec117 (ok : OkNum P F) (st : St) (x : Id) : ACalls P (F 117) [.agg (eId x)] st fun v st' => v = nU (BitVec.ofNat 256 (idN x)) ∧ st' = st := by
  refine shows_call ok.mixed ok.h117 (by simp [k117]) ?_
  simp only [k117, nU, eU_zero0]
  simp
  intro i1 h1
  have S := (Sep.start st).new h1 (.cells (eId x))
  generalize st.upd i1 _ = st1 at S ⊢
  simp
  intro i2 h2
  have S := S.new h2 (.cells (eU 0#256))
  generalize st1.upd i2 _ = st2 at S ⊢
  simp
  intro i3 h3
  have S := S.new h3 (.cells (eU 0#256))
  generalize st2.upd i3 _ = st3 at S ⊢
  have o1 := S.mem (i := i1) (o := .cells (eId x)) (by simp)
  simp [St.seg, o1, segId]
  refine vc_loopJ (fun k env' st' => ∃ i, i ≤ 32 ∧ k = 32 - i ∧ env' 7 = .int .i64 (i : Nat) ∧ Sep [pt i3 (.cells (eU (BitVec.ofNat 256 (leN (x.toList.take i))))), pt i2 (.cells (eU 0#256)), pt i1 (.cells (eId x)), Was st] st') 32
    ⟨0, by omega, by omega, rfl, S⟩ ?_
  clear S
  rintro J hJ k env' st4 hsame ⟨i, hi, rfl, h7, S⟩
  have g2 := hsame.get 2 rfl
  have g3 := hsame.get 3 rfl
  have g6 := hsame.get 6 rfl
  simp at g2 g3 g6
  clear hsame
  have hsp : ∀ x y : U, spliceV (eU x) 0 (eU y) = eU y := fun _ _ => rfl
  have hxl : x.toList.length = 32 := by simp
  have n32 := S.neq (i := i3) (j := i2) 0 1 rfl rfl (by omega)
  by_cases hlt : i < 32
  · have hlt' : (i : Int) < 32 := by omega
    have hix := idx_id x .i64 hlt
    obtain ⟨b, hb⟩ : ∃ b, b = x.toList[i] := ⟨_, rfl⟩
    rw [← hb] at hix
    obtain ⟨m, hm⟩ : ∃ m, m = leN (x.toList.take i) := ⟨_, rfl⟩
    have hml : m < 2 ^ (8 * i) := by
      have := leN_lt (x.toList.take i)
      rw [List.length_take, hxl, Nat.min_eq_left hi, ← hm] at this
      rwa [Nat.pow_mul]
    have hnx : leN (x.toList.take (i + 1)) = b.toNat * 2 ^ (8 * i) + m := by
      rw [List.take_succ_eq_append_getElem (by omega), leN_append, ← hm, ← hb, List.length_take, hxl, Nat.min_eq_left hi, leN, leN, Nat.pow_mul, Nat.mul_zero, Nat.add_zero, Nat.mul_comm, Nat.add_comm]
    rw [← hm] at S
    have o3 := S.get
    have hp256 : 2 ^ (8 * i) ≤ 2 ^ 248 := Nat.pow_le_pow_right (by omega) (by omega)
    have hbl := b.toNat_lt
    obtain ⟨q, hqq⟩ : ∃ q, q = i / 8 := ⟨_, rfl⟩
    obtain ⟨p, hpp⟩ : ∃ p, p = i % 8 := ⟨_, rfl⟩
    obtain ⟨r, hr⟩ : ∃ r, r = 8 * p := ⟨_, rfl⟩
    have e1 : Int.tdiv (i : Int) 8 = (q : Int) := by rw [Int.tdiv_eq_ediv_of_nonneg (by omega)]; omega
    have e2 : Int.tmod (i : Int) 8 = (p : Int) := by rw [Int.tmod_eq_emod_of_nonneg (by omega)]; omega
    have w1 : IntKind.i64.wrap (q : Int) = (q : Int) := wrap64 (by omega) (by omega)
    have w2 : IntKind.i64.wrap (8 * (p : Int)) = (r : Int) := by rw [wrap64 (by omega) (by omega)]; omega
    have w3 : IntKind.i64.wrap ((i : Int) + 1) = (i : Int) + 1 := wrap64 (by omega) (by omega)
    have hR : (BitVec.ofNat 64 r).toNat = r := by rw [BitVec.toNat_ofNat]; exact Nat.mod_eq_of_lt (by omega)
    have hconv : convV .u64 (.int .i64 ((r : Nat) : Int)) = some (w64 (BitVec.ofNat 64 r)) := by rw [conv_i_64, BitVec.ofInt_natCast]
    have hidx := idxArr_ptr 4 i3 (z := ((q : Nat) : Int)) (j := q) rfl (by omega)
    have hv : (b.toBitVec.setWidth 64).toNat = b.toNat := by
      rw [BitVec.toNat_setWidth]
      exact Nat.mod_eq_of_lt (Nat.lt_of_lt_of_le hbl (by decide))
    have hv2 : (b.toBitVec.setWidth 64).toNat < 2 ^ (64 - r) := by
      rw [hv]
      calc b.toNat < 2 ^ 8 := hbl
        _ ≤ 2 ^ (64 - r) := Nat.pow_le_pow_right (by omega) (by omega)
    have hi8 : 8 * i = 64 * q + r := by omega
    have hput : ∀ k, k < 4 → limb (putU (b.toBitVec.setWidth 64) (8 * i)) k = if k = q then b.toBitVec.setWidth 64 <<< r else 0#64 := fun k hk => by
      rw [hi8]; exact limb_put _ q r k (by omega) hk hv2
    have hspl : spliceV (eU (BitVec.ofNat 256 m)) q [w64 (limb (BitVec.ofNat 256 m) q ||| b.toBitVec.setWidth 64 <<< r)] = eU (BitVec.ofNat 256 m ||| putU (b.toBitVec.setWidth 64) (8 * i)) := by
      have := splice_or (BitVec.ofNat 256 m) (putU (b.toBitVec.setWidth 64) (8 * i)) (j := q) (by omega) (fun k hk hne => by rw [hput k hk, if_neg hne])
      rwa [hput q (by omega), if_pos rfl] at this
    have hM : (BitVec.ofNat 256 m).toNat = m := by
      rw [BitVec.toNat_ofNat]
      exact Nat.mod_eq_of_lt (Nat.lt_of_lt_of_le hml (Nat.le_trans hp256 (Nat.pow_le_pow_right (by omega) (by omega))))
    have hnew : BitVec.ofNat 256 m ||| putU (b.toBitVec.setWidth 64) (8 * i) = BitVec.ofNat 256 (leN (x.toList.take (i + 1))) := by
      have hfit : b.toNat * 2 ^ (8 * i) < 2 ^ 256 := by
        calc b.toNat * 2 ^ (8 * i) < 2 ^ 8 * 2 ^ (8 * i) := Nat.mul_lt_mul_of_pos_right hbl (Nat.two_pow_pos _)
          _ = 2 ^ (8 + 8 * i) := (Nat.pow_add _ _ _).symm
          _ ≤ 2 ^ 256 := Nat.pow_le_pow_right (by omega) (by omega)
      have h := or_put (x := BitVec.ofNat 256 m) (v := b.toBitVec.setWidth 64) (i := 8 * i) (by rw [hM]; exact hml) (by rw [hv]; exact hfit)
      rw [hv, hM, ← hnx] at h
      rw [← h, BitVec.ofNat_toNat, BitVec.setWidth_eq]
    have hst : storeS st4 1 (.ptr (some (i3, q))) (w64 (limb (BitVec.ofNat 256 m) q ||| b.toBitVec.setWidth 64 <<< r)) = some (st4.upd i3 (.cells (eU (BitVec.ofNat 256 (leN (x.toList.take (i + 1))))))) := by
      have : q + 1 ≤ 4 := by omega
      simp only [storeS, o3, w64_cells, hspl, hnew]
      rw [if_pos ⟨rfl, by rw [eU_len]; omega⟩]
    simp [-conv_i_64, h7, hlt', g3, g6, hix, e1, e2, w1, w2, w3, hconv, hR, hidx, St.seg, o3, seg_limb _ (show q < 4 by omega), hst]
    refine Round.mk (32 - (i + 1)) _ (by omega) (sub_self _) (hJ _ _ _ ⟨i + 1, by omega, rfl, by simp, S.set _⟩)
  · have : i = 32 := by omega
    subst this
    rw [List.take_of_length_le (by omega)] at S
    have o3 := S.get
    have o2 := S.mem (i := i2) (o := .cells (eU 0#256)) (by simp)
    have T := S.setAt (.cells (eU (BitVec.ofNat 256 (leN x.toList)))) 1 rfl
    simp [h7, g2, g3, St.seg, o3, o2, segU, storeS, eU_len, hsp, n32, n32.symm]
    exact ⟨T.was' (by simp), rfl⟩
end
end Go.Ab
/-
  tallystickref02: numbers bit by bit.
-/
set_option linter.unusedSimpArgs false
set_option linter.unusedVariables false
set_option maxRecDepth 10000
namespace Go.Ab
open Go Go.RowKit
section
variable {P : Program} {F : Fn}

def atI (l : List Bool) (i : Int) : Bool := if 0 ≤ i then atB l i.toNat else false
theorem atI_nat (l : List Bool) (i : Nat) : atI l (i : Int) = atB l i := by simp [atI]
/-- at -/
theorem spec123 (ok : OkRef02 P F) {st : St} {s : V} {l : List Bool} (h : Rd 1 eB s l st) (i : Int) : ACalls P (F 123) [s, .int .i64 i] st fun v st' => v = .bool (atI l i) ∧ st' = st := by
  refine shows_call ok.mixed ok.h123 (by simp [k123]) ?_
  simp only [k123]
  have hl := h.len
  by_cases h0 : 0 ≤ i
  · obtain ⟨n, rfl⟩ := Int.eq_ofNat_of_zero_le h0
    rw [atI_nat]
    by_cases hn : n < l.length
    · obtain ⟨p, hp1, hp2⟩ := h.idx eB_len hn .i64
      have e : atB l n = l[n] := by simp [atB, hn]
      simp [hl, hn, hp1, hp2, e, eB]
    · have e : atB l n = false := by simp [atB, hn]
      simp [hl, hn, e]
  · have e : atI l i = false := by simp [atI, h0]
    simp [h0, e]

/-- Of -/
theorem w64_bit (x : W) : (x % 2#64 == 1#64) = (x.toNat % 2 == 1) := by
  rw [Bool.eq_iff_iff, beq_iff_eq, beq_iff_eq]
  constructor
  · intro h
    have := congrArg BitVec.toNat h
    rw [BitVec.toNat_umod] at this
    exact this
  · intro h
    apply BitVec.eq_of_toNat_eq
    rw [BitVec.toNat_umod]
    exact h
def slB (l : List Bool) : V := .sl .some (rowsOf eB l) l.length
theorem bfill (b : Bool) : fillV (repV [.bool false] 1) [(0, 1, .bool b)] = some (eB b) := rfl
theorem belems (st : St) (k : SK) (b : Bool) : elems st 1 (.sl k (eB b) 1) = some (eB b, 1) := by simp [elems, eB]
theorem limb_shr_bit (x : U) (i k : Nat) (hk : k < 64) : (limb x i).toNat / 2 ^ k % 2 = x.toNat / 2 ^ (64 * i + k) % 2 := by
  have e : (18446744073709551616 : Nat) ^ i = 2 ^ (64 * i) := by rw [Nat.pow_mul]
  rw [limb_nat, e, Nat.pow_add, ← Nat.div_div_eq_div_mul]
  generalize x.toNat / 2 ^ (64 * i) = y
  have h1 : (y % 18446744073709551616).testBit k = y.testBit k := by
    rw [show (18446744073709551616 : Nat) = 2 ^ 64 from rfl, Nat.testBit_mod_two_pow, decide_eq_true hk, Bool.true_and]
  rw [Nat.testBit_eq_decide_div_mod_eq, Nat.testBit_eq_decide_div_mod_eq, decide_eq_decide] at h1
  omega
theorem half_shr (x : W) (k : Nat) : (x >>> k) / 2#64 = x >>> (k + 1) := by
  apply BitVec.eq_of_toNat_eq
  rw [BitVec.toNat_udiv, shr_nat64, shr_nat64, Nat.pow_succ, Nat.div_div_eq_div_mul]
  rfl
theorem seg_limb' (x : U) {j : Nat} (hj : j < 4) : segOf (eU x) j 1 = some [w64 (limb x j)] := seg_limb x hj
set_option maxHeartbeats 1000000 in
/-- Of -/
theorem spec121 (ok : OkRef02 P F) (st : St) (x : U) : ACalls P (F 121) [nU x] st fun v st' => v = slB (bitsN 256 x.toNat) ∧ st' = st := by
  refine shows_call ok.mixed ok.h121 (by simp [k121]) ?_
  simp only [k121, nU]
  simp
  intro i1 h1
  have S := (Sep.start st).new h1 (.cells (eU x))
  generalize st.upd i1 _ = st1 at S ⊢
  have S : Sep [Sl 1 eB (.sl .nil [] 0) (bitsN (64 * 0) x.toNat), pt i1 (.cells (eU x)), Was st] st1 := S.slNil
  refine vc_loopJ (fun k env' st' => ∃ i s, i ≤ 4 ∧ k = 4 - i ∧ env' 4 = .int .i64 (i : Nat) ∧ env' 3 = s ∧ Sep [Sl 1 eB s (bitsN (64 * i) x.toNat), pt i1 (.cells (eU x)), Was st] st') 4
    ⟨0, _, by omega, by omega, rfl, rfl, S⟩ ?_
  clear S
  rintro J hJ k env' st2 hsame ⟨i, s, hi, rfl, h4, h3, S⟩
  have g1 := hsame.get 1 rfl
  simp at g1
  clear hsame
  have w1 : IntKind.i64.wrap ((i : Int) + 1) = (i : Int) + 1 := wrap64 (by omega) (by omega)
  by_cases hlt : i < 4
  · have hlt' : (i : Int) < 4 := by omega
    have o1 := S.mem (i := i1) (o := .cells (eU x)) (by simp)
    have hix := idxArr_ptr 4 i1 (z := (i : Int)) rfl hlt
    simp [g1, h4, h3, hlt', hix, St.seg, o1, seg_limb x hlt]
    have S : Sep [Sl 1 eB s (bitsN (64 * i + 0) x.toNat), pt i1 (.cells (eU x)), Was st] st2 := S
    refine vc_loopJ (fun k env' st' => ∃ q s, q ≤ 64 ∧ k = 64 - q ∧ env' 6 = .int .i64 (q : Nat) ∧ env' 5 = w64 (limb x i >>> q) ∧ env' 3 = s ∧ Sep [Sl 1 eB s (bitsN (64 * i + q) x.toNat), pt i1 (.cells (eU x)), Was st] st') 64
      ⟨0, _, by omega, by omega, rfl, by simp, by simp [h3], S⟩ ?_
    clear S
    rintro J2 hJ2 k env2 st3 hsame ⟨q, s3, hq, rfl, h6, h5, h3, S⟩
    have g4 := hsame.get 4 rfl
    simp [h4] at g4
    clear hsame
    have w2 : IntKind.i64.wrap ((q : Int) + 1) = (q : Int) + 1 := wrap64 (by omega) (by omega)
    by_cases hq64 : q < 64
    · have hq' : (q : Int) < 64 := by omega
      have hbit : (limb x i >>> q % 2#64 == 1#64) = (x.toNat / 2 ^ (64 * i + q) % 2 == 1) := by
        rw [w64_bit, shr_nat64, limb_shr_bit _ _ _ hq64]
      have hsn := bitsN_snoc (64 * i + q) x.toNat
      simp [h6, h5, h3, hq', hbit, bfill, belems]
      refine Sep.app1 (b := 1) eB_len (by omega) S (a := (x.toNat / 2 ^ (64 * i + q) % 2 == 1)) rfl (by rw [bitsN_len]; omega) ?_
      intro s4 st4 S
      simp [h6, w2, h5, half_shr]
      refine Round.mk (64 - (q + 1)) _ (by omega) (sub_self _) (hJ2 _ _ _ ⟨q + 1, s4, by omega, rfl, by simp, by simp, by simp, ?_⟩)
      rw [show 64 * i + (q + 1) = 64 * i + q + 1 by omega, hsn]
      exact S
    · have : q = 64 := by omega
      subst this
      simp [h6, g4, w1]
      exact Round.mk (4 - (i + 1)) _ (by omega) (sub_self _) (hJ _ _ _ ⟨i + 1, s3, by omega, rfl, by simp, by simp [h3], S⟩)
  · have : i = 4 := by omega
    subst this
    simp [h4]
    obtain ⟨k, st4, hf, S, hk⟩ := S.frzSl eB_len
    refine frzP_one (v := .sl k (rowsOf eB (bitsN (64 * 4) x.toNat)) (bitsN (64 * 4) x.toNat).length) (st' := st4) (by simp [h3, hf]) ?_
    have hk := hk (fun e => by have := congrArg List.length e; rw [bitsN_len] at this; simp at this)
    subst hk
    simp [slB]
    exact S.was' (by simp)

/-! ### Words -/
def wF (V i j : Nat) : Nat := if 64 * (j + 1) ≤ i then 0 else V / 2 ^ (max i (64 * j)) % 2 ^ (64 * (j + 1) - max i (64 * j))
theorem wF_lt (V i j : Nat) : wF V i j < 18446744073709551616 := by
  unfold wF
  split
  · omega
  · refine Nat.lt_of_lt_of_le (Nat.mod_lt _ (Nat.two_pow_pos _)) ?_
    rw [show (18446744073709551616 : Nat) = 2 ^ 64 from rfl]
    exact Nat.pow_le_pow_right (by omega) (by omega)
theorem wF_other (V i j : Nat) (h : j ≠ i / 64) : wF V i j = wF V (i + 1) j := by
  unfold wF
  by_cases h1 : 64 * (j + 1) ≤ i
  · rw [if_pos h1, if_pos (by omega)]
  · rw [if_neg h1, if_neg (by omega), show max i (64 * j) = 64 * j by omega, show max (i + 1) (64 * j) = 64 * j by omega]
theorem wF_step (V i : Nat) : wF V i (i / 64) = 2 * wF V (i + 1) (i / 64) + V / 2 ^ i % 2 := by
  have e1 : max i (64 * (i / 64)) = i := by omega
  have e2 : max (i + 1) (64 * (i / 64)) = i + 1 := by omega
  have hd : V / 2 ^ (i + 1) = V / 2 ^ i / 2 := by rw [Nat.pow_succ, Nat.div_div_eq_div_mul]
  unfold wF
  rw [if_neg (by omega), e1, e2, hd]
  generalize V / 2 ^ i = q
  by_cases h : 64 * (i / 64 + 1) ≤ i + 1
  · rw [if_pos h, show 64 * (i / 64 + 1) - i = 1 by omega]
    omega
  · rw [if_neg h]
    obtain ⟨m, hm⟩ : ∃ m, 64 * (i / 64 + 1) - i = m + 1 := ⟨64 * (i / 64 + 1) - i - 1, by omega⟩
    rw [hm, show 64 * (i / 64 + 1) - (i + 1) = m by omega, Nat.pow_succ, Nat.mul_comm (2 ^ m) 2, Nat.mod_mul]
    omega
def wX (V i : Nat) : List W := [BitVec.ofNat 64 (wF V i 0), BitVec.ofNat 64 (wF V i 1), BitVec.ofNat 64 (wF V i 2), BitVec.ofNat 64 (wF V i 3)]
theorem wX_set (V i : Nat) (hi : i < 256) (x : W) (hx : x = BitVec.ofNat 64 (wF V i (i / 64))) : (wX V (i + 1)).set (i / 64) x = wX V i := by
  subst hx
  have o : ∀ j, j ≠ i / 64 → wF V (i + 1) j = wF V i j := fun j h => (wF_other V i j h).symm
  have : i / 64 = 0 ∨ i / 64 = 1 ∨ i / 64 = 2 ∨ i / 64 = 3 := by omega
  rcases this with h | h | h | h <;> rw [h] at o ⊢ <;> simp [wX, o]
theorem wX_get (V i : Nat) {j : Nat} (hj : j < 4) : (wX V i)[j]? = some (BitVec.ofNat 64 (wF V i j)) := by
  have : j = 0 ∨ j = 1 ∨ j = 2 ∨ j = 3 := by omega
  rcases this with h | h | h | h <;> subst h <;> rfl
theorem wX_end (V : Nat) : (wX V 0).map w64 = eU (natU V) := by
  have e : ∀ j, j < 4 → BitVec.ofNat 64 (wF V 0 j) = limb (natU V) j := fun j hj => by
    apply BitVec.eq_of_toNat_eq
    have e64 : (18446744073709551616 : Nat) ^ j = 2 ^ (64 * j) := by rw [Nat.pow_mul]
    rw [BitVec.toNat_ofNat, limb_nat, natU, BitVec.toNat_ofNat, e64]
    unfold wF
    rw [if_neg (by omega), show max 0 (64 * j) = 64 * j by omega, show 64 * (j + 1) - 64 * j = 64 by omega]
    rw [Nat.mod_mod]
    apply Nat.eq_of_testBit_eq
    intro t
    rw [show (18446744073709551616 : Nat) = 2 ^ 64 from rfl, Nat.testBit_mod_two_pow, Nat.testBit_mod_two_pow, Nat.testBit_div_two_pow, Nat.testBit_div_two_pow, Nat.testBit_mod_two_pow]
    by_cases ht : t < 64
    · simp [ht]
      omega
    · simp [ht]
  simp only [wX, List.map_cons, List.map_nil, e 0 (by omega), e 1 (by omega), e 2 (by omega), e 3 (by omega)]
  rfl
theorem wX_start (V n : Nat) (h : 256 ≤ n) : (wX V n).map w64 = eU 0#256 := by
  have e : ∀ j, j < 4 → wF V n j = 0 := fun j hj => by
    unfold wF
    rw [if_pos (by omega)]
  simp only [wX, e 0 (by omega), e 1 (by omega), e 2 (by omega), e 3 (by omega)]
  rfl
theorem wX_skip (V i : Nat) (h : 256 ≤ i) : wX V i = wX V (i + 1) := by
  have e : ∀ j k, j < 4 → 256 ≤ k → wF V k j = 0 := fun j k hj hk => by
    unfold wF
    rw [if_pos (by omega)]
  simp only [wX, e 0 _ (by omega) h, e 1 _ (by omega) h, e 2 _ (by omega) h, e 3 _ (by omega) h, e 0 (i + 1) (by omega) (by omega), e 1 (i + 1) (by omega) (by omega), e 2 (i + 1) (by omega) (by omega), e 3 (i + 1) (by omega) (by omega)]
theorem dbl0 (a : Nat) : BitVec.ofNat 64 a * 2#64 = BitVec.ofNat 64 (2 * a + 0) := by
  apply BitVec.eq_of_toNat_eq
  rw [BitVec.toNat_mul, BitVec.toNat_ofNat, BitVec.toNat_ofNat]
  show a % 18446744073709551616 * 2 % 18446744073709551616 = (2 * a + 0) % 18446744073709551616
  omega
theorem dbl1 (a : Nat) : BitVec.ofNat 64 a * 2#64 + 1#64 = BitVec.ofNat 64 (2 * a + 1) := by
  apply BitVec.eq_of_toNat_eq
  rw [BitVec.toNat_add, BitVec.toNat_mul, BitVec.toNat_ofNat, BitVec.toNat_ofNat]
  show (a % 18446744073709551616 * 2 % 18446744073709551616 + 1) % 18446744073709551616 = (2 * a + 1) % 18446744073709551616
  omega
def overN (V i : Nat) : Bool := decide (0 < V / 2 ^ (max i 256))
theorem overN_step (V i : Nat) (h : 256 ≤ i) : overN V i = (overN V (i + 1) || (V / 2 ^ i % 2 == 1)) := by
  have hd : V / 2 ^ (i + 1) = V / 2 ^ i / 2 := by rw [Nat.pow_succ, Nat.div_div_eq_div_mul]
  unfold overN
  rw [show max i 256 = i by omega, show max (i + 1) 256 = i + 1 by omega, hd]
  generalize V / 2 ^ i = q
  rw [Bool.eq_iff_iff]
  simp
  omega
theorem wF_zero_top (l : List Bool) : ∀ j, j < 4 → wF (valB l) l.length j = 0 := fun j hj => by
  have h := valB_lt l
  unfold wF
  split
  · rfl
  · rw [Nat.div_eq_of_lt (Nat.lt_of_lt_of_le h (Nat.pow_le_pow_right (by omega) (by omega))), Nat.zero_mod]
set_option maxHeartbeats 2000000 in
theorem spec122 (ok : OkRef02 P F) {st : St} {s : V} {l : List Bool} (h : Rd 1 eB s l st) (hl : l.length ≤ 100000) : ACalls P (F 122) [s] st fun v st' => v = .tup [nU (natU (valB l)), .bool (overN (valB l) 0)] ∧ st' = st := by
  refine shows_call ok.mixed ok.h122 (by simp [k122]) ?_
  simp only [k122, eU_zero0]
  simp
  intro i2 h2
  have S := (Sep.start st).new h2 (.cells (eU 0#256))
  generalize st.upd i2 _ = st1 at S ⊢
  have hz : fillV (eU 0#256) [] = some (eU 0#256) := rfl
  simp [hz]
  intro i4 h4
  have hsp : ∀ x y : U, spliceV (eU x) 0 (eU y) = eU y := fun _ _ => rfl
  obtain ⟨Vl, hV⟩ : ∃ V, V = valB l := ⟨_, rfl⟩
  rw [← hV]
  have hstart : (wX Vl l.length).map w64 = eU 0#256 := by
    have e := wF_zero_top l
    rw [← hV] at e
    simp only [wX, e 0 (by omega), e 1 (by omega), e 2 (by omega), e 3 (by omega)]
    rfl
  have S : Sep [pt i4 (.cells ((wX Vl l.length).map w64)), pt i2 (.cells (eU 0#256)), Was st] (st1.upd i4 (.cells (eU 0#256))) := by
    rw [hstart]; exact S.new h4 _
  have hst : storeS (st1.upd i4 (.cells (eU 0#256))) 4 (.ptr (some (i4, 0))) (.agg (eU 0#256)) = some (st1.upd i4 (.cells (eU 0#256))) := by
    simp [storeS, eU_len, hsp]
  simp [hst]
  generalize st1.upd i4 (.cells (eU 0#256)) = st2 at S ⊢
  have hlen := h.len
  have w0 : IntKind.i64.wrap ((l.length : Int) - 1) = (l.length : Int) - 1 := wrap64 (by omega) (by omega)
  simp [hlen, w0]
  have hov0 : overN Vl l.length = false := by
    have := valB_lt l
    rw [← hV] at this
    unfold overN
    rw [Nat.div_eq_of_lt (Nat.lt_of_lt_of_le this (Nat.pow_le_pow_right (by omega) (by omega)))]
    rfl
  refine vc_loopJ (fun k env' st' => k ≤ l.length ∧ env' 6 = .int .i64 ((k : Int) - 1) ∧ env' 5 = .bool (overN Vl k) ∧ Sep [pt i4 (.cells ((wX Vl k).map w64)), pt i2 (.cells (eU 0#256)), Was st] st') l.length
    ⟨by omega, rfl, by simp [hov0], S⟩ ?_
  clear S
  rintro J hJ k env' st3 hsame ⟨hk, h6, h5, S⟩
  have g0 := hsame.get 0 rfl
  have g2 := hsame.get 2 rfl
  have g4 := hsame.get 4 rfl
  simp at g0 g2 g4
  clear hsame
  have n42 := S.neq (i := i4) (j := i2) 0 1 rfl rfl (by omega)
  cases k with
  | zero =>
    have hn : ¬ (0 : Int) ≤ ((0 : Nat) : Int) - 1 := by omega
    have o4 := S.get
    rw [wX_end] at o4
    have o2 := S.mem (i := i2) (o := .cells (eU 0#256)) (by simp)
    have T := S.setAt (.cells (eU (natU Vl))) 1 rfl
    simp at h6 hn
    simp [h6, h5, g2, g4, St.seg, o4, o2, segU, storeS, eU_len, hsp, n42, n42.symm]
    exact ⟨T.was' (by simp), rfl⟩
  | succ i =>
    have h6' : env' 6 = .int .i64 (i : Int) := by rw [h6]; congr 1; omega
    have hi : i < l.length := by omega
    obtain ⟨p, hp1, hp2⟩ := (h.sub (S.was' (by simp))).idx eB_len hi .i64
    have hbit : l[i] = (Vl / 2 ^ i % 2 == 1) := by
      have := atB_eq l i
      rw [← hV] at this
      rw [← this]
      simp [atB, hi]
    have w1 : IntKind.i64.wrap ((i : Int) - 1) = (i : Int) - 1 := wrap64 (by omega) (by omega)
    by_cases hbig : 256 ≤ i
    · have hbig' : (256 : Int) ≤ i := by omega
      have ho := overN_step Vl i hbig
      rw [← hbit] at ho
      rw [← wX_skip Vl i hbig] at S
      cases hov : overN Vl (i + 1) with
      | true =>
        rw [hov] at h5 ho
        simp [h6', h5, hbig', w1]
        exact Round.mk i _ (by omega) (sub_self _) (hJ _ _ _ ⟨by omega, by simp, by simp [ho], S⟩)
      | false =>
        rw [hov] at h5 ho
        simp [h6', h5, hbig', g0, hp1, hp2, eB, w1]
        exact Round.mk i _ (by omega) (sub_self _) (hJ _ _ _ ⟨by omega, by simp, by simp [ho], S⟩)
    · have hbig' : ¬ (256 : Int) ≤ i := by omega
      obtain ⟨q, hq⟩ : ∃ q, q = i / 64 := ⟨_, rfl⟩
      have hq4 : q < 4 := by omega
      have e1 : Int.tdiv (i : Int) 64 = (q : Int) := by rw [Int.tdiv_eq_ediv_of_nonneg (by omega)]; omega
      have e1' : (i : Int) / 64 = (q : Int) := by omega
      have wq : IntKind.i64.wrap (q : Int) = (q : Int) := wrap64 (by omega) (by omega)
      have hidx := idxArr_ptr 4 i4 (z := (q : Int)) rfl hq4
      have hxl : (wX Vl (i + 1)).length = 4 := rfl
      have hget : (wX Vl (i + 1))[q]'(by rw [hxl]; exact hq4) = BitVec.ofNat 64 (wF Vl (i + 1) q) := by
        have := wX_get Vl (i + 1) hq4
        rw [List.getElem?_eq_getElem (by rw [hxl]; exact hq4)] at this
        exact Option.some.inj this
      obtain ⟨Y, hY⟩ : ∃ Y : W, Y = BitVec.ofNat 64 (wF Vl (i + 1) q) := ⟨_, rfl⟩
      rw [← hY] at hget
      have hrd := arr_read (f := w64) S.get (i := q) (by rw [hxl]; exact hq4)
      rw [hget] at hrd
      have hst := arr_store (f := w64) S.get (i := q) (by rw [hxl]; exact hq4) (x := Y * 2#64) (v := w64 (Y * 2#64)) rfl
      have S1 := S.set (.cells (((wX Vl (i + 1)).set q (Y * 2#64)).map w64))
      have hov : overN Vl (i + 1) = overN Vl i := by unfold overN; rw [show max i 256 = 256 by omega, show max (i + 1) 256 = 256 by omega]
      rw [hov] at h5
      have hstep := wF_step Vl i
      rw [← hq] at hstep
      simp [h6', hbig', e1', wq, g4, hidx, hrd, hst, -List.map_set]
      generalize st3.upd i4 _ = st4 at S1 ⊢
      obtain ⟨p, hp1, hp2⟩ := (h.sub (S1.was' (by simp))).idx eB_len hi .i64
      simp [h6', g0, hp1, hp2, eB]
      cases hb : l[i] with
      | true =>
        rw [hb] at hbit
        have h1 : Vl / 2 ^ i % 2 = 1 := by simpa using hbit.symm
        have hfin : Y * 2#64 + 1#64 = BitVec.ofNat 64 (wF Vl i q) := by
          rw [hstep, h1, hY]; exact dbl1 _
        have hxl2 : ((wX Vl (i + 1)).set q (Y * 2#64)).length = 4 := by rw [List.length_set]; rfl
        have hrd2 := arr_read (f := w64) S1.get (i := q) (by rw [hxl2]; exact hq4)
        rw [List.getElem_set_self] at hrd2
        have hst2 := arr_store (f := w64) S1.get (i := q) (by rw [hxl2]; exact hq4) (x := Y * 2#64 + 1#64) (v := w64 (Y * 2#64 + 1#64)) rfl
        have S2 := S1.set (.cells ((((wX Vl (i + 1)).set q (Y * 2#64)).set q (Y * 2#64 + 1#64)).map w64))
        rw [List.set_set] at S2 hst2
        rw [hq] at S2 hst2 hfin
        rw [wX_set Vl i (by omega) _ hfin] at S2 hst2
        rw [← hq] at hst2
        simp [h6', e1', wq, g4, hidx, hrd2, hst2, w1, -List.map_set]
        exact Round.mk i _ (by omega) (sub_self _) (hJ _ _ _ ⟨by omega, by simp, by simp [h5], S2⟩)
      | false =>
        rw [hb] at hbit
        have h1 : Vl / 2 ^ i % 2 = 0 := by
          have : ¬ Vl / 2 ^ i % 2 = 1 := by simpa using hbit.symm
          omega
        have hfin : Y * 2#64 = BitVec.ofNat 64 (wF Vl i q) := by
          rw [hstep, h1, hY]; exact dbl0 _
        rw [hq] at S1 hfin
        rw [wX_set Vl i (by omega) _ hfin] at S1
        simp [h6', w1]
        exact Round.mk i _ (by omega) (sub_self _) (hJ _ _ _ ⟨by omega, by simp, by simp [h5], S1⟩)
end
end Go.Ab
/-
  tallystickref02: sums, differences, shifts.
-/
set_option linter.unusedSimpArgs false
set_option linter.unusedVariables false
set_option maxRecDepth 10000
namespace Go.Ab
open Go Go.RowKit
section
variable {P : Program} {F : Fn}

theorem bit_step (V i : Nat) : V % 2 ^ (i + 1) = V % 2 ^ i + V / 2 ^ i % 2 * 2 ^ i := by
  rw [Nat.pow_succ, Nat.mod_mul, Nat.mul_comm (2 ^ i) (V / 2 ^ i % 2)]
/-- The carry into a place. -/
def carN (a b i : Nat) : Bool := decide (2 ^ i ≤ a % 2 ^ i + b % 2 ^ i)
theorem sum_bit (a b i : Nat) : ((a + b) / 2 ^ i % 2 == 1) = ((((a / 2 ^ i % 2 == 1) != (b / 2 ^ i % 2 == 1)) != carN a b i)) ∧
    carN a b (i + 1) = ((a / 2 ^ i % 2 == 1) && (b / 2 ^ i % 2 == 1) || carN a b i && ((a / 2 ^ i % 2 == 1) || (b / 2 ^ i % 2 == 1))) := by
  have hp := Nat.two_pow_pos i
  have ha := Nat.div_add_mod a (2 ^ i)
  have hb := Nat.div_add_mod b (2 ^ i)
  have la := Nat.mod_lt a hp
  have lb := Nat.mod_lt b hp
  have hs : (a + b) / 2 ^ i = a / 2 ^ i + b / 2 ^ i + (if 2 ^ i ≤ a % 2 ^ i + b % 2 ^ i then 1 else 0) := by
    have e : a + b = 2 ^ i * (a / 2 ^ i + b / 2 ^ i) + (a % 2 ^ i + b % 2 ^ i) := by rw [Nat.mul_add]; omega
    rw [e, Nat.mul_add_div hp]
    congr 1
    split
    · rename_i h
      exact Nat.div_eq_of_lt_le (by omega) (by omega)
    · rename_i h
      exact Nat.div_eq_of_lt (by omega)
  unfold carN
  rw [hs, bit_step a, bit_step b]
  generalize a / 2 ^ i = A at *
  generalize b / 2 ^ i = B at *
  generalize a % 2 ^ i = x at *
  generalize b % 2 ^ i = y at *
  rw [Nat.pow_succ]
  generalize 2 ^ i = p at *
  have hA : A % 2 = 0 ∨ A % 2 = 1 := by omega
  have hB : B % 2 = 0 ∨ B % 2 = 1 := by omega
  by_cases hc : p ≤ x + y <;> rcases hA with h1 | h1 <;> rcases hB with h2 | h2 <;> simp [hc, h1, h2] <;> omega

theorem Rd.atB_ {s : V} {l : List Bool} {st : St} (h : Rd 1 eB s l st) : True := trivial
set_option maxHeartbeats 2000000 in
/-- Add -/
theorem spec124 (ok : OkRef02 P F) {st : St} {s t : V} {a b : List Bool} (ha : Rd 1 eB s a st) (hb : Rd 1 eB t b st) (la : a.length ≤ 100000) (lb : b.length ≤ 100000) : ACalls P (F 124) [s, t] st fun v st' => v = slB (addB a b) ∧ st' = st := by
  refine shows_call ok.mixed ok.h124 (by simp [k124]) ?_
  simp only [k124]
  have hla := ha.len
  have hlb := hb.len
  have hm : foldV max2V (.int .i64 (a.length : Int)) [.int .i64 (b.length : Int)] = some (.int .i64 ((max a.length b.length : Nat) : Int)) := by
    simp only [foldV, max2V, if_true, Option.bind_some]
    congr 2
    split <;> omega
  obtain ⟨n, hn⟩ : ∃ n, n = max a.length b.length := ⟨_, rfl⟩
  rw [← hn] at hm
  have w0 : IntKind.i64.wrap ((n : Int) + 1) = (n : Int) + 1 := wrap64 (by omega) (by omega)
  simp [hla, hlb, hm, w0]
  have S : Sep [Sl 1 eB (.sl .nil [] 0) (bitsN 0 (valB a + valB b)), Was st] st := (Sep.start st).slNil
  refine vc_loopJ (fun k env' st' => ∃ i s, i ≤ n + 1 ∧ k = n + 1 - i ∧ env' 8 = .int .i64 (i : Nat) ∧ env' 6 = s ∧ env' 7 = .bool (carN (valB a) (valB b) i) ∧ Sep [Sl 1 eB s (bitsN i (valB a + valB b)), Was st] st') (n + 1)
    ⟨0, _, by omega, by omega, rfl, rfl, by simp [carN, Nat.mod_one], S⟩ ?_
  clear S
  rintro J hJ k env' st2 hsame ⟨i, s2, hi, rfl, h8, h6, h7, S⟩
  have g0 := hsame.get 0 rfl
  have g1 := hsame.get 1 rfl
  have g5 := hsame.get 5 rfl
  simp at g0 g1 g5
  clear hsame
  have w1 : IntKind.i64.wrap ((i : Int) + 1) = (i : Int) + 1 := wrap64 (by omega) (by omega)
  by_cases hlt : i < n + 1
  · have hlt' : (i : Int) < (n : Int) + 1 := by omega
    have hsub := S.was' (st0 := st) (by simp)
    simp [g0, g1, g5, h8, hlt']
    refine (spec123 ok (ha.sub hsub) i).mono ?_
    rintro v st2 ⟨rfl, rfl⟩
    simp [h8, g1]
    refine (spec123 ok (hb.sub hsub) i).mono ?_
    rintro v st2 ⟨rfl, rfl⟩
    obtain ⟨e1, e2⟩ := sum_bit (valB a) (valB b) i
    have x1 : atI a i = (valB a / 2 ^ i % 2 == 1) := by rw [atI_nat, atB_eq]
    have x2 : atI b i = (valB b / 2 ^ i % 2 == 1) := by rw [atI_nat, atB_eq]
    rw [← x1, ← x2] at e1 e2
    have hsn := bitsN_snoc i (valB a + valB b)
    generalize atI a i = x at *
    generalize atI b i = y at *
    obtain ⟨c, hc⟩ : ∃ c, c = carN (valB a) (valB b) i := ⟨_, rfl⟩
    rw [← hc] at e1 e2 h7
    have hbn : (!((!(x == y)) == c)) = ((x != y) != c) := by cases x <;> cases y <;> cases c <;> rfl
    simp [h6, h7, eqK, bfill, belems]
    refine Sep.app1 (b := 1) eB_len (by omega) S (a := (!((!(x == y)) == c))) rfl (by rw [bitsN_len]; omega) ?_
    intro s4 st4 S
    rw [hbn, ← e1, ← hsn] at S
    have fin : ∀ env'', env'' 8 = .int .i64 ((i : Int) + 1) → env'' 6 = s4 → env'' 7 = .bool (x && y || c && (x || y)) → Round J (n + 1 - i) env'' st4 := fun env'' q1 q2 q3 =>
      Round.mk (n + 1 - (i + 1)) _ (by omega) (sub_self _) (hJ _ _ _ ⟨i + 1, s4, by omega, rfl, by simpa using q1, q2, by rw [e2]; exact q3, S⟩)
    cases x <;> cases y <;> cases c <;> simp [h7, h8, w1] <;> exact fin _ (by simp) (by simp) (by simp)
  · have : i = n + 1 := by omega
    subst this
    simp [h8, g5]
    obtain ⟨k, st4, hf, S, hk⟩ := S.frzSl eB_len
    refine frzP_one (v := .sl k (rowsOf eB (bitsN (n + 1) (valB a + valB b))) (bitsN (n + 1) (valB a + valB b)).length) (st' := st4) (by simp [h6, hf]) ?_
    have hk := hk (fun e => by have := congrArg List.length e; rw [bitsN_len] at this; simp at this)
    subst hk
    simp [slB, addB, hn]
    exact S.was' (by simp)

/-- Less -/
theorem lt_step {A B i : Nat} (h : A / 2 ^ (i + 1) = B / 2 ^ (i + 1)) (hne : (A / 2 ^ i % 2 == 1) ≠ (B / 2 ^ i % 2 == 1)) : decide (A < B) = (B / 2 ^ i % 2 == 1) := by
  have hp := Nat.two_pow_pos i
  have e1 : A / 2 ^ (i + 1) = A / 2 ^ i / 2 := by rw [Nat.pow_succ, Nat.div_div_eq_div_mul]
  have e2 : B / 2 ^ (i + 1) = B / 2 ^ i / 2 := by rw [Nat.pow_succ, Nat.div_div_eq_div_mul]
  rw [e1, e2] at h
  have ha := Nat.div_add_mod A (2 ^ i)
  have hb := Nat.div_add_mod B (2 ^ i)
  have la := Nat.mod_lt A hp
  have lb := Nat.mod_lt B hp
  have hlt : ∀ X Y : Nat, X / 2 ^ i < Y / 2 ^ i → X < Y := fun X Y h => by
    rcases Nat.lt_or_ge X Y with g | g
    · exact g
    · have := Nat.div_le_div_right (c := 2 ^ i) g
      omega
  have hA : A / 2 ^ i % 2 = 0 ∨ A / 2 ^ i % 2 = 1 := by omega
  have hB : B / 2 ^ i % 2 = 0 ∨ B / 2 ^ i % 2 = 1 := by omega
  rcases hA with h1 | h1 <;> rcases hB with h2 | h2 <;> rw [h1, h2] at hne <;> simp at hne
  · rw [h2, decide_eq_true (hlt A B (by omega))]; rfl
  · have := hlt B A (by omega)
    rw [h2, decide_eq_false (by omega)]; rfl
theorem eq_step {A B i : Nat} (h : A / 2 ^ (i + 1) = B / 2 ^ (i + 1)) (he : (A / 2 ^ i % 2 == 1) = (B / 2 ^ i % 2 == 1)) : A / 2 ^ i = B / 2 ^ i := by
  have e1 : A / 2 ^ (i + 1) = A / 2 ^ i / 2 := by rw [Nat.pow_succ, Nat.div_div_eq_div_mul]
  have e2 : B / 2 ^ (i + 1) = B / 2 ^ i / 2 := by rw [Nat.pow_succ, Nat.div_div_eq_div_mul]
  rw [e1, e2] at h
  have hA : A / 2 ^ i % 2 = 0 ∨ A / 2 ^ i % 2 = 1 := by omega
  have hB : B / 2 ^ i % 2 = 0 ∨ B / 2 ^ i % 2 = 1 := by omega
  rcases hA with h1 | h1 <;> rcases hB with h2 | h2 <;> rw [h1, h2] at he <;> simp at he <;> omega
set_option maxHeartbeats 1000000 in
theorem spec125 (ok : OkRef02 P F) {st : St} {s t : V} {a b : List Bool} (ha : Rd 1 eB s a st) (hb : Rd 1 eB t b st) (la : a.length ≤ 100000) (lb : b.length ≤ 100000) : ACalls P (F 125) [s, t] st fun v st' => v = .bool (decide (valB a < valB b)) ∧ st' = st := by
  refine shows_call ok.mixed ok.h125 (by simp [k125]) ?_
  simp only [k125]
  have hla := ha.len
  have hlb := hb.len
  have hm : foldV max2V (.int .i64 (a.length : Int)) [.int .i64 (b.length : Int)] = some (.int .i64 ((max a.length b.length : Nat) : Int)) := by
    simp only [foldV, max2V, if_true, Option.bind_some]
    congr 2
    split <;> omega
  obtain ⟨n, hn⟩ : ∃ n, n = max a.length b.length := ⟨_, rfl⟩
  rw [← hn] at hm
  have w0 : IntKind.i64.wrap ((n : Int) - 1) = (n : Int) - 1 := wrap64 (by omega) (by omega)
  simp [hla, hlb, hm, w0]
  have top : ∀ l : List Bool, l.length ≤ n → valB l / 2 ^ n = 0 := fun l h => Nat.div_eq_of_lt (Nat.lt_of_lt_of_le (valB_lt l) (Nat.pow_le_pow_right (by omega) h))
  refine vc_loopJ (fun k env' st' => k ≤ n ∧ env' 5 = .int .i64 ((k : Int) - 1) ∧ valB a / 2 ^ k = valB b / 2 ^ k ∧ st' = st) n
    ⟨by omega, rfl, by rw [top a (by omega), top b (by omega)], rfl⟩ ?_
  rintro J hJ k env' st2 hsame ⟨hk, h5, he, rfl⟩
  have g0 := hsame.get 0 rfl
  have g1 := hsame.get 1 rfl
  simp at g0 g1
  clear hsame
  cases k with
  | zero =>
    simp at h5
    have : ¬ valB a < valB b := by simp at he; omega
    simp [h5, this]
  | succ i =>
    have h5' : env' 5 = .int .i64 (i : Int) := by rw [h5]; congr 1; omega
    have w1 : IntKind.i64.wrap ((i : Int) - 1) = (i : Int) - 1 := wrap64 (by omega) (by omega)
    simp [g0, g1, h5']
    refine (spec123 ok ha i).mono ?_
    rintro v st2 ⟨rfl, rfl⟩
    simp [h5', g1]
    refine (spec123 ok hb i).mono ?_
    rintro v st2 ⟨rfl, rfl⟩
    have x1 : atI a i = (valB a / 2 ^ i % 2 == 1) := by rw [atI_nat, atB_eq]
    have x2 : atI b i = (valB b / 2 ^ i % 2 == 1) := by rw [atI_nat, atB_eq]
    by_cases hne : atI a i = atI b i
    · have := eq_step he (by rw [← x1, ← x2]; exact hne)
      simp [eqK, hne, h5', w1]
      exact Round.mk i _ (by omega) (sub_self _) (hJ _ _ _ ⟨by omega, by simp, this, rfl⟩)
    · have hlt := lt_step he (by rw [← x1, ← x2]; exact hne)
      have hb' : (!(atI a i == atI b i)) = true := by simpa using hne
      simp [eqK, hb', h5', g1]
      refine (spec123 ok hb i).mono ?_
      rintro v st2 ⟨rfl, rfl⟩
      rw [hlt, ← x2]
      simp
end
end Go.Ab
/-
  tallystickref02: differences, shifts, products, quotients.
-/
set_option linter.unusedSimpArgs false
set_option linter.unusedVariables false
set_option maxRecDepth 10000
namespace Go.Ab
open Go Go.RowKit
section
variable {P : Program} {F : Fn}

def borN (a b i : Nat) : Bool := decide (a % 2 ^ i < b % 2 ^ i)
def difN (a b : Nat) : Nat := 2 ^ 256 + a % 2 ^ 256 - b % 2 ^ 256
theorem mod_div_bit (A n i : Nat) (h : i < n) : A % 2 ^ n / 2 ^ i % 2 = A / 2 ^ i % 2 := by
  have h1 : (A % 2 ^ n).testBit i = A.testBit i := by
    rw [Nat.testBit_mod_two_pow, decide_eq_true h, Bool.true_and]
  rw [Nat.testBit_eq_decide_div_mod_eq, Nat.testBit_eq_decide_div_mod_eq, decide_eq_decide] at h1
  omega
theorem mod_mod_pow (A n i : Nat) (h : i ≤ n) : A % 2 ^ n % 2 ^ i = A % 2 ^ i := Nat.mod_mod_of_dvd _ (Nat.pow_dvd_pow 2 h)
theorem dif_bit (a b i : Nat) (hi : i < 256) : (difN a b / 2 ^ i % 2 == 1) = (((a / 2 ^ i % 2 == 1) != (b / 2 ^ i % 2 == 1)) != borN a b i) ∧
    borN a b (i + 1) = (!(a / 2 ^ i % 2 == 1) && ((b / 2 ^ i % 2 == 1) || borN a b i) || (b / 2 ^ i % 2 == 1) && borN a b i) := by
  have hp := Nat.two_pow_pos i
  constructor
  · have ea := mod_div_bit a 256 i hi
    have eb := mod_div_bit b 256 i hi
    have ra := mod_mod_pow a 256 i (by omega)
    have rb := mod_mod_pow b 256 i (by omega)
    have la := Nat.mod_lt a (Nat.two_pow_pos 256)
    have lb := Nat.mod_lt b (Nat.two_pow_pos 256)
    unfold difN borN
    rw [← ea, ← eb, ← ra, ← rb]
    generalize a % 2 ^ 256 = x at *
    generalize b % 2 ^ 256 = y at *
    have hx := Nat.div_add_mod x (2 ^ i)
    have hy := Nat.div_add_mod y (2 ^ i)
    have lx := Nat.mod_lt x hp
    have ly := Nat.mod_lt y hp
    obtain ⟨m, hm⟩ : ∃ m, 2 ^ 256 = 2 ^ i * (2 * m) := ⟨2 ^ (255 - i), by
      rw [show 2 ^ 256 = 2 ^ (i + (1 + (255 - i))) by congr 1; omega, Nat.pow_add, Nat.pow_add]⟩
    rw [hm] at la lb ⊢
    generalize 2 ^ i = p at *
    have hyl : y / p < 2 * m := Nat.div_lt_of_lt_mul lb
    have hD : (p * (2 * m) + x - y) / p = 2 * m + x / p - y / p - (if x % p < y % p then 1 else 0) := by
      generalize x / p = X at *
      generalize y / p = Y at *
      have e1 : p * (2 * m) + x - y = p * (2 * m + X - Y) + x % p - y % p := by
        have : p * (2 * m + X - Y) = p * (2 * m) + p * X - p * Y := by rw [Nat.mul_sub, Nat.mul_add]
        have : p * Y ≤ p * (2 * m) := Nat.mul_le_mul_left _ (by omega)
        omega
      rw [e1]
      split
      · rename_i h
        have e2 : p * (2 * m + X - Y) + x % p - y % p = p * (2 * m + X - Y - 1) + (p + x % p - y % p) := by
          have : p * (2 * m + X - Y) = p * (2 * m + X - Y - 1) + p := by
            rw [← Nat.mul_succ]; congr 1; omega
          omega
        rw [e2, Nat.mul_add_div (by omega), Nat.div_eq_of_lt (by omega), Nat.add_zero]
      · rename_i h
        have e2 : p * (2 * m + X - Y) + x % p - y % p = p * (2 * m + X - Y) + (x % p - y % p) := by omega
        rw [e2, Nat.mul_add_div (by omega), Nat.div_eq_of_lt (by omega), Nat.add_zero, Nat.sub_zero]
    rw [hD]
    generalize x / p = X at *
    generalize y / p = Y at *
    have hA : X % 2 = 0 ∨ X % 2 = 1 := by omega
    have hB : Y % 2 = 0 ∨ Y % 2 = 1 := by omega
    by_cases hc : x % p < y % p <;> rcases hA with h1 | h1 <;> rcases hB with h2 | h2 <;> simp [hc, h1, h2] <;> omega
  · unfold borN
    rw [bit_step a, bit_step b]
    have la := Nat.mod_lt a hp
    have lb := Nat.mod_lt b hp
    generalize a % 2 ^ i = x at *
    generalize b % 2 ^ i = y at *
    generalize a / 2 ^ i = A at *
    generalize b / 2 ^ i = B at *
    generalize 2 ^ i = p at *
    have hA : A % 2 = 0 ∨ A % 2 = 1 := by omega
    have hB : B % 2 = 0 ∨ B % 2 = 1 := by omega
    by_cases hc : x < y <;> rcases hA with h1 | h1 <;> rcases hB with h2 | h2 <;> simp [hc, h1, h2] <;> omega

set_option maxHeartbeats 2000000 in
/-- Sub -/
theorem spec126 (ok : OkRef02 P F) {st : St} {s t : V} {a b : List Bool} (ha : Rd 1 eB s a st) (hb : Rd 1 eB t b st) : ACalls P (F 126) [s, t] st fun v st' => v = .tup [slB (bitsN 256 (difN (valB a) (valB b))), .bool (borN (valB a) (valB b) 256)] ∧ st' = st := by
  refine shows_call ok.mixed ok.h126 (by simp [k126]) ?_
  simp only [k126]
  simp
  have S : Sep [Sl 1 eB (.sl .nil [] 0) (bitsN 0 (difN (valB a) (valB b))), Was st] st := (Sep.start st).slNil
  refine vc_loopJ (fun k env' st' => ∃ i s, i ≤ 256 ∧ k = 256 - i ∧ env' 8 = .int .i64 (i : Nat) ∧ env' 6 = s ∧ env' 7 = .bool (borN (valB a) (valB b) i) ∧ Sep [Sl 1 eB s (bitsN i (difN (valB a) (valB b))), Was st] st') 256
    ⟨0, _, by omega, by omega, rfl, rfl, by simp [borN, Nat.mod_one], S⟩ ?_
  clear S
  rintro J hJ k env' st2 hsame ⟨i, s2, hi, rfl, h8, h6, h7, S⟩
  have g0 := hsame.get 0 rfl
  have g1 := hsame.get 1 rfl
  simp at g0 g1
  clear hsame
  have w1 : IntKind.i64.wrap ((i : Int) + 1) = (i : Int) + 1 := wrap64 (by omega) (by omega)
  by_cases hlt : i < 256
  · have hlt' : (i : Int) < 256 := by omega
    have hsub := S.was' (st0 := st) (by simp)
    simp [g0, g1, h8, hlt']
    refine (spec123 ok (ha.sub hsub) i).mono ?_
    rintro v st2 ⟨rfl, rfl⟩
    simp [h8, g1]
    refine (spec123 ok (hb.sub hsub) i).mono ?_
    rintro v st2 ⟨rfl, rfl⟩
    obtain ⟨e1, e2⟩ := dif_bit (valB a) (valB b) i hlt
    have x1 : atI a i = (valB a / 2 ^ i % 2 == 1) := by rw [atI_nat, atB_eq]
    have x2 : atI b i = (valB b / 2 ^ i % 2 == 1) := by rw [atI_nat, atB_eq]
    rw [← x1, ← x2] at e1 e2
    have hsn := bitsN_snoc i (difN (valB a) (valB b))
    generalize atI a i = x at *
    generalize atI b i = y at *
    obtain ⟨c, hc⟩ : ∃ c, c = borN (valB a) (valB b) i := ⟨_, rfl⟩
    rw [← hc] at e1 e2 h7
    have hbn : (!((!(x == y)) == c)) = ((x != y) != c) := by cases x <;> cases y <;> cases c <;> rfl
    simp [h6, h7, eqK, bfill, belems]
    refine Sep.app1 (b := 1) eB_len (by omega) S (a := (!((!(x == y)) == c))) rfl (by rw [bitsN_len]; omega) ?_
    intro s4 st4 S
    rw [hbn, ← e1, ← hsn] at S
    have fin : ∀ env'', env'' 8 = .int .i64 ((i : Int) + 1) → env'' 6 = s4 → env'' 7 = .bool (!x && (y || c) || y && c) → Round J (256 - i) env'' st4 := fun env'' q1 q2 q3 =>
      Round.mk (256 - (i + 1)) _ (by omega) (sub_self _) (hJ _ _ _ ⟨i + 1, s4, by omega, rfl, by simpa using q1, q2, by rw [e2]; exact q3, S⟩)
    cases x <;> cases y <;> cases c <;> simp [h7, h8, w1] <;> exact fin _ (by simp) (by simp) (by simp)
  · have : i = 256 := by omega
    subst this
    simp [h8]
    obtain ⟨k, st4, hf, S, hk⟩ := S.frzSl eB_len
    refine frzP_one (v := .sl k (rowsOf eB (bitsN 256 (difN (valB a) (valB b)))) (bitsN 256 (difN (valB a) (valB b))).length) (st' := st4) (by simp [h6, hf]) ?_
    have hk := hk (fun e => by have := congrArg List.length e; rw [bitsN_len] at this; simp at this)
    subst hk
    simp [slB, h7]
    exact S.was' (by simp)

/-! ### Shift -/
theorem shiftB_len (a : List Bool) (n : Int) : ((shiftB a n).length : Int) = max 0 ((a.length : Int) + n) := by
  unfold shiftB
  split
  · simp [shlB]; omega
  · simp; omega
theorem shiftB_get (a : List Bool) (n : Int) {i : Nat} (hi : i < (shiftB a n).length) : (shiftB a n)[i] = atI a ((i : Int) - n) := by
  have key : (shiftB a n)[i]? = some (atI a ((i : Int) - n)) := by
    have hl := shiftB_len a n
    by_cases h : 0 ≤ n
    · have e : shiftB a n = List.replicate n.toNat false ++ a := by simp [shiftB, h, shlB]
      by_cases h1 : i < n.toNat
      · rw [e, List.getElem?_append_left (by simpa using h1), List.getElem?_replicate, if_pos h1, atI, if_neg (by omega)]
      · rw [e, List.getElem?_append_right (by simp; omega), List.length_replicate, List.getElem?_eq_getElem (by omega), atI, if_pos (by omega), show ((i : Int) - n).toNat = i - n.toNat by omega, atB, List.getD_eq_getElem?_getD, List.getElem?_eq_getElem (by omega)]
        rfl
    · have e : shiftB a n = a.drop (-n).toNat := by simp [shiftB, h]
      rw [e, List.getElem?_drop, List.getElem?_eq_getElem (by omega), atI, if_pos (by omega), show ((i : Int) - n).toNat = (-n).toNat + i by omega, atB, List.getD_eq_getElem?_getD, List.getElem?_eq_getElem (by omega)]
      rfl
  rw [List.getElem?_eq_getElem hi] at key
  exact Option.some.inj key
set_option maxHeartbeats 1000000 in
theorem spec127 (ok : OkRef02 P F) {st : St} {s : V} {a : List Bool} (ha : Rd 1 eB s a st) (la : a.length ≤ 100000) (n : Int) (hn : -100000 ≤ n ∧ n ≤ 100000) : ACalls P (F 127) [s, .int .i64 n] st fun v st' => Sep [Sl 1 eB v (shiftB a n), Was st] st' := by
  refine shows_call ok.mixed ok.h127 (by simp [k127]) ?_
  simp only [k127]
  simp
  have hla := ha.len
  have hlen := shiftB_len a n
  obtain ⟨R, hR⟩ : ∃ R, R = shiftB a n := ⟨_, rfl⟩
  have S : Sep [Sl 1 eB (.sl .nil [] 0) (R.take 0), Was st] st := (Sep.start st).slNil
  have w0 : IntKind.i64.wrap ((a.length : Int) + n) = (a.length : Int) + n := wrap64 (by omega) (by omega)
  rw [← hR] at hlen ⊢
  refine vc_loopJ (fun k env' st' => ∃ i s, i ≤ R.length ∧ k = R.length - i ∧ env' 6 = .int .i64 (i : Nat) ∧ env' 5 = s ∧ Sep [Sl 1 eB s (R.take i), Was st] st') R.length
    ⟨0, _, by omega, by omega, rfl, rfl, S⟩ ?_
  clear S
  rintro J hJ k env' st2 hsame ⟨i, s2, hi, rfl, h6, h5, S⟩
  have g0 := hsame.get 0 rfl
  have g1 := hsame.get 1 rfl
  simp at g0 g1
  clear hsame
  have w1 : IntKind.i64.wrap ((i : Int) + 1) = (i : Int) + 1 := wrap64 (by omega) (by omega)
  have w2 : IntKind.i64.wrap ((i : Int) - n) = (i : Int) - n := wrap64 (by omega) (by omega)
  by_cases hlt : i < R.length
  · have hlt' : (i : Int) < (a.length : Int) + n := by omega
    have hsub := S.was' (st0 := st) (by simp)
    have hget : R[i] = atI a ((i : Int) - n) := by
      have := shiftB_get a n (i := i) (by rw [← hR]; exact hlt)
      rw [← this]; congr 1
    simp [g0, g1, h6, h5, hla, w0, hlt', w2]
    refine (spec123 ok (ha.sub hsub) ((i : Int) - n)).mono ?_
    rintro v st2 ⟨rfl, rfl⟩
    rw [← hget]
    simp [bfill, belems]
    refine Sep.app1 (b := 1) eB_len (by omega) S (a := R[i]) rfl (by simp; omega) ?_
    intro s4 st4 S
    simp [h6, w1]
    refine Round.mk (R.length - (i + 1)) _ (by omega) (sub_self _) (hJ _ _ _ ⟨i + 1, s4, by omega, rfl, by simp, by simp, ?_⟩)
    rw [List.take_succ_eq_append_getElem hlt]
    exact S
  · have : i = R.length := by omega
    have hlt' : ¬ (i : Int) < (a.length : Int) + n := by omega
    simp [g0, g1, h6, h5, hla, w0, hlt']
    rw [this, List.take_length] at S
    exact ⟨st2, sub_self _, S⟩

/-! ### Mul -/
set_option maxHeartbeats 1000000 in
theorem spec128 (ok : OkRef02 P F) {st : St} {s t : V} {a b : List Bool} (ha : Rd 1 eB s a st) (hb : Rd 1 eB t b st) (la : a.length ≤ 10000) (lb : b.length ≤ 10000) : ACalls P (F 128) [s, t] st fun v st' => (∃ k, v = .sl k (rowsOf eB (mulB a b 0 [])) (mulB a b 0 []).length) ∧ st' = st := by
  refine shows_call ok.mixed ok.h128 (by simp [k128]) ?_
  simp only [k128]
  simp
  have hlb := hb.len
  refine vc_loopJ (fun k env' st' => ∃ (i : Nat) (kd : SK) (out : List Bool), i ≤ b.length ∧ k = b.length - i ∧ env' 6 = .int .i64 (i : Nat) ∧ env' 5 = .sl kd (rowsOf eB out) out.length ∧ out.length ≤ a.length + 2 * i + 1 ∧ mulB a b 0 [] = mulB a (b.drop i) i out ∧ St.sub st st') b.length
    ⟨0, .nil, [], by omega, by omega, rfl, by simp, by simp, by simp, sub_self _⟩ ?_
  rintro J hJ k env' st2 hsame ⟨i, kd, out, hi, rfl, h6, h5, hol, hm, hsub⟩
  have g0 := hsame.get 0 rfl
  have g1 := hsame.get 1 rfl
  simp at g0 g1
  clear hsame
  have w1 : IntKind.i64.wrap ((i : Int) + 1) = (i : Int) + 1 := wrap64 (by omega) (by omega)
  by_cases hlt : i < b.length
  · obtain ⟨p, hp1, hp2⟩ := (hb.sub hsub).idx eB_len hlt .i64
    rw [List.drop_eq_getElem_cons hlt, mulB] at hm
    simp [g0, g1, h6, h5, hlb, hlt, hp1, hp2, eB]
    cases hbi : b[i] with
    | true =>
      rw [hbi] at hm
      simp [g0, g1, h6, h5]
      refine (spec127 ok (ha.sub hsub) (by omega) (i : Int) (by omega)).mono ?_
      intro v st3 S
      have hsh : shiftB a (i : Int) = shlB a i := by simp [shiftB]
      rw [hsh] at S
      have rd2 := S.rd eB_len
      have hsub2 := sub_trans hsub (S.was' (st0 := st2) (by simp))
      simp
      refine (spec124 ok (st := st3) (a := out) (b := shlB a i) (.inl ⟨kd, rfl⟩) rd2 (by omega) (by simp [shlB]; omega)).mono ?_
      rintro w st3 ⟨rfl, rfl⟩
      simp [h6, w1]
      refine Round.mk (b.length - (i + 1)) _ (by omega) (sub_self _) (hJ _ _ _ ⟨i + 1, .some, addB out (shlB a i), by omega, rfl, by simp, by simp [slB], ?_, by simpa using hm, hsub2⟩)
      rw [addB_len, shlB, List.length_append, List.length_replicate]
      omega
    | false =>
      rw [hbi] at hm
      simp [h6, w1]
      exact Round.mk (b.length - (i + 1)) _ (by omega) (sub_self _) (hJ _ _ _ ⟨i + 1, kd, out, by omega, rfl, by simp, by simp [h5], by omega, by simpa using hm, hsub⟩)
  · have : i = b.length := by omega
    subst this
    rw [List.drop_length, mulB] at hm
    simp [g1, h6, h5, hlb, hm]
    exact hsub

/-! ### Div -/
theorem valB_set (l : List Bool) {i : Nat} (hi : i < l.length) (h0 : l[i] = false) : valB (l.set i true) = valB l + 2 ^ i := by
  have e1 : l = l.take i ++ (l[i] :: l.drop (i + 1)) := by rw [← List.drop_eq_getElem_cons hi, List.take_append_drop]
  have e2 : l.set i true = l.take i ++ (true :: l.drop (i + 1)) := by rw [List.set_eq_take_append_cons_drop, if_pos hi]
  have hl : (l.take i).length = i := by rw [List.length_take]; omega
  rw [e2]
  conv => rhs; rw [e1]
  rw [valB_append, valB_append, h0, valB, valB, hl]
  simp only [Bool.toNat_true, Bool.toNat_false, Nat.mul_add]
  omega
/-- What can be read, whoever has it. -/
def RdA (s : V) (l : List Bool) : Asn := fun h => Rd 1 eB s l h
theorem Sep.rdA {s : V} {l : List Bool} {L : List Asn} {st : St} (h : Sep L st) (hm : RdA s l ∈ L) : Rd 1 eB s l st := by
  obtain ⟨g, k1, k2⟩ := h.memA hm
  exact Rd.sub k2 k1
theorem Sep.frzA {s : V} {l : List Bool} {L : List Asn} {st : St} (h : Sep (RdA s l :: L) st) : ∃ k st', frzV st s = some (.sl k (rowsOf eB l) l.length, st') ∧ Sep L st' := by
  obtain ⟨a, r, h1, h2, h3, h4⟩ := h
  have hsub : St.sub r st := sub_trans (sub_right h1) h2
  rcases h3 with ⟨k, rfl⟩ | ⟨sid, off, rfl, h5⟩
  · exact ⟨k, st, rfl, h4.sub hsub⟩
  · have key : ∀ (cs : List V), a sid = some (.cells cs) ∨ a sid = some (.ro cs) → segOf cs off (l.length * 1) = some (rowsOf eB l) → ∃ k st', frzV st (.hsl sid off 1 l.length) = some (.sl k (rowsOf eB l) l.length, st') ∧ Sep L st' := by
      intro cs hcs hseg
      have hne : ∀ j o, r j = some o → j ≠ sid := fun j o e e' => by
        subst e'
        rcases h1 j with g | g
        · rcases hcs with h | h <;> rw [g] at h <;> cases h
        · rw [e] at g; cases g
      refine ⟨.some, st.upd sid (.ro cs), ?_, h4.sub fun j o e => ?_⟩
      · rcases hcs with hc | hc
        · have hs := h2 _ _ (add_some hc)
          simp [frzV, frzOb, hs, St.seg] at hseg ⊢
          exact hseg
        · have hs := h2 _ _ (add_some hc)
          have e : st.upd sid (.ro cs) = st := by
            funext j
            by_cases hj : j = sid
            · subst hj; simp [hs]
            · simp [hj]
          rw [e]
          simp [frzV, frzOb, hs, St.seg] at hseg ⊢
          exact hseg
      · simp only [st_upd, hne j o e, if_false]
        exact hsub j o e
    unfold St.seg at h5
    split at h5
    · rename_i cs hc
      exact key cs (.inl hc) h5
    · rename_i cs hc
      exact key cs (.inr hc) h5
    · cases h5
theorem div_step {X B b : Nat} (hB : 0 < B) (hb : b ≤ 1) : (2 * X + b) / B = 2 * (X / B) + (if B ≤ 2 * (X % B) + b then 1 else 0) ∧ (2 * X + b) % B = 2 * (X % B) + b - (if B ≤ 2 * (X % B) + b then B else 0) := by
  have hd := Nat.div_add_mod X B
  have hm := Nat.mod_lt X hB
  have e : 2 * X + b = B * (2 * (X / B)) + (2 * (X % B) + b) := by
    conv => lhs; rw [← hd]
    rw [Nat.mul_add, Nat.mul_left_comm]
    omega
  generalize X / B = q at *
  generalize X % B = r at *
  rw [e, Nat.mul_add_div hB, Nat.mul_add_mod]
  split
  · rename_i h
    have h1 : (2 * r + b) / B = 1 := Nat.div_eq_of_lt_le (by omega) (by omega)
    have h2 := Nat.div_add_mod (2 * r + b) B
    rw [h1] at h2
    exact ⟨by rw [h1], by omega⟩
  · rename_i h
    rw [Nat.div_eq_of_lt (by omega), Nat.mod_eq_of_lt (by omega)]
    exact ⟨rfl, rfl⟩
theorem dif_exact {X B : Nat} (h1 : B ≤ X) (h2 : X < 2 * B) (h3 : B ≤ 2 ^ 256) : (2 ^ 256 + X % 2 ^ 256 - B % 2 ^ 256) % 2 ^ 256 = X - B := by
  generalize 2 ^ 256 = M at *
  have hM : 0 < M := by omega
  have hB := Nat.div_add_mod B M
  have hX := Nat.div_add_mod X M
  have lB := Nat.mod_lt B hM
  have lX := Nat.mod_lt X hM
  by_cases hBM : B = M
  · subst hBM
    rw [Nat.mod_self, Nat.sub_zero, Nat.add_mod_left, Nat.mod_mod, Nat.mod_eq_sub_mod h1, Nat.mod_eq_of_lt (by omega)]
  · rw [Nat.mod_eq_of_lt (show B < M by omega)]
    by_cases hXM : X < M
    · rw [Nat.mod_eq_of_lt hXM, show M + X - B = (X - B) + M by omega, Nat.add_mod_right, Nat.mod_eq_of_lt (by omega)]
    · have e : X % M = X - M := by
        rw [Nat.mod_eq_sub_mod (by omega), Nat.mod_eq_of_lt (by omega)]
      rw [e, show M + (X - M) - B = X - B by omega, Nat.mod_eq_of_lt (by omega)]
theorem rowsB_set (l : List Bool) (sp : List V) {i : Nat} (hi : i < l.length) (x : Bool) : spliceV (rowsOf eB l ++ sp) i [.bool x] = rowsOf eB (l.set i x) ++ sp := by
  have := rowsOf_splice (f := eB) (sz := 1) eB_len l sp hi (o := 0) (vs := [.bool x]) (by simp) (a := x) rfl
  simpa using this
/-- One bit of a slice is written. -/
theorem Sep.setB {s : V} {l : List Bool} {L : List Asn} {st : St} (h : Sep (Sl 1 eB s l :: L) st) {i : Nat} (hi : i < l.length) (k : IntKind) (x : Bool) : ∃ p, idxSlV 1 s (.int k (i : Int)) = some p ∧ ∃ st', storeS st 1 p (.bool x) = some st' ∧ Sep (Sl 1 eB s (l.set i x) :: L) st' := by
  obtain ⟨a, r, h1, h2, h3, h4⟩ := h
  rcases h3 with ⟨_, rfl⟩ | ⟨sid, spare, rfl, h5, h6⟩
  · simp at hi
  · have hsid := h2 _ _ (add_some h5)
    have hl := rowsOf_length eB_len l
    refine ⟨.ptr (some (sid, i)), by simp [hi], st.upd sid (.cells (rowsOf eB (l.set i x) ++ spare)), ?_, ?_⟩
    · simp only [storeS, hsid, cells_bool]
      rw [if_pos ⟨rfl, by simp; omega⟩, rowsB_set l spare hi]
    · have hsep : Sep (pt sid (.cells (rowsOf eB l ++ spare)) :: L) st := ⟨a, r, h1, h2, h5, h4⟩
      exact (hsep.set _).head fun g hg => .inr ⟨sid, spare, by simp, hg, h6⟩
set_option maxHeartbeats 2000000 in
theorem spec129 (ok : OkRef02 P F) {st : St} {s t : V} {a b : List Bool} (ha : Rd 1 eB s a st) (hb : Rd 1 eB t b st) (la : a.length ≤ 10000) (lb : b.length ≤ 10000) (h0 : 0 < valB b) (hbig : valB b ≤ 2 ^ 256) :
    ACalls P (F 129) [s, t] st fun v st' => (∃ k w, v = .tup [.sl k (rowsOf eB (bitsN a.length (valB a / valB b))) a.length, w] ∧ (a.length ≠ 0 → k = .some)) ∧ st' = st := by
  refine shows_call ok.mixed ok.h129 (by simp [k129]) ?_
  simp only [k129]
  have hla := ha.len
  have w0 : IntKind.i64.wrap ((a.length : Int) - 1) = (a.length : Int) - 1 := wrap64 (by omega) (by omega)
  simp [hla, mkslS, mkNew, w0]
  refine ⟨by omega, ?_⟩
  intro qid hqid
  obtain ⟨n, hn⟩ : ∃ n, n = a.length := ⟨_, rfl⟩
  obtain ⟨A, hA⟩ : ∃ A, A = valB a := ⟨_, rfl⟩
  obtain ⟨B, hB⟩ : ∃ B, B = valB b := ⟨_, rfl⟩
  rw [← hB] at h0 hbig
  rw [← hn, ← hA, ← hB]
  have hrep : ∀ m, repV [V.bool false] m = rowsOf eB (List.replicate m false) := fun m => by
    induction m with
    | zero => rfl
    | succ m ih => rw [repV, ih, List.replicate_succ, rowsOf_cons]; rfl
  have hA2 : A / 2 ^ n = 0 := by
    rw [hA, hn]; exact Nat.div_eq_of_lt (valB_lt a)
  have S : Sep [RdA (.sl .nil [] 0) [], Sl 1 eB (.hsl qid 0 1 n) (List.replicate n false), Was st] (st.upd qid (.cells (repV [.bool false] n))) := by
    refine Sep.put ?_ (.inl ⟨.nil, rfl⟩)
    rw [hrep]
    refine ((Sep.start st).new hqid (.cells (rowsOf eB (List.replicate n false)))).head fun g hg => .inr ⟨qid, [], by simp, ?_, by simp⟩
    rw [List.append_nil]; exact hg
  generalize st.upd qid _ = st1 at S ⊢
  refine vc_loopJ (fun k env' st' => ∃ (s7 : V) (lf q : List Bool), k ≤ n ∧ env' 8 = .int .i64 ((k : Int) - 1) ∧ env' 7 = s7 ∧ env' 6 = .hsl qid 0 1 n ∧ q.length = n ∧ lf.length ≤ 300 + (n - k) ∧ valB lf = A / 2 ^ k % B ∧ valB q = A / 2 ^ k / B * 2 ^ k ∧
      Sep [RdA s7 lf, Sl 1 eB (.hsl qid 0 1 n) q, Was st] st') n
    ⟨_, [], List.replicate n false, by omega, by simp, rfl, by simp, by simp, by simp, by rw [hA2]; simp [valB], by rw [hA2]; simp [valB_zeros], S⟩ ?_
  clear S
  rintro J hJ k env' st2 hsame ⟨s7, lf, q, hk, h8, h7, h6, hql, hlf, hr, hv, S⟩
  have g0 := hsame.get 0 rfl
  have g1 := hsame.get 1 rfl
  simp at g0 g1
  clear hsame
  cases k with
  | zero =>
    rw [Nat.pow_zero, Nat.div_one] at hr hv
    rw [Nat.mul_one] at hv
    have hqe : q = bitsN n (A / B) := by
      have := bitsN_valB q
      rw [hql, hv] at this
      exact this.symm
    simp at h8
    simp [h8]
    obtain ⟨k1, st3, hf1, S1, hk1⟩ := (Sep.swap S).frzSl eB_len
    obtain ⟨k2, st4, hf2, S2⟩ := S1.frzA
    rw [hql] at hf1
    have hne : ∀ (v : V) (t : Nat), ((env'.upd 15 (.int .i64 (-1))).upd 16 (.bool false)).upd 6 v t = if t = 6 then v else ((env'.upd 15 (.int .i64 (-1))).upd 16 (.bool false)) t := fun _ _ => rfl
    have hk1' : n ≠ 0 → k1 = .some := fun h => hk1 (fun e => h (by rw [← hql, e]; rfl))
    simp [frzP, h6, h7, hf1, hf2, hqe, -ne_eq]
    exact ⟨S2.was' (by simp), by simpa [hn] using hk1'⟩
  | succ i =>
    have h8' : env' 8 = .int .i64 (i : Int) := by rw [h8]; congr 1; omega
    have w1 : IntKind.i64.wrap ((i : Int) - 1) = (i : Int) - 1 := wrap64 (by omega) (by omega)
    have hi : i < a.length := by omega
    have pw : ∀ Q, Q * 2 ^ (i + 1) = 2 * Q * 2 ^ i := fun Q => by rw [Nat.pow_succ, Nat.mul_comm (2 ^ i) 2, ← Nat.mul_assoc, Nat.mul_comm Q 2]
    have hrB : valB lf < B := by rw [hr]; exact Nat.mod_lt _ h0
    have rdl := S.rdA (s := s7) (l := lf) (by simp)
    simp [h8', h7]
    -- the shift, framed
    refine (Sep.call (A := RdA s7 lf) (R := fun v st' => Sep [Sl 1 eB v (shiftB lf 1)] st') S (fun g hg => (spec127 ok hg (by omega) 1 (by omega)).mono fun v s h => Sep.tail (fun r hr => trivial) h)).mono ?_
    intro v st3 S3
    have S4 : Sep [Sl 1 eB v (shiftB lf 1), Sl 1 eB (.hsl qid 0 1 n) q, Was st] st3 := by
      obtain ⟨x, r, e1, e2, e3, e4⟩ := S3
      obtain ⟨y, z, f1, f2, f3, f4⟩ := e3
      exact ⟨y, r, Disj.sub e1 (sub_trans (sub_add y z) f2), fun i o e => e2 i o (by
        simp only [St.add] at e ⊢
        cases hy : y i with
        | some w =>
          rw [hy] at e
          rw [f2 i w (add_some hy)]
          exact e
        | none =>
          rw [hy] at e
          simp only at e
          have : x i = none := (e1 i).resolve_right (by rw [e]; simp)
          rw [this]
          exact e), f3, e4⟩
    have hsh : shiftB lf 1 = false :: lf := by simp [shiftB, shlB]
    rw [hsh] at S4
    have hlen := (S4.rd eB_len).len
    obtain ⟨p, hp1, hp2⟩ := (ha.sub (S4.was' (st0 := st) (by simp))).idx eB_len hi .i64
    obtain ⟨pp, hs1, st5, hs2, S5⟩ := S4.setB (i := 0) (by simp) .i64 a[i]
    have hbit : a[i] = (A / 2 ^ i % 2 == 1) := by
      have := atB_eq a i
      rw [← hA] at this
      rw [← this]; simp [atB, hi]
    obtain ⟨x, hx⟩ : ∃ x, x = a[i] := ⟨_, rfl⟩
    rw [← hx] at hs2 S5 hbit hp2
    have hset : (false :: lf).set 0 x = x :: lf := rfl
    rw [hset] at S5
    simp at hs1
    have hl0 : ((lf.length : Int) + 1 == 0) = false := by simp; omega
    simp [hlen, hl0, h8', g0, g1, hp1, hp2, eB, hs1, hs2]
    have hvx : valB (x :: lf) = 2 * (A / 2 ^ (i + 1) % B) + x.toNat := by rw [valB, hr]; omega
    have hxb : x.toNat ≤ 1 := by cases x <;> simp
    have hAi : A / 2 ^ i = 2 * (A / 2 ^ (i + 1)) + x.toNat := by
      have e : A / 2 ^ (i + 1) = A / 2 ^ i / 2 := by rw [Nat.pow_succ, Nat.div_div_eq_div_mul]
      have : x.toNat = A / 2 ^ i % 2 := by rw [hbit]; exact mod_toNat _
      omega
    obtain ⟨d1, d2⟩ := div_step (X := A / 2 ^ (i + 1)) h0 hxb
    rw [← hAi, ← hvx] at d1 d2
    have rd5 := S5.rd eB_len
    have hsub5 := S5.was' (st0 := st) (by simp)
    refine (spec125 ok rd5 (hb.sub hsub5) (by simp; omega) (by omega)).mono ?_
    rintro w st5 ⟨rfl, rfl⟩
    rw [← hB]
    by_cases hlt : valB (x :: lf) < B
    · have hge : ¬ B ≤ valB (x :: lf) := by omega
      rw [if_neg hge] at d1 d2
      simp [hlt, w1, h8']
      refine Round.mk i _ (by omega) (sub_self _) (hJ _ _ _ ⟨v, x :: lf, q, by omega, by simp, by simp, by simp [h6], hql, by simp; omega, ?_, ?_, S5.head fun g hg => hg.rd eB_len⟩)
      · rw [d2, hvx]; omega
      · rw [hv, d1, pw]; rfl
    · have hge : B ≤ valB (x :: lf) := by omega
      rw [if_pos hge] at d1 d2
      have hqi : i < q.length := by omega
      have hq0 : q[i] = false := by
        have h1 := atB_eq q i
        have h2 : atB q i = q[i] := by simp [atB, hqi]
        have h3 : valB q / 2 ^ i % 2 = 0 := by
          rw [hv, Nat.pow_succ, Nat.mul_comm (2 ^ i) 2, ← Nat.mul_assoc, Nat.mul_div_cancel _ (Nat.two_pow_pos i), Nat.mul_mod_left]
        rw [← h2, h1, h3]; rfl
      obtain ⟨pq, ht1, st6, ht2, S6⟩ := (Sep.swap S5).setB hqi .i64 true
      have hqs := valB_set q hqi hq0
      simp at ht1
      have hql' : (i : Int) < n := by omega
      have rd6 := (Sep.swap S6).rd eB_len
      have hsub6 := S6.was' (st0 := st) (by simp)
      obtain ⟨hlt9, rfl⟩ := ht1
      simp [hlt, h6, h8', g1, hql', ht2]
      refine (spec126 ok rd6 (hb.sub hsub6)).mono ?_
      rintro u st6 ⟨rfl, rfl⟩
      have hlt2 : valB (x :: lf) < 2 * B := by
        have := Nat.mod_lt (A / 2 ^ (i + 1)) h0
        omega
      have hd : valB (bitsN 256 (difN (valB (x :: lf)) (valB b))) = valB (x :: lf) - B := by
        rw [valB_bitsN, difN, ← hB]
        exact dif_exact hge hlt2 hbig
      simp [w1, h8']
      have S7 : Sep [RdA (slB (bitsN 256 (difN (valB (x :: lf)) (valB b)))) (bitsN 256 (difN (valB (x :: lf)) (valB b))), Sl 1 eB (.hsl qid 0 1 n) (q.set i true), Was st] st6 := by
        have : Sep [Sl 1 eB (.hsl qid 0 1 n) (q.set i true), Was st] st6 := Sep.tail (fun r hr => hr.drop) S6
        exact this.put (.inl ⟨.some, rfl⟩)
      refine Round.mk i _ (by omega) (sub_self _) (hJ _ _ _ ⟨_, _, q.set i true, by omega, by simp, rfl, by simp [h6], by simpa using hql, ?_, ?_, ?_, S7⟩)
      · rw [bitsN_len]; omega
      · rw [hd, d2, hvx]
      · rw [hqs, hv, d1, pw, Nat.add_mul, Nat.one_mul]
end
end Go.Ab
/-
  hash.Sum and hash.Twice.
-/
set_option linter.unusedSimpArgs false
set_option linter.unusedVariables false
set_option maxRecDepth 10000
namespace Go.Ab
open Go Go.RowKit
section
variable {P : Program} {F : Fn}

/-- Slices that are read, one after the other. -/
inductive Parts (st : St) : List V → List (List UInt8) → Prop
  | nil : Parts st [] []
  | cons {s : V} {l : List UInt8} {ss : List V} {ls : List (List UInt8)} (h : Rd 1 e8 s l st) (t : Parts st ss ls) : Parts st (s :: ss) (l :: ls)
theorem Parts.sub {st st' : St} {ss : List V} {ls : List (List UInt8)} (h : Parts st ss ls) (hs : St.sub st st') : Parts st' ss ls := by
  induction h with
  | nil => exact .nil
  | cons h t ih => exact .cons (h.sub hs) ih
theorem Parts.len {st : St} {ss : List V} {ls : List (List UInt8)} (h : Parts st ss ls) : ss.length = ls.length := by
  induction h with
  | nil => rfl
  | cons h t ih => simp [ih]
theorem Parts.get {st : St} {ss : List V} {ls : List (List UInt8)} (h : Parts st ss ls) {i : Nat} (hi : i < ls.length) : Rd 1 e8 (ss[i]'(by rw [h.len]; exact hi)) ls[i] st := by
  induction h generalizing i with
  | nil => simp at hi
  | cons h t ih =>
    cases i with
    | zero => exact h
    | succ i => exact ih (by simpa using hi)
def PartsA (ss : List V) (ls : List (List UInt8)) : Asn := fun h => Parts h ss ls
theorem Sep.parts {ss : List V} {ls : List (List UInt8)} {L : List Asn} {st : St} (h : Sep (PartsA ss ls :: L) st) : Parts st ss ls := by
  obtain ⟨h', h1, h2⟩ := h.part
  exact h2.sub h1
theorem cells8_len (v : V8) : (cells8 v).length = 8 := rfl
def s1 (s : V) : List V := [s]
theorem zR32_rep : zR32_w80 = (List.replicate 32 (0 : UInt8)).map w8 := rfl

theorem bytesOf_e8 : ∀ l : List UInt8, bytesOf (rowsOf e8 l) = some l
  | [] => rfl
  | b :: l => by
    have ih := bytesOf_e8 l
    simp [rowsOf_cons, e8, bytesOf, ih]
theorem toStr_rd {s : V} {l : List UInt8} {st : St} (h : Rd 1 e8 s l st) (hs : ∀ x, s ≠ .str x) : toStrV st s = some (.str ⟨l.toArray⟩) := by
  have he := h.elems e8_len
  unfold toStrV
  split
  · rename_i x; exact absurd rfl (hs x)
  · rw [he]
    simp [bytesOf_e8]
theorem set4 {α : Type} (p : List α) (z a b c d : α) (n : Nat) : ((((p ++ List.replicate (n + 4) z).set p.length a).set (p.length + 1) b).set (p.length + 2) c).set (p.length + 3) d = p ++ [a, b, c, d] ++ List.replicate n z := by
  have e : List.replicate (n + 4) z = z :: z :: z :: z :: List.replicate n z := rfl
  rw [e, List.set_append_right _ _ (by omega), List.set_append_right _ _ (by omega), List.set_append_right _ _ (by omega), List.set_append_right _ _ (by omega)]
  simp
theorem str_beq (a b : ByteArray) : (a == b) = (a.data == b.data) := rfl
theorem ext_mk (l : List UInt8) (a b : Nat) : ByteArray.extract ⟨l.toArray⟩ a b = ⟨((l.drop a).take (b - a)).toArray⟩ := by
  apply ByteArray.ext
  simp
theorem str_ne (l : List UInt8) : ((⟨l.toArray⟩ : ByteArray) != ⟨⟨[]⟩⟩) = decide (l ≠ []) := by
  unfold bne
  rw [str_beq]
  cases l <;> rfl
def tailB (n : Nat) (i : Nat) : UInt8 := UInt8.ofBitVec (((BitVec.ofNat 64 n * 8) >>> i).setWidth 8)
def tailL : List Nat := [56, 48, 40, 32, 24, 16, 8, 0]
theorem tail_at : ∀ q : Fin 8, tailL.take (q.val + 1) = tailL.take q.val ++ [56 - 8 * q.val] := by decide

/-- hash.Sum -/
theorem spec103 (ok : OkHash P F) (st : St) {ss : List V} {ls : List (List UInt8)} (hp : Parts st ss ls) (k0 : SK) (hl : ls.flatten.length ≤ 100000000) (hls : ls.length ≤ 1000000) : ACalls P (F 103) [.sl k0 ss ss.length] st fun v st' => v = .agg (eId (sha ls.flatten)) ∧ st' = st := by
  refine shows_call ok.mixed ok.h103 (by simp [k103]) ?_
  simp only [k103]
  simp
  intro rid hrid
  have S := Sep.start st
  have S := S.new hrid (.cells zR32_w80)
  generalize st.upd rid _ = st1 at S ⊢
  have S : Sep [Slx 1 e8 (.sl .nil [] 0) (ls.take 0).flatten, pt rid (.cells zR32_w80), Was st] st1 := Sep.slxNil S
  simp
  refine vc_loopJ (fun k env' st' => ∃ i s, i ≤ ls.length ∧ k = ls.length - i ∧ env' 15 = .int .i64 (i : Nat) ∧ env' 3 = s ∧ Sep [Slx 1 e8 s (ls.take i).flatten, pt rid (.cells zR32_w80), Was st] st') ls.length
    ⟨0, _, by omega, by omega, rfl, rfl, S⟩ ?_
  clear S
  rintro J hJ k env' st2 hsame ⟨i, s, hi, rfl, h15, h3, S⟩
  have g2 : env' 2 = .ptr (some (rid, 0)) := hsame.get 2 rfl
  have g13 : env' 13 = .sl k0 ss ss.length := hsame.get 13 rfl
  have g14 : env' 14 = .int .i64 ss.length := hsame.get 14 rfl
  clear hsame
  have hsl := hp.len
  have w2 : IntKind.i64.wrap ((i : Int) + 1) = (i : Int) + 1 := wrap64 (by omega) (by omega)
  by_cases hlt : i < ls.length
  · have pr := (hp.sub (S.was' (by simp))).get hlt
    have hlt' : i < ss.length := by omega
    have hsg : segOf (ss.drop i) 0 1 = some [ss[i]] := by
      unfold segOf
      rw [if_pos (by simp; omega), List.drop_zero, List.drop_eq_getElem_cons hlt']
      rfl
    have hel := pr.elems e8_len
    simp [g2, g13, g14, h15, h3, hlt', hsg, hel]
    have hfl : (ls.take i).flatten.length + ls[i].length ≤ ls.flatten.length := by
      have e : ls.flatten = (ls.take i).flatten ++ (ls[i] ++ (ls.drop (i + 1)).flatten) := by
        rw [← List.flatten_cons, ← List.drop_eq_getElem_cons hlt, ← List.flatten_append, List.take_append_drop]
      rw [e, List.length_append, List.length_append]
      omega
    refine Sep.appx (b := 1) e8_len (by omega) S (m := ls[i]) (by omega) ?_
    intro s' st3 S3
    simp [h15, w2]
    refine Round.mk (ls.length - (i + 1)) _ (show ls.length - (i + 1) < ls.length - i by omega) (sub_self _) (hJ _ _ _ ⟨i + 1, s', by omega, rfl, by simp, by simp, ?_⟩)
    rw [List.take_succ_eq_append_getElem hlt, List.flatten_append]
    simpa using S3
  · have : i = ls.length := by omega
    subst this
    rw [List.take_length] at S
    obtain ⟨l, hll⟩ : ∃ l, l = ls.flatten := ⟨_, rfl⟩
    rw [← hll] at S hl ⊢
    have hlt' : ¬ ((ls.length : Int) < ss.length) := by omega
    have S : Sep [Sl 1 e8 s l, pt rid (.cells zR32_w80), Was st] st2 := S.head fun h hh => hh.sl
    have hsl2 := (Sep.rd e8_len S).len
    simp [g2, g13, g14, h15, h3, hlt', hsl2, fillV, repV, spliceV, elems]
    refine Sep.app1 e8_len (by omega) S (a := 0x80) rfl (by omega) ?_
    intro s1 st3 S
    simp
    obtain ⟨Z, hZ⟩ : ∃ Z, Z = (119 - l.length % 64) % 64 := ⟨_, rfl⟩
    clear hJ J
    refine vc_loopJ (fun k env' st' => ∃ z s, z ≤ Z ∧ k = Z - z ∧ env' 3 = s ∧ Sep [Sl 1 e8 s (l ++ 0x80 :: List.replicate z 0), pt rid (.cells zR32_w80), Was st] st') Z
      ⟨0, _, by omega, by omega, rfl, S⟩ ?_
    clear S
    rintro J hJ k env2 st4 hsame ⟨z, s2, hz, rfl, h3, S⟩
    have q2 : env2 2 = .ptr (some (rid, 0)) := (hsame.get 2 rfl).trans g2
    have q6 : env2 6 = .int .i64 l.length := hsame.get 6 rfl
    clear hsame
    have hln := (Sep.rd e8_len S).len
    have hle : (l ++ 0x80 :: List.replicate z (0 : UInt8)).length = l.length + 1 + z := by simp; omega
    rw [hle] at hln
    have htm : Int.tmod ((l.length + 1 + z : Nat) : Int) 64 = (((l.length + 1 + z) % 64 : Nat) : Int) := rfl
    obtain ⟨m, hm⟩ : ∃ m, m = l.length + 1 + z := ⟨_, rfl⟩
    rw [← hm] at hln htm
    by_cases h56 : m % 64 = 56
    · have : z = Z := by omega
      subst this
      have h56' : ((m : Int).tmod 64 != 56) = false := by rw [htm, h56]; rfl
      simp [h3, hln, h56']
      obtain ⟨pre, hpre⟩ : ∃ pre, pre = l ++ 0x80 :: List.replicate z (0 : UInt8) := ⟨_, rfl⟩
      rw [← hpre] at S hle
      clear hJ J
      refine vc_loopJ (fun k env' st' => ∃ q s, q ≤ 8 ∧ k = 8 - q ∧ env' 7 = .int .i64 (56 - 8 * (q : Int)) ∧ env' 3 = s ∧ Sep [Sl 1 e8 s (pre ++ (tailL.take q).map (tailB l.length)), pt rid (.cells zR32_w80), Was st] st') 8
        ⟨0, _, by omega, by omega, rfl, h3, by simpa using S⟩ ?_
      clear S
      rintro J hJ k env3 st5 hsame ⟨q, s3, hq, rfl, h7, h3, S⟩
      have r2 : env3 2 = .ptr (some (rid, 0)) := (hsame.get 2 rfl).trans q2
      have r6 : env3 6 = .int .i64 l.length := (hsame.get 6 rfl).trans q6
      clear hsame
      have w8' : IntKind.i64.wrap (56 - 8 * (q : Int) - 8) = 56 - 8 * ((q + 1 : Nat) : Int) := by rw [wrap64 (by omega) (by omega)]; omega
      by_cases hlt8 : q < 8
      · have hge : 8 * (q : Int) ≤ 56 := by omega
        have hsh := bin64_shr (BitVec.ofNat 64 l.length * 8#64) .i64 (56 - 8 * q)
        rw [show ((56 - 8 * q : Nat) : Int) = 56 - 8 * (q : Int) by omega] at hsh
        have hlen : (pre ++ (tailL.take q).map (tailB l.length)).length ≤ 100000200 := by
          rw [List.length_append, hle, List.length_map, List.length_take]
          omega
        simp [r2, r6, h7, h3, hge, hsh, fillV, repV, spliceV, elems]
        refine Sep.app1 (b := 1) e8_len (by omega) S (a := tailB l.length (56 - 8 * q)) ?_ (by omega) ?_
        · rfl
        · intro s4 st6 S
          simp [h7, w8']
          refine Round.mk (8 - (q + 1)) _ (show 8 - (q + 1) < 8 - q by omega) (sub_self _) (hJ _ _ _ ⟨q + 1, s4, by omega, rfl, by simp [w8'], by simp, ?_⟩)
          rw [tail_at ⟨q, hlt8⟩, List.map_append, ← List.append_assoc]
          exact S
      · have : q = 8 := by omega
        subst this
        have hpad : pre ++ (tailL.take 8).map (tailB l.length) = padM l := by
          rw [hpre, padM, ← hZ]
          simp only [List.append_assoc, List.cons_append]
          rfl
        rw [hpad] at S
        have rd := Sep.rd e8_len S
        have hns : ∀ x, s3 ≠ .str x := by
          rintro x rfl
          rcases rd with ⟨k, h⟩ | ⟨_, _, h, _⟩ <;> cases h
        have hts := toStr_rd rd hns
        simp [r2, r6, h7, h3, fillV, spliceV]
        intro vid hvid
        have S := S.new hvid (.cells (cells8 iv))
        simp [storeS, spliceV]
        have hiv : [w32 1779033703#32, w32 3144134277#32, w32 1013904242#32, w32 2773480762#32, w32 1359893119#32, w32 2600822924#32, w32 528734635#32, w32 1541459225#32] = cells8 iv := rfl
        rw [hiv]
        generalize st5.upd vid (.cells (cells8 iv)) = st6 at S ⊢
        have hts := toStr_rd (Sep.rd e8_len S.swap) hns
        have S : Sep [pt vid (.cells (cells8 iv)), pt rid (.cells zR32_w80), Was st] st6 := Sep.tail (fun r hr => hr.drop) S
        simp [h3, hts]
        have hpl : (padM l).length % 64 = 0 := by
          simp [padM]
          omega
        refine vc_loopJ (fun k env' st' => ∃ hc rest, k = rest.length ∧ env' 9 = .str ⟨rest.toArray⟩ ∧ rest.length % 64 = 0 ∧ blocksM (rest.length / 64) hc rest = blocksM ((padM l).length / 64) iv (padM l) ∧ Sep [pt vid (.cells (cells8 hc)), pt rid (.cells zR32_w80), Was st] st') (padM l).length
          ⟨_, _, rfl, rfl, hpl, rfl, S⟩ ?_
        clear S
        rintro J5 hJ5 k env5 st7 hsame ⟨hc, rest, rfl, h9, hr64, hbl, S⟩
        have t2 : env5 2 = .ptr (some (rid, 0)) := (hsame.get 2 rfl).trans r2
        have t8 : env5 8 = .ptr (some (vid, 0)) := hsame.get 8 rfl
        clear hsame
        have hne := str_ne rest
        by_cases hnil : rest = []
        · subst hnil
          have hfin : hc = blocksM ((padM l).length / 64) iv (padM l) := hbl
          have ov := S.get
          have hcc : cells8 hc = [w32 hc.a, w32 hc.b, w32 hc.c, w32 hc.d, w32 hc.e, w32 hc.f, w32 hc.g, w32 hc.h] := rfl
          simp [t2, t8, h9, hne]
          intro oid hoid
          have S := S.new hoid (.cells zR32_w80)
          generalize st7.upd oid (.cells zR32_w80) = st8 at S ⊢
          have ov := S.swap.get
          have sg8 : segOf (cells8 hc) 0 8 = some (cells8 hc) := rfl
          simp [t8, St.seg, ov, sg8]
          rw [zR32_rep] at S
          refine vc_loopJ (fun k env' st' => ∃ i, i ≤ 8 ∧ k = 8 - i ∧ env' 60 = .int .i64 (i : Nat) ∧ Sep [pt oid (.cells (((hc.list.take i).flatMap out4 ++ List.replicate (4 * (8 - i)) (0 : UInt8)).map w8)), pt vid (.cells (cells8 hc)), pt rid (.cells zR32_w80), Was st] st') 8
            ⟨0, by omega, by omega, rfl, S⟩ ?_
          clear S
          rintro J hJ k env6 st9 hsame ⟨i, hi, rfl, h60, S⟩
          have u2 : env6 2 = .ptr (some (rid, 0)) := (hsame.get 2 rfl).trans t2
          have u10 : env6 10 = .ptr (some (oid, 0)) := hsame.get 10 rfl
          have u59 : env6 59 = .agg (cells8 hc) := hsame.get 59 rfl
          clear hsame
          by_cases hlt : i < 8
          · have hlt2 : i < hc.list.length := hlt
            obtain ⟨x, hx⟩ : ∃ x, x = hc.list[i] := ⟨_, rfl⟩
            have hix : idxV 8 false 1 (.agg (cells8 hc)) (.int .i64 (i : Int)) = some (w32 x) := by
              rw [hx]
              have : i = 0 ∨ i = 1 ∨ i = 2 ∨ i = 3 ∨ i = 4 ∨ i = 5 ∨ i = 6 ∨ i = 7 := by omega
              rcases this with rfl | rfl | rfl | rfl | rfl | rfl | rfl | rfl <;> rfl
            obtain ⟨p, hp⟩ : ∃ p, p = (hc.list.take i).flatMap out4 := ⟨_, rfl⟩
            have hpl : p.length = 4 * i := by
              rw [hp]
              have : i = 0 ∨ i = 1 ∨ i = 2 ∨ i = 3 ∨ i = 4 ∨ i = 5 ∨ i = 6 ∨ i = 7 := by omega
              rcases this with rfl | rfl | rfl | rfl | rfl | rfl | rfl | rfl <;> rfl
            have hpn : (hc.list.take (i + 1)).flatMap out4 = p ++ out4 x := by
              rw [List.take_succ_eq_append_getElem hlt2, List.flatMap_append, ← hp, ← hx]
              simp
            obtain ⟨ys, hys⟩ : ∃ ys, ys = p ++ List.replicate (4 * (8 - i)) (0 : UInt8) := ⟨_, rfl⟩
            have hyl : ys.length = 32 := by rw [hys]; simp; omega
            rw [← hp, ← hys] at S
            have hset := set4 p (0 : UInt8) (UInt8.ofBitVec ((x >>> 24).setWidth 8)) (UInt8.ofBitVec ((x >>> 16).setWidth 8)) (UInt8.ofBitVec ((x >>> 8).setWidth 8)) (UInt8.ofBitVec (x.setWidth 8)) (4 * (8 - (i + 1)))
            rw [show 4 * (8 - (i + 1)) + 4 = 4 * (8 - i) by omega, ← hys, hpl] at hset
            have w1 : IntKind.i64.wrap ((i : Int) + 1) = (i : Int) + 1 := wrap64 (by omega) (by omega)
            have b0 : IntKind.i64.wrap (4 * (i : Int)) = 4 * (i : Int) := wrap64 (by omega) (by omega)
            have b1 : IntKind.i64.wrap (4 * (i : Int) + 1) = 4 * (i : Int) + 1 := wrap64 (by omega) (by omega)
            have b2 : IntKind.i64.wrap (4 * (i : Int) + 2) = 4 * (i : Int) + 2 := wrap64 (by omega) (by omega)
            have b3 : IntKind.i64.wrap (4 * (i : Int) + 3) = 4 * (i : Int) + 3 := wrap64 (by omega) (by omega)
            have a0 := idxArr_ptr 32 oid (z := 4 * (i : Int)) (j := 4 * i) (by omega) (by omega)
            have a1 := idxArr_ptr 32 oid (z := 4 * (i : Int) + 1) (j := 4 * i + 1) (by omega) (by omega)
            have a2 := idxArr_ptr 32 oid (z := 4 * (i : Int) + 2) (j := 4 * i + 2) (by omega) (by omega)
            have a3 := idxArr_ptr 32 oid (z := 4 * (i : Int) + 3) (j := 4 * i + 3) (by omega) (by omega)
            have hlt' : (i : Int) < 8 := by omega
            obtain ⟨c0, hc0⟩ : ∃ c, c = UInt8.ofBitVec ((x >>> 24).setWidth 8) := ⟨_, rfl⟩
            obtain ⟨c1, hc1⟩ : ∃ c, c = UInt8.ofBitVec ((x >>> 16).setWidth 8) := ⟨_, rfl⟩
            obtain ⟨c2, hc2⟩ : ∃ c, c = UInt8.ofBitVec ((x >>> 8).setWidth 8) := ⟨_, rfl⟩
            obtain ⟨c3, hc3⟩ : ∃ c, c = UInt8.ofBitVec (x.setWidth 8) := ⟨_, rfl⟩
            have ho : out4 x = [c0, c1, c2, c3] := by rw [hc0, hc1, hc2, hc3]; rfl
            rw [← hc0, ← hc1, ← hc2, ← hc3] at hset
            simp [u2, u10, u59, h60, hlt', hix, b0, b1, b2, b3, a0, a1, a2, a3, ← hc0, ← hc1, ← hc2, ← hc3]
            have k0 := arr_store (f := w8) S.get (i := 4 * i) (by omega) (x := c0) (v := w8 c0) rfl
            have S := S.set (.cells ((ys.set (4 * i) c0).map w8))
            rw [k0]
            have k1 := arr_store (f := w8) S.get (i := 4 * i + 1) (by simp; omega) (x := c1) (v := w8 c1) rfl
            have S := S.set (.cells (((ys.set (4 * i) c0).set (4 * i + 1) c1).map w8))
            generalize st9.upd oid (.cells ((ys.set (4 * i) c0).map w8)) = st10 at k1 S ⊢
            simp [-List.map_set, u10, a1, k1]
            have k2 := arr_store (f := w8) S.get (i := 4 * i + 2) (by simp; omega) (x := c2) (v := w8 c2) rfl
            have S := S.set (.cells ((((ys.set (4 * i) c0).set (4 * i + 1) c1).set (4 * i + 2) c2).map w8))
            generalize st10.upd oid (.cells (((ys.set (4 * i) c0).set (4 * i + 1) c1).map w8)) = st11 at k2 S ⊢
            simp [-List.map_set, u10, a2, k2]
            have k3 := arr_store (f := w8) S.get (i := 4 * i + 3) (by simp; omega) (x := c3) (v := w8 c3) rfl
            have S := S.set (.cells (((((ys.set (4 * i) c0).set (4 * i + 1) c1).set (4 * i + 2) c2).set (4 * i + 3) c3).map w8))
            generalize st11.upd oid (.cells ((((ys.set (4 * i) c0).set (4 * i + 1) c1).set (4 * i + 2) c2).map w8)) = st12 at k3 S ⊢
            simp [-List.map_set, u10, a3, k3, h60, w1]
            refine Round.mk (8 - (i + 1)) _ (show 8 - (i + 1) < 8 - i by omega) (sub_self _) (hJ _ _ _ ⟨i + 1, by omega, rfl, by simp, ?_⟩)
            rw [hpn, ho, ← hset]
            exact S
          · have : i = 8 := by omega
            subst this
            have oo := S.get
            have e : ((hc.list.take 8).flatMap out4 ++ List.replicate (4 * (8 - 8)) (0 : UInt8)).map w8 = eId (sha l) := by
              have : eId (sha l) = (outV (blocksM ((padM l).length / 64) iv (padM l))).map w8 := rfl
              rw [this, ← hfin]
              rfl
            rw [e] at oo
            have orr := S.mem (i := rid) (o := .cells zR32_w80) (by simp)
            have hst : storeS st9 32 (.ptr (some (rid, 0))) (.agg (eId (sha l))) = some (st9.upd rid (.cells (eId (sha l)))) := by
              rw [store_pt (st := st9) (id := rid) (o := 0) (sz := 32) (v := .agg (eId (sha l))) (vs := eId (sha l)) orr rfl (eId_len _) (by rw [zR32_w80_len]; omega)]
              rfl
            have sgi : segOf (eId (sha l)) 0 32 = some (eId (sha l)) := rfl
            simp [u2, u10, h60, St.seg, oo, sgi, hst]
            have T := S.setAt (.cells (eId (sha l))) 2 rfl
            exact T.was' (by simp)
        · have h64 : 64 ≤ rest.length := by
            have : 0 < rest.length := List.length_pos_iff.2 hnil
            omega
          have ov := S.get
          have hcc : cells8 hc = [w32 hc.a, w32 hc.b, w32 hc.c, w32 hc.d, w32 hc.e, w32 hc.f, w32 hc.g, w32 hc.h] := rfl
          have sg8 : segOf (cells8 hc) 0 8 = some (cells8 hc) := rfl
          have hsz : ByteArray.size ⟨rest.toArray⟩ = rest.length := rfl
          have n64 : natOf (.int .i64 64) = some 64 := rfl
          simp [t2, t8, h9, hne, hnil, slStrV, bounds, hsz, h64, St.seg, ov, sg8, ext_mk, opV, n64]
          refine (Sep.call (S.put (A := fun _ => True) trivial) (fun h _ => spec101 ok h hc ⟨(rest.take 64).toArray⟩ (by rw [show strB ⟨(rest.take 64).toArray⟩ = rest.take 64 from rfl]; simp; omega))).mono ?_
          rintro v st8 S8
          obtain ⟨_, _, rfl⟩ := S8.part
          have S := S8.drop
          rw [show strB ⟨(rest.take 64).toArray⟩ = rest.take 64 from rfl] at *
          have ov := S.get
          have hst : storeS st8 8 (.ptr (some (vid, 0))) (.agg (cells8 (blockM hc (rest.take 64)))) = some (st8.upd vid (.cells (cells8 (blockM hc (rest.take 64))))) := by
            rw [store_pt (st := st8) (id := vid) (o := 0) (sz := 8) (v := .agg (cells8 (blockM hc (rest.take 64)))) (vs := cells8 (blockM hc (rest.take 64))) ov rfl rfl (by rw [cells8_len]; omega)]
            rfl
          have htk : (rest.drop 64).take (rest.length - 64) = rest.drop 64 := List.take_of_length_le (by simp)
          simp [t8, h9, hst, slStrV, bounds, hsz, h64, ext_mk, opV, n64, htk]
          refine Round.mk (rest.drop 64).length _ (by simp; omega) (sub_self _) (hJ5 _ _ _ ⟨blockM hc (rest.take 64), rest.drop 64, rfl, by simp, by simp; omega, ?_, S.set _⟩)
          rw [← hbl, show rest.length / 64 = (rest.drop 64).length / 64 + 1 by simp; omega]
          rfl
    · have h56' : ((m : Int).tmod 64 != 56) = true := by
        rw [htm]
        simp; omega
      simp [h3, hln, h56', fillV, repV, spliceV, elems]
      refine Sep.app1 e8_len (by omega) S (a := 0) rfl (by rw [hle]; omega) ?_
      intro s3 st5 S
      simp
      refine Round.mk (Z - (z + 1)) _ (show Z - (z + 1) < Z - z by omega) (sub_self _) (hJ _ _ _ ⟨z + 1, s3, by omega, rfl, by simp, ?_⟩)
      rw [List.replicate_succ']
      simpa using S
end
end Go.Ab
/-
  hash.Twice.
-/
set_option linter.unusedSimpArgs false
set_option linter.unusedVariables false
set_option maxRecDepth 10000
namespace Go.Ab
open Go Go.RowKit
section
variable {P : Program} {F : Fn}

theorem rows_e8 : ∀ l : List UInt8, rowsOf e8 l = l.map w8
  | [] => rfl
  | b :: l => by rw [rowsOf_cons, rows_e8 l]; rfl
theorem eId_rows (x : Id) : eId x = rowsOf e8 x.toList := by rw [rows_e8]; rfl
theorem sha_list (l : List UInt8) : (sha l).toList = shaL l := rfl
theorem store_z32 {st : St} {i : Nat} (h : st i = some (.cells zR32_w80)) (x : Id) : storeS st 32 (.ptr (some (i, 0))) (.agg (eId x)) = some (st.upd i (.cells (eId x))) := by
  rw [store_pt h (vs := eId x) rfl (eId_len x) (by rw [zR32_w80_len]; omega)]
  congr 3
  simp [spliceV, eId_len]
theorem segId0 (x : Id) : segOf (eId x) 0 32 = some (eId x) := by
  rw [segOf, if_pos (by rw [eId_len]; omega), List.drop_zero, List.take_of_length_le (by rw [eId_len]; omega)]
/-- hash.Twice -/
theorem spec104 (ok : OkHash P F) (st : St) {ss : List V} {ls : List (List UInt8)} (hp : Parts st ss ls) (k0 : SK) (hl : ls.flatten.length ≤ 100000000) (hls : ls.length ≤ 1000000) : ACalls P (F 104) [.sl k0 ss ss.length] st fun v st' => v = .agg (eId (sha2 ls.flatten)) ∧ st' = st := by
  refine shows_call ok.mixed ok.h104 (by simp [k104]) ?_
  simp only [k104]
  simp
  intro rid hrid
  have S := (Sep.start st).new hrid (.cells zR32_w80)
  generalize st.upd rid _ = st1 at S ⊢
  have hp1 : Parts st1 ss ls := hp.sub (S.was' (by simp))
  simp
  refine (spec103 ok st1 hp1 k0 hl hls).mono ?_
  rintro v st1 ⟨rfl, rfl⟩
  simp
  intro iid hiid
  have S := S.new hiid (.cells zR32_w80)
  obtain ⟨x, hx⟩ : ∃ x, x = sha ls.flatten := ⟨_, rfl⟩
  rw [← hx]
  have S1 := S.set (.cells (eId x))
  have hst := store_z32 S.get x
  generalize st1.upd iid (.cells zR32_w80) = st2 at S S1 hst ⊢
  simp [hst]
  generalize st2.upd iid (.cells (eId x)) = st3 at S1 ⊢
  have o := S1.get
  have S2 := S1.set (.ro (eId x))
  simp [frzP, frzV, frzOb, o]
  generalize st3.upd iid (.ro (eId x)) = st4 at S2 ⊢
  have hseg := segId0 x
  simp [slArrV, bounds, hseg, fillV, spliceV, repV, eId_len, opV]
  have htk : List.take 32 (eId x) = rowsOf e8 x.toList := by
    rw [← eId_rows, List.take_of_length_le (by rw [eId_len]; omega)]
  have hp2 : Parts st4 [.sl .full (List.take 32 (eId x)) 32] [x.toList] := by
    refine .cons (.inl ⟨.full, ?_⟩) .nil
    rw [htk]
    simp
  have hc := spec103 ok st4 hp2 .full (by simp) (by simp)
  refine hc.mono ?_
  rintro v st4 ⟨rfl, rfl⟩
  have hr : st4 rid = some (.cells zR32_w80) := S2.mem (by simp)
  have hst := store_z32 hr (sha x.toList)
  have T := S2.setAt (.cells (eId (sha x.toList))) 1 rfl
  have hsg := segId0 (sha x.toList)
  simp [hst, St.seg, hsg]
  refine ⟨T.was' (by simp), ?_⟩
  rw [hx, sha2, sha_list]
end
end Go.Ab
/-
  The code of functions of the program in the small language.
-/
set_option linter.unusedVariables false
namespace Go.Ab
open Go
-- regions [0, 1, 2, 3, 4, 5, 6, 7, 8, 9, 10]
/- tallystick/bits.Target -/
def k135 (F : Fn) : PF := PF.mk 47 1 [(PR.cell 2 true 4), (.t 3)] (.seq (.ops [(PO.mk (some 2) (.alloc [(w64 0), (w64 0), (w64 0), (w64 0)]) none), (PO.mk (some 3) (.mv (.k (.bool false))) none)]) (.seq (.ops [(PO.mk (some 7) (.mv (.t 0)) none), (PO.mk (some 8) (.bin .shr (.t 7) (.k (w64 24))) none), (PO.mk (some 9) (.conv .i64 (.t 8)) none), (PO.mk (some 10) (.mv (.t 0)) none), (PO.mk (some 11) (.bin .and (.t 10) (.k (w32 8388607))) none), (PO.mk (some 12) (.conv .u64 (.t 11)) none), (PO.mk (some 4) (.mv (.t 9)) none), (PO.mk (some 5) (.mv (.t 12)) none)]) (.seq (.seq (.ops [(PO.mk (some 13) (.mv (.t 5)) none), (PO.mk (some 14) (.bin .eql (.t 13) (.k (w64 0))) none), (PO.mk (some 15) (.mv (.t 14)) none), (PO.mk (some 16) (.mv (.t 0)) (some (15, false))), (PO.mk (some 17) (.bin .and (.t 16) (.k (w32 8388608))) (some (15, false))), (PO.mk (some 18) (.bin .neq (.t 17) (.k (w32 0))) (some (15, false))), (PO.mk (some 19) (.pick (.t 15) (.k (.bool true)) (.t 18)) none)]) (.cond (.t 19) (.seq (.ops [(PO.mk (some 20) (.build [(w64 0), (w64 0), (w64 0), (w64 0)] []) none), (PO.mk none (.store 4 (.t 2) (.t 20)) none), (PO.mk (some 3) (.mv (.k (.bool false))) none)]) .ret) .skip)) (.seq (.ops [(PO.mk (some 21) (.mv (.t 5)) none), (PO.mk (some 22) (.call (F 105) [(.t 21)]) none), (PO.mk (some 6) (.alloc [(w64 0), (w64 0), (w64 0), (w64 0)]) none), (PO.mk none (.store 4 (.t 6) (.t 22)) none)]) (.seq (.seq (.ops [(PO.mk (some 23) (.mv (.t 4)) none), (PO.mk (some 24) (.bin .leq (.t 23) (.k (.int .i64 3))) none)]) (.cond (.t 24) (.seq (.ops [(PO.mk (some 25) (.load true 4 (.t 6)) none), (PO.mk (some 26) (.mv (.t 4)) none), (PO.mk (some 27) (.bin .sub (.k (.int .i64 3)) (.t 26)) none), (PO.mk (some 28) (.bin .mul (.k (.int .i64 8)) (.t 27)) none), (PO.mk (some 29) (.call (F 113) [(.t 25), (.t 28)]) none), (PO.mk none (.store 4 (.t 6) (.t 29)) none)]) (.seq (.draw [(.s, (PO.mk (some 30) (.load true 4 (.t 6)) none)), (.s, (PO.mk (some 31) (.load true 4 (.t 6)) none)), (.s, (PO.mk (some 32) (.call (F 107) [(.t 31)]) none)), (.e, (PO.mk (some 33) (.not (.t 32)) none)), (.x, (PO.mk none (.store 4 (.t 2) (.t 30)) none)), (.e, (PO.mk (some 3) (.mv (.t 33)) none))]) .ret)) .skip)) (.seq (.seq (.ops [(PO.mk (some 34) (.load true 4 (.t 6)) none), (PO.mk (some 35) (.call (F 114) [(.t 34)]) none), (PO.mk (some 36) (.mv (.t 4)) none), (PO.mk (some 37) (.bin .sub (.t 36) (.k (.int .i64 3))) none), (PO.mk (some 38) (.bin .mul (.k (.int .i64 8)) (.t 37)) none), (PO.mk (some 39) (.bin .add (.t 35) (.t 38)) none), (PO.mk (some 40) (.bin .gtr (.t 39) (.k (.int .i64 256))) none)]) (.cond (.t 40) (.seq (.ops [(PO.mk (some 41) (.build [(w64 0), (w64 0), (w64 0), (w64 0)] []) none), (PO.mk none (.store 4 (.t 2) (.t 41)) none), (PO.mk (some 3) (.mv (.k (.bool false))) none)]) .ret) .skip)) (.seq (.ops [(PO.mk (some 42) (.load true 4 (.t 6)) none), (PO.mk (some 43) (.mv (.t 4)) none), (PO.mk (some 44) (.bin .sub (.t 43) (.k (.int .i64 3))) none), (PO.mk (some 45) (.bin .mul (.k (.int .i64 8)) (.t 44)) none), (PO.mk (some 46) (.call (F 112) [(.t 42), (.t 45)]) none), (PO.mk none (.store 4 (.t 2) (.t 46)) none), (PO.mk (some 3) (.mv (.k (.bool true))) none)]) .ret)))))))
-- regions [0, 1, 2, 3, 4, 5, 6, 7, 8, 9]
/- tallystick/bits.Short -/
def k136 (F : Fn) : PF := PF.mk 37 1 [(.t 2)] (.seq (.ops [(PO.mk (some 1) (.box (.t 0)) none), (PO.mk (some 2) (.mv (.k (w32 0))) none)]) (.seq (.ops [(PO.mk (some 5) (.load true 4 (.t 1)) none), (PO.mk (some 6) (.call (F 114) [(.t 5)]) none), (PO.mk (some 7) (.bin .add (.t 6) (.k (.int .i64 7))) none), (PO.mk (some 8) (.bin .quo (.t 7) (.k (.int .i64 8))) none), (PO.mk (some 3) (.mv (.t 8)) none)]) (.seq (.ops [(PO.mk (some 4) (.mv (.k (w64 0))) none)]) (.seq (.seq (.ops [(PO.mk (some 9) (.mv (.t 3)) none), (PO.mk (some 10) (.bin .leq (.t 9) (.k (.int .i64 3))) none)]) (.cond (.t 10) (.ops [(PO.mk (some 11) (.idxArr 4 1 (.t 1) (.k (.int .i64 0))) none), (PO.mk (some 12) (.load false 1 (.t 11)) none), (PO.mk (some 13) (.mv (.t 3)) none), (PO.mk (some 14) (.bin .sub (.k (.int .i64 3)) (.t 13)) none), (PO.mk (some 15) (.bin .mul (.k (.int .i64 8)) (.t 14)) none), (PO.mk (some 16) (.conv .u64 (.t 15)) none), (PO.mk (some 17) (.bin .shl (.t 12) (.t 16)) none), (PO.mk (some 4) (.mv (.t 17)) none)]) (.ops [(PO.mk (some 18) (.load true 4 (.t 1)) none), (PO.mk (some 19) (.mv (.t 3)) none), (PO.mk (some 20) (.bin .sub (.t 19) (.k (.int .i64 3))) none), (PO.mk (some 21) (.bin .mul (.k (.int .i64 8)) (.t 20)) none), (PO.mk (some 22) (.call (F 113) [(.t 18), (.t 21)]) none), (PO.mk (some 23) (.idx 4 false 1 (.t 22) (.k (.int .i64 0))) none), (PO.mk (some 4) (.mv (.t 23)) none)]))) (.seq (.seq (.ops [(PO.mk (some 24) (.mv (.t 4)) none), (PO.mk (some 25) (.bin .and (.t 24) (.k (w64 8388608))) none), (PO.mk (some 26) (.bin .neq (.t 25) (.k (w64 0))) none)]) (.cond (.t 26) (.seq (.ops [(PO.mk (some 27) (.mv (.t 4)) none), (PO.mk (some 28) (.bin .shr (.t 27) (.k (w64 8))) none), (PO.mk (some 4) (.mv (.t 28)) none)]) (.ops [(PO.mk (some 29) (.mv (.t 3)) none), (PO.mk (some 30) (.bin .add (.t 29) (.k (.int .i64 1))) none), (PO.mk (some 3) (.mv (.t 30)) none)])) .skip)) (.seq (.ops [(PO.mk (some 31) (.mv (.t 3)) none), (PO.mk (some 32) (.conv .u32 (.t 31)) none), (PO.mk (some 33) (.bin .shl (.t 32) (.k (w64 24))) none), (PO.mk (some 34) (.mv (.t 4)) none), (PO.mk (some 35) (.conv .u32 (.t 34)) none), (PO.mk (some 36) (.bin .or (.t 33) (.t 35)) none), (PO.mk (some 2) (.mv (.t 36)) none)]) .ret))))))
-- regions [0, 1, 2, 3, 4, 5, 6]
/- tallystick/bits.Work -/
def k137 (F : Fn) : PF := PF.mk 33 1 [(PR.cell 2 true 4)] (.seq (.ops [(PO.mk (some 1) (.box (.t 0)) none), (PO.mk (some 2) (.alloc [(w64 0), (w64 0), (w64 0), (w64 0)]) none)]) (.seq (.draw [(.s, (PO.mk (some 9) (.load true 4 (.t 1)) none)), (.s, (PO.mk (some 10) (.call (F 105) [(.k (w64 1))]) none)), (.e, (PO.mk (some 11) (.bsl false 4 2 [(w64 0), (w64 0), (w64 0), (w64 0)] [(0, (4, (.t 9))), (4, (4, (.t 10)))]) none)), (.s, (PO.mk (some 12) (.call (F 108) [(.t 11)]) none)), (.e, (PO.mk (some 8) (.mv (.t 12)) none)), (.e, (PO.mk (some 13) (.ext 0 (.t 8)) none)), (.e, (PO.mk (some 14) (.ext 1 (.t 8)) none)), (.a, (PO.mk (some 3) (.alloc [(w64 0), (w64 0), (w64 0), (w64 0)]) none)), (.x, (PO.mk none (.store 4 (.t 3) (.t 13)) none)), (.e, (PO.mk (some 4) (.mv (.t 14)) none))]) (.seq (.seq (.ops [(PO.mk (some 15) (.mv (.t 4)) none)]) (.cond (.t 15) (.seq (.ops [(PO.mk (some 16) (.call (F 105) [(.k (w64 1))]) none), (PO.mk none (.store 4 (.t 2) (.t 16)) none)]) .ret) .skip)) (.seq (.draw [(.s, (PO.mk (some 18) (.load true 4 (.t 1)) none)), (.s, (PO.mk (some 19) (.call (F 111) [(.t 18)]) none)), (.s, (PO.mk (some 20) (.load true 4 (.t 3)) none)), (.s, (PO.mk (some 21) (.call (F 116) [(.t 19), (.t 20)]) none)), (.e, (PO.mk (some 17) (.mv (.t 21)) none)), (.e, (PO.mk (some 22) (.ext 0 (.t 17)) none)), (.e, (PO.mk (some 23) (.ext 1 (.t 17)) none)), (.e, (PO.mk (some 24) (.ext 2 (.t 17)) none)), (.a, (PO.mk (some 5) (.alloc [(w64 0), (w64 0), (w64 0), (w64 0)]) none)), (.a, (PO.mk (some 6) (.alloc [(w64 0), (w64 0), (w64 0), (w64 0)]) none)), (.x, (PO.mk none (.store 4 (.t 5) (.t 22)) none)), (.x, (PO.mk none (.store 4 (.t 6) (.t 23)) none)), (.e, (PO.mk (some 7) (.mv (.t 24)) none))]) (.seq (.draw [(.s, (PO.mk (some 26) (.load true 4 (.t 5)) none)), (.s, (PO.mk (some 27) (.call (F 105) [(.k (w64 1))]) none)), (.e, (PO.mk (some 28) (.bsl false 4 2 [(w64 0), (w64 0), (w64 0), (w64 0)] [(0, (4, (.t 26))), (4, (4, (.t 27)))]) none)), (.s, (PO.mk (some 29) (.call (F 108) [(.t 28)]) none)), (.e, (PO.mk (some 25) (.mv (.t 29)) none)), (.e, (PO.mk (some 30) (.ext 0 (.t 25)) none)), (.e, (PO.mk (some 31) (.ext 1 (.t 25)) none)), (.x, (PO.mk none (.store 4 (.t 5) (.t 30)) none))]) (.seq (.ops [(PO.mk (some 32) (.load true 4 (.t 5)) none), (PO.mk none (.store 4 (.t 2) (.t 32)) none)]) .ret))))))
-- regions [0, 1, 2, 3, 4, 5, 6, 7, 8, 9, 10, 11, 12, 13, 14, 15]
/- tallystick/bits.Next -/
def k138 (F : Fn) : PF := PF.mk 80 4 [(.t 8), (.t 9)] (.seq (.ops [(PO.mk (some 7) (.box (.t 3)) none), (PO.mk (some 8) (.mv (.k (w32 0))) none), (PO.mk (some 9) (.mv (.k (.bool false))) none)]) (.seq (.ops [(PO.mk (some 15) (.mv (.t 0)) none), (PO.mk (some 16) (.call (F 135) [(.t 15)]) none), (PO.mk (some 14) (.mv (.t 16)) none), (PO.mk (some 17) (.ext 0 (.t 14)) none), (PO.mk (some 18) (.ext 1 (.t 14)) none), (PO.mk (some 10) (.alloc [(w64 0), (w64 0), (w64 0), (w64 0)]) none), (PO.mk none (.store 4 (.t 10) (.t 17)) none), (PO.mk (some 11) (.mv (.t 18)) none)]) (.seq (.seq (.ops [(PO.mk (some 19) (.mv (.t 11)) none), (PO.mk (some 20) (.not (.t 19)) none), (PO.mk (some 21) (.mv (.t 20)) none), (PO.mk (some 22) (.mv (.t 2)) (some (21, false))), (PO.mk (some 23) (.bin .lss (.t 22) (.k (.int .i64 1))) (some (21, false))), (PO.mk (some 24) (.pick (.t 21) (.k (.bool true)) (.t 23)) none), (PO.mk (some 25) (.mv (.t 24)) none), (PO.mk (some 26) (.mv (.t 2)) (some (25, false))), (PO.mk (some 27) (.bin .gtr (.t 26) (.k (.int .i64 1099511627776))) (some (25, false))), (PO.mk (some 28) (.pick (.t 25) (.k (.bool true)) (.t 27)) none)]) (.cond (.t 28) (.seq (.ops [(PO.mk (some 8) (.mv (.k (w32 0))) none), (PO.mk (some 9) (.mv (.k (.bool false))) none)]) .ret) .skip)) (.seq (.ops [(PO.mk (some 29) (.mv (.t 2)) none), (PO.mk (some 30) (.bin .quo (.t 29) (.k (.int .i64 4))) none), (PO.mk (some 31) (.mv (.t 1)) none), (PO.mk (some 32) (.mv (.t 2)) none), (PO.mk (some 33) (.bin .mul (.k (.int .i64 4)) (.t 32)) none), (PO.mk (some 34) (.min [(.t 31), (.t 33)]) none), (PO.mk (some 35) (.max [(.t 30), (.t 34)]) none), (PO.mk (some 1) (.mv (.t 35)) none)]) (.seq (.ops [(PO.mk (some 37) (.load true 4 (.t 10)) none), (PO.mk (some 38) (.mv (.t 1)) none), (PO.mk (some 39) (.conv .u64 (.t 38)) none), (PO.mk (some 40) (.call (F 110) [(.t 37), (.t 39)]) none), (PO.mk (some 36) (.mv (.t 40)) none), (PO.mk (some 41) (.ext 0 (.t 36)) none), (PO.mk (some 42) (.ext 1 (.t 36)) none), (PO.mk (some 12) (.alloc [(w64 0), (w64 0), (w64 0), (w64 0)]) none), (PO.mk none (.store 4 (.t 12) (.t 41)) none), (PO.mk (some 13) (.mv (.t 42)) none)]) (.seq (.seq (.ops [(PO.mk (some 43) (.mv (.t 13)) none)]) (.cond (.t 43) (.seq (.draw [(.e, (PO.mk (some 46) (.mv (.t 2)) none)), (.e, (PO.mk (some 47) (.conv .u64 (.t 46)) none)), (.s, (PO.mk (some 45) (.load true 4 (.t 10)) none)), (.s, (PO.mk (some 48) (.call (F 105) [(.t 47)]) none)), (.s, (PO.mk (some 49) (.call (F 116) [(.t 45), (.t 48)]) none)), (.e, (PO.mk (some 44) (.mv (.t 49)) none)), (.e, (PO.mk (some 50) (.ext 0 (.t 44)) none)), (.e, (PO.mk (some 51) (.ext 1 (.t 44)) none)), (.e, (PO.mk (some 52) (.ext 2 (.t 44)) none)), (.x, (PO.mk none (.store 4 (.t 12) (.t 50)) none))]) (.seq (.seq (.ops [(PO.mk (some 54) (.load true 4 (.t 12)) none), (PO.mk (some 55) (.mv (.t 1)) none), (PO.mk (some 56) (.conv .u64 (.t 55)) none), (PO.mk (some 57) (.call (F 110) [(.t 54), (.t 56)]) none), (PO.mk (some 53) (.mv (.t 57)) none), (PO.mk (some 58) (.ext 0 (.t 53)) none), (PO.mk (some 59) (.ext 1 (.t 53)) none), (PO.mk none (.store 4 (.t 12) (.t 58)) none), (PO.mk (some 13) (.mv (.t 59)) none)]) (.seq (.ops [(PO.mk (some 60) (.mv (.t 13)) none)]) (.cond (.t 60) (.seq (.ops [(PO.mk (some 61) (.load true 4 (.t 7)) none), (PO.mk (some 62) (.call (F 136) [(.t 61)]) none), (PO.mk (some 8) (.mv (.t 62)) none), (PO.mk (some 9) (.mv (.k (.bool true))) none)]) .ret) .skip))) (.ops [(PO.mk (some 63) (.load true 4 (.t 12)) none), (PO.mk none (.store 4 (.t 10) (.t 63)) none)]))) (.draw [(.e, (PO.mk (some 66) (.mv (.t 2)) none)), (.e, (PO.mk (some 67) (.conv .u64 (.t 66)) none)), (.s, (PO.mk (some 65) (.load true 4 (.t 12)) none)), (.s, (PO.mk (some 68) (.call (F 105) [(.t 67)]) none)), (.s, (PO.mk (some 69) (.call (F 116) [(.t 65), (.t 68)]) none)), (.e, (PO.mk (some 64) (.mv (.t 69)) none)), (.e, (PO.mk (some 70) (.ext 0 (.t 64)) none)), (.e, (PO.mk (some 71) (.ext 1 (.t 64)) none)), (.e, (PO.mk (some 72) (.ext 2 (.t 64)) none)), (.x, (PO.mk none (.store 4 (.t 10) (.t 70)) none))]))) (.seq (.seq (.ops [(PO.mk (some 73) (.load true 4 (.t 10)) none), (PO.mk (some 74) (.load true 4 (.t 7)) none), (PO.mk (some 75) (.call (F 106) [(.t 73), (.t 74)]) none), (PO.mk (some 76) (.bin .gtr (.t 75) (.k (.int .i64 0))) none)]) (.cond (.t 76) (.ops [(PO.mk (some 77) (.load true 4 (.t 7)) none), (PO.mk none (.store 4 (.t 10) (.t 77)) none)]) .skip)) (.seq (.ops [(PO.mk (some 78) (.load true 4 (.t 10)) none), (PO.mk (some 79) (.call (F 136) [(.t 78)]) none), (PO.mk (some 8) (.mv (.t 79)) none), (PO.mk (some 9) (.mv (.k (.bool true))) none)]) .ret))))))))
-- regions [0, 1]
/- tallystick/head.put4 -/
def k139 (F : Fn) : PF := PF.mk 19 2 [(.t 4)] (.seq (.ops [(PO.mk (some 4) (.mv (.k (.sl .nil [] 0))) none)]) (.seq (.ops [(PO.mk (some 5) (.mv (.t 0)) none), (PO.mk (some 6) (.mv (.t 1)) none), (PO.mk (some 7) (.conv .u8 (.t 6)) none), (PO.mk (some 8) (.mv (.t 1)) none), (PO.mk (some 9) (.bin .shr (.t 8) (.k (w64 8))) none), (PO.mk (some 10) (.conv .u8 (.t 9)) none), (PO.mk (some 11) (.mv (.t 1)) none), (PO.mk (some 12) (.bin .shr (.t 11) (.k (w64 16))) none), (PO.mk (some 13) (.conv .u8 (.t 12)) none), (PO.mk (some 14) (.mv (.t 1)) none), (PO.mk (some 15) (.bin .shr (.t 14) (.k (w64 24))) none), (PO.mk (some 16) (.conv .u8 (.t 15)) none), (PO.mk (some 17) (.bsl false 1 4 [(w8 0)] [(0, (1, (.t 7))), (1, (1, (.t 10))), (2, (1, (.t 13))), (3, (1, (.t 16)))]) none), (PO.mk (some 18) (.app 1 1 (.t 5) (.t 17)) none), (PO.mk (some 4) (.mv (.t 18)) none)]) .ret))
-- regions [0, 1, 2, 3]
/- tallystick/head.Bytes -/
def k140 (F : Fn) : PF := PF.mk 25 1 [(.t 2)] (.seq (.ops [(PO.mk (some 1) (.box (.t 0)) none), (PO.mk (some 2) (.mv (.k (.sl .nil [] 0))) none)]) (.seq (.draw2 [] [(.e, (PO.mk (some 5) (.fldA 0 (.t 1)) none)), (.s, (PO.mk (some 6) (.load false 1 (.t 5)) none)), (.x, (PO.mk (some 4) (.mksl true 1 1 [(w8 0)] (.k (.int .i64 0)) (.k (.int .i64 80))) none)), (.x, (PO.mk (some 7) (.call (F 139) [(.t 4), (.t 6)]) none)), (.e, (PO.mk (some 3) (.mv (.t 7)) none))]) (.seq (.seq (.frz [1]) (.draw2 [] [(.e, (PO.mk (some 8) (.mv (.t 3)) none)), (.e, (PO.mk (some 9) (.fldA 1 (.t 1)) none)), (.e, (PO.mk (some 12) (.fldA 33 (.t 1)) none)), (.s, (PO.mk (some 10) (.slArr false 32 1 (.t 9) none none) none)), (.s, (PO.mk (some 13) (.slArr false 32 1 (.t 12) none none) none)), (.x, (PO.mk (some 11) (.app 1 1 (.t 8) (.t 10)) none)), (.x, (PO.mk (some 14) (.app 1 1 (.t 11) (.t 13)) none)), (.e, (PO.mk (some 3) (.mv (.t 14)) none))])) (.seq (.draw [(.e, (PO.mk (some 15) (.mv (.t 3)) none)), (.e, (PO.mk (some 16) (.fldA 65 (.t 1)) none)), (.e, (PO.mk (some 17) (.loadE false 1 (.t 16)) none)), (.e, (PO.mk (some 19) (.fldA 66 (.t 1)) none)), (.e, (PO.mk (some 20) (.loadE false 1 (.t 19)) none)), (.e, (PO.mk (some 22) (.fldA 67 (.t 1)) none)), (.e, (PO.mk (some 23) (.loadE false 1 (.t 22)) none)), (.x, (PO.mk (some 18) (.call (F 139) [(.t 15), (.t 17)]) none)), (.x, (PO.mk (some 21) (.call (F 139) [(.t 18), (.t 20)]) none)), (.x, (PO.mk (some 24) (.call (F 139) [(.t 21), (.t 23)]) none)), (.e, (PO.mk (some 2) (.mv (.t 24)) none))]) .ret))))
-- regions [0, 1]
/- tallystick/head.ID -/
def k141 (F : Fn) : PF := PF.mk 7 1 [(PR.cell 2 true 32)] (.seq (.ops [(PO.mk (some 1) (.box (.t 0)) none), (PO.mk (some 2) (.alloc zR32_w80) none)]) (.seq (.ops [(PO.mk (some 3) (.load true 68 (.t 1)) none), (PO.mk (some 4) (.call (F 140) [(.t 3)]) none), (PO.mk (some 5) (.bsl false 1 1 [(.sl .nil [] 0)] [(0, (1, (.t 4)))]) none), (PO.mk (some 6) (.call (F 104) [(.t 5)]) none), (PO.mk none (.store 32 (.t 2) (.t 6)) none)]) .ret))
-- regions [0, 1, 2, 3, 4, 5, 6, 7]
/- tallystick/head.Proved -/
def k142 (F : Fn) : PF := PF.mk 40 2 [(.t 4)] (.seq (.ops [(PO.mk (some 2) (.box (.t 0)) none), (PO.mk (some 4) (.mv (.k (.int .i64 0))) none)]) (.seq (.ops [(PO.mk (some 10) (.fldA 66 (.t 2)) none), (PO.mk (some 11) (.load false 1 (.t 10)) none), (PO.mk (some 12) (.call (F 135) [(.t 11)]) none), (PO.mk (some 9) (.mv (.t 12)) none), (PO.mk (some 13) (.ext 0 (.t 9)) none), (PO.mk (some 14) (.ext 1 (.t 9)) none), (PO.mk (some 5) (.alloc [(w64 0), (w64 0), (w64 0), (w64 0)]) none), (PO.mk none (.store 4 (.t 5) (.t 13)) none), (PO.mk (some 6) (.mv (.t 14)) none)]) (.seq (.ops [(PO.mk (some 16) (.mv (.t 1)) none), (PO.mk (some 17) (.call (F 135) [(.t 16)]) none), (PO.mk (some 15) (.mv (.t 17)) none), (PO.mk (some 18) (.ext 0 (.t 15)) none), (PO.mk (some 19) (.ext 1 (.t 15)) none), (PO.mk (some 7) (.alloc [(w64 0), (w64 0), (w64 0), (w64 0)]) none), (PO.mk none (.store 4 (.t 7) (.t 18)) none), (PO.mk (some 8) (.mv (.t 19)) none)]) (.seq (.block 0 (.seq (.ops [(PO.mk (some 21) (.mv (.t 6)) none), (PO.mk (some 22) (.not (.t 21)) none), (PO.mk (some 23) (.mv (.t 22)) none), (PO.mk (some 24) (.mv (.t 8)) (some (23, false))), (PO.mk (some 25) (.not (.t 24)) (some (23, false))), (PO.mk (some 26) (.pick (.t 23) (.k (.bool true)) (.t 25)) none), (PO.mk (some 27) (.mv (.t 26)) none), (PO.mk (some 28) (.load true 4 (.t 5)) (some (27, false))), (PO.mk (some 29) (.load true 4 (.t 7)) (some (27, false))), (PO.mk (some 30) (.call (F 106) [(.t 28), (.t 29)]) (some (27, false))), (PO.mk (some 31) (.bin .gtr (.t 30) (.k (.int .i64 0))) (some (27, false))), (PO.mk (some 32) (.pick (.t 27) (.k (.bool true)) (.t 31)) none), (PO.mk (some 20) (.mv (.t 32)) none)]) (.cond (.t 20) (.seq (.ops [(PO.mk (some 4) (.mv (.k (.int .i64 30))) none)]) .ret) (.seq (.draw [(.s, (PO.mk (some 34) (.load true 68 (.t 2)) none)), (.s, (PO.mk (some 35) (.call (F 141) [(.t 34)]) none)), (.s, (PO.mk (some 36) (.call (F 117) [(.t 35)]) none)), (.s, (PO.mk (some 37) (.load true 4 (.t 5)) none)), (.s, (PO.mk (some 38) (.call (F 106) [(.t 36), (.t 37)]) none)), (.e, (PO.mk (some 39) (.bin .gtr (.t 38) (.k (.int .i64 0))) none)), (.e, (PO.mk (some 33) (.mv (.t 39)) none))]) (.cond (.t 33) (.seq (.ops [(PO.mk (some 4) (.mv (.k (.int .i64 50))) none)]) .ret) .skip))))) (.seq (.ops [(PO.mk (some 4) (.mv (.k (.int .i64 0))) none)]) .ret)))))
-- regions [0, 1, 2, 3, 4, 5, 6, 7]
/- tallystick/head.Mine -/
def k143 (F : Fn) : PF := PF.mk 24 3 [(PR.cell 6 true 68), (.t 7)] (.seq (.ops [(PO.mk (some 3) (.box (.t 0)) none), (PO.mk (some 6) (.alloc z68_39b1) none), (PO.mk (some 7) (.mv (.k (.bool false))) none)]) (.seq (.seq (.ops [(PO.mk (some 8) (.mv (.t 2)) none), (PO.mk (some 9) (.min [(.t 8), (.k (.int .i64 65536))]) none), (PO.mk (some 10) (.max [(.k (.int .i64 0)), (.t 9)]) none), (PO.mk (some 11) (.mv (.k (.int .i64 0))) none)]) (.block 0 (.loop (.seq (.ops [(PO.mk (some 12) (.bin .lss (.t 11) (.t 10)) none)]) (.seq (.cond (.t 12) .skip (.exit 0)) (.seq (.block 1 (.seq (.seq (.ops [(PO.mk (some 13) (.load true 68 (.t 3)) none), (PO.mk (some 14) (.mv (.t 1)) none), (PO.mk (some 15) (.call (F 142) [(.t 13), (.t 14)]) none), (PO.mk (some 16) (.bin .eql (.t 15) (.k (.int .i64 0))) none)]) (.cond (.t 16) (.seq (.ops [(PO.mk (some 17) (.load true 68 (.t 3)) none), (PO.mk none (.store 68 (.t 6) (.t 17)) none), (PO.mk (some 7) (.mv (.k (.bool true))) none)]) .ret) .skip)) (.ops [(PO.mk (some 18) (.fldA 67 (.t 3)) none), (PO.mk (some 19) (.load false 1 (.t 18)) none), (PO.mk (some 20) (.bin .add (.t 19) (.k (w32 1))) none), (PO.mk (some 21) (.fldA 67 (.t 3)) none), (PO.mk none (.store 1 (.t 21) (.t 20)) none)]))) (.ops [(PO.mk (some 22) (.bin .add (.t 11) (.k (.int .i64 1))) none), (PO.mk (some 11) (.mv (.t 22)) none)]))))))) (.seq (.ops [(PO.mk (some 23) (.build z68_39b1 []) none), (PO.mk none (.store 68 (.t 6) (.t 23)) none), (PO.mk (some 7) (.mv (.k (.bool false))) none)]) .ret)))
structure OkHead (P : Program) (F : Fn) : Prop where
  mixed : P.follows .mixedOrders = true
  toOkNum : OkNum P F
  toOkHash : OkHash P F
  h135 : compFn P ⟨[], [], [], [], []⟩ (F 135) = some (k135 F)
  h136 : compFn P ⟨[], [], [], [], []⟩ (F 136) = some (k136 F)
  h137 : compFn P ⟨[], [], [], [], []⟩ (F 137) = some (k137 F)
  h138 : compFn P ⟨[], [], [], [], []⟩ (F 138) = some (k138 F)
  h139 : compFn P ⟨[], [], [], [], []⟩ (F 139) = some (k139 F)
  h140 : compFn P ⟨[4, 17, 20, 23], [], [(2, [1])], [], []⟩ (F 140) = some (k140 F)
  h141 : compFn P ⟨[], [], [], [], []⟩ (F 141) = some (k141 F)
  h142 : compFn P ⟨[], [], [], [], []⟩ (F 142) = some (k142 F)
  h143 : compFn P ⟨[], [], [], [], []⟩ (F 143) = some (k143 F)
end Go.Ab
/-
  bits: targets, short forms, work, and the bits behind so many.
-/
set_option linter.unusedSimpArgs false
set_option linter.unusedVariables false
set_option maxRecDepth 10000
namespace Go.Ab
open Go Go.RowKit
section
variable {P : Program} {F : Fn}

/-- What bits.Target gives. -/
def tgtR (b : W32) : V := match tgt b with | some t => .tup [nU (natU t), .bool true] | none => .tup [nU 0#256, .bool false]
theorem and_word (b : W32) : (b &&& 8388607#32).toNat = b.toNat % 8388608 := by
  rw [BitVec.toNat_and]
  exact Nat.and_two_pow_sub_one_eq_mod b.toNat 23
theorem and_bit (b : W32) : ((b &&& 8388608#32) != 0#32) = decide (8388608 ≤ b.toNat % 16777216) := by
  have h2 : b.getLsbD 23 = decide (8388608 ≤ b.toNat % 16777216) := by
    rw [BitVec.getLsbD, Nat.testBit_eq_decide_div_mod_eq]
    congr 1
    rw [eq_iff_iff]
    show b.toNat / 8388608 % 2 = 1 ↔ _
    omega
  rw [show (8388608#32) = BitVec.twoPow 32 23 from rfl, BitVec.and_twoPow, ← h2]
  cases b.getLsbD 23 <;> rfl
theorem set64_nat (b : W32) (n : Nat) : ((b >>> n).setWidth 64).toNat = b.toNat / 2 ^ n := by
  have hb := b.isLt
  rw [BitVec.toNat_setWidth, BitVec.toNat_ushiftRight, Nat.shiftRight_eq_div_pow]
  apply Nat.mod_eq_of_lt
  exact Nat.lt_of_le_of_lt (Nat.div_le_self _ _) (by omega)

set_option maxHeartbeats 2000000 in
/-- bits.Target -/
theorem spec135 (ok : OkHead P F) (st : St) (b : W32) : ACalls P (F 135) [w32 b] st fun v st' => v = tgtR b ∧ st' = st := by
  have okn := ok.toOkNum
  have hb := b.isLt
  refine shows_call ok.mixed ok.h135 (by simp [k135]) ?_
  simp only [k135, eU_zero0]
  simp
  intro rid hrid
  have S := (Sep.start st).new hrid (.cells (eU 0#256))
  generalize st.upd rid _ = st1 at S ⊢
  have hsp : ∀ x y : U, spliceV (eU x) 0 (eU y) = eU y := fun _ _ => rfl
  have oR := S.get
  have hz : fillV (eU 0#256) [] = some (eU 0#256) := rfl
  have hst : ∀ x : U, storeS st1 4 (.ptr (some (rid, 0))) (nU x) = some (st1.upd rid (.cells (eU x))) := fun x => by
    simp [storeS, oR, nU, eU_len, hsp]
  obtain ⟨size, hsize⟩ : ∃ n, n = b.toNat / 16777216 := ⟨_, rfl⟩
  obtain ⟨word, hword⟩ : ∃ n, n = b.toNat % 16777216 := ⟨_, rfl⟩
  have hsz : (b >>> 24).toNat = size := by rw [BitVec.toNat_ushiftRight, Nat.shiftRight_eq_div_pow, hsize]
  have hw8 : (b &&& 8388607#32).toNat = b.toNat % 8388608 := and_word b
  obtain ⟨X, hX⟩ : ∃ X : W, X = (b &&& 8388607#32).setWidth 64 := ⟨_, rfl⟩
  have hXn : X.toNat = b.toNat % 8388608 := by
    rw [hX, BitVec.toNat_setWidth, hw8]
    exact Nat.mod_eq_of_lt (by omega)
  have hX0 : (X == 0#64) = decide (b.toNat % 8388608 = 0) := by
    rw [Bool.eq_iff_iff, beq_iff_eq, decide_eq_true_eq]
    constructor
    · intro h; rw [← hXn, h]; rfl
    · intro h; apply BitVec.eq_of_toNat_eq; rw [hXn, h]; rfl
  have hbit := and_bit b
  have hcv : convV .i64 (w32 (b >>> 24)) = some (.int .i64 (size : Nat)) := by rw [conv_32_i, hsz]
  have w0 : word % 8388608 = b.toNat % 8388608 := by omega
  simp [-conv_32_i, hcv, ← hX, hX0]
  by_cases h0 : b.toNat % 8388608 = 0
  · have e : tgtR b = .tup [nU 0#256, .bool false] := by
      have : tgt b = none := by
        unfold tgt
        rw [if_pos (by omega)]
      rw [tgtR, this]
    simp [h0, hz, storeS, oR, eU_len, hsp, St.seg, segU, e]
    exact ⟨(S.set (.cells (eU 0#256))).was' (by simp), rfl⟩
  by_cases h1 : 8388608 ≤ b.toNat % 16777216
  · have e : tgtR b = .tup [nU 0#256, .bool false] := by
      have : tgt b = none := by
        unfold tgt
        rw [if_pos (by omega)]
      rw [tgtR, this]
    simp [h0, h1, hbit, hz, storeS, oR, eU_len, hsp, St.seg, segU, e]
    exact ⟨(S.set (.cells (eU 0#256))).was' (by simp), rfl⟩
  have hwX : X.toNat = word := by omega
  have htg : tgt b = if tgtV size word = 0 ∨ 2 ^ 256 ≤ tgtV size word then none else some (tgtV size word) := by
    unfold tgt
    rw [if_neg (by omega), ← hsize, ← hword]
  have hszl : size ≤ 255 := by omega
  simp [h0, h1, hbit]
  refine (spec105 okn st1 X).mono ?_
  rintro v st1 ⟨rfl, rfl⟩
  simp
  intro nid hnid
  obtain ⟨N, hN⟩ : ∃ N : U, N = X.setWidth 256 := ⟨_, rfl⟩
  have hNn : N.toNat = word := by
    rw [hN, BitVec.toNat_setWidth, hwX]
    exact Nat.mod_eq_of_lt (by omega)
  rw [← hN]
  have S := S.new hnid (.cells (eU N))
  have hsn : storeS (st1.upd nid (.cells (eU 0#256))) 4 (.ptr (some (nid, 0))) (nU N) = some (st1.upd nid (.cells (eU N))) := by
    simp [storeS, nU, eU_len, hsp]
  simp [hsn]
  generalize st1.upd nid _ = st2 at S ⊢
  have oN := S.get
  have oR := S.mem (i := rid) (o := .cells (eU 0#256)) (by simp)
  have n12 := S.neq (i := nid) (j := rid) 0 1 rfl rfl (by omega)
  by_cases h3 : size ≤ 3
  · have h3' : (size : Int) ≤ 3 := by omega
    have w1 : IntKind.i64.wrap (3 - (size : Int)) = ((3 - size : Nat) : Int) := by rw [wrap64 (by omega) (by omega)]; omega
    have w2 : IntKind.i64.wrap (8 * ((3 - size : Nat) : Int)) = ((8 * (3 - size) : Nat) : Int) := by rw [wrap64 (by omega) (by omega)]; omega
    obtain ⟨m, hm⟩ : ∃ m, m = 3 - size := ⟨_, rfl⟩
    rw [← hm] at w1 w2
    simp [h3', w1, w2, St.seg, oN, segU]
    refine (spec113 okn st2 N (8 * (m : Int))).mono ?_
    rintro v st2 ⟨rfl, rfl⟩
    obtain ⟨R, hR⟩ : ∃ R, R = shrU N (8 * (m : Int)) := ⟨_, rfl⟩
    have hRn : R.toNat = tgtV size word := by
      rw [hR, shrU, if_neg (by omega), BitVec.toNat_ushiftRight, Nat.shiftRight_eq_div_pow, hNn, tgtV, if_pos h3, show (8 * (m : Int)).toNat = 8 * m by omega, hm]
    rw [← hR]
    have hs2 : storeS st2 4 (.ptr (some (nid, 0))) (nU R) = some (st2.upd nid (.cells (eU R))) := by
      simp [storeS, oN, nU, eU_len, hsp]
    have S := S.set (.cells (eU R))
    simp [hs2]
    generalize st2.upd nid _ = st3 at S ⊢
    have oN := S.get
    have oR := S.mem (i := rid) (o := .cells (eU 0#256)) (by simp)
    simp [St.seg, oN, segU]
    refine ⟨_, spec107 okn st3 R, ?_⟩
    have T := S.setAt (.cells (eU R)) 1 rfl
    simp [St.seg, oN, oR, segU, storeS, eU_len, hsp]
    refine ⟨T.was' (by simp), ?_⟩
    rw [tgtR, htg]
    by_cases hz0 : tgtV size word = 0
    · have : R = 0#256 := BitVec.eq_of_toNat_eq (by rw [hRn, hz0]; rfl)
      rw [if_pos (.inl hz0), this]
      simp [nU]
    · have h1 : R ≠ 0#256 := fun e => hz0 (by rw [← hRn, e]; rfl)
      have h2 : R = natU (tgtV size word) := by rw [← hRn, natU, BitVec.ofNat_toNat, BitVec.setWidth_eq]
      have h3 : ¬ 2 ^ 256 ≤ tgtV size word := by rw [← hRn]; exact Nat.not_le.2 R.isLt
      rw [if_neg (by rintro (h | h); exact hz0 h; exact h3 h)]
      simp only
      rw [← h2]
      simp [nU, h1]
  · have h3' : ¬ (size : Int) ≤ 3 := by omega
    have w1 : IntKind.i64.wrap ((size : Int) - 3) = ((size - 3 : Nat) : Int) := by rw [wrap64 (by omega) (by omega)]; omega
    have w2 : IntKind.i64.wrap (8 * ((size - 3 : Nat) : Int)) = ((8 * (size - 3) : Nat) : Int) := by rw [wrap64 (by omega) (by omega)]; omega
    obtain ⟨m, hm⟩ : ∃ m, m = size - 3 := ⟨_, rfl⟩
    rw [← hm] at w1 w2
    have hbl : bitlen word ≤ 24 := bitlen_le.2 (by show word < 16777216; omega)
    have w3 : IntKind.i64.wrap ((bitlen word : Int) + 8 * (m : Int)) = (bitlen word : Int) + 8 * (m : Int) := wrap64 (by omega) (by omega)
    have hw0 : 0 < word := by omega
    have htv : tgtV size word = word * 2 ^ (8 * m) := by rw [tgtV, if_neg h3, hm]
    have hfit : bitlen word + 8 * m ≤ 256 ↔ tgtV size word < 2 ^ 256 := by
      have : bitlen (tgtV size word) = bitlen word + 8 * m := by
        have := bitlen_add (n := word) (k := 8 * m) (m := 0) (Nat.two_pow_pos _) hw0
        rwa [Nat.add_zero, ← htv] at this
      rw [← this, bitlen_le]
    have hne : tgtV size word ≠ 0 := by
      rw [htv]
      exact Nat.ne_of_gt (Nat.mul_pos hw0 (Nat.two_pow_pos _))
    simp [h3', w1, w2, St.seg, oN, segU]
    refine (spec114 okn st2 N).mono ?_
    rintro v st2 ⟨rfl, rfl⟩
    rw [hNn]
    by_cases hb : (256 : Int) < (bitlen word : Int) + 8 * (m : Int)
    · have hbig : 2 ^ 256 ≤ tgtV size word := by
        have := mt hfit.2 (by omega)
        omega
      have e : tgtR b = .tup [nU 0#256, .bool false] := by
        rw [tgtR, htg, if_pos (.inr hbig)]
      have T := S.setAt (.cells (eU 0#256)) 1 rfl
      simp [w1, w2, w3, hb, hz, storeS, oR, eU_len, hsp, St.seg, segU, e]
      exact ⟨T.was' (by simp), rfl⟩
    · simp [w1, w2, w3, hb, St.seg, oN, segU]
      refine (spec112 okn st2 N (8 * (m : Int))).mono ?_
      rintro v st2 ⟨rfl, rfl⟩
      obtain ⟨R, hR⟩ : ∃ R, R = shlU N (8 * (m : Int)) := ⟨_, rfl⟩
      have hlt := hfit.1 (by omega)
      have hm31 : 8 * m ≤ 255 := by
        have := bitlen_pos.2 hw0
        omega
      have hRn : R = natU (tgtV size word) := by
        apply BitVec.eq_of_toNat_eq
        rw [natU_nat hlt, hR, shlU, if_neg (by omega), BitVec.toNat_shiftLeft, Nat.shiftLeft_eq, hNn, show (8 * (m : Int)).toNat = 8 * m by omega, htv]
        exact Nat.mod_eq_of_lt (by rw [← htv]; exact hlt)
      rw [← hR]
      have T := S.setAt (.cells (eU R)) 1 rfl
      have e : tgtR b = .tup [nU R, .bool true] := by
        rw [tgtR, htg, if_neg (by omega), hRn]
      have hs2 : storeS st2 4 (.ptr (some (rid, 0))) (nU R) = some (st2.upd rid (.cells (eU R))) := by
        simp [storeS, oR, nU, eU_len, hsp]
      simp [hs2, St.seg, segU, e]
      exact ⟨T.was' (by simp), rfl⟩

/-! ### Work -/
theorem rows2U (a b : U) : fillV (repV (eU 0#256) 2) [(0, 4, .agg (eU a)), (4, 4, .agg (eU b))] = some (rowsOf eU [a, b]) := rfl
theorem sumU2 (a b : U) : sumU [a, b] = a.toNat + b.toNat := by simp [sumU]
theorem work_eq {t : Nat} (ht : t + 1 < 2 ^ 256) : (2 ^ 256 - 1 - t) / (t + 1) + 1 = workN t := by
  rw [workN]
  have e : 2 ^ 256 = (2 ^ 256 - 1 - t) + (t + 1) := by omega
  calc (2 ^ 256 - 1 - t) / (t + 1) + 1 = ((2 ^ 256 - 1 - t) + (t + 1)) / (t + 1) := (Nat.add_div_right _ (Nat.succ_pos t)).symm
    _ = 2 ^ 256 / (t + 1) := by rw [← e]
set_option maxHeartbeats 2000000 in
/-- bits.Work -/
theorem spec137 (ok : OkHead P F) (st : St) (x : U) : ACalls P (F 137) [nU x] st fun v st' => v = nU (natU (workN x.toNat)) ∧ st' = st := by
  have okn := ok.toOkNum
  refine shows_call ok.mixed ok.h137 (by simp [k137]) ?_
  have hxl := x.isLt
  simp only [k137, nU]
  simp
  intro i1 h1
  have S := (Sep.start st).new h1 (.cells (eU x))
  generalize st.upd i1 _ = st1 at S ⊢
  simp
  intro i2 h2
  have S := S.new h2 (.cells (eU 0#256))
  rw [eU_zero]
  generalize st1.upd i2 _ = st2 at S ⊢
  have o1 := S.mem (i := i1) (o := .cells (eU x)) (by simp)
  simp [St.seg, o1, segU]
  refine ⟨_, spec105 okn st2 1#64, ?_⟩
  have hone : (BitVec.setWidth 256 1#64 : U) = 1#256 := rfl
  have hsp : ∀ x y : U, spliceV (eU x) 0 (eU y) = eU y := fun _ _ => rfl
  have call : ∀ (st : St) (y : U), ACalls P (F 108) [.sl .full (rowsOf eU [y, 1#256]) 2] st fun v st' => v = .tup [nU (BitVec.ofNat 256 (y.toNat + 1)), .bool (ovU (y.toNat + 1))] ∧ st' = st := fun st y => by
    have := spec108 okn st (l := [y, 1#256]) (.inl ⟨.full, rfl⟩) (by simp)
    rw [sumU2] at this
    exact this
  simp [rows2U, nU, hone]
  refine ⟨_, call st2 x, ?_⟩
  simp
  intro i3 h3
  have S := S.new h3 (.cells (eU (BitVec.ofNat 256 (x.toNat + 1))))
  have hs3 : ∀ y : U, storeS (st2.upd i3 (.cells (eU 0#256))) 4 (.ptr (some (i3, 0))) (nU y) = some (st2.upd i3 (.cells (eU y))) := fun y => by
    simp [storeS, nU, eU_len, hsp]
  simp [hs3]
  generalize st2.upd i3 _ = st3 at S ⊢
  have o2 := S.mem (i := i2) (o := .cells (eU 0#256)) (by simp)
  have o1 := S.mem (i := i1) (o := .cells (eU x)) (by simp)
  have o3 := S.get
  by_cases hov : 2 ^ 256 ≤ x.toNat + 1
  · have e1 : ovU (x.toNat + 1) = true := decide_eq_true hov
    have e2 : natU (workN x.toNat) = 1#256 := by
      have : x.toNat + 1 = 2 ^ 256 := by omega
      rw [natU, workN, this, Nat.div_self (Nat.two_pow_pos _)]
    simp [e1]
    refine (spec105 okn st3 1#64).mono ?_
    rintro v st3 ⟨rfl, rfl⟩
    have T := S.setAt (.cells (eU 1#256)) 1 rfl
    have hs : storeS st3 4 (.ptr (some (i2, 0))) (nU 1#256) = some (st3.upd i2 (.cells (eU 1#256))) := by
      simp [storeS, o2, nU, eU_len, hsp]
    simp [hone, hs, St.seg, segU, e2]
    exact T.was' (by simp)
  · have e1 : ovU (x.toNat + 1) = false := decide_eq_false hov
    have hlt : x.toNat + 1 < 2 ^ 256 := by omega
    obtain ⟨Y, hY⟩ : ∃ Y : U, Y = BitVec.ofNat 256 (x.toNat + 1) := ⟨_, rfl⟩
    have hYn : Y.toNat = x.toNat + 1 := by rw [hY, BitVec.toNat_ofNat]; exact Nat.mod_eq_of_lt hlt
    have hY0 : Y ≠ 0#256 := fun e => by rw [e] at hYn; simp at hYn
    rw [← hY] at S o3 ⊢
    simp [e1, St.seg, o1, segU]
    refine ⟨_, spec111 okn st3 x, ?_⟩
    simp [St.seg, o3, segU]
    refine ⟨_, spec116 okn st3 (~~~x) Y, ?_⟩
    simp [hY0]
    intro i5 h5
    have S := S.new h5 (.cells (eU 0#256))
    generalize st3.upd i5 _ = st4 at S ⊢
    simp
    intro i6 h6
    have S := S.new h6 (.cells (eU 0#256))
    generalize st4.upd i6 _ = st5 at S ⊢
    have o5 := S.mem (i := i5) (o := .cells (eU 0#256)) (by simp)
    have n56 := S.neq (i := i6) (j := i5) 0 1 rfl rfl (by omega)
    have hs5 : ∀ y : U, storeS st5 4 (.ptr (some (i5, 0))) (nU y) = some (st5.upd i5 (.cells (eU y))) := fun y => by
      simp [storeS, nU, eU_len, hsp, o5]
    obtain ⟨Q, hQ⟩ : ∃ Q, Q = divU (~~~x) Y := ⟨_, rfl⟩
    have hQn : Q.toNat + 1 = workN x.toNat := by
      rw [← work_eq hlt, hQ, divU, BitVec.toNat_ofNat, hYn, BitVec.toNat_not, Nat.mod_eq_of_lt]
      exact Nat.lt_of_le_of_lt (Nat.div_le_self _ _) (by omega)
    rw [← hQ]
    have S := S.setAt (.cells (eU Q)) 1 rfl
    have o6 := S.mem (i := i6) (o := .cells (eU 0#256)) (by simp)
    simp [hs5]
    generalize st5.upd i5 _ = st6 at S o6 ⊢
    have hs6 : ∀ y : U, storeS st6 4 (.ptr (some (i6, 0))) (nU y) = some (st6.upd i6 (.cells (eU y))) := fun y => by
      simp [storeS, nU, eU_len, hsp, o6]
    have S := S.setAt (.cells (eU (modU (~~~x) Y))) 0 rfl
    simp [hs6]
    generalize st6.upd i6 _ = st7 at S ⊢
    have o5 := S.mem (i := i5) (o := .cells (eU Q)) (by simp)
    simp [St.seg, o5, segU]
    refine ⟨_, spec105 okn st7 1#64, ?_⟩
    simp [rows2U, nU, hone]
    refine ⟨_, call st7 Q, ?_⟩
    have hs7 : ∀ y : U, storeS st7 4 (.ptr (some (i5, 0))) (nU y) = some (st7.upd i5 (.cells (eU y))) := fun y => by
      simp [storeS, nU, eU_len, hsp, o5]
    have S := S.setAt (.cells (eU (BitVec.ofNat 256 (Q.toNat + 1)))) 1 rfl
    simp [hs7]
    generalize st7.upd i5 _ = st8 at S ⊢
    have o5 := S.mem (i := i5) (o := .cells (eU (BitVec.ofNat 256 (Q.toNat + 1)))) (by simp)
    have o2 := S.mem (i := i2) (o := .cells (eU 0#256)) (by simp)
    have T := S.setAt (.cells (eU (BitVec.ofNat 256 (Q.toNat + 1)))) 3 rfl
    simp [St.seg, o5, o2, segU, storeS, eU_len, hsp]
    refine ⟨T.was' (by simp), ?_⟩
    rw [hQn]
    rfl
end
end Go.Ab
/-
  bits: short forms.
-/
set_option linter.unusedSimpArgs false
set_option linter.unusedVariables false
set_option maxRecDepth 10000
namespace Go.Ab
open Go Go.RowKit
section
variable {P : Program} {F : Fn}

/-- The three highest bytes. -/
def topW (t size : Nat) : Nat := if size ≤ 3 then t * 2 ^ (8 * (3 - size)) else t / 2 ^ (8 * (size - 3))
theorem topW_lt {t size : Nat} (h : bitlen t ≤ 8 * size) : topW t size < 16777216 := by
  have ht := bitlen_le.1 h
  unfold topW
  split
  · rename_i h3
    calc t * 2 ^ (8 * (3 - size)) < 2 ^ (8 * size) * 2 ^ (8 * (3 - size)) := Nat.mul_lt_mul_of_pos_right ht (Nat.two_pow_pos _)
      _ = 2 ^ 24 := by rw [← Nat.pow_add]; congr 1; omega
  · rename_i h3
    rw [Nat.div_lt_iff_lt_mul (Nat.two_pow_pos _)]
    calc t < 2 ^ (8 * size) := ht
      _ = 16777216 * 2 ^ (8 * (size - 3)) := by
        rw [show (16777216 : Nat) = 2 ^ 24 from rfl, ← Nat.pow_add]; congr 1; omega
theorem topW_succ (t size : Nat) : topW t (size + 1) = topW t size / 256 := by
  unfold topW
  by_cases h : size + 1 ≤ 3
  · rw [if_pos h, if_pos (by omega), show 8 * (3 - size) = 8 * (3 - (size + 1)) + 8 by omega, Nat.pow_add, ← Nat.mul_assoc]
    exact (Nat.mul_div_cancel _ (by decide)).symm
  · rw [if_neg h]
    by_cases h3 : size ≤ 3
    · have : size = 3 := by omega
      subst this
      simp
    · rw [if_neg h3, Nat.div_div_eq_div_mul, show 8 * (size + 1 - 3) = 8 * (size - 3) + 8 by omega, Nat.pow_add]
theorem topW_big {t size : Nat} (ht : 0 < t) (h : bitlen t = 8 * size) : 8388608 ≤ topW t size := by
  have hp := bitlen_pos.2 ht
  have hg := bitlen_ge ht
  rw [h] at hg hp
  unfold topW
  split
  · rename_i h3
    calc 8388608 = 2 ^ (8 * size - 1) * 2 ^ (8 * (3 - size)) := by
          rw [← Nat.pow_add, show 8 * size - 1 + 8 * (3 - size) = 23 by omega]
      _ ≤ _ := Nat.mul_le_mul_right _ hg
  · rename_i h3
    rw [Nat.le_div_iff_mul_le (Nat.two_pow_pos _)]
    calc 8388608 * 2 ^ (8 * (size - 3)) = 2 ^ (8 * size - 1) := by
          rw [show (8388608 : Nat) = 2 ^ 23 from rfl, ← Nat.pow_add]; congr 1; omega
      _ ≤ t := hg
theorem topW_small {t size : Nat} (h : bitlen t < 8 * size ∨ t = 0) : topW t size < 8388608 := by
  rcases h with h | rfl
  · have ht : t < 2 ^ (8 * size - 1) := bitlen_le.1 (by omega)
    unfold topW
    split
    · rename_i h3
      calc t * 2 ^ (8 * (3 - size)) < 2 ^ (8 * size - 1) * 2 ^ (8 * (3 - size)) := Nat.mul_lt_mul_of_pos_right ht (Nat.two_pow_pos _)
        _ = 2 ^ 23 := by rw [← Nat.pow_add]; congr 1; omega
    · rename_i h3
      rw [Nat.div_lt_iff_lt_mul (Nat.two_pow_pos _)]
      calc t < 2 ^ (8 * size - 1) := ht
        _ = 8388608 * 2 ^ (8 * (size - 3)) := by
          rw [show (8388608 : Nat) = 2 ^ 23 from rfl, ← Nat.pow_add]; congr 1; omega
  · unfold topW
    simp
/-- The short form, told by the size in bytes. -/
theorem short_eq (t : Nat) : sizeN t = (if 8388608 ≤ topW t ((bitlen t + 7) / 8) then (bitlen t + 7) / 8 + 1 else (bitlen t + 7) / 8) ∧
    wordN t = (if 8388608 ≤ topW t ((bitlen t + 7) / 8) then topW t ((bitlen t + 7) / 8) / 256 else topW t ((bitlen t + 7) / 8)) := by
  have hw : wordN t = topW t (sizeN t) := rfl
  rw [hw]
  by_cases h : 0 < bitlen t ∧ bitlen t % 8 = 0
  · have hs : sizeN t = (bitlen t + 7) / 8 + 1 := by rw [sizeN, if_pos h]
    have hb := topW_big (t := t) (size := (bitlen t + 7) / 8) (bitlen_pos.1 h.1) (by omega)
    rw [if_pos hb, if_pos hb, hs, topW_succ]
    exact ⟨rfl, rfl⟩
  · have hs : sizeN t = (bitlen t + 7) / 8 := by rw [sizeN, if_neg h]; rfl
    have hb := topW_small (t := t) (size := (bitlen t + 7) / 8) (by
      by_cases h0 : t = 0
      · exact .inr h0
      · have := bitlen_pos.2 (Nat.pos_of_ne_zero h0)
        exact .inl (by omega))
    rw [if_neg (by omega), if_neg (by omega), hs]
    exact ⟨rfl, rfl⟩
theorem join32 {s w : Nat} (hs : s < 256) (hw : w < 16777216) {a b : W32} (ha : a.toNat = s) (hb : b.toNat = w) : a <<< 24 ||| b = BitVec.ofNat 32 (s * 16777216 + w) := by
  apply BitVec.eq_of_toNat_eq
  rw [BitVec.toNat_or, BitVec.toNat_shiftLeft, Nat.shiftLeft_eq, ha, hb, BitVec.toNat_ofNat]
  rw [Nat.mod_eq_of_lt (show s * 2 ^ 24 < 2 ^ 32 by show s * 16777216 < 4294967296; omega), Nat.mod_eq_of_lt (show s * 16777216 + w < 2 ^ 32 by show _ < 4294967296; omega)]
  exact or_disj s w 24 hw
theorem and_bit64 (b : W) (hb : b.toNat < 16777216) : ((b &&& 8388608#64) != 0#64) = decide (8388608 ≤ b.toNat) := by
  have h2 : b.getLsbD 23 = decide (8388608 ≤ b.toNat) := by
    rw [BitVec.getLsbD, Nat.testBit_eq_decide_div_mod_eq]
    congr 1
    rw [eq_iff_iff]
    show b.toNat / 8388608 % 2 = 1 ↔ _
    omega
  rw [show (8388608#64) = BitVec.twoPow 64 23 from rfl, BitVec.and_twoPow, ← h2]
  cases b.getLsbD 23 <;> rfl
theorem limb_small {x : U} (h : x.toNat < 18446744073709551616) : (limb x 0).toNat = x.toNat := by
  rw [limb_nat, Nat.pow_zero, Nat.div_one, Nat.mod_eq_of_lt h]

set_option maxHeartbeats 2000000 in
/-- bits.Short -/
theorem spec136 (ok : OkHead P F) (st : St) (x : U) : ACalls P (F 136) [nU x] st fun v st' => v = w32 (shortN x.toNat) ∧ st' = st := by
  have okn := ok.toOkNum
  refine shows_call ok.mixed ok.h136 (by simp [k136]) ?_
  have hxl := x.isLt
  obtain ⟨t, ht⟩ : ∃ t, t = x.toNat := ⟨_, rfl⟩
  rw [← ht]
  obtain ⟨e1, e2⟩ := short_eq t
  have hL : bitlen t ≤ 256 := by rw [ht]; exact bitlen_le.2 hxl
  obtain ⟨size, hsize⟩ : ∃ s, s = (bitlen t + 7) / 8 := ⟨_, rfl⟩
  rw [← hsize] at e1 e2
  have hsz : size ≤ 32 := by omega
  have htop := topW_lt (t := t) (size := size) (by omega)
  have w1 : IntKind.i64.wrap ((bitlen t : Int) + 7) = (bitlen t : Int) + 7 := wrap64 (by omega) (by omega)
  have d1 : Int.tdiv ((bitlen t : Int) + 7) 8 = (size : Int) := by rw [Int.tdiv_eq_ediv_of_nonneg (by omega)]; omega
  have w2 : IntKind.i64.wrap (size : Int) = size := wrap64 (by omega) (by omega)
  have w3 : IntKind.i64.wrap ((size : Int) + 1) = (size : Int) + 1 := wrap64 (by omega) (by omega)
  have fin : ∀ Wd : W, Wd.toNat = topW t size → (8388608 ≤ topW t size → ((Wd &&& 8388608#64) != 0#64) = true ∧ shortN t = BitVec.ofInt 32 ((size : Int) + 1) <<< 24 ||| (Wd >>> 8).setWidth 32) ∧
      (¬ 8388608 ≤ topW t size → ((Wd &&& 8388608#64) != 0#64) = false ∧ shortN t = BitVec.ofInt 32 (size : Int) <<< 24 ||| Wd.setWidth 32) := by
    intro Wd hW
    have hb := and_bit64 Wd (by omega)
    have hs8 : ((BitVec.ofInt 32 (size : Int)) : W32).toNat = size := by
      rw [BitVec.ofInt_natCast, BitVec.toNat_ofNat]; exact Nat.mod_eq_of_lt (by omega)
    have hs9 : ((BitVec.ofInt 32 ((size : Int) + 1)) : W32).toNat = size + 1 := by
      rw [show ((size : Int) + 1) = ((size + 1 : Nat) : Int) by omega, BitVec.ofInt_natCast, BitVec.toNat_ofNat]; exact Nat.mod_eq_of_lt (by omega)
    have hw8 : (Wd.setWidth 32).toNat = topW t size := by
      rw [BitVec.toNat_setWidth, hW]; exact Nat.mod_eq_of_lt (by omega)
    have hw9 : ((Wd >>> 8).setWidth 32).toNat = topW t size / 256 := by
      rw [BitVec.toNat_setWidth, BitVec.toNat_ushiftRight, Nat.shiftRight_eq_div_pow, hW]; exact Nat.mod_eq_of_lt (by omega)
    constructor
    · intro hbig
      rw [if_pos hbig] at e1 e2
      rw [hW, decide_eq_true hbig] at hb
      exact ⟨hb, by rw [shortN, e1, e2]; exact (join32 (by omega) (by omega) hs9 hw9).symm⟩
    · intro hbig
      rw [if_neg hbig] at e1 e2
      rw [hW, decide_eq_false hbig] at hb
      exact ⟨hb, by rw [shortN, e1, e2]; exact (join32 (by omega) (by omega) hs8 hw8).symm⟩
  simp only [k136]
  simp only [nU]
  simp
  intro i1 h1
  have S := (Sep.start st).new h1 (.cells (eU x))
  generalize st.upd i1 _ = st1 at S ⊢
  have o1 := S.get
  simp [St.seg, o1, segU]
  refine (spec114 okn st1 x).mono ?_
  rintro v st1 ⟨rfl, rfl⟩
  rw [← ht]
  simp [w1, d1, w2]
  have sub1 : St.sub st st1 := S.was' (by simp)
  by_cases h3 : size ≤ 3
  · have h3' : (size : Int) ≤ 3 := by omega
    have w4 : IntKind.i64.wrap (3 - (size : Int)) = ((3 - size : Nat) : Int) := by rw [wrap64 (by omega) (by omega)]; omega
    have w5 : IntKind.i64.wrap (8 * ((3 - size : Nat) : Int)) = ((8 * (3 - size) : Nat) : Int) := by rw [wrap64 (by omega) (by omega)]; omega
    obtain ⟨m, hm⟩ : ∃ m, m = 3 - size := ⟨_, rfl⟩
    have w6 : (8 * (m : Int)) = ((8 * m : Nat) : Int) := by omega
    rw [← hm] at w4 w5
    rw [← w6] at w5
    have hR : (BitVec.ofNat 64 (8 * m)).toNat = 8 * m := by rw [BitVec.toNat_ofNat]; exact Nat.mod_eq_of_lt (by omega)
    have hcv : convV .u64 (.int .i64 (8 * (m : Int))) = some (w64 (BitVec.ofNat 64 (8 * m))) := by rw [w6, conv_i_64, BitVec.ofInt_natCast]
    have ht24 : t < 16777216 := by
      have := bitlen_le.1 (show bitlen t ≤ 24 by omega)
      exact this
    have hWd : (limb x 0 <<< (8 * m)).toNat = topW t size := by
      rw [shl_nat, limb_small (by omega), ← ht, topW, if_pos h3, ← hm]
      apply Nat.mod_eq_of_lt
      have : 2 ^ (8 * m) ≤ 2 ^ 24 := Nat.pow_le_pow_right (by omega) (by omega)
      calc t * 2 ^ (8 * m) ≤ 16777216 * 2 ^ 24 := Nat.mul_le_mul (by omega) this
        _ < 18446744073709551616 := by decide
    obtain ⟨f1, f2⟩ := fin _ hWd
    have hsg : segOf (eU x) 0 1 = some [w64 (limb x 0)] := rfl
    by_cases hbig : 8388608 ≤ topW t size
    · obtain ⟨q1, q2⟩ := f1 hbig
      rw [q2]
      simp [h3', w4, w5, w3, idxArrV, St.seg, o1, hsg, hcv, -conv_i_64, hR, q1]
      simp [sub1]
    · obtain ⟨q1, q2⟩ := f2 hbig
      rw [q2]
      simp [h3', w4, w5, w3, idxArrV, St.seg, o1, hsg, hcv, -conv_i_64, hR, q1]
      simp [sub1]
  · have h3' : ¬ (size : Int) ≤ 3 := by omega
    have w4 : IntKind.i64.wrap ((size : Int) - 3) = ((size - 3 : Nat) : Int) := by rw [wrap64 (by omega) (by omega)]; omega
    have w5 : IntKind.i64.wrap (8 * ((size - 3 : Nat) : Int)) = ((8 * (size - 3) : Nat) : Int) := by rw [wrap64 (by omega) (by omega)]; omega
    obtain ⟨m, hm⟩ : ∃ m, m = size - 3 := ⟨_, rfl⟩
    have w6 : (8 * (m : Int)) = ((8 * m : Nat) : Int) := by omega
    rw [← hm] at w4 w5
    rw [← w6] at w5
    simp [h3', w4, w5, St.seg, o1, segU]
    refine (spec113 okn st1 x (8 * (m : Int))).mono ?_
    rintro v st1 ⟨rfl, rfl⟩
    obtain ⟨R, hR⟩ : ∃ R, R = shrU x (8 * (m : Int)) := ⟨_, rfl⟩
    rw [← hR]
    have hRn : R.toNat = topW t size := by
      rw [hR, shrU, if_neg (by omega), BitVec.toNat_ushiftRight, Nat.shiftRight_eq_div_pow, ← ht, topW, if_neg h3, show (8 * (m : Int)).toNat = 8 * m by omega, hm]
    have hWd : (limb R 0).toNat = topW t size := by
      rw [limb_small (by omega), hRn]
    have hix : idxV 4 false 1 (nU R) (.int .i64 0) = some (w64 (limb R 0)) := rfl
    obtain ⟨f1, f2⟩ := fin _ hWd
    by_cases hbig : 8388608 ≤ topW t size
    · obtain ⟨q1, q2⟩ := f1 hbig
      rw [q2]
      simp [hix, q1, w3]
      simp [sub1]
    · obtain ⟨q1, q2⟩ := f2 hbig
      rw [q2]
      simp [hix, q1, w3]
      simp [sub1]
end
end Go.Ab
/-
  bits.Next.
-/
set_option linter.unusedSimpArgs false
set_option linter.unusedVariables false
set_option maxRecDepth 10000
namespace Go.Ab
open Go Go.RowKit
section
variable {P : Program} {F : Fn}

theorem gtr_cmp (a b : U) : decide (0 < cmpU a b) = decide (b.toNat < a.toNat) := by
  congr 1
  rw [eq_iff_iff]
  unfold cmpU
  constructor
  · intro h
    split at h
    · omega
    · split at h
      · omega
      · rename_i h1 h2
        have : a.toNat ≠ b.toNat := fun e => h2 (BitVec.eq_of_toNat_eq e)
        omega
  · intro h
    rw [if_neg (by omega), if_neg (by rintro rfl; omega)]
    omega
def nextR (b : W32) (took should : Int) (limit : Nat) : V := match nextN b took should limit with | some x => .tup [w32 x, .bool true] | none => .tup [w32 0#32, .bool false]
theorem of64 {n : Nat} (h : n < 18446744073709551616) : (BitVec.ofInt 64 (n : Int)).toNat = n := by
  rw [BitVec.ofInt_natCast, BitVec.toNat_ofNat]; exact Nat.mod_eq_of_lt h

set_option maxHeartbeats 4000000 in
/-- bits.Next -/
theorem spec138 (ok : OkHead P F) (st : St) (b : W32) (took should : Int) (limit : U) (hr : -9223372036854775808 ≤ took ∧ took ≤ 9223372036854775807) :
    ACalls P (F 138) [w32 b, .int .i64 took, .int .i64 should, nU limit] st fun v st' => v = nextR b took should limit.toNat ∧ st' = st := by
  have okn := ok.toOkNum
  refine shows_call ok.mixed ok.h138 (by simp [k138]) ?_
  simp only [k138, nU]
  simp
  intro i7 h7
  have S := (Sep.start st).new h7 (.cells (eU limit))
  generalize st.upd i7 _ = st1 at S ⊢
  simp
  refine (spec135 ok st1 b).mono ?_
  rintro v st1 ⟨rfl, rfl⟩
  have hsp : ∀ x y : U, spliceV (eU x) 0 (eU y) = eU y := fun _ _ => rfl
  obtain ⟨T0, t1, hT⟩ : ∃ (T0 : U) (t1 : Bool), tgtR b = .tup [nU T0, .bool t1] ∧ (t1 = false → tgt b = none) ∧ (t1 = true → tgt b = some T0.toNat) := by
    unfold tgtR
    cases h : tgt b with
    | none => exact ⟨0#256, false, rfl, fun _ => rfl, fun h => by cases h⟩
    | some t => exact ⟨natU t, true, rfl, fun h => (by cases h), fun _ => (by rw [natU_nat (tgt_lt h).2])⟩
  obtain ⟨hT1, hT2, hT3⟩ := hT
  rw [hT1, eU_zero]
  simp
  intro i10 h10
  have S := S.new h10 (.cells (eU T0))
  have hs10 : ∀ y : U, storeS (st1.upd i10 (.cells (eU 0#256))) 4 (.ptr (some (i10, 0))) (nU y) = some (st1.upd i10 (.cells (eU y))) := fun y => by
    simp [storeS, nU, eU_len, hsp]
  simp [hs10]
  generalize st1.upd i10 _ = st2 at S ⊢
  cases t1 with
  | false =>
    have : nextR b took should limit.toNat = .tup [w32 0#32, .bool false] := by
      rw [nextR, nextN, hT2 rfl]
    simp [this]
    exact S.was' (by simp)
  | true =>
    have htg := hT3 rfl
    by_cases hs1 : should < 1
    · have : nextR b took should limit.toNat = .tup [w32 0#32, .bool false] := by
        rw [nextR, nextN, htg]; simp [hs1]
      simp [this, hs1]
      exact S.was' (by simp)
    by_cases hs2 : 1099511627776 < should
    · have : nextR b took should limit.toNat = .tup [w32 0#32, .bool false] := by
        rw [nextR, nextN, htg]; simp [hs1, hs2]
      simp [this, hs1, hs2]
      exact S.was' (by simp)
    have e : nextR b took should limit.toNat = .tup [w32 (shortN (nextT T0.toNat (clampT took should) should.toNat limit.toNat)), .bool true] := by
      rw [nextR, nextN, htg]; simp [hs1, hs2]
    rw [e]
    have hcl := clampT_le (took := took) (should := should) (by omega) (by omega)
    obtain ⟨tk, htk⟩ : ∃ tk, tk = clampT took should := ⟨_, rfl⟩
    rw [← htk] at hcl ⊢
    obtain ⟨sh, rfl⟩ := Int.eq_ofNat_of_zero_le (show 0 ≤ should by omega)
    have hsh0 : 0 < sh := by omega
    have hshl : sh ≤ 1099511627776 := by omega
    have w4 : IntKind.i64.wrap (4 * (sh : Int)) = 4 * (sh : Int) := wrap64 (by omega) (by omega)
    have w0 : IntKind.i64.wrap ((sh : Int) / 4) = (sh : Int) / 4 := wrap64 (by omega) (by omega)
    have hmn : foldV min2V (.int .i64 took) [.int .i64 (4 * (sh : Int))] = some (.int .i64 (min took (4 * (sh : Int)))) := by
      simp only [foldV, min2V, if_true, Option.bind_some]
      congr 2
      split <;> omega
    have hmx : foldV max2V (.int .i64 ((sh : Int) / 4)) [.int .i64 (min took (4 * (sh : Int)))] = some (.int .i64 (tk : Int)) := by
      simp only [foldV, max2V, if_true, Option.bind_some]
      congr 2
      rw [htk, clampT, Int.tdiv_eq_ediv_of_nonneg (by omega)]
      split <;> omega
    rw [Int.toNat_natCast]
    obtain ⟨TK, hTK⟩ : ∃ TK : W, TK = BitVec.ofInt 64 (tk : Int) := ⟨_, rfl⟩
    have hTKn : TK.toNat = tk := by rw [hTK]; exact of64 (by omega)
    obtain ⟨SH, hSH⟩ : ∃ SH : W, SH = BitVec.ofInt 64 (sh : Int) := ⟨_, rfl⟩
    have hSHn : SH.toNat = sh := by rw [hSH]; exact of64 (by omega)
    have c1 : convV .u64 (.int .i64 (tk : Int)) = some (w64 TK) := by rw [hTK, conv_i_64]
    have c2 : convV .u64 (.int .i64 (sh : Int)) = some (w64 SH) := by rw [hSH, conv_i_64]
    have o10 := S.get
    have o7 := S.mem (i := i7) (o := .cells (eU limit)) (by simp)
    simp [hs1, hs2, w4, w0, hmn, hmx, c1, -conv_i_64, St.seg, o10, segU]
    refine (spec110 okn st2 T0 TK).mono ?_
    rintro v st2 ⟨rfl, rfl⟩
    rw [hTKn]
    simp
    intro i12 h12
    have hs12 : ∀ (s : St) (x y : U), s i12 = some (.cells (eU x)) → storeS s 4 (.ptr (some (i12, 0))) (nU y) = some (s.upd i12 (.cells (eU y))) := fun s x y h => by
      simp [storeS, nU, eU_len, hsp, h]
    have hs10' : ∀ (s : St) (x y : U), s i10 = some (.cells (eU x)) → storeS s 4 (.ptr (some (i10, 0))) (nU y) = some (s.upd i10 (.cells (eU y))) := fun s x y h => by
      simp [storeS, nU, eU_len, hsp, h]
    have S := S.new h12 (.cells (eU (BitVec.ofNat 256 (T0.toNat * tk))))
    have hst := hs12 (st2.upd i12 (.cells (eU 0#256))) 0#256 (BitVec.ofNat 256 (T0.toNat * tk)) (by simp)
    rw [upd_upd] at hst
    simp [hst]
    generalize st2.upd i12 _ = st3 at S ⊢
    by_cases hov : 2 ^ 256 ≤ T0.toNat * tk
    · have e1 : ovU (T0.toNat * tk) = true := decide_eq_true hov
      have hge : ¬ T0.toNat * tk < 2 ^ 256 := by omega
      have o10 := S.mem (i := i10) (o := .cells (eU T0)) (by simp)
      have o12 := S.get
      simp [e1, c1, c2, -conv_i_64, St.seg, o10, segU]
      refine ⟨_, spec105 okn st3 SH, ?_⟩
      have hShU : (SH.setWidth 256 : U).toNat = sh := by
        rw [BitVec.toNat_setWidth, hSHn]; exact Nat.mod_eq_of_lt (by omega)
      have hSh0 : (SH.setWidth 256 : U) ≠ 0#256 := fun e => by rw [e] at hShU; simp at hShU; omega
      simp
      refine ⟨_, spec116 okn st3 T0 (SH.setWidth 256), ?_⟩
      obtain ⟨D, hD⟩ : ∃ D, D = divU T0 (SH.setWidth 256) := ⟨_, rfl⟩
      have hDn : D.toNat = T0.toNat / sh := by
        rw [hD, divU, hShU]
        exact natU_nat (Nat.lt_of_le_of_lt (Nat.div_le_self _ _) T0.isLt)
      have hst := hs12 st3 _ D o12
      simp [hSh0, ← hD, hst]
      have S := S.setAt (.cells (eU D)) 0 rfl
      generalize st3.upd i12 _ = st4 at S ⊢
      have o12 := S.get
      simp [c1, -conv_i_64, St.seg, o12, segU]
      refine (spec110 okn st4 D TK).mono ?_
      rintro v st4 ⟨rfl, rfl⟩
      rw [hTKn]
      obtain ⟨Q, hQ⟩ : ∃ Q : U, Q = BitVec.ofNat 256 (D.toNat * tk) := ⟨_, rfl⟩
      have hst := hs12 st4 _ Q o12
      rw [← hQ]
      simp [hst]
      have S := S.setAt (.cells (eU Q)) 0 rfl
      generalize st4.upd i12 _ = st5 at S ⊢
      have o12 := S.get
      have o7 := S.mem (i := i7) (o := .cells (eU limit)) (by simp)
      by_cases hov2 : 2 ^ 256 ≤ D.toNat * tk
      · have e2 : ovU (D.toNat * tk) = true := decide_eq_true hov2
        have hres : nextT T0.toNat tk sh limit.toNat = limit.toNat := by
          rw [nextT, if_neg hge, ← hDn, if_pos (.inl hov2)]
        simp [e2, St.seg, o7, segU]
        refine (spec136 ok st5 limit).mono ?_
        rintro v st5 ⟨rfl, rfl⟩
        rw [hres]
        simp
        exact S.was' (by simp)
      have e2 : ovU (D.toNat * tk) = false := decide_eq_false hov2
      have hQn : Q.toNat = D.toNat * tk := by rw [hQ]; exact natU_nat (by omega)
      have hQlt : ¬ 2 ^ 256 ≤ Q.toNat := by rw [hQn]; exact hov2
      have hres : nextT T0.toNat tk sh limit.toNat = if 2 ^ 256 ≤ Q.toNat ∨ limit.toNat < Q.toNat then limit.toNat else Q.toNat := by
        rw [nextT, if_neg hge, ← hDn, ← hQn]
      have hst := hs10' st5 _ Q (S.mem (i := i10) (o := .cells (eU T0)) (by simp))
      simp only [nU] at hst
      have n710 := (S.neq (i := i10) (j := i7) 1 2 rfl rfl (by omega)).symm
      simp [e2, St.seg, o12, segU, hst, o7, n710]
      have S := S.setAt (.cells (eU Q)) 1 rfl
      generalize st5.upd i10 _ = st6 at S ⊢
      have o10 := S.mem (i := i10) (o := .cells (eU Q)) (by simp)
      have o7 := S.mem (i := i7) (o := .cells (eU limit)) (by simp)
      try simp [St.seg, o10, o7, segU]
      refine (spec106 okn st6 Q limit).mono ?_
      rintro v st6 ⟨rfl, rfl⟩
      have hgt := gtr_cmp Q limit
      by_cases hl : limit.toNat < Q.toNat
      · rw [decide_eq_true hl] at hgt
        have hst := hs10' st6 Q limit o10
        simp only [nU] at hst
        simp [hgt, St.seg, o7, segU, hst]
        have S := S.setAt (.cells (eU limit)) 1 rfl
        generalize st6.upd i10 _ = st9 at S ⊢
        have o10 := S.mem (i := i10) (o := .cells (eU limit)) (by simp)
        try simp [St.seg, o10, segU]
        refine (spec136 ok st9 limit).mono ?_
        rintro v st9 ⟨rfl, rfl⟩
        rw [hres, if_pos (.inr hl)]
        simp
        exact S.was' (by simp)
      · rw [decide_eq_false hl] at hgt
        simp [hgt, St.seg, o10, segU]
        refine (spec136 ok st6 Q).mono ?_
        rintro v st6 ⟨rfl, rfl⟩
        rw [hres, if_neg (by rintro (h | h); exact hQlt h; exact hl h)]
        simp
        exact S.was' (by simp)
    · have e1 : ovU (T0.toNat * tk) = false := decide_eq_false hov
      have hlt : T0.toNat * tk < 2 ^ 256 := by omega
      have hn : (BitVec.ofNat 256 (T0.toNat * tk)).toNat = T0.toNat * tk := natU_nat hlt
      have o12 := S.get
      simp [e1, c2, -conv_i_64, St.seg, o12, segU]
      refine ⟨_, spec105 okn st3 SH, ?_⟩
      have hShU : (SH.setWidth 256 : U).toNat = sh := by
        rw [BitVec.toNat_setWidth, hSHn]; exact Nat.mod_eq_of_lt (by omega)
      have hSh0 : (SH.setWidth 256 : U) ≠ 0#256 := fun e => by rw [e] at hShU; simp at hShU; omega
      simp
      refine ⟨_, spec116 okn st3 (BitVec.ofNat 256 (T0.toNat * tk)) (SH.setWidth 256), ?_⟩
      simp [hSh0]
      obtain ⟨Q, hQ⟩ : ∃ Q, Q = divU (BitVec.ofNat 256 (T0.toNat * tk)) (SH.setWidth 256) := ⟨_, rfl⟩
      have hQn : Q.toNat = T0.toNat * tk / sh := by
        rw [hQ, divU, hn, hShU]
        exact natU_nat (Nat.lt_of_le_of_lt (Nat.div_le_self _ _) hlt)
      have hQlt : ¬ 2 ^ 256 ≤ Q.toNat := Nat.not_le.2 Q.isLt
      have hres : nextT T0.toNat tk sh limit.toNat = if 2 ^ 256 ≤ Q.toNat ∨ limit.toNat < Q.toNat then limit.toNat else Q.toNat := by
        rw [nextT, if_pos hlt, ← hQn]
      rw [← hQ]
      have hst := hs10' st3 _ Q (S.mem (i := i10) (o := .cells (eU T0)) (by simp))
      simp [hst]
      have S := S.setAt (.cells (eU Q)) 1 rfl
      generalize st3.upd i10 _ = st6 at S ⊢
      have o10 := S.mem (i := i10) (o := .cells (eU Q)) (by simp)
      have o7 := S.mem (i := i7) (o := .cells (eU limit)) (by simp)
      try simp [St.seg, o10, o7, segU]
      refine (spec106 okn st6 Q limit).mono ?_
      rintro v st6 ⟨rfl, rfl⟩
      have hgt := gtr_cmp Q limit
      by_cases hl : limit.toNat < Q.toNat
      · rw [decide_eq_true hl] at hgt
        have hst := hs10' st6 Q limit o10
        simp only [nU] at hst
        simp [hgt, St.seg, o7, segU, hst]
        have S := S.setAt (.cells (eU limit)) 1 rfl
        generalize st6.upd i10 _ = st9 at S ⊢
        have o10 := S.mem (i := i10) (o := .cells (eU limit)) (by simp)
        try simp [St.seg, o10, segU]
        refine (spec136 ok st9 limit).mono ?_
        rintro v st9 ⟨rfl, rfl⟩
        rw [hres, if_pos (.inr hl)]
        simp
        exact S.was' (by simp)
      · rw [decide_eq_false hl] at hgt
        simp [hgt, St.seg, o10, segU]
        refine (spec136 ok st6 Q).mono ?_
        rintro v st6 ⟨rfl, rfl⟩
        rw [hres, if_neg (by rintro (h | h); exact hQlt h; exact hl h)]
        simp
        exact S.was' (by simp)
end
end Go.Ab

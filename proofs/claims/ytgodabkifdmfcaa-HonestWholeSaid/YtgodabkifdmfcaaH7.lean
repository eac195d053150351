import Derived.Test.YtgodabkifdmfcaaH6
import Derived.Test.YtgodabkifdmfcaaH4
set_option linter.unusedSimpArgs false
set_option linter.unusedVariables false
namespace Go.Ab
def mix (x y : BitVec 32) : BitVec 32 := x <<< 16 ||| y >>> 16
theorem mix_be (a b : BitVec 32) : be4 (UInt8.ofBitVec ((a >>> 8).setWidth 8)) (UInt8.ofBitVec (a.setWidth 8)) (UInt8.ofBitVec ((b >>> 24).setWidth 8)) (UInt8.ofBitVec ((b >>> 16).setWidth 8)) = mix a b := by
  unfold be4 mix
  apply BitVec.eq_of_getLsbD_eq
  intro j hj
  simp only [BitVec.getLsbD_or, BitVec.getLsbD_shiftLeft, BitVec.getLsbD_setWidth, BitVec.getLsbD_ushiftRight]
  by_cases h8 : j < 8
  · simp [show j - 8 < 32 by omega, show j - 16 < 32 by omega, show j - 24 < 32 by omega, h8, hj, show j < 16 by omega, show j < 24 by omega]
  · by_cases h16 : j < 16
    · simp [show j - 8 < 32 by omega, show j - 16 < 32 by omega, show j - 24 < 32 by omega, h8, hj, h16, show j < 24 by omega, show j - 8 < 8 by omega, show 24 + (j - 8) = 16 + j by omega]
    · by_cases h24 : j < 24
      · simp [show j - 8 < 32 by omega, show j - 16 < 32 by omega, show j - 24 < 32 by omega, BitVec.getLsbD_of_ge b (16 + j) (by omega), h8, hj, h16, h24, show ¬ j - 8 < 8 by omega, show j - 16 < 8 by omega, show ¬ 16 + j < 32 by omega]
      · simp [show j - 8 < 32 by omega, show j - 16 < 32 by omega, show j - 24 < 32 by omega, BitVec.getLsbD_of_ge b (16 + j) (by omega), h8, hj, h16, h24, show ¬ j - 8 < 8 by omega, show ¬ j - 16 < 8 by omega, show j - 24 < 8 by omega, show 8 + (j - 24) = j - 16 by omega, show ¬ 16 + j < 32 by omega]
theorem blksW_one (v : V8) (w : List (BitVec 32)) (h : w.length = 16) : blksW 1 v w = blkW v w := by
  rw [blksW, blksW, List.take_of_length_le (by omega)]
def lockW (mark : UInt8) : V8 := blkW iv [be4 mark 128 0 0, 0, 0, 0, 0, 0, 0, 0, 0, 0, 0, 0, 0, 0, 0, 8]
theorem lock_W (mark : UInt8) : sha [mark] = idV (lockW mark) := by
  have e : padM [mark] = mark :: 128 :: (List.replicate 54 0 ++ [0, 0, 0, 0, 0, 0, 0, 8]) := by
    unfold padM
    rw [show [mark].length = 1 from rfl]
    rfl
  have hl : (mark :: 128 :: (List.replicate 54 (0 : UInt8) ++ [0, 0, 0, 0, 0, 0, 0, 8])).length / 64 = 1 := by
    simp only [List.length_cons, List.length_append, List.length_replicate, List.length_nil]
  have hw : words (mark :: 128 :: (List.replicate 54 (0 : UInt8) ++ [0, 0, 0, 0, 0, 0, 0, 8])) = [be4 mark 128 0 0, 0, 0, 0, 0, 0, 0, 0, 0, 0, 0, 0, 0, 0, 0, 8] := rfl
  rw [sha_W, e, hl, hw, blksW_one _ _ rfl]
  rfl
def txW (lo hi mark : UInt8) : V8 :=
  let L := lockW mark
  secW (blkW (blkW iv [0x01000000, 0, 0, 0, 0, 0, 0, 0, 0x00ffffff, be4 255 3 lo hi, be4 mark 1 50 0, 0, mix 0 L.a, mix L.a L.b, mix L.b L.c, mix L.c L.d])
    [mix L.d L.e, mix L.e L.f, mix L.f L.g, mix L.g L.h, mix L.h 0x80000000, 0, 0, 0, 0, 0, 0, 0, 0, 0, 0, 656])
theorem txB_first (h : Nat) (mark : UInt8) : txB (firstM 50 h mark) = 1 :: (List.replicate 32 0 ++ ([255, 255, 255, 255, 3, UInt8.ofNat h, UInt8.ofNat (h / 256), mark, 1, 50, 0, 0, 0, 0, 0, 0, 0] ++ outV (lockW mark))) := by
  have e : (sha [mark]).toList = outV (lockW mark) := by rw [lock_W]; rfl
  have h1 : txB (firstM 50 h mark) = 1 :: (List.replicate 32 0 ++ ([255, 255, 255, 255, 3, UInt8.ofNat h, UInt8.ofNat (h / 256), mark, 1, 50, 0, 0, 0, 0, 0, 0, 0] ++ (sha [mark]).toList)) := by
    obtain ⟨l, hl⟩ : ∃ l, l = sha [mark] := ⟨_, rfl⟩
    unfold firstM
    rw [← hl]
    simp [txB, inB, outB, textB, countB, putB, byteAt, List.range_succ, id0]
  rw [h1, e]
theorem words_mix (p q : UInt8) (a : BitVec 32) (r : List UInt8) : words (p :: q :: (out4 a ++ r)) = be4 p q (UInt8.ofBitVec ((a >>> 24).setWidth 8)) (UInt8.ofBitVec ((a >>> 16).setWidth 8)) :: words (UInt8.ofBitVec ((a >>> 8).setWidth 8) :: UInt8.ofBitVec (a.setWidth 8) :: r) := rfl
theorem words_mixs (a b : BitVec 32) (r : List UInt8) : words (UInt8.ofBitVec ((a >>> 8).setWidth 8) :: UInt8.ofBitVec (a.setWidth 8) :: (out4 b ++ r)) = mix a b :: words (UInt8.ofBitVec ((b >>> 8).setWidth 8) :: UInt8.ofBitVec (b.setWidth 8) :: r) := by
  rw [words_mix, mix_be]
theorem words_mixV (v : V8) (r : List UInt8) : words (0 :: 0 :: (outV v ++ (128 :: 0 :: r))) = mix 0 v.a :: mix v.a v.b :: mix v.b v.c :: mix v.c v.d :: mix v.d v.e :: mix v.e v.f :: mix v.f v.g :: mix v.g v.h :: mix v.h 0x80000000 :: words r := by
  have e : outV v ++ (128 :: 0 :: r) = out4 v.a ++ (out4 v.b ++ (out4 v.c ++ (out4 v.d ++ (out4 v.e ++ (out4 v.f ++ (out4 v.g ++ (out4 v.h ++ (128 :: 0 :: r)))))))) := by simp [outV, V8.list]
  have z : (0 : UInt8) :: 0 :: (out4 v.a ++ (out4 v.b ++ (out4 v.c ++ (out4 v.d ++ (out4 v.e ++ (out4 v.f ++ (out4 v.g ++ (out4 v.h ++ (128 :: 0 :: r))))))))) = UInt8.ofBitVec (((0 : BitVec 32) >>> 8).setWidth 8) :: UInt8.ofBitVec ((0 : BitVec 32).setWidth 8) :: (out4 v.a ++ (out4 v.b ++ (out4 v.c ++ (out4 v.d ++ (out4 v.e ++ (out4 v.f ++ (out4 v.g ++ (out4 v.h ++ (128 :: 0 :: r))))))))) := rfl
  rw [e, z, words_mixs, words_mixs, words_mixs, words_mixs, words_mixs, words_mixs, words_mixs, words_mixs]
  have l : words (UInt8.ofBitVec ((v.h >>> 8).setWidth 8) :: UInt8.ofBitVec (v.h.setWidth 8) :: 128 :: 0 :: r) = mix v.h 0x80000000 :: words r := by
    rw [words, ← mix_be]
    rfl
  rw [l]
theorem txId_W (h : Nat) (mark : UInt8) : txIdM (firstM 50 h mark) = idV (txW (UInt8.ofNat h) (UInt8.ofNat (h / 256)) mark) := by
  have hl : (txB (firstM 50 h mark)).length = 82 := by
    rw [txB_first]
    simp only [List.length_cons, List.length_append, List.length_replicate, outV_len]
    rfl
  have e : padM (txB (firstM 50 h mark)) = 1 :: (List.replicate 32 0 ++ ([255, 255, 255, 255, 3, UInt8.ofNat h, UInt8.ofNat (h / 256), mark, 1, 50, 0, 0, 0, 0, 0] ++ (0 :: 0 :: (outV (lockW mark) ++ (128 :: 0 :: (List.replicate 36 0 ++ [0, 0, 0, 0, 0, 0, 2, 144])))))) := by
    unfold padM
    rw [hl, txB_first]
    simp only [List.append_assoc, List.cons_append, List.nil_append]
    rfl
  have hp : (padM (txB (firstM 50 h mark))).length = 128 := by
    rw [e]
    simp only [List.length_cons, List.length_append, List.length_replicate, outV_len]
    rfl
  have ew : words (padM (txB (firstM 50 h mark))) = [0x01000000, 0, 0, 0, 0, 0, 0, 0, 0x00ffffff, be4 255 3 (UInt8.ofNat h) (UInt8.ofNat (h / 256)), be4 mark 1 50 0, 0] ++ words (0 :: 0 :: (outV (lockW mark) ++ (128 :: 0 :: (List.replicate 36 0 ++ [0, 0, 0, 0, 0, 0, 2, 144])))) := by
    rw [e]
    rfl
  rw [txIdM, sha2_W, hp, ew, words_mixV]
  rfl
end Go.Ab
set_option linter.unusedSimpArgs false
set_option linter.unusedVariables false
namespace Go.Ab
theorem packL_ln (n : Nat) : ∀ k, k + n ≤ 1000000 → ∀ i, i < n → ln (packL n k) i = k + i := by
  induction n with
  | zero => intro k _ i hi; omega
  | succ n ih =>
    intro k hk i hi
    rw [packL]
    cases i with
    | zero => rw [ln_zero]; omega
    | succ i =>
      rw [ln_succ, show (k + 18446744073709551616 * packL n (k + 1)) / 2 ^ 64 = packL n (k + 1) by omega, ih (k + 1) (by omega) i (by omega)]
      omega
theorem RL.const (k : Nat) (hk : k < 4294967296) : RL (k * oneL) fun _ => BitVec.ofNat 32 k := (mulL k (by omega)).to fun i _ => by
  rw [BitVec.toNat_ofNat, Nat.mod_eq_of_lt (by omega)]
theorem RL.mix {X Y : Nat} {x y : Nat → BitVec 32} (hX : RL X x) (hY : RL Y y) : RL (lmix maskL X Y) fun i => mix (x i) (y i) := RL.masked fun i j hi hj => by
  have h1 : (X <<< 16).testBit (64 * i + j) = (x i <<< 16).getLsbD j := by
    rw [Nat.testBit_shiftLeft, BitVec.getLsbD_shiftLeft, decide_eq_true hj, Bool.true_and]
    by_cases hjr : j < 16
    · rw [decide_eq_true hjr]
      by_cases hge : 64 * i + j ≥ 16
      · obtain ⟨k, rfl⟩ : ∃ k, i = k + 1 := ⟨i - 1, by omega⟩
        rw [show 64 * (k + 1) + j - 16 = 64 * k + (48 + j) by omega, hX.bit (by omega) (by omega), BitVec.getLsbD_of_ge _ _ (by omega)]
        simp
      · rw [decide_eq_false hge]; rfl
    · rw [decide_eq_false hjr, decide_eq_true (show 64 * i + j ≥ 16 by omega), show 64 * i + j - 16 = 64 * i + (j - 16) by omega, hX.bit hi (by omega)]
      rfl
  rw [Nat.testBit_or, h1, lshr_bit hY hi hj (by omega), Ab.mix, BitVec.getLsbD_or]
theorem QL.mul {X : Nat} {f : Nat → Nat} (hX : QL X f) : ∀ k : Nat, (∀ i, i < 256 → k * f i < 2 ^ 64) → QL (k * X) fun i => k * f i
  | 0, _ => fun i hi => by
    show ln (0 * X) i = 0 * f i
    rw [Nat.zero_mul, Nat.zero_mul, ln]; simp
  | k + 1, h => by
    have ih := QL.mul hX k fun i hi => by
      have := h i hi
      rw [Nat.add_mul] at this
      omega
    rw [Nat.add_mul, Nat.one_mul]
    refine (ih.add hX fun i hi => ?_).to fun i hi => ?_
    · have := h i hi
      rwa [Nat.add_mul, Nat.one_mul] at this
    · rw [Nat.add_mul, Nat.one_mul]
theorem RS.to {s : LS} {v w : Nat → V8} (h : RS s v) (e : ∀ i, v i = w i) : RS s w := by
  have : v = w := funext e
  rwa [← this]
theorem lblk_to {s : LS} {v : Nat → V8} {r : List Nat} {w : List (Nat → BitVec 32)} (m : Nat → List (BitVec 32)) (hs : RS s v) (hr : RW r w) (hl : 16 ≤ w.length) (e : ∀ i, (w.map fun x => x i).reverse = m i) :
    RS (lblk maskL oneL s r) fun i => blkW (v i) (m i) := (lblk_ok hs hr hl).to fun i => by rw [e i]
theorem lIV_ok : RS (lIV oneL) fun _ => iv :=
  ⟨RL.const _ (by decide), RL.const _ (by decide), RL.const _ (by decide), RL.const _ (by decide), RL.const _ (by decide), RL.const _ (by decide), RL.const _ (by decide), RL.const _ (by decide)⟩
theorem lsec_ok {s : LS} {v : Nat → V8} (h : RS s v) : RS (lsec maskL oneL (lIV oneL) s) fun i => secW (v i) :=
  lblk_to (fun i => (v i).list ++ [0x80000000, 0, 0, 0, 0, 0, 0, 256]) lIV_ok
    (.cons (RL.const 256 (by decide)) (.cons .zero (.cons .zero (.cons .zero (.cons .zero (.cons .zero (.cons .zero (.cons (RL.const 0x80000000 (by decide))
      (.cons h.h (.cons h.g (.cons h.f (.cons h.e (.cons h.d (.cons h.c (.cons h.b (.cons h.a .nil)))))))))))))))) (by simp) (fun i => rfl)
theorem mk_word {mk c : Nat} {m : Nat → UInt8} (hm : QL mk fun i => (m i).toNat) (hc : c < 16777216) {w : Nat → BitVec 32} (e : ∀ i, (w i).toNat = 16777216 * (m i).toNat + c) : RL (16777216 * mk + c * oneL) w := by
  refine (QL.add (hm.mul 16777216 fun i _ => ?_) (mulL c (by omega)) fun i _ => ?_).to fun i _ => (e i).symm
  · have := (m i).toNat_lt
    omega
  · have := (m i).toNat_lt
    omega
theorem llock_ok {mk : Nat} {m : Nat → UInt8} (hm : QL mk fun i => (m i).toNat) : RS (llock maskL oneL (lIV oneL) mk) fun i => lockW (m i) :=
  lblk_to (fun i => [be4 (m i) 128 0 0, 0, 0, 0, 0, 0, 0, 0, 0, 0, 0, 0, 0, 0, 0, 8]) lIV_ok
    (.cons (RL.const 8 (by decide)) (.cons .zero (.cons .zero (.cons .zero (.cons .zero (.cons .zero (.cons .zero (.cons .zero
      (.cons .zero (.cons .zero (.cons .zero (.cons .zero (.cons .zero (.cons .zero (.cons .zero (.cons (mk_word (w := fun i => be4 (m i) 128 0 0) hm (by decide) (fun i => by rw [be4_nat]; simp; omega)) .nil)))))))))))))))) (by simp) (fun i => rfl)
theorem ltx_ok {mk h : Nat} {m : Nat → UInt8} (hm : QL mk fun i => (m i).toNat) {L : LS} (hL : RS L fun i => lockW (m i)) (hh : h < 256) :
    RS (ltx maskL oneL (lIV oneL) mk L h) fun i => txW (UInt8.ofNat h) (UInt8.ofNat (h / 256)) (m i) := by
  rw [ltx, lbind_eq, lbind_eq]
  have h1 : RL ((0xff030000 + 256 * h) * oneL) fun _ => be4 255 3 (UInt8.ofNat h) (UInt8.ofNat (h / 256)) := by
    refine (mulL _ (by omega)).to fun i _ => ?_
    rw [be4_nat, show h / 256 = 0 by omega]
    have e : (UInt8.ofNat h).toNat = h := by simp; omega
    rw [e]
    simp
    omega
  have h2 : RL (16777216 * mk + 0x13200 * oneL) fun i => be4 (m i) 1 50 0 := mk_word hm (by decide) fun i => by rw [be4_nat]; simp; omega
  have z : RL 0 fun _ => (0 : BitVec 32) := .zero
  refine lsec_ok (lblk_to (v := fun i => blkW iv [0x01000000, 0, 0, 0, 0, 0, 0, 0, 0x00ffffff, be4 255 3 (UInt8.ofNat h) (UInt8.ofNat (h / 256)), be4 (m i) 1 50 0, 0, mix 0 (lockW (m i)).a, mix (lockW (m i)).a (lockW (m i)).b, mix (lockW (m i)).b (lockW (m i)).c, mix (lockW (m i)).c (lockW (m i)).d])
    (fun i => [mix (lockW (m i)).d (lockW (m i)).e, mix (lockW (m i)).e (lockW (m i)).f, mix (lockW (m i)).f (lockW (m i)).g, mix (lockW (m i)).g (lockW (m i)).h, mix (lockW (m i)).h 0x80000000, 0, 0, 0, 0, 0, 0, 0, 0, 0, 0, 656]) ?_
    (.cons (RL.const 656 (by decide)) (.cons z (.cons z (.cons z (.cons z (.cons z (.cons z (.cons z (.cons z (.cons z (.cons z
      (.cons (hL.h.mix (RL.const 0x80000000 (by decide))) (.cons (hL.g.mix hL.h) (.cons (hL.f.mix hL.g) (.cons (hL.e.mix hL.f) (.cons (hL.d.mix hL.e) .nil)))))))))))))))) (by simp) (fun i => rfl))
  exact lblk_to (fun i => [0x01000000, 0, 0, 0, 0, 0, 0, 0, 0x00ffffff, be4 255 3 (UInt8.ofNat h) (UInt8.ofNat (h / 256)), be4 (m i) 1 50 0, 0, mix 0 (lockW (m i)).a, mix (lockW (m i)).a (lockW (m i)).b, mix (lockW (m i)).b (lockW (m i)).c, mix (lockW (m i)).c (lockW (m i)).d]) lIV_ok
    (.cons (hL.c.mix hL.d) (.cons (hL.b.mix hL.c) (.cons (hL.a.mix hL.b) (.cons (z.mix hL.a) (.cons z (.cons h2 (.cons h1 (.cons (RL.const 0x00ffffff (by decide))
      (.cons z (.cons z (.cons z (.cons z (.cons z (.cons z (.cons z (.cons (RL.const 0x01000000 (by decide)) .nil)))))))))))))))) (by simp) (fun i => rfl)
theorem bsw_nat (n : Nat) : bsw (BitVec.ofNat 32 n) = BitVec.ofNat 32 (bswN n) := by
  apply BitVec.eq_of_toNat_eq
  have e : ∀ y : BitVec 32, (UInt8.ofBitVec (y.setWidth 8)).toNat = y.toNat % 256 := fun y => by
    rw [UInt8.toNat_ofBitVec, BitVec.toNat_setWidth]
  have e2 : ∀ (y : BitVec 32) (k : Nat), (y >>> k).toNat = y.toNat / 2 ^ k := fun y k => by
    rw [BitVec.toNat_ushiftRight, Nat.shiftRight_eq_div_pow]
  rw [bsw, be4_nat, bswN, e, e, e, e, e2, e2, e2, BitVec.toNat_ofNat, BitVec.toNat_ofNat]
  have b0 : n % 2 ^ 32 % 256 = n % 256 := by omega
  have b1 : n % 2 ^ 32 / 2 ^ 8 % 256 = n / 256 % 256 := by omega
  have b2 : n % 2 ^ 32 / 2 ^ 16 % 256 = n / 65536 % 256 := by omega
  have b3 : n % 2 ^ 32 / 2 ^ 24 % 256 = n / 16777216 % 256 := by omega
  rw [b0, b1, b2, b3]
  have h0 : n % 256 < 256 := Nat.mod_lt _ (by decide)
  have h1 : n / 256 % 256 < 256 := Nat.mod_lt _ (by decide)
  have h2 : n / 65536 % 256 < 256 := Nat.mod_lt _ (by decide)
  have h3 : n / 16777216 % 256 < 256 := Nat.mod_lt _ (by decide)
  generalize n % 256 = x0 at *
  generalize n / 256 % 256 = x1 at *
  generalize n / 65536 % 256 = x2 at *
  generalize n / 16777216 % 256 = x3 at *
  omega
theorem bswN_lt (n : Nat) : bswN n < 4294967296 := by
  unfold bswN
  omega
theorem lmid_ok {ver : Nat} (hv : ver < 4294967296) {A T : LS} {p t : Nat → V8} (hP : RS A p) (hT : RS T t) :
    RS (lmid maskL oneL (lIV oneL) ver A T) fun i => blkW iv (BitVec.ofNat 32 ver :: ((p i).list ++ [(t i).a, (t i).b, (t i).c, (t i).d, (t i).e, (t i).f, (t i).g])) :=
  lblk_to (fun i => BitVec.ofNat 32 ver :: ((p i).list ++ [(t i).a, (t i).b, (t i).c, (t i).d, (t i).e, (t i).f, (t i).g])) lIV_ok
    (.cons hT.g (.cons hT.f (.cons hT.e (.cons hT.d (.cons hT.c (.cons hT.b (.cons hT.a (.cons hP.h (.cons hP.g (.cons hP.f (.cons hP.e (.cons hP.d (.cons hP.c (.cons hP.b (.cons hP.a (.cons (RL.const ver hv) .nil)))))))))))))))) (by simp) (fun i => rfl)
theorem lhdr_ok {time bits nonce th : Nat} (h1 : time < 4294967296) (h2 : bits < 4294967296) (h3 : nonce < 4294967296) {mid : LS} {vm : Nat → V8} {q : Nat → BitVec 32} (hM : RS mid vm) (hq : RL th q) :
    RS (lhdr maskL oneL (lIV oneL) mid th time bits nonce) fun i => secW (blkW (vm i) [q i, BitVec.ofNat 32 time, BitVec.ofNat 32 bits, BitVec.ofNat 32 nonce, 0x80000000, 0, 0, 0, 0, 0, 0, 0, 0, 0, 0, 640]) := by
  rw [lhdr, lbind_eq]
  have z : RL 0 fun _ => (0 : BitVec 32) := .zero
  exact lsec_ok (lblk_to (fun i => [q i, BitVec.ofNat 32 time, BitVec.ofNat 32 bits, BitVec.ofNat 32 nonce, 0x80000000, 0, 0, 0, 0, 0, 0, 0, 0, 0, 0, 640]) hM
    (.cons (RL.const 640 (by decide)) (.cons z (.cons z (.cons z (.cons z (.cons z (.cons z (.cons z (.cons z (.cons z (.cons z (.cons (RL.const 0x80000000 (by decide))
      (.cons (RL.const nonce h3) (.cons (RL.const bits h2) (.cons (RL.const time h1) (.cons hq .nil)))))))))))))))) (by simp) (fun i => rfl))
theorem lhdrW_ok {ver time bits nonce : Nat} {A T : LS} {p t : Nat → V8} (hP : RS A p) (hT : RS T t) :
    RS (lhdr maskL oneL (lIV oneL) (lmid maskL oneL (lIV oneL) (bswN ver) A T) T.h (bswN time) (bswN bits) (bswN nonce)) fun i => hdrW (BitVec.ofNat 32 ver) (BitVec.ofNat 32 time) (BitVec.ofNat 32 bits) (BitVec.ofNat 32 nonce) (p i) (t i) :=
  (lhdr_ok (bswN_lt _) (bswN_lt _) (bswN_lt _) (lmid_ok (bswN_lt _) hP hT) hT.h).to fun i => by
    rw [hdrW, bsw_nat, bsw_nat, bsw_nat, bsw_nat]
end Go.Ab
set_option linter.unusedSimpArgs false
set_option linter.unusedVariables false
namespace Go.Ab
def FQ (X : Nat) (f : Nat → Bool) : Prop := QL X fun i => (f i).toNat
theorem ln_or (X Y i : Nat) : ln (X ||| Y) i = ln X i ||| ln Y i := by
  rw [ln, Nat.shiftRight_or_distrib, Nat.or_mod_two_pow]; rfl
theorem QL.or {X Y : Nat} {f g : Nat → Nat} (hX : QL X f) (hY : QL Y g) : QL (X ||| Y) fun i => f i ||| g i := fun i hi => by rw [ln_or, hX i hi, hY i hi]
theorem FQ.and {X Y : Nat} {f g : Nat → Bool} (hX : FQ X f) (hY : FQ Y g) : FQ (X &&& Y) fun i => f i && g i := (QL.and hX hY).to fun i _ => by
  show (f i).toNat &&& (g i).toNat = (f i && g i).toNat
  cases f i <;> cases g i <;> rfl
theorem FQ.or {X Y : Nat} {f g : Nat → Bool} (hX : FQ X f) (hY : FQ Y g) : FQ (X ||| Y) fun i => f i || g i := (QL.or hX hY).to fun i _ => by
  show (f i).toNat ||| (g i).toNat = (f i || g i).toNat
  cases f i <;> cases g i <;> rfl
theorem FQ.not {X : Nat} {f : Nat → Bool} (hX : FQ X f) : FQ (oneL ^^^ X) fun i => !f i := (QL.xor oneL_ln hX).to fun i _ => by
  show 1 ^^^ (f i).toNat = (!f i).toNat
  cases f i <;> rfl
theorem FQ.bit {X : Nat} {f : Nat → Nat} (h : QL X f) (r : Nat) (hr : r < 64) {g : Nat → Bool} (e : ∀ i, i < 256 → (f i).testBit r = g i) : FQ ((X >>> r) &&& oneL) g := fun i hi => by
  show ln (X >>> r &&& oneL) i = (g i).toNat
  rw [ln_and, oneL_ln i hi, Nat.and_one_is_mod, ← e i hi, ← h i hi, ln_bit X i r hr]
  have h0 : (ln (X >>> r) i).testBit 0 = X.testBit (64 * i + r) := by
    rw [ln_bit _ _ _ (by omega), Nat.testBit_shiftRight, Nat.add_zero, Nat.add_comm]
  rw [← h0, Nat.testBit_zero]
  by_cases h1 : ln (X >>> r) i % 2 = 1
  · rw [decide_eq_true h1, h1]; rfl
  · rw [decide_eq_false h1]
    show ln (X >>> r) i % 2 = 0
    omega
theorem FQ.all {X : Nat} {f : Nat → Bool} (h : FQ X f) (e : Nat.beq X oneL = true) : ∀ i, i < 256 → f i = true := fun i hi => by
  have e1 : X = oneL := Nat.eq_of_beq_eq_true e
  have h1 := h i hi
  rw [e1, oneL_ln i hi] at h1
  have h1 : 1 = (f i).toNat := h1
  cases hf : f i with
  | true => rfl
  | false => rw [hf] at h1; cases h1
theorem bit_high {n k : Nat} (h : n < 2 ^ (k + 1)) : n.testBit k = decide (2 ^ k ≤ n) := by
  rw [Nat.testBit_eq_decide_div_mod_eq]
  have h2 : n / 2 ^ k < 2 := by
    rw [Nat.div_lt_iff_lt_mul (Nat.two_pow_pos _), Nat.mul_comm, ← Nat.pow_succ]
    exact h
  by_cases hc : 2 ^ k ≤ n
  · have : 1 ≤ n / 2 ^ k := (Nat.le_div_iff_mul_le (Nat.two_pow_pos _)).2 (by omega)
    rw [decide_eq_true hc, decide_eq_true (by omega)]
  · have : n / 2 ^ k = 0 := Nat.div_eq_of_lt (by omega)
    rw [decide_eq_false hc, this]
    rfl
theorem xor_zero {a b : Nat} (h : a ^^^ b = 0) : a = b := by
  refine Nat.eq_of_testBit_eq fun j => ?_
  have : (a ^^^ b).testBit j = false := by rw [h]; exact Nat.zero_testBit j
  rw [Nat.testBit_xor] at this
  revert this
  cases a.testBit j <;> cases b.testBit j <;> simp
def nzB (x : BitVec 32) : Bool := decide (x.toNat % 16777216 ≠ 16777087)
theorem lnz_ok {X : Nat} {x : Nat → BitVec 32} (h : RL X x) : FQ (lnz oneL X) fun i => nzB (x i) := by
  have h1 := (QL.and h (mulL 0xffffff (by decide))).xor (mulL 0xffff7f (by decide))
  have hlt : ∀ n : Nat, (n &&& 0xffffff) ^^^ 0xffff7f < 16777216 := fun n =>
    Nat.xor_lt_two_pow (n := 24) (Nat.lt_of_le_of_lt Nat.and_le_right (by decide)) (by decide)
  have h2 := h1.add (mulL 0xffffff (by decide)) fun i _ => by
    have := hlt (x i).toNat
    omega
  refine FQ.bit h2 24 (by decide) fun i _ => ?_
  have h3 := hlt (x i).toNat
  rw [bit_high (by omega), nzB]
  have h4 : (x i).toNat &&& 0xffffff = (x i).toNat % 16777216 := Nat.and_two_pow_sub_one_eq_mod _ 24
  apply decide_eq_decide.2
  constructor
  · intro hc he
    rw [h4, he] at hc
    revert hc
    decide
  · intro hn
    have : ((x i).toNat &&& 0xffffff) ^^^ 0xffff7f ≠ 0 := fun e => hn (by rw [← h4]; exact xor_zero e)
    omega
theorem top_ok {X : Nat} {f : Nat → Nat} (h : QL X f) (hf : ∀ i, i < 256 → f i < 4294967296) : FQ (((X + maskL) >>> 32) &&& oneL) fun i => decide (f i ≠ 0) := by
  refine FQ.bit (h.add maskL_ln fun i hi => ?_) 32 (by decide) fun i hi => ?_
  · have := hf i hi
    omega
  · have := hf i hi
    rw [bit_high (by omega)]
    apply decide_eq_decide.2
    omega
theorem lsure_ok {nz A : Nat} {f : Nat → Bool} {a : Nat → BitVec 32} (hn : FQ nz f) (ha : RL A a) (e : lsure maskL oneL nz A = true) : ∀ i, i < 256 → (a i).toNat ≠ 0 ∨ f i = true := fun i hi => by
  have h1 := ((top_ok ha fun i _ => (a i).isLt).or hn).all e i hi
  simpa using h1
theorem lunlike_ok {X Y : Nat} {x y : Nat → BitVec 32} (hx : RL X x) (hy : RL Y y) (e : lunlike maskL oneL X Y = true) : ∀ i, i < 256 → x i ≠ y i := fun i hi he => by
  have h1 := (top_ok (hx.xor hy) fun i _ => Nat.xor_lt_two_pow (n := 32) (x i).isLt (y i).isLt).all e i hi
  rw [he] at h1
  simp at h1
theorem pick1 {R H m : Nat} {r h : Nat → BitVec 32} {g : Nat → Bool} (hR : RL R r) (hH : RL H h) (hm : QL m fun i => (g i).toNat * 4294967295) (h0 : ∀ i, i < 256 → g i = true → r i = 0) : RL (R ||| (H &&& m)) fun i => if g i = true then h i else r i := by
  refine (hR.or (hH.and hm)).to fun i hi => ?_
  show (r i).toNat ||| ((h i).toNat &&& (g i).toNat * 4294967295) = (if g i = true then h i else r i).toNat
  cases hg : g i with
  | true =>
    rw [h0 i hi hg, if_pos rfl]
    show 0 ||| ((h i).toNat &&& 4294967295) = _
    rw [Nat.zero_or, show (4294967295 : Nat) = 2 ^ 32 - 1 from rfl, Nat.and_two_pow_sub_one_eq_mod, Nat.mod_eq_of_lt (h i).isLt]
  | false =>
    rw [if_neg (by simp)]
    show (r i).toNat ||| ((h i).toNat &&& (0 * 4294967295)) = _
    rw [Nat.zero_mul, Nat.and_zero, Nat.or_zero]
def v80 : V8 := ⟨0, 0, 0, 0, 0, 0, 0, 0⟩
theorem lpick_ok {R H : LS} {m : Nat} {r h : Nat → V8} {g : Nat → Bool} (hR : RS R r) (hH : RS H h) (hm : FQ m g) (h0 : ∀ i, i < 256 → g i = true → r i = v80) : RS (lpick R H (m * 4294967295)) fun i => if g i = true then h i else r i := by
  have hm' : QL (m * 4294967295) fun i => (g i).toNat * 4294967295 := by
    rw [Nat.mul_comm]
    refine (QL.mul hm 4294967295 fun i _ => ?_).to fun i _ => Nat.mul_comm _ _
    cases g i <;> decide
  have e : lpick R H (m * 4294967295) = ⟨R.a ||| (H.a &&& m * 4294967295), R.b ||| (H.b &&& m * 4294967295), R.c ||| (H.c &&& m * 4294967295), R.d ||| (H.d &&& m * 4294967295), R.e ||| (H.e &&& m * 4294967295), R.f ||| (H.f &&& m * 4294967295), R.g ||| (H.g &&& m * 4294967295), R.h ||| (H.h &&& m * 4294967295)⟩ := by
    simp only [lpick, frc_eq]
  rw [e]
  constructor
  · exact (pick1 hR.a hH.a hm' fun i hi hg => by rw [h0 i hi hg]; rfl).to fun i _ => by dsimp only; split <;> rfl
  · exact (pick1 hR.b hH.b hm' fun i hi hg => by rw [h0 i hi hg]; rfl).to fun i _ => by dsimp only; split <;> rfl
  · exact (pick1 hR.c hH.c hm' fun i hi hg => by rw [h0 i hi hg]; rfl).to fun i _ => by dsimp only; split <;> rfl
  · exact (pick1 hR.d hH.d hm' fun i hi hg => by rw [h0 i hi hg]; rfl).to fun i _ => by dsimp only; split <;> rfl
  · exact (pick1 hR.e hH.e hm' fun i hi hg => by rw [h0 i hi hg]; rfl).to fun i _ => by dsimp only; split <;> rfl
  · exact (pick1 hR.f hH.f hm' fun i hi hg => by rw [h0 i hi hg]; rfl).to fun i _ => by dsimp only; split <;> rfl
  · exact (pick1 hR.g hH.g hm' fun i hi hg => by rw [h0 i hi hg]; rfl).to fun i _ => by dsimp only; split <;> rfl
  · exact (pick1 hR.h hH.h hm' fun i hi hg => by rw [h0 i hi hg]; rfl).to fun i _ => by dsimp only; split <;> rfl
def AccW (v : V8) : Prop := nzB v.h = true ∧ v.h.toNat.testBit 7 = false
def RejW (v : V8) : Prop := (v.a.toNat ≠ 0 ∨ nzB v.h = true) ∧ ¬ AccW v
def Fnd (f : Nat → V8) (N : Nat) (v : V8) : Prop := ∃ k, k < N ∧ f k = v ∧ AccW (f k) ∧ ∀ j, j < k → RejW (f j)
set_option maxRecDepth 100000 in
theorem lmine_succ (M O : Nat) (iv mid : LS) (th time bits n nonce D : Nat) (R : LS) : lmine M O iv mid th time bits (n + 1) nonce D R =
    cond (lsure M O (lnz O (lhdr M O iv mid th time bits (bswN nonce)).h) (lhdr M O iv mid th time bits (bswN nonce)).a)
      (cond (Nat.beq (D ||| ((lnz O (lhdr M O iv mid th time bits (bswN nonce)).h &&& (O ^^^ (((lhdr M O iv mid th time bits (bswN nonce)).h >>> 7) &&& O))) &&& (O ^^^ D))) O)
        (some (lpick R (lhdr M O iv mid th time bits (bswN nonce)) (((lnz O (lhdr M O iv mid th time bits (bswN nonce)).h &&& (O ^^^ (((lhdr M O iv mid th time bits (bswN nonce)).h >>> 7) &&& O))) &&& (O ^^^ D)) * 4294967295)))
        (lmine M O iv mid th time bits n (nonce + 1) (D ||| ((lnz O (lhdr M O iv mid th time bits (bswN nonce)).h &&& (O ^^^ (((lhdr M O iv mid th time bits (bswN nonce)).h >>> 7) &&& O))) &&& (O ^^^ D))) (lpick R (lhdr M O iv mid th time bits (bswN nonce)) (((lnz O (lhdr M O iv mid th time bits (bswN nonce)).h &&& (O ^^^ (((lhdr M O iv mid th time bits (bswN nonce)).h >>> 7) &&& O))) &&& (O ^^^ D)) * 4294967295))))
      none := by
  have e : lmine M O iv mid th time bits (n + 1) nonce D R = lbind (lhdr M O iv mid th time bits (bswN nonce)) fun H =>
      frc (lnz O H.h) fun nz => cond (lsure M O nz H.a)
        (frc ((nz &&& (O ^^^ ((H.h >>> 7) &&& O))) &&& (O ^^^ D)) fun new => lbind (lpick R H (new * 4294967295)) fun R' => frc (D ||| new) fun D' =>
          cond (Nat.beq D' O) (some R') (frc (nonce + 1) fun nonce' => lmine M O iv mid th time bits n nonce' D' R'))
        none := rfl
  refine e.trans ?_
  clear e
  generalize lmine M O iv mid th time bits n = K
  generalize lhdr M O iv mid th time bits (bswN nonce) = H
  rw [lbind_eq]
  rw [frc_eq]
  rw [frc_eq]
  rw [lbind_eq]
  rw [frc_eq]
  rw [frc_eq]
theorem lmine_ok {f : Nat → Nat → V8} {mid : LS} {th time bits : Nat} (hf : ∀ k, RS (lhdr maskL oneL (lIV oneL) mid th time bits (bswN k)) fun i => f i k) :
    ∀ (n nonce D : Nat) (R R' : LS) (d : Nat → Bool) (r : Nat → V8), FQ D d → RS R r → (∀ i, i < 256 → d i = true → Fnd (f i) nonce (r i)) → (∀ i, i < 256 → d i = false → r i = v80 ∧ ∀ j, j < nonce → RejW (f i j)) →
      lmine maskL oneL (lIV oneL) mid th time bits n nonce D R = some R' → ∃ r', RS R' r' ∧ ∀ i, i < 256 → Fnd (f i) (nonce + n) (r' i) := by
  intro n
  induction n with
  | zero =>
    intro nonce D R R' d r hD hR h1 h2 e
    have e0 : lmine maskL oneL (lIV oneL) mid th time bits 0 nonce D R = none := rfl
    rw [e0] at e
    exact absurd e (by simp)
  | succ n ih =>
    intro nonce D R R' d r hD hR h1 h2 e
    rw [lmine_succ] at e
    have hH := hf nonce
    obtain ⟨H, hHe⟩ : ∃ H, H = lhdr maskL oneL (lIV oneL) mid th time bits (bswN nonce) := ⟨_, rfl⟩
    rw [← hHe] at e hH
    have hnz := lnz_ok hH.h
    have h7 : FQ ((H.h >>> 7) &&& oneL) fun i => (f i nonce).h.toNat.testBit 7 := FQ.bit hH.h 7 (by decide) fun i _ => rfl
    have hnew := (hnz.and h7.not).and hD.not
    obtain ⟨new, hne⟩ : ∃ new, new = (lnz oneL H.h &&& (oneL ^^^ ((H.h >>> 7) &&& oneL))) &&& (oneL ^^^ D) := ⟨_, rfl⟩
    rw [← hne] at e hnew
    obtain ⟨g, hg⟩ : ∃ g : Nat → Bool, g = fun i => (nzB (f i nonce).h && !((f i nonce).h.toNat.testBit 7)) && !d i := ⟨_, rfl⟩
    rw [← hg] at hnew
    have hgi : ∀ i, g i = true ↔ AccW (f i nonce) ∧ d i = false := fun i => by
      rw [hg, AccW]
      simp only [Bool.and_eq_true, Bool.not_eq_true']
    cases hs : lsure maskL oneL (lnz oneL H.h) H.a with
    | false => rw [hs] at e; cases e
    | true =>
      rw [hs] at e
      simp only [cond_true] at e
      have hsu := lsure_ok hnz hH.a hs
      have hpk := lpick_ok hR hH hnew fun i hi hgt => (h2 i hi ((hgi i).1 hgt).2).1
      have hD' := hD.or hnew
      obtain ⟨r', hr'⟩ : ∃ r' : Nat → V8, r' = fun i => if g i = true then f i nonce else r i := ⟨_, rfl⟩
      rw [← hr'] at hpk
      have hFnd : ∀ i, i < 256 → (d i || g i) = true → Fnd (f i) (nonce + 1) (r' i) := fun i hi hdg => by
        rw [hr']
        cases hgv : g i with
        | true =>
          obtain ⟨ha, hd⟩ := (hgi i).1 hgv
          exact ⟨nonce, by omega, (if_pos hgv).symm, ha, (h2 i hi hd).2⟩
        | false =>
          rw [hgv, Bool.or_false] at hdg
          obtain ⟨k, q1, q2, q3, q4⟩ := h1 i hi hdg
          exact ⟨k, by omega, q2.trans (if_neg (by simp [hgv])).symm, q3, q4⟩
      cases hb : Nat.beq (D ||| new) oneL with
      | true =>
        rw [hb] at e
        simp only [cond_true, Option.some.injEq] at e
        subst e
        refine ⟨r', hpk, fun i hi => ?_⟩
        obtain ⟨k, q1, q2, q3, q4⟩ := hFnd i hi (hD'.all hb i hi)
        exact ⟨k, by omega, q2, q3, q4⟩
      | false =>
        rw [hb] at e
        simp only [cond_false] at e
        obtain ⟨r2, h3, h4⟩ := ih (nonce + 1) _ _ R' _ r' hD' hpk hFnd (fun i hi hdg => by
          rw [Bool.or_eq_false_iff] at hdg
          obtain ⟨q1, q2⟩ := h2 i hi hdg.1
          refine ⟨by rw [hr']; simp [hdg.2, q1], fun j hj => ?_⟩
          by_cases hjn : j < nonce
          · exact q2 j hjn
          · have : j = nonce := by omega
            subst this
            refine ⟨hsu i hi, fun ha => ?_⟩
            have := (hgi i).2 ⟨ha, hdg.1⟩
            rw [hdg.2] at this
            cases this) e
        exact ⟨r2, h3, fun i hi => by
          have := h4 i hi
          rwa [Nat.add_right_comm] at this⟩
end Go.Ab

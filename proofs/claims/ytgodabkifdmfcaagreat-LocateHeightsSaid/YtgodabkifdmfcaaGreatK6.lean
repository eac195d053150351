import Derived.Test.YtgodabkifdmfcaaGreatK5
import Derived.Test.YtgodabkifdmfcaaGreatK4
set_option linter.unusedSimpArgs false
set_option linter.unusedVariables false
set_option maxRecDepth 10000
namespace Go.Ab
open Go Go.RowKit
section
variable {P : Program} {F : Fn}
def borN (a b i : Nat) : Bool := decide (a % 2 ^ i < b % 2 ^ i)
def difN (a b : Nat) : Nat := 2 ^ 256 + a % 2 ^ 256 - b % 2 ^ 256
theorem mod_div_bit (A n i : Nat) (h : i < n) : A % 2 ^ n / 2 ^ i % 2 = A / 2 ^ i % 2 := by
  have h1 : (A % 2 ^ n).testBit i = A.testBit i := by
    rw [Nat.testBit_mod_two_pow, decide_eq_true h, Bool.true_and]
  rw [Nat.testBit_eq_decide_div_mod_eq, Nat.testBit_eq_decide_div_mod_eq, decide_eq_decide] at h1
  omega
theorem mod_mod_pow (A n i : Nat) (h : i ≤ n) : A % 2 ^ n % 2 ^ i = A % 2 ^ i := Nat.mod_mod_of_dvd _ (Nat.pow_dvd_pow 2 h)
theorem dif_bit (a b i : Nat) (hi : i < 256) : (difN a b / 2 ^ i % 2 == 1) = (((a / 2 ^ i % 2 == 1) != (b / 2 ^ i % 2 == 1)) != borN a b i) ∧
    borN a b (i + 1) = (!(a / 2 ^ i % 2 == 1) && ((b / 2 ^ i % 2 == 1) || borN a b i) || (b / 2 ^ i % 2 == 1) && borN a b i) := by
  have hp := Nat.two_pow_pos i
  constructor
  · have ea := mod_div_bit a 256 i hi
    have eb := mod_div_bit b 256 i hi
    have ra := mod_mod_pow a 256 i (by omega)
    have rb := mod_mod_pow b 256 i (by omega)
    have la := Nat.mod_lt a (Nat.two_pow_pos 256)
    have lb := Nat.mod_lt b (Nat.two_pow_pos 256)
    unfold difN borN
    rw [← ea, ← eb, ← ra, ← rb]
    generalize a % 2 ^ 256 = x at *
    generalize b % 2 ^ 256 = y at *
    have hx := Nat.div_add_mod x (2 ^ i)
    have hy := Nat.div_add_mod y (2 ^ i)
    have lx := Nat.mod_lt x hp
    have ly := Nat.mod_lt y hp
    obtain ⟨m, hm⟩ : ∃ m, 2 ^ 256 = 2 ^ i * (2 * m) := ⟨2 ^ (255 - i), by
      rw [show 2 ^ 256 = 2 ^ (i + (1 + (255 - i))) by congr 1; omega, Nat.pow_add, Nat.pow_add]⟩
    rw [hm] at la lb ⊢
    generalize 2 ^ i = p at *
    have hyl : y / p < 2 * m := Nat.div_lt_of_lt_mul lb
    have hD : (p * (2 * m) + x - y) / p = 2 * m + x / p - y / p - (if x % p < y % p then 1 else 0) := by
      generalize x / p = X at *
      generalize y / p = Y at *
      have e1 : p * (2 * m) + x - y = p * (2 * m + X - Y) + x % p - y % p := by
        have : p * (2 * m + X - Y) = p * (2 * m) + p * X - p * Y := by rw [Nat.mul_sub, Nat.mul_add]
        have : p * Y ≤ p * (2 * m) := Nat.mul_le_mul_left _ (by omega)
        omega
      rw [e1]
      split
      · rename_i h
        have e2 : p * (2 * m + X - Y) + x % p - y % p = p * (2 * m + X - Y - 1) + (p + x % p - y % p) := by
          have : p * (2 * m + X - Y) = p * (2 * m + X - Y - 1) + p := by
            rw [← Nat.mul_succ]; congr 1; omega
          omega
        rw [e2, Nat.mul_add_div (by omega), Nat.div_eq_of_lt (by omega), Nat.add_zero]
      · rename_i h
        have e2 : p * (2 * m + X - Y) + x % p - y % p = p * (2 * m + X - Y) + (x % p - y % p) := by omega
        rw [e2, Nat.mul_add_div (by omega), Nat.div_eq_of_lt (by omega), Nat.add_zero, Nat.sub_zero]
    rw [hD]
    generalize x / p = X at *
    generalize y / p = Y at *
    have hA : X % 2 = 0 ∨ X % 2 = 1 := by omega
    have hB : Y % 2 = 0 ∨ Y % 2 = 1 := by omega
    by_cases hc : x % p < y % p <;> rcases hA with h1 | h1 <;> rcases hB with h2 | h2 <;> simp [hc, h1, h2] <;> omega
  · unfold borN
    rw [bit_step a, bit_step b]
    have la := Nat.mod_lt a hp
    have lb := Nat.mod_lt b hp
    generalize a % 2 ^ i = x at *
    generalize b % 2 ^ i = y at *
    generalize a / 2 ^ i = A at *
    generalize b / 2 ^ i = B at *
    generalize 2 ^ i = p at *
    have hA : A % 2 = 0 ∨ A % 2 = 1 := by omega
    have hB : B % 2 = 0 ∨ B % 2 = 1 := by omega
    by_cases hc : x < y <;> rcases hA with h1 | h1 <;> rcases hB with h2 | h2 <;> simp [hc, h1, h2] <;> omega
set_option maxHeartbeats 2000000 in
theorem spec126 (ok : OkRef02 P F) {st : St} {s t : V} {a b : List Bool} (ha : Rd 1 eB s a st) (hb : Rd 1 eB t b st) : ACalls P (F 126) [s, t] st fun v st' => v = .tup [slB (bitsN 256 (difN (valB a) (valB b))), .bool (borN (valB a) (valB b) 256)] ∧ st' = st := by
  refine shows_call ok.mixed ok.h126 (by simp [k126]) ?_
  simp only [k126]
  simp
  have S : Sep [Sl 1 eB (.sl .nil [] 0) (bitsN 0 (difN (valB a) (valB b))), Was st] st := (Sep.start st).slNil
  refine vc_loopJ (fun k env' st' => ∃ i s, i ≤ 256 ∧ k = 256 - i ∧ env' 8 = .int .i64 (i : Nat) ∧ env' 6 = s ∧ env' 7 = .bool (borN (valB a) (valB b) i) ∧ Sep [Sl 1 eB s (bitsN i (difN (valB a) (valB b))), Was st] st') 256
    ⟨0, _, by omega, by omega, rfl, rfl, by simp [borN, Nat.mod_one], S⟩ ?_
  clear S
  rintro J hJ k env' st2 hsame ⟨i, s2, hi, rfl, h8, h6, h7, S⟩
  have g0 := hsame.get 0 rfl
  have g1 := hsame.get 1 rfl
  simp at g0 g1
  clear hsame
  have w1 : IntKind.i64.wrap ((i : Int) + 1) = (i : Int) + 1 := wrap64 (by omega) (by omega)
  by_cases hlt : i < 256
  · have hlt' : (i : Int) < 256 := by omega
    have hsub := S.was' (st0 := st) (by simp)
    simp [g0, g1, h8, hlt']
    refine (spec123 ok (ha.sub hsub) i).mono ?_
    rintro v st2 ⟨rfl, rfl⟩
    simp [h8, g1]
    refine (spec123 ok (hb.sub hsub) i).mono ?_
    rintro v st2 ⟨rfl, rfl⟩
    obtain ⟨e1, e2⟩ := dif_bit (valB a) (valB b) i hlt
    have x1 : atI a i = (valB a / 2 ^ i % 2 == 1) := by rw [atI_nat, atB_eq]
    have x2 : atI b i = (valB b / 2 ^ i % 2 == 1) := by rw [atI_nat, atB_eq]
    rw [← x1, ← x2] at e1 e2
    have hsn := bitsN_snoc i (difN (valB a) (valB b))
    generalize atI a i = x at *
    generalize atI b i = y at *
    obtain ⟨c, hc⟩ : ∃ c, c = borN (valB a) (valB b) i := ⟨_, rfl⟩
    rw [← hc] at e1 e2 h7
    have hbn : (!((!(x == y)) == c)) = ((x != y) != c) := by cases x <;> cases y <;> cases c <;> rfl
    simp [h6, h7, eqK, bfill, belems]
    refine Sep.app1 (b := 1) eB_len (by omega) S (a := (!((!(x == y)) == c))) rfl (by rw [bitsN_len]; omega) ?_
    intro s4 st4 S
    rw [hbn, ← e1, ← hsn] at S
    have fin : ∀ env'', env'' 8 = .int .i64 ((i : Int) + 1) → env'' 6 = s4 → env'' 7 = .bool (!x && (y || c) || y && c) → Round J (256 - i) env'' st4 := fun env'' q1 q2 q3 =>
      Round.mk (256 - (i + 1)) _ (by omega) (sub_self _) (hJ _ _ _ ⟨i + 1, s4, by omega, rfl, by simpa using q1, q2, by rw [e2]; exact q3, S⟩)
    cases x <;> cases y <;> cases c <;> simp [h7, h8, w1] <;> exact fin _ (by simp) (by simp) (by simp)
  · have : i = 256 := by omega
    subst this
    simp [h8]
    obtain ⟨k, st4, hf, S, hk⟩ := S.frzSl eB_len
    refine frzP_one (v := .sl k (rowsOf eB (bitsN 256 (difN (valB a) (valB b)))) (bitsN 256 (difN (valB a) (valB b))).length) (st' := st4) (by simp [h6, hf]) ?_
    have hk := hk (fun e => by have := congrArg List.length e; rw [bitsN_len] at this; simp at this)
    subst hk
    simp [slB, h7]
    exact S.was' (by simp)
theorem shiftB_len (a : List Bool) (n : Int) : ((shiftB a n).length : Int) = max 0 ((a.length : Int) + n) := by
  unfold shiftB
  split
  · simp [shlB]; omega
  · simp; omega
theorem shiftB_get (a : List Bool) (n : Int) {i : Nat} (hi : i < (shiftB a n).length) : (shiftB a n)[i] = atI a ((i : Int) - n) := by
  have key : (shiftB a n)[i]? = some (atI a ((i : Int) - n)) := by
    have hl := shiftB_len a n
    by_cases h : 0 ≤ n
    · have e : shiftB a n = List.replicate n.toNat false ++ a := by simp [shiftB, h, shlB]
      by_cases h1 : i < n.toNat
      · rw [e, List.getElem?_append_left (by simpa using h1), List.getElem?_replicate, if_pos h1, atI, if_neg (by omega)]
      · rw [e, List.getElem?_append_right (by simp; omega), List.length_replicate, List.getElem?_eq_getElem (by omega), atI, if_pos (by omega), show ((i : Int) - n).toNat = i - n.toNat by omega, atB, List.getD_eq_getElem?_getD, List.getElem?_eq_getElem (by omega)]
        rfl
    · have e : shiftB a n = a.drop (-n).toNat := by simp [shiftB, h]
      rw [e, List.getElem?_drop, List.getElem?_eq_getElem (by omega), atI, if_pos (by omega), show ((i : Int) - n).toNat = (-n).toNat + i by omega, atB, List.getD_eq_getElem?_getD, List.getElem?_eq_getElem (by omega)]
      rfl
  rw [List.getElem?_eq_getElem hi] at key
  exact Option.some.inj key
set_option maxHeartbeats 1000000 in
theorem spec127 (ok : OkRef02 P F) {st : St} {s : V} {a : List Bool} (ha : Rd 1 eB s a st) (la : a.length ≤ 100000) (n : Int) (hn : -100000 ≤ n ∧ n ≤ 100000) : ACalls P (F 127) [s, .int .i64 n] st fun v st' => Sep [Sl 1 eB v (shiftB a n), Was st] st' := by
  refine shows_call ok.mixed ok.h127 (by simp [k127]) ?_
  simp only [k127]
  simp
  have hla := ha.len
  have hlen := shiftB_len a n
  obtain ⟨R, hR⟩ : ∃ R, R = shiftB a n := ⟨_, rfl⟩
  have S : Sep [Sl 1 eB (.sl .nil [] 0) (R.take 0), Was st] st := (Sep.start st).slNil
  have w0 : IntKind.i64.wrap ((a.length : Int) + n) = (a.length : Int) + n := wrap64 (by omega) (by omega)
  rw [← hR] at hlen ⊢
  refine vc_loopJ (fun k env' st' => ∃ i s, i ≤ R.length ∧ k = R.length - i ∧ env' 6 = .int .i64 (i : Nat) ∧ env' 5 = s ∧ Sep [Sl 1 eB s (R.take i), Was st] st') R.length
    ⟨0, _, by omega, by omega, rfl, rfl, S⟩ ?_
  clear S
  rintro J hJ k env' st2 hsame ⟨i, s2, hi, rfl, h6, h5, S⟩
  have g0 := hsame.get 0 rfl
  have g1 := hsame.get 1 rfl
  simp at g0 g1
  clear hsame
  have w1 : IntKind.i64.wrap ((i : Int) + 1) = (i : Int) + 1 := wrap64 (by omega) (by omega)
  have w2 : IntKind.i64.wrap ((i : Int) - n) = (i : Int) - n := wrap64 (by omega) (by omega)
  by_cases hlt : i < R.length
  · have hlt' : (i : Int) < (a.length : Int) + n := by omega
    have hsub := S.was' (st0 := st) (by simp)
    have hget : R[i] = atI a ((i : Int) - n) := by
      have := shiftB_get a n (i := i) (by rw [← hR]; exact hlt)
      rw [← this]; congr 1
    simp [g0, g1, h6, h5, hla, w0, hlt', w2]
    refine (spec123 ok (ha.sub hsub) ((i : Int) - n)).mono ?_
    rintro v st2 ⟨rfl, rfl⟩
    rw [← hget]
    simp [bfill, belems]
    refine Sep.app1 (b := 1) eB_len (by omega) S (a := R[i]) rfl (by simp; omega) ?_
    intro s4 st4 S
    simp [h6, w1]
    refine Round.mk (R.length - (i + 1)) _ (by omega) (sub_self _) (hJ _ _ _ ⟨i + 1, s4, by omega, rfl, by simp, by simp, ?_⟩)
    rw [List.take_succ_eq_append_getElem hlt]
    exact S
  · have : i = R.length := by omega
    have hlt' : ¬ (i : Int) < (a.length : Int) + n := by omega
    simp [g0, g1, h6, h5, hla, w0, hlt']
    rw [this, List.take_length] at S
    exact ⟨st2, sub_self _, S⟩
set_option maxHeartbeats 1000000 in
theorem spec128 (ok : OkRef02 P F) {st : St} {s t : V} {a b : List Bool} (ha : Rd 1 eB s a st) (hb : Rd 1 eB t b st) (la : a.length ≤ 10000) (lb : b.length ≤ 10000) : ACalls P (F 128) [s, t] st fun v st' => (∃ k, v = .sl k (rowsOf eB (mulB a b 0 [])) (mulB a b 0 []).length) ∧ st' = st := by
  refine shows_call ok.mixed ok.h128 (by simp [k128]) ?_
  simp only [k128]
  simp
  have hlb := hb.len
  refine vc_loopJ (fun k env' st' => ∃ (i : Nat) (kd : SK) (out : List Bool), i ≤ b.length ∧ k = b.length - i ∧ env' 6 = .int .i64 (i : Nat) ∧ env' 5 = .sl kd (rowsOf eB out) out.length ∧ out.length ≤ a.length + 2 * i + 1 ∧ mulB a b 0 [] = mulB a (b.drop i) i out ∧ St.sub st st') b.length
    ⟨0, .nil, [], by omega, by omega, rfl, by simp, by simp, by simp, sub_self _⟩ ?_
  rintro J hJ k env' st2 hsame ⟨i, kd, out, hi, rfl, h6, h5, hol, hm, hsub⟩
  have g0 := hsame.get 0 rfl
  have g1 := hsame.get 1 rfl
  simp at g0 g1
  clear hsame
  have w1 : IntKind.i64.wrap ((i : Int) + 1) = (i : Int) + 1 := wrap64 (by omega) (by omega)
  by_cases hlt : i < b.length
  · obtain ⟨p, hp1, hp2⟩ := (hb.sub hsub).idx eB_len hlt .i64
    rw [List.drop_eq_getElem_cons hlt, mulB] at hm
    simp [g0, g1, h6, h5, hlb, hlt, hp1, hp2, eB]
    cases hbi : b[i] with
    | true =>
      rw [hbi] at hm
      simp [g0, g1, h6, h5]
      refine (spec127 ok (ha.sub hsub) (by omega) (i : Int) (by omega)).mono ?_
      intro v st3 S
      have hsh : shiftB a (i : Int) = shlB a i := by simp [shiftB]
      rw [hsh] at S
      have rd2 := S.rd eB_len
      have hsub2 := sub_trans hsub (S.was' (st0 := st2) (by simp))
      simp
      refine (spec124 ok (st := st3) (a := out) (b := shlB a i) (.inl ⟨kd, rfl⟩) rd2 (by omega) (by simp [shlB]; omega)).mono ?_
      rintro w st3 ⟨rfl, rfl⟩
      simp [h6, w1]
      refine Round.mk (b.length - (i + 1)) _ (by omega) (sub_self _) (hJ _ _ _ ⟨i + 1, .some, addB out (shlB a i), by omega, rfl, by simp, by simp [slB], ?_, by simpa using hm, hsub2⟩)
      rw [addB_len, shlB, List.length_append, List.length_replicate]
      omega
    | false =>
      rw [hbi] at hm
      simp [h6, w1]
      exact Round.mk (b.length - (i + 1)) _ (by omega) (sub_self _) (hJ _ _ _ ⟨i + 1, kd, out, by omega, rfl, by simp, by simp [h5], by omega, by simpa using hm, hsub⟩)
  · have : i = b.length := by omega
    subst this
    rw [List.drop_length, mulB] at hm
    simp [g1, h6, h5, hlb, hm]
    exact hsub
theorem valB_set (l : List Bool) {i : Nat} (hi : i < l.length) (h0 : l[i] = false) : valB (l.set i true) = valB l + 2 ^ i := by
  have e1 : l = l.take i ++ (l[i] :: l.drop (i + 1)) := by rw [← List.drop_eq_getElem_cons hi, List.take_append_drop]
  have e2 : l.set i true = l.take i ++ (true :: l.drop (i + 1)) := by rw [List.set_eq_take_append_cons_drop, if_pos hi]
  have hl : (l.take i).length = i := by rw [List.length_take]; omega
  rw [e2]
  conv => rhs; rw [e1]
  rw [valB_append, valB_append, h0, valB, valB, hl]
  simp only [Bool.toNat_true, Bool.toNat_false, Nat.mul_add]
  omega
def RdA (s : V) (l : List Bool) : Asn := fun h => Rd 1 eB s l h
theorem Sep.rdA {s : V} {l : List Bool} {L : List Asn} {st : St} (h : Sep L st) (hm : RdA s l ∈ L) : Rd 1 eB s l st := by
  obtain ⟨g, k1, k2⟩ := h.memA hm
  exact Rd.sub k2 k1
theorem Sep.frzA {s : V} {l : List Bool} {L : List Asn} {st : St} (h : Sep (RdA s l :: L) st) : ∃ k st', frzV st s = some (.sl k (rowsOf eB l) l.length, st') ∧ Sep L st' := by
  obtain ⟨a, r, h1, h2, h3, h4⟩ := h
  have hsub : St.sub r st := sub_trans (sub_right h1) h2
  rcases h3 with ⟨k, rfl⟩ | ⟨sid, off, rfl, h5⟩
  · exact ⟨k, st, rfl, h4.sub hsub⟩
  · have key : ∀ (cs : List V), a sid = some (.cells cs) ∨ a sid = some (.ro cs) → segOf cs off (l.length * 1) = some (rowsOf eB l) → ∃ k st', frzV st (.hsl sid off 1 l.length) = some (.sl k (rowsOf eB l) l.length, st') ∧ Sep L st' := by
      intro cs hcs hseg
      have hne : ∀ j o, r j = some o → j ≠ sid := fun j o e e' => by
        subst e'
        rcases h1 j with g | g
        · rcases hcs with h | h <;> rw [g] at h <;> cases h
        · rw [e] at g; cases g
      refine ⟨.some, st.upd sid (.ro cs), ?_, h4.sub fun j o e => ?_⟩
      · rcases hcs with hc | hc
        · have hs := h2 _ _ (add_some hc)
          simp [frzV, frzOb, hs, St.seg] at hseg ⊢
          exact hseg
        · have hs := h2 _ _ (add_some hc)
          have e : st.upd sid (.ro cs) = st := by
            funext j
            by_cases hj : j = sid
            · subst hj; simp [hs]
            · simp [hj]
          rw [e]
          simp [frzV, frzOb, hs, St.seg] at hseg ⊢
          exact hseg
      · simp only [st_upd, hne j o e, if_false]
        exact hsub j o e
    unfold St.seg at h5
    split at h5
    · rename_i cs hc
      exact key cs (.inl hc) h5
    · rename_i cs hc
      exact key cs (.inr hc) h5
    · cases h5
theorem div_step {X B b : Nat} (hB : 0 < B) (hb : b ≤ 1) : (2 * X + b) / B = 2 * (X / B) + (if B ≤ 2 * (X % B) + b then 1 else 0) ∧ (2 * X + b) % B = 2 * (X % B) + b - (if B ≤ 2 * (X % B) + b then B else 0) := by
  have hd := Nat.div_add_mod X B
  have hm := Nat.mod_lt X hB
  have e : 2 * X + b = B * (2 * (X / B)) + (2 * (X % B) + b) := by
    conv => lhs; rw [← hd]
    rw [Nat.mul_add, Nat.mul_left_comm]
    omega
  generalize X / B = q at *
  generalize X % B = r at *
  rw [e, Nat.mul_add_div hB, Nat.mul_add_mod]
  split
  · rename_i h
    have h1 : (2 * r + b) / B = 1 := Nat.div_eq_of_lt_le (by omega) (by omega)
    have h2 := Nat.div_add_mod (2 * r + b) B
    rw [h1] at h2
    exact ⟨by rw [h1], by omega⟩
  · rename_i h
    rw [Nat.div_eq_of_lt (by omega), Nat.mod_eq_of_lt (by omega)]
    exact ⟨rfl, rfl⟩
theorem dif_exact {X B : Nat} (h1 : B ≤ X) (h2 : X < 2 * B) (h3 : B ≤ 2 ^ 256) : (2 ^ 256 + X % 2 ^ 256 - B % 2 ^ 256) % 2 ^ 256 = X - B := by
  generalize 2 ^ 256 = M at *
  have hM : 0 < M := by omega
  have hB := Nat.div_add_mod B M
  have hX := Nat.div_add_mod X M
  have lB := Nat.mod_lt B hM
  have lX := Nat.mod_lt X hM
  by_cases hBM : B = M
  · subst hBM
    rw [Nat.mod_self, Nat.sub_zero, Nat.add_mod_left, Nat.mod_mod, Nat.mod_eq_sub_mod h1, Nat.mod_eq_of_lt (by omega)]
  · rw [Nat.mod_eq_of_lt (show B < M by omega)]
    by_cases hXM : X < M
    · rw [Nat.mod_eq_of_lt hXM, show M + X - B = (X - B) + M by omega, Nat.add_mod_right, Nat.mod_eq_of_lt (by omega)]
    · have e : X % M = X - M := by
        rw [Nat.mod_eq_sub_mod (by omega), Nat.mod_eq_of_lt (by omega)]
      rw [e, show M + (X - M) - B = X - B by omega, Nat.mod_eq_of_lt (by omega)]
theorem rowsB_set (l : List Bool) (sp : List V) {i : Nat} (hi : i < l.length) (x : Bool) : spliceV (rowsOf eB l ++ sp) i [.bool x] = rowsOf eB (l.set i x) ++ sp := by
  have := rowsOf_splice (f := eB) (sz := 1) eB_len l sp hi (o := 0) (vs := [.bool x]) (by simp) (a := x) rfl
  simpa using this
theorem Sep.setB {s : V} {l : List Bool} {L : List Asn} {st : St} (h : Sep (Sl 1 eB s l :: L) st) {i : Nat} (hi : i < l.length) (k : IntKind) (x : Bool) : ∃ p, idxSlV 1 s (.int k (i : Int)) = some p ∧ ∃ st', storeS st 1 p (.bool x) = some st' ∧ Sep (Sl 1 eB s (l.set i x) :: L) st' := by
  obtain ⟨a, r, h1, h2, h3, h4⟩ := h
  rcases h3 with ⟨_, rfl⟩ | ⟨sid, spare, rfl, h5, h6⟩
  · simp at hi
  · have hsid := h2 _ _ (add_some h5)
    have hl := rowsOf_length eB_len l
    refine ⟨.ptr (some (sid, i)), by simp [hi], st.upd sid (.cells (rowsOf eB (l.set i x) ++ spare)), ?_, ?_⟩
    · simp only [storeS, hsid, cells_bool]
      rw [if_pos ⟨rfl, by simp; omega⟩, rowsB_set l spare hi]
    · have hsep : Sep (pt sid (.cells (rowsOf eB l ++ spare)) :: L) st := ⟨a, r, h1, h2, h5, h4⟩
      exact (hsep.set _).head fun g hg => .inr ⟨sid, spare, by simp, hg, h6⟩
set_option maxHeartbeats 2000000 in
theorem spec129 (ok : OkRef02 P F) {st : St} {s t : V} {a b : List Bool} (ha : Rd 1 eB s a st) (hb : Rd 1 eB t b st) (la : a.length ≤ 10000) (lb : b.length ≤ 10000) (h0 : 0 < valB b) (hbig : valB b ≤ 2 ^ 256) :
    ACalls P (F 129) [s, t] st fun v st' => (∃ k w, v = .tup [.sl k (rowsOf eB (bitsN a.length (valB a / valB b))) a.length, w] ∧ (a.length ≠ 0 → k = .some)) ∧ st' = st := by
  refine shows_call ok.mixed ok.h129 (by simp [k129]) ?_
  simp only [k129]
  have hla := ha.len
  have w0 : IntKind.i64.wrap ((a.length : Int) - 1) = (a.length : Int) - 1 := wrap64 (by omega) (by omega)
  simp [hla, mkslS, mkNew, w0]
  refine ⟨by omega, ?_⟩
  intro qid hqid
  obtain ⟨n, hn⟩ : ∃ n, n = a.length := ⟨_, rfl⟩
  obtain ⟨A, hA⟩ : ∃ A, A = valB a := ⟨_, rfl⟩
  obtain ⟨B, hB⟩ : ∃ B, B = valB b := ⟨_, rfl⟩
  rw [← hB] at h0 hbig
  rw [← hn, ← hA, ← hB]
  have hrep : ∀ m, repV [V.bool false] m = rowsOf eB (List.replicate m false) := fun m => by
    induction m with
    | zero => rfl
    | succ m ih => rw [repV, ih, List.replicate_succ, rowsOf_cons]; rfl
  have hA2 : A / 2 ^ n = 0 := by
    rw [hA, hn]; exact Nat.div_eq_of_lt (valB_lt a)
  have S : Sep [RdA (.sl .nil [] 0) [], Sl 1 eB (.hsl qid 0 1 n) (List.replicate n false), Was st] (st.upd qid (.cells (repV [.bool false] n))) := by
    refine Sep.put ?_ (.inl ⟨.nil, rfl⟩)
    rw [hrep]
    refine ((Sep.start st).new hqid (.cells (rowsOf eB (List.replicate n false)))).head fun g hg => .inr ⟨qid, [], by simp, ?_, by simp⟩
    rw [List.append_nil]; exact hg
  generalize st.upd qid _ = st1 at S ⊢
  refine vc_loopJ (fun k env' st' => ∃ (s7 : V) (lf q : List Bool), k ≤ n ∧ env' 8 = .int .i64 ((k : Int) - 1) ∧ env' 7 = s7 ∧ env' 6 = .hsl qid 0 1 n ∧ q.length = n ∧ lf.length ≤ 300 + (n - k) ∧ valB lf = A / 2 ^ k % B ∧ valB q = A / 2 ^ k / B * 2 ^ k ∧
      Sep [RdA s7 lf, Sl 1 eB (.hsl qid 0 1 n) q, Was st] st') n
    ⟨_, [], List.replicate n false, by omega, by simp, rfl, by simp, by simp, by simp, by rw [hA2]; simp [valB], by rw [hA2]; simp [valB_zeros], S⟩ ?_
  clear S
  rintro J hJ k env' st2 hsame ⟨s7, lf, q, hk, h8, h7, h6, hql, hlf, hr, hv, S⟩
  have g0 := hsame.get 0 rfl
  have g1 := hsame.get 1 rfl
  simp at g0 g1
  clear hsame
  cases k with
  | zero =>
    rw [Nat.pow_zero, Nat.div_one] at hr hv
    rw [Nat.mul_one] at hv
    have hqe : q = bitsN n (A / B) := by
      have := bitsN_valB q
      rw [hql, hv] at this
      exact this.symm
    simp at h8
    simp [h8]
    obtain ⟨k1, st3, hf1, S1, hk1⟩ := (Sep.swap S).frzSl eB_len
    obtain ⟨k2, st4, hf2, S2⟩ := S1.frzA
    rw [hql] at hf1
    have hne : ∀ (v : V) (t : Nat), ((env'.upd 15 (.int .i64 (-1))).upd 16 (.bool false)).upd 6 v t = if t = 6 then v else ((env'.upd 15 (.int .i64 (-1))).upd 16 (.bool false)) t := fun _ _ => rfl
    have hk1' : n ≠ 0 → k1 = .some := fun h => hk1 (fun e => h (by rw [← hql, e]; rfl))
    simp [frzP, h6, h7, hf1, hf2, hqe, -ne_eq]
    exact ⟨S2.was' (by simp), by simpa [hn] using hk1'⟩
  | succ i =>
    have h8' : env' 8 = .int .i64 (i : Int) := by rw [h8]; congr 1; omega
    have w1 : IntKind.i64.wrap ((i : Int) - 1) = (i : Int) - 1 := wrap64 (by omega) (by omega)
    have hi : i < a.length := by omega
    have pw : ∀ Q, Q * 2 ^ (i + 1) = 2 * Q * 2 ^ i := fun Q => by rw [Nat.pow_succ, Nat.mul_comm (2 ^ i) 2, ← Nat.mul_assoc, Nat.mul_comm Q 2]
    have hrB : valB lf < B := by rw [hr]; exact Nat.mod_lt _ h0
    have rdl := S.rdA (s := s7) (l := lf) (by simp)
    simp [h8', h7]
    -- the shift, framed
    refine (Sep.call (A := RdA s7 lf) (R := fun v st' => Sep [Sl 1 eB v (shiftB lf 1)] st') S (fun g hg => (spec127 ok hg (by omega) 1 (by omega)).mono fun v s h => Sep.tail (fun r hr => trivial) h)).mono ?_
    intro v st3 S3
    have S4 : Sep [Sl 1 eB v (shiftB lf 1), Sl 1 eB (.hsl qid 0 1 n) q, Was st] st3 := by
      obtain ⟨x, r, e1, e2, e3, e4⟩ := S3
      obtain ⟨y, z, f1, f2, f3, f4⟩ := e3
      exact ⟨y, r, Disj.sub e1 (sub_trans (sub_add y z) f2), fun i o e => e2 i o (by
        simp only [St.add] at e ⊢
        cases hy : y i with
        | some w =>
          rw [hy] at e
          rw [f2 i w (add_some hy)]
          exact e
        | none =>
          rw [hy] at e
          simp only at e
          have : x i = none := (e1 i).resolve_right (by rw [e]; simp)
          rw [this]
          exact e), f3, e4⟩
    have hsh : shiftB lf 1 = false :: lf := by simp [shiftB, shlB]
    rw [hsh] at S4
    have hlen := (S4.rd eB_len).len
    obtain ⟨p, hp1, hp2⟩ := (ha.sub (S4.was' (st0 := st) (by simp))).idx eB_len hi .i64
    obtain ⟨pp, hs1, st5, hs2, S5⟩ := S4.setB (i := 0) (by simp) .i64 a[i]
    have hbit : a[i] = (A / 2 ^ i % 2 == 1) := by
      have := atB_eq a i
      rw [← hA] at this
      rw [← this]; simp [atB, hi]
    obtain ⟨x, hx⟩ : ∃ x, x = a[i] := ⟨_, rfl⟩
    rw [← hx] at hs2 S5 hbit hp2
    have hset : (false :: lf).set 0 x = x :: lf := rfl
    rw [hset] at S5
    simp at hs1
    have hl0 : ((lf.length : Int) + 1 == 0) = false := by simp; omega
    simp [hlen, hl0, h8', g0, g1, hp1, hp2, eB, hs1, hs2]
    have hvx : valB (x :: lf) = 2 * (A / 2 ^ (i + 1) % B) + x.toNat := by rw [valB, hr]; omega
    have hxb : x.toNat ≤ 1 := by cases x <;> simp
    have hAi : A / 2 ^ i = 2 * (A / 2 ^ (i + 1)) + x.toNat := by
      have e : A / 2 ^ (i + 1) = A / 2 ^ i / 2 := by rw [Nat.pow_succ, Nat.div_div_eq_div_mul]
      have : x.toNat = A / 2 ^ i % 2 := by rw [hbit]; exact mod_toNat _
      omega
    obtain ⟨d1, d2⟩ := div_step (X := A / 2 ^ (i + 1)) h0 hxb
    rw [← hAi, ← hvx] at d1 d2
    have rd5 := S5.rd eB_len
    have hsub5 := S5.was' (st0 := st) (by simp)
    refine (spec125 ok rd5 (hb.sub hsub5) (by simp; omega) (by omega)).mono ?_
    rintro w st5 ⟨rfl, rfl⟩
    rw [← hB]
    by_cases hlt : valB (x :: lf) < B
    · have hge : ¬ B ≤ valB (x :: lf) := by omega
      rw [if_neg hge] at d1 d2
      simp [hlt, w1, h8']
      refine Round.mk i _ (by omega) (sub_self _) (hJ _ _ _ ⟨v, x :: lf, q, by omega, by simp, by simp, by simp [h6], hql, by simp; omega, ?_, ?_, S5.head fun g hg => hg.rd eB_len⟩)
      · rw [d2, hvx]; omega
      · rw [hv, d1, pw]; rfl
    · have hge : B ≤ valB (x :: lf) := by omega
      rw [if_pos hge] at d1 d2
      have hqi : i < q.length := by omega
      have hq0 : q[i] = false := by
        have h1 := atB_eq q i
        have h2 : atB q i = q[i] := by simp [atB, hqi]
        have h3 : valB q / 2 ^ i % 2 = 0 := by
          rw [hv, Nat.pow_succ, Nat.mul_comm (2 ^ i) 2, ← Nat.mul_assoc, Nat.mul_div_cancel _ (Nat.two_pow_pos i), Nat.mul_mod_left]
        rw [← h2, h1, h3]; rfl
      obtain ⟨pq, ht1, st6, ht2, S6⟩ := (Sep.swap S5).setB hqi .i64 true
      have hqs := valB_set q hqi hq0
      simp at ht1
      have hql' : (i : Int) < n := by omega
      have rd6 := (Sep.swap S6).rd eB_len
      have hsub6 := S6.was' (st0 := st) (by simp)
      obtain ⟨hlt9, rfl⟩ := ht1
      simp [hlt, h6, h8', g1, hql', ht2]
      refine (spec126 ok rd6 (hb.sub hsub6)).mono ?_
      rintro u st6 ⟨rfl, rfl⟩
      have hlt2 : valB (x :: lf) < 2 * B := by
        have := Nat.mod_lt (A / 2 ^ (i + 1)) h0
        omega
      have hd : valB (bitsN 256 (difN (valB (x :: lf)) (valB b))) = valB (x :: lf) - B := by
        rw [valB_bitsN, difN, ← hB]
        exact dif_exact hge hlt2 hbig
      simp [w1, h8']
      have S7 : Sep [RdA (slB (bitsN 256 (difN (valB (x :: lf)) (valB b)))) (bitsN 256 (difN (valB (x :: lf)) (valB b))), Sl 1 eB (.hsl qid 0 1 n) (q.set i true), Was st] st6 := by
        have : Sep [Sl 1 eB (.hsl qid 0 1 n) (q.set i true), Was st] st6 := Sep.tail (fun r hr => hr.drop) S6
        exact this.put (.inl ⟨.some, rfl⟩)
      refine Round.mk i _ (by omega) (sub_self _) (hJ _ _ _ ⟨_, _, q.set i true, by omega, by simp, rfl, by simp [h6], by simpa using hql, ?_, ?_, ?_, S7⟩)
      · rw [bitsN_len]; omega
      · rw [hd, d2, hvx]
      · rw [hqs, hv, d1, pw, Nat.add_mul, Nat.one_mul]
end
end Go.Ab
set_option linter.unusedSimpArgs false
set_option linter.unusedVariables false
set_option maxRecDepth 10000
namespace Go.Ab
open Go Go.RowKit
section
variable {P : Program} {F : Fn}
inductive Parts (st : St) : List V → List (List UInt8) → Prop
  | nil : Parts st [] []
  | cons {s : V} {l : List UInt8} {ss : List V} {ls : List (List UInt8)} (h : Rd 1 e8 s l st) (t : Parts st ss ls) : Parts st (s :: ss) (l :: ls)
theorem Parts.sub {st st' : St} {ss : List V} {ls : List (List UInt8)} (h : Parts st ss ls) (hs : St.sub st st') : Parts st' ss ls := by
  induction h with
  | nil => exact .nil
  | cons h t ih => exact .cons (h.sub hs) ih
theorem Parts.len {st : St} {ss : List V} {ls : List (List UInt8)} (h : Parts st ss ls) : ss.length = ls.length := by
  induction h with
  | nil => rfl
  | cons h t ih => simp [ih]
theorem Parts.get {st : St} {ss : List V} {ls : List (List UInt8)} (h : Parts st ss ls) {i : Nat} (hi : i < ls.length) : Rd 1 e8 (ss[i]'(by rw [h.len]; exact hi)) ls[i] st := by
  induction h generalizing i with
  | nil => simp at hi
  | cons h t ih =>
    cases i with
    | zero => exact h
    | succ i => exact ih (by simpa using hi)
def PartsA (ss : List V) (ls : List (List UInt8)) : Asn := fun h => Parts h ss ls
theorem Sep.parts {ss : List V} {ls : List (List UInt8)} {L : List Asn} {st : St} (h : Sep (PartsA ss ls :: L) st) : Parts st ss ls := by
  obtain ⟨h', h1, h2⟩ := h.part
  exact h2.sub h1
theorem cells8_len (v : V8) : (cells8 v).length = 8 := rfl
def s1 (s : V) : List V := [s]
theorem zR32_rep : zR32_w80 = (List.replicate 32 (0 : UInt8)).map w8 := rfl
theorem bytesOf_e8 : ∀ l : List UInt8, bytesOf (rowsOf e8 l) = some l
  | [] => rfl
  | b :: l => by
    have ih := bytesOf_e8 l
    simp [rowsOf_cons, e8, bytesOf, ih]
theorem toStr_rd {s : V} {l : List UInt8} {st : St} (h : Rd 1 e8 s l st) (hs : ∀ x, s ≠ .str x) : toStrV st s = some (.str ⟨l.toArray⟩) := by
  have he := h.elems e8_len
  unfold toStrV
  split
  · rename_i x; exact absurd rfl (hs x)
  · rw [he]
    simp [bytesOf_e8]
theorem set4 {α : Type} (p : List α) (z a b c d : α) (n : Nat) : ((((p ++ List.replicate (n + 4) z).set p.length a).set (p.length + 1) b).set (p.length + 2) c).set (p.length + 3) d = p ++ [a, b, c, d] ++ List.replicate n z := by
  have e : List.replicate (n + 4) z = z :: z :: z :: z :: List.replicate n z := rfl
  rw [e, List.set_append_right _ _ (by omega), List.set_append_right _ _ (by omega), List.set_append_right _ _ (by omega), List.set_append_right _ _ (by omega)]
  simp
theorem str_beq (a b : ByteArray) : (a == b) = (a.data == b.data) := rfl
theorem ext_mk (l : List UInt8) (a b : Nat) : ByteArray.extract ⟨l.toArray⟩ a b = ⟨((l.drop a).take (b - a)).toArray⟩ := by
  apply ByteArray.ext
  simp
theorem str_ne (l : List UInt8) : ((⟨l.toArray⟩ : ByteArray) != ⟨⟨[]⟩⟩) = decide (l ≠ []) := by
  unfold bne
  rw [str_beq]
  cases l <;> rfl
def tailB (n : Nat) (i : Nat) : UInt8 := UInt8.ofBitVec (((BitVec.ofNat 64 n * 8) >>> i).setWidth 8)
def tailL : List Nat := [56, 48, 40, 32, 24, 16, 8, 0]
theorem tail_at : ∀ q : Fin 8, tailL.take (q.val + 1) = tailL.take q.val ++ [56 - 8 * q.val] := by decide
theorem spec103 (ok : OkHash P F) (st : St) {ss : List V} {ls : List (List UInt8)} (hp : Parts st ss ls) (k0 : SK) (hl : ls.flatten.length ≤ 100000000) (hls : ls.length ≤ 1000000) : ACalls P (F 103) [.sl k0 ss ss.length] st fun v st' => v = .agg (eId (sha ls.flatten)) ∧ st' = st := by
  refine shows_call ok.mixed ok.h103 (by simp [k103]) ?_
  simp only [k103]
  simp
  intro rid hrid
  have S := Sep.start st
  have S := S.new hrid (.cells zR32_w80)
  generalize st.upd rid _ = st1 at S ⊢
  have S : Sep [Slx 1 e8 (.sl .nil [] 0) (ls.take 0).flatten, pt rid (.cells zR32_w80), Was st] st1 := Sep.slxNil S
  simp
  refine vc_loopJ (fun k env' st' => ∃ i s, i ≤ ls.length ∧ k = ls.length - i ∧ env' 15 = .int .i64 (i : Nat) ∧ env' 3 = s ∧ Sep [Slx 1 e8 s (ls.take i).flatten, pt rid (.cells zR32_w80), Was st] st') ls.length
    ⟨0, _, by omega, by omega, rfl, rfl, S⟩ ?_
  clear S
  rintro J hJ k env' st2 hsame ⟨i, s, hi, rfl, h15, h3, S⟩
  have g2 : env' 2 = .ptr (some (rid, 0)) := hsame.get 2 rfl
  have g13 : env' 13 = .sl k0 ss ss.length := hsame.get 13 rfl
  have g14 : env' 14 = .int .i64 ss.length := hsame.get 14 rfl
  clear hsame
  have hsl := hp.len
  have w2 : IntKind.i64.wrap ((i : Int) + 1) = (i : Int) + 1 := wrap64 (by omega) (by omega)
  by_cases hlt : i < ls.length
  · have pr := (hp.sub (S.was' (by simp))).get hlt
    have hlt' : i < ss.length := by omega
    have hsg : segOf (ss.drop i) 0 1 = some [ss[i]] := by
      unfold segOf
      rw [if_pos (by simp; omega), List.drop_zero, List.drop_eq_getElem_cons hlt']
      rfl
    have hel := pr.elems e8_len
    simp [g2, g13, g14, h15, h3, hlt', hsg, hel]
    have hfl : (ls.take i).flatten.length + ls[i].length ≤ ls.flatten.length := by
      have e : ls.flatten = (ls.take i).flatten ++ (ls[i] ++ (ls.drop (i + 1)).flatten) := by
        rw [← List.flatten_cons, ← List.drop_eq_getElem_cons hlt, ← List.flatten_append, List.take_append_drop]
      rw [e, List.length_append, List.length_append]
      omega
    refine Sep.appx (b := 1) e8_len (by omega) S (m := ls[i]) (by omega) ?_
    intro s' st3 S3
    simp [h15, w2]
    refine Round.mk (ls.length - (i + 1)) _ (show ls.length - (i + 1) < ls.length - i by omega) (sub_self _) (hJ _ _ _ ⟨i + 1, s', by omega, rfl, by simp, by simp, ?_⟩)
    rw [List.take_succ_eq_append_getElem hlt, List.flatten_append]
    simpa using S3
  · have : i = ls.length := by omega
    subst this
    rw [List.take_length] at S
    obtain ⟨l, hll⟩ : ∃ l, l = ls.flatten := ⟨_, rfl⟩
    rw [← hll] at S hl ⊢
    have hlt' : ¬ ((ls.length : Int) < ss.length) := by omega
    have S : Sep [Sl 1 e8 s l, pt rid (.cells zR32_w80), Was st] st2 := S.head fun h hh => hh.sl
    have hsl2 := (Sep.rd e8_len S).len
    simp [g2, g13, g14, h15, h3, hlt', hsl2, fillV, repV, spliceV, elems]
    refine Sep.app1 e8_len (by omega) S (a := 0x80) rfl (by omega) ?_
    intro s1 st3 S
    simp
    obtain ⟨Z, hZ⟩ : ∃ Z, Z = (119 - l.length % 64) % 64 := ⟨_, rfl⟩
    clear hJ J
    refine vc_loopJ (fun k env' st' => ∃ z s, z ≤ Z ∧ k = Z - z ∧ env' 3 = s ∧ Sep [Sl 1 e8 s (l ++ 0x80 :: List.replicate z 0), pt rid (.cells zR32_w80), Was st] st') Z
      ⟨0, _, by omega, by omega, rfl, S⟩ ?_
    clear S
    rintro J hJ k env2 st4 hsame ⟨z, s2, hz, rfl, h3, S⟩
    have q2 : env2 2 = .ptr (some (rid, 0)) := (hsame.get 2 rfl).trans g2
    have q6 : env2 6 = .int .i64 l.length := hsame.get 6 rfl
    clear hsame
    have hln := (Sep.rd e8_len S).len
    have hle : (l ++ 0x80 :: List.replicate z (0 : UInt8)).length = l.length + 1 + z := by simp; omega
    rw [hle] at hln
    have htm : Int.tmod ((l.length + 1 + z : Nat) : Int) 64 = (((l.length + 1 + z) % 64 : Nat) : Int) := rfl
    obtain ⟨m, hm⟩ : ∃ m, m = l.length + 1 + z := ⟨_, rfl⟩
    rw [← hm] at hln htm
    by_cases h56 : m % 64 = 56
    · have : z = Z := by omega
      subst this
      have h56' : ((m : Int).tmod 64 != 56) = false := by rw [htm, h56]; rfl
      simp [h3, hln, h56']
      obtain ⟨pre, hpre⟩ : ∃ pre, pre = l ++ 0x80 :: List.replicate z (0 : UInt8) := ⟨_, rfl⟩
      rw [← hpre] at S hle
      clear hJ J
      refine vc_loopJ (fun k env' st' => ∃ q s, q ≤ 8 ∧ k = 8 - q ∧ env' 7 = .int .i64 (56 - 8 * (q : Int)) ∧ env' 3 = s ∧ Sep [Sl 1 e8 s (pre ++ (tailL.take q).map (tailB l.length)), pt rid (.cells zR32_w80), Was st] st') 8
        ⟨0, _, by omega, by omega, rfl, h3, by simpa using S⟩ ?_
      clear S
      rintro J hJ k env3 st5 hsame ⟨q, s3, hq, rfl, h7, h3, S⟩
      have r2 : env3 2 = .ptr (some (rid, 0)) := (hsame.get 2 rfl).trans q2
      have r6 : env3 6 = .int .i64 l.length := (hsame.get 6 rfl).trans q6
      clear hsame
      have w8' : IntKind.i64.wrap (56 - 8 * (q : Int) - 8) = 56 - 8 * ((q + 1 : Nat) : Int) := by rw [wrap64 (by omega) (by omega)]; omega
      by_cases hlt8 : q < 8
      · have hge : 8 * (q : Int) ≤ 56 := by omega
        have hsh := bin64_shr (BitVec.ofNat 64 l.length * 8#64) .i64 (56 - 8 * q)
        rw [show ((56 - 8 * q : Nat) : Int) = 56 - 8 * (q : Int) by omega] at hsh
        have hlen : (pre ++ (tailL.take q).map (tailB l.length)).length ≤ 100000200 := by
          rw [List.length_append, hle, List.length_map, List.length_take]
          omega
        simp [r2, r6, h7, h3, hge, hsh, fillV, repV, spliceV, elems]
        refine Sep.app1 (b := 1) e8_len (by omega) S (a := tailB l.length (56 - 8 * q)) ?_ (by omega) ?_
        · rfl
        · intro s4 st6 S
          simp [h7, w8']
          refine Round.mk (8 - (q + 1)) _ (show 8 - (q + 1) < 8 - q by omega) (sub_self _) (hJ _ _ _ ⟨q + 1, s4, by omega, rfl, by simp [w8'], by simp, ?_⟩)
          rw [tail_at ⟨q, hlt8⟩, List.map_append, ← List.append_assoc]
          exact S
      · have : q = 8 := by omega
        subst this
        have hpad : pre ++ (tailL.take 8).map (tailB l.length) = padM l := by
          rw [hpre, padM, ← hZ]
          simp only [List.append_assoc, List.cons_append]
          rfl
        rw [hpad] at S
        have rd := Sep.rd e8_len S
        have hns : ∀ x, s3 ≠ .str x := by
          rintro x rfl
          rcases rd with ⟨k, h⟩ | ⟨_, _, h, _⟩ <;> cases h
        have hts := toStr_rd rd hns
        simp [r2, r6, h7, h3, fillV, spliceV]
        intro vid hvid
        have S := S.new hvid (.cells (cells8 iv))
        simp [storeS, spliceV]
        have hiv : [w32 1779033703#32, w32 3144134277#32, w32 1013904242#32, w32 2773480762#32, w32 1359893119#32, w32 2600822924#32, w32 528734635#32, w32 1541459225#32] = cells8 iv := rfl
        rw [hiv]
        generalize st5.upd vid (.cells (cells8 iv)) = st6 at S ⊢
        have hts := toStr_rd (Sep.rd e8_len S.swap) hns
        have S : Sep [pt vid (.cells (cells8 iv)), pt rid (.cells zR32_w80), Was st] st6 := Sep.tail (fun r hr => hr.drop) S
        simp [h3, hts]
        have hpl : (padM l).length % 64 = 0 := by
          simp [padM]
          omega
        refine vc_loopJ (fun k env' st' => ∃ hc rest, k = rest.length ∧ env' 9 = .str ⟨rest.toArray⟩ ∧ rest.length % 64 = 0 ∧ blocksM (rest.length / 64) hc rest = blocksM ((padM l).length / 64) iv (padM l) ∧ Sep [pt vid (.cells (cells8 hc)), pt rid (.cells zR32_w80), Was st] st') (padM l).length
          ⟨_, _, rfl, rfl, hpl, rfl, S⟩ ?_
        clear S
        rintro J5 hJ5 k env5 st7 hsame ⟨hc, rest, rfl, h9, hr64, hbl, S⟩
        have t2 : env5 2 = .ptr (some (rid, 0)) := (hsame.get 2 rfl).trans r2
        have t8 : env5 8 = .ptr (some (vid, 0)) := hsame.get 8 rfl
        clear hsame
        have hne := str_ne rest
        by_cases hnil : rest = []
        · subst hnil
          have hfin : hc = blocksM ((padM l).length / 64) iv (padM l) := hbl
          have ov := S.get
          have hcc : cells8 hc = [w32 hc.a, w32 hc.b, w32 hc.c, w32 hc.d, w32 hc.e, w32 hc.f, w32 hc.g, w32 hc.h] := rfl
          simp [t2, t8, h9, hne]
          intro oid hoid
          have S := S.new hoid (.cells zR32_w80)
          generalize st7.upd oid (.cells zR32_w80) = st8 at S ⊢
          have ov := S.swap.get
          have sg8 : segOf (cells8 hc) 0 8 = some (cells8 hc) := rfl
          simp [t8, St.seg, ov, sg8]
          rw [zR32_rep] at S
          refine vc_loopJ (fun k env' st' => ∃ i, i ≤ 8 ∧ k = 8 - i ∧ env' 60 = .int .i64 (i : Nat) ∧ Sep [pt oid (.cells (((hc.list.take i).flatMap out4 ++ List.replicate (4 * (8 - i)) (0 : UInt8)).map w8)), pt vid (.cells (cells8 hc)), pt rid (.cells zR32_w80), Was st] st') 8
            ⟨0, by omega, by omega, rfl, S⟩ ?_
          clear S
          rintro J hJ k env6 st9 hsame ⟨i, hi, rfl, h60, S⟩
          have u2 : env6 2 = .ptr (some (rid, 0)) := (hsame.get 2 rfl).trans t2
          have u10 : env6 10 = .ptr (some (oid, 0)) := hsame.get 10 rfl
          have u59 : env6 59 = .agg (cells8 hc) := hsame.get 59 rfl
          clear hsame
          by_cases hlt : i < 8
          · have hlt2 : i < hc.list.length := hlt
            obtain ⟨x, hx⟩ : ∃ x, x = hc.list[i] := ⟨_, rfl⟩
            have hix : idxV 8 false 1 (.agg (cells8 hc)) (.int .i64 (i : Int)) = some (w32 x) := by
              rw [hx]
              have : i = 0 ∨ i = 1 ∨ i = 2 ∨ i = 3 ∨ i = 4 ∨ i = 5 ∨ i = 6 ∨ i = 7 := by omega
              rcases this with rfl | rfl | rfl | rfl | rfl | rfl | rfl | rfl <;> rfl
            obtain ⟨p, hp⟩ : ∃ p, p = (hc.list.take i).flatMap out4 := ⟨_, rfl⟩
            have hpl : p.length = 4 * i := by
              rw [hp]
              have : i = 0 ∨ i = 1 ∨ i = 2 ∨ i = 3 ∨ i = 4 ∨ i = 5 ∨ i = 6 ∨ i = 7 := by omega
              rcases this with rfl | rfl | rfl | rfl | rfl | rfl | rfl | rfl <;> rfl
            have hpn : (hc.list.take (i + 1)).flatMap out4 = p ++ out4 x := by
              rw [List.take_succ_eq_append_getElem hlt2, List.flatMap_append, ← hp, ← hx]
              simp
            obtain ⟨ys, hys⟩ : ∃ ys, ys = p ++ List.replicate (4 * (8 - i)) (0 : UInt8) := ⟨_, rfl⟩
            have hyl : ys.length = 32 := by rw [hys]; simp; omega
            rw [← hp, ← hys] at S
            have hset := set4 p (0 : UInt8) (UInt8.ofBitVec ((x >>> 24).setWidth 8)) (UInt8.ofBitVec ((x >>> 16).setWidth 8)) (UInt8.ofBitVec ((x >>> 8).setWidth 8)) (UInt8.ofBitVec (x.setWidth 8)) (4 * (8 - (i + 1)))
            rw [show 4 * (8 - (i + 1)) + 4 = 4 * (8 - i) by omega, ← hys, hpl] at hset
            have w1 : IntKind.i64.wrap ((i : Int) + 1) = (i : Int) + 1 := wrap64 (by omega) (by omega)
            have b0 : IntKind.i64.wrap (4 * (i : Int)) = 4 * (i : Int) := wrap64 (by omega) (by omega)
            have b1 : IntKind.i64.wrap (4 * (i : Int) + 1) = 4 * (i : Int) + 1 := wrap64 (by omega) (by omega)
            have b2 : IntKind.i64.wrap (4 * (i : Int) + 2) = 4 * (i : Int) + 2 := wrap64 (by omega) (by omega)
            have b3 : IntKind.i64.wrap (4 * (i : Int) + 3) = 4 * (i : Int) + 3 := wrap64 (by omega) (by omega)
            have a0 := idxArr_ptr 32 oid (z := 4 * (i : Int)) (j := 4 * i) (by omega) (by omega)
            have a1 := idxArr_ptr 32 oid (z := 4 * (i : Int) + 1) (j := 4 * i + 1) (by omega) (by omega)
            have a2 := idxArr_ptr 32 oid (z := 4 * (i : Int) + 2) (j := 4 * i + 2) (by omega) (by omega)
            have a3 := idxArr_ptr 32 oid (z := 4 * (i : Int) + 3) (j := 4 * i + 3) (by omega) (by omega)
            have hlt' : (i : Int) < 8 := by omega
            obtain ⟨c0, hc0⟩ : ∃ c, c = UInt8.ofBitVec ((x >>> 24).setWidth 8) := ⟨_, rfl⟩
            obtain ⟨c1, hc1⟩ : ∃ c, c = UInt8.ofBitVec ((x >>> 16).setWidth 8) := ⟨_, rfl⟩
            obtain ⟨c2, hc2⟩ : ∃ c, c = UInt8.ofBitVec ((x >>> 8).setWidth 8) := ⟨_, rfl⟩
            obtain ⟨c3, hc3⟩ : ∃ c, c = UInt8.ofBitVec (x.setWidth 8) := ⟨_, rfl⟩
            have ho : out4 x = [c0, c1, c2, c3] := by rw [hc0, hc1, hc2, hc3]; rfl
            rw [← hc0, ← hc1, ← hc2, ← hc3] at hset
            simp [u2, u10, u59, h60, hlt', hix, b0, b1, b2, b3, a0, a1, a2, a3, ← hc0, ← hc1, ← hc2, ← hc3]
            have k0 := arr_store (f := w8) S.get (i := 4 * i) (by omega) (x := c0) (v := w8 c0) rfl
            have S := S.set (.cells ((ys.set (4 * i) c0).map w8))
            rw [k0]
            have k1 := arr_store (f := w8) S.get (i := 4 * i + 1) (by simp; omega) (x := c1) (v := w8 c1) rfl
            have S := S.set (.cells (((ys.set (4 * i) c0).set (4 * i + 1) c1).map w8))
            generalize st9.upd oid (.cells ((ys.set (4 * i) c0).map w8)) = st10 at k1 S ⊢
            simp [-List.map_set, u10, a1, k1]
            have k2 := arr_store (f := w8) S.get (i := 4 * i + 2) (by simp; omega) (x := c2) (v := w8 c2) rfl
            have S := S.set (.cells ((((ys.set (4 * i) c0).set (4 * i + 1) c1).set (4 * i + 2) c2).map w8))
            generalize st10.upd oid (.cells (((ys.set (4 * i) c0).set (4 * i + 1) c1).map w8)) = st11 at k2 S ⊢
            simp [-List.map_set, u10, a2, k2]
            have k3 := arr_store (f := w8) S.get (i := 4 * i + 3) (by simp; omega) (x := c3) (v := w8 c3) rfl
            have S := S.set (.cells (((((ys.set (4 * i) c0).set (4 * i + 1) c1).set (4 * i + 2) c2).set (4 * i + 3) c3).map w8))
            generalize st11.upd oid (.cells ((((ys.set (4 * i) c0).set (4 * i + 1) c1).set (4 * i + 2) c2).map w8)) = st12 at k3 S ⊢
            simp [-List.map_set, u10, a3, k3, h60, w1]
            refine Round.mk (8 - (i + 1)) _ (show 8 - (i + 1) < 8 - i by omega) (sub_self _) (hJ _ _ _ ⟨i + 1, by omega, rfl, by simp, ?_⟩)
            rw [hpn, ho, ← hset]
            exact S
          · have : i = 8 := by omega
            subst this
            have oo := S.get
            have e : ((hc.list.take 8).flatMap out4 ++ List.replicate (4 * (8 - 8)) (0 : UInt8)).map w8 = eId (sha l) := by
              have : eId (sha l) = (outV (blocksM ((padM l).length / 64) iv (padM l))).map w8 := rfl
              rw [this, ← hfin]
              rfl
            rw [e] at oo
            have orr := S.mem (i := rid) (o := .cells zR32_w80) (by simp)
            have hst : storeS st9 32 (.ptr (some (rid, 0))) (.agg (eId (sha l))) = some (st9.upd rid (.cells (eId (sha l)))) := by
              rw [store_pt (st := st9) (id := rid) (o := 0) (sz := 32) (v := .agg (eId (sha l))) (vs := eId (sha l)) orr rfl (eId_len _) (by rw [zR32_w80_len]; omega)]
              rfl
            have sgi : segOf (eId (sha l)) 0 32 = some (eId (sha l)) := rfl
            simp [u2, u10, h60, St.seg, oo, sgi, hst]
            have T := S.setAt (.cells (eId (sha l))) 2 rfl
            exact T.was' (by simp)
        · have h64 : 64 ≤ rest.length := by
            have : 0 < rest.length := List.length_pos_iff.2 hnil
            omega
          have ov := S.get
          have hcc : cells8 hc = [w32 hc.a, w32 hc.b, w32 hc.c, w32 hc.d, w32 hc.e, w32 hc.f, w32 hc.g, w32 hc.h] := rfl
          have sg8 : segOf (cells8 hc) 0 8 = some (cells8 hc) := rfl
          have hsz : ByteArray.size ⟨rest.toArray⟩ = rest.length := rfl
          have n64 : natOf (.int .i64 64) = some 64 := rfl
          simp [t2, t8, h9, hne, hnil, slStrV, bounds, hsz, h64, St.seg, ov, sg8, ext_mk, opV, n64]
          refine (Sep.call (S.put (A := fun _ => True) trivial) (fun h _ => spec101 ok h hc ⟨(rest.take 64).toArray⟩ (by rw [show strB ⟨(rest.take 64).toArray⟩ = rest.take 64 from rfl]; simp; omega))).mono ?_
          rintro v st8 S8
          obtain ⟨_, _, rfl⟩ := S8.part
          have S := S8.drop
          rw [show strB ⟨(rest.take 64).toArray⟩ = rest.take 64 from rfl] at *
          have ov := S.get
          have hst : storeS st8 8 (.ptr (some (vid, 0))) (.agg (cells8 (blockM hc (rest.take 64)))) = some (st8.upd vid (.cells (cells8 (blockM hc (rest.take 64))))) := by
            rw [store_pt (st := st8) (id := vid) (o := 0) (sz := 8) (v := .agg (cells8 (blockM hc (rest.take 64)))) (vs := cells8 (blockM hc (rest.take 64))) ov rfl rfl (by rw [cells8_len]; omega)]
            rfl
          have htk : (rest.drop 64).take (rest.length - 64) = rest.drop 64 := List.take_of_length_le (by simp)
          simp [t8, h9, hst, slStrV, bounds, hsz, h64, ext_mk, opV, n64, htk]
          refine Round.mk (rest.drop 64).length _ (by simp; omega) (sub_self _) (hJ5 _ _ _ ⟨blockM hc (rest.take 64), rest.drop 64, rfl, by simp, by simp; omega, ?_, S.set _⟩)
          rw [← hbl, show rest.length / 64 = (rest.drop 64).length / 64 + 1 by simp; omega]
          rfl
    · have h56' : ((m : Int).tmod 64 != 56) = true := by
        rw [htm]
        simp; omega
      simp [h3, hln, h56', fillV, repV, spliceV, elems]
      refine Sep.app1 e8_len (by omega) S (a := 0) rfl (by rw [hle]; omega) ?_
      intro s3 st5 S
      simp
      refine Round.mk (Z - (z + 1)) _ (show Z - (z + 1) < Z - z by omega) (sub_self _) (hJ _ _ _ ⟨z + 1, s3, by omega, rfl, by simp, ?_⟩)
      rw [List.replicate_succ']
      simpa using S
end
end Go.Ab
set_option linter.unusedSimpArgs false
set_option linter.unusedVariables false
set_option maxRecDepth 10000
namespace Go.Ab
open Go Go.RowKit
section
variable {P : Program} {F : Fn}
theorem rows_e8 : ∀ l : List UInt8, rowsOf e8 l = l.map w8
  | [] => rfl
  | b :: l => by rw [rowsOf_cons, rows_e8 l]; rfl
theorem eId_rows (x : Id) : eId x = rowsOf e8 x.toList := by rw [rows_e8]; rfl
theorem sha_list (l : List UInt8) : (sha l).toList = shaL l := rfl
theorem store_z32 {st : St} {i : Nat} (h : st i = some (.cells zR32_w80)) (x : Id) : storeS st 32 (.ptr (some (i, 0))) (.agg (eId x)) = some (st.upd i (.cells (eId x))) := by
  rw [store_pt h (vs := eId x) rfl (eId_len x) (by rw [zR32_w80_len]; omega)]
  congr 3
  simp [spliceV, eId_len]
theorem segId0 (x : Id) : segOf (eId x) 0 32 = some (eId x) := by
  rw [segOf, if_pos (by rw [eId_len]; omega), List.drop_zero, List.take_of_length_le (by rw [eId_len]; omega)]
theorem spec104 (ok : OkHash P F) (st : St) {ss : List V} {ls : List (List UInt8)} (hp : Parts st ss ls) (k0 : SK) (hl : ls.flatten.length ≤ 100000000) (hls : ls.length ≤ 1000000) : ACalls P (F 104) [.sl k0 ss ss.length] st fun v st' => v = .agg (eId (sha2 ls.flatten)) ∧ st' = st := by
  refine shows_call ok.mixed ok.h104 (by simp [k104]) ?_
  simp only [k104]
  simp
  intro rid hrid
  have S := (Sep.start st).new hrid (.cells zR32_w80)
  generalize st.upd rid _ = st1 at S ⊢
  have hp1 : Parts st1 ss ls := hp.sub (S.was' (by simp))
  simp
  refine (spec103 ok st1 hp1 k0 hl hls).mono ?_
  rintro v st1 ⟨rfl, rfl⟩
  simp
  intro iid hiid
  have S := S.new hiid (.cells zR32_w80)
  obtain ⟨x, hx⟩ : ∃ x, x = sha ls.flatten := ⟨_, rfl⟩
  rw [← hx]
  have S1 := S.set (.cells (eId x))
  have hst := store_z32 S.get x
  generalize st1.upd iid (.cells zR32_w80) = st2 at S S1 hst ⊢
  simp [hst]
  generalize st2.upd iid (.cells (eId x)) = st3 at S1 ⊢
  have o := S1.get
  have S2 := S1.set (.ro (eId x))
  simp [frzP, frzV, frzOb, o]
  generalize st3.upd iid (.ro (eId x)) = st4 at S2 ⊢
  have hseg := segId0 x
  simp [slArrV, bounds, hseg, fillV, spliceV, repV, eId_len, opV]
  have htk : List.take 32 (eId x) = rowsOf e8 x.toList := by
    rw [← eId_rows, List.take_of_length_le (by rw [eId_len]; omega)]
  have hp2 : Parts st4 [.sl .full (List.take 32 (eId x)) 32] [x.toList] := by
    refine .cons (.inl ⟨.full, ?_⟩) .nil
    rw [htk]
    simp
  have hc := spec103 ok st4 hp2 .full (by simp) (by simp)
  refine hc.mono ?_
  rintro v st4 ⟨rfl, rfl⟩
  have hr : st4 rid = some (.cells zR32_w80) := S2.mem (by simp)
  have hst := store_z32 hr (sha x.toList)
  have T := S2.setAt (.cells (eId (sha x.toList))) 1 rfl
  have hsg := segId0 (sha x.toList)
  simp [hst, St.seg, hsg]
  refine ⟨T.was' (by simp), ?_⟩
  rw [hx, sha2, sha_list]
end
end Go.Ab
set_option linter.unusedVariables false
namespace Go.Ab
open Go
def k135 (F : Fn) : PF := PF.mk 47 1 [(PR.cell 2 true 4), (.t 3)] (.seq (.ops [(PO.mk (some 2) (.alloc [(w64 0), (w64 0), (w64 0), (w64 0)]) none), (PO.mk (some 3) (.mv (.k (.bool false))) none)]) (.seq (.ops [(PO.mk (some 7) (.mv (.t 0)) none), (PO.mk (some 8) (.bin .shr (.t 7) (.k (w64 24))) none), (PO.mk (some 9) (.conv .i64 (.t 8)) none), (PO.mk (some 10) (.mv (.t 0)) none), (PO.mk (some 11) (.bin .and (.t 10) (.k (w32 8388607))) none), (PO.mk (some 12) (.conv .u64 (.t 11)) none), (PO.mk (some 4) (.mv (.t 9)) none), (PO.mk (some 5) (.mv (.t 12)) none)]) (.seq (.seq (.ops [(PO.mk (some 13) (.mv (.t 5)) none), (PO.mk (some 14) (.bin .eql (.t 13) (.k (w64 0))) none), (PO.mk (some 15) (.mv (.t 14)) none), (PO.mk (some 16) (.mv (.t 0)) (some (15, false))), (PO.mk (some 17) (.bin .and (.t 16) (.k (w32 8388608))) (some (15, false))), (PO.mk (some 18) (.bin .neq (.t 17) (.k (w32 0))) (some (15, false))), (PO.mk (some 19) (.pick (.t 15) (.k (.bool true)) (.t 18)) none)]) (.cond (.t 19) (.seq (.ops [(PO.mk (some 20) (.build [(w64 0), (w64 0), (w64 0), (w64 0)] []) none), (PO.mk none (.store 4 (.t 2) (.t 20)) none), (PO.mk (some 3) (.mv (.k (.bool false))) none)]) .ret) .skip)) (.seq (.ops [(PO.mk (some 21) (.mv (.t 5)) none), (PO.mk (some 22) (.call (F 105) [(.t 21)]) none), (PO.mk (some 6) (.alloc [(w64 0), (w64 0), (w64 0), (w64 0)]) none), (PO.mk none (.store 4 (.t 6) (.t 22)) none)]) (.seq (.seq (.ops [(PO.mk (some 23) (.mv (.t 4)) none), (PO.mk (some 24) (.bin .leq (.t 23) (.k (.int .i64 3))) none)]) (.cond (.t 24) (.seq (.ops [(PO.mk (some 25) (.load true 4 (.t 6)) none), (PO.mk (some 26) (.mv (.t 4)) none), (PO.mk (some 27) (.bin .sub (.k (.int .i64 3)) (.t 26)) none), (PO.mk (some 28) (.bin .mul (.k (.int .i64 8)) (.t 27)) none), (PO.mk (some 29) (.call (F 113) [(.t 25), (.t 28)]) none), (PO.mk none (.store 4 (.t 6) (.t 29)) none)]) (.seq (.draw [(.s, (PO.mk (some 30) (.load true 4 (.t 6)) none)), (.s, (PO.mk (some 31) (.load true 4 (.t 6)) none)), (.s, (PO.mk (some 32) (.call (F 107) [(.t 31)]) none)), (.e, (PO.mk (some 33) (.not (.t 32)) none)), (.x, (PO.mk none (.store 4 (.t 2) (.t 30)) none)), (.e, (PO.mk (some 3) (.mv (.t 33)) none))]) .ret)) .skip)) (.seq (.seq (.ops [(PO.mk (some 34) (.load true 4 (.t 6)) none), (PO.mk (some 35) (.call (F 114) [(.t 34)]) none), (PO.mk (some 36) (.mv (.t 4)) none), (PO.mk (some 37) (.bin .sub (.t 36) (.k (.int .i64 3))) none), (PO.mk (some 38) (.bin .mul (.k (.int .i64 8)) (.t 37)) none), (PO.mk (some 39) (.bin .add (.t 35) (.t 38)) none), (PO.mk (some 40) (.bin .gtr (.t 39) (.k (.int .i64 256))) none)]) (.cond (.t 40) (.seq (.ops [(PO.mk (some 41) (.build [(w64 0), (w64 0), (w64 0), (w64 0)] []) none), (PO.mk none (.store 4 (.t 2) (.t 41)) none), (PO.mk (some 3) (.mv (.k (.bool false))) none)]) .ret) .skip)) (.seq (.ops [(PO.mk (some 42) (.load true 4 (.t 6)) none), (PO.mk (some 43) (.mv (.t 4)) none), (PO.mk (some 44) (.bin .sub (.t 43) (.k (.int .i64 3))) none), (PO.mk (some 45) (.bin .mul (.k (.int .i64 8)) (.t 44)) none), (PO.mk (some 46) (.call (F 112) [(.t 42), (.t 45)]) none), (PO.mk none (.store 4 (.t 2) (.t 46)) none), (PO.mk (some 3) (.mv (.k (.bool true))) none)]) .ret)))))))
def k136 (F : Fn) : PF := PF.mk 37 1 [(.t 2)] (.seq (.ops [(PO.mk (some 1) (.box (.t 0)) none), (PO.mk (some 2) (.mv (.k (w32 0))) none)]) (.seq (.ops [(PO.mk (some 5) (.load true 4 (.t 1)) none), (PO.mk (some 6) (.call (F 114) [(.t 5)]) none), (PO.mk (some 7) (.bin .add (.t 6) (.k (.int .i64 7))) none), (PO.mk (some 8) (.bin .quo (.t 7) (.k (.int .i64 8))) none), (PO.mk (some 3) (.mv (.t 8)) none)]) (.seq (.ops [(PO.mk (some 4) (.mv (.k (w64 0))) none)]) (.seq (.seq (.ops [(PO.mk (some 9) (.mv (.t 3)) none), (PO.mk (some 10) (.bin .leq (.t 9) (.k (.int .i64 3))) none)]) (.cond (.t 10) (.ops [(PO.mk (some 11) (.idxArr 4 1 (.t 1) (.k (.int .i64 0))) none), (PO.mk (some 12) (.load false 1 (.t 11)) none), (PO.mk (some 13) (.mv (.t 3)) none), (PO.mk (some 14) (.bin .sub (.k (.int .i64 3)) (.t 13)) none), (PO.mk (some 15) (.bin .mul (.k (.int .i64 8)) (.t 14)) none), (PO.mk (some 16) (.conv .u64 (.t 15)) none), (PO.mk (some 17) (.bin .shl (.t 12) (.t 16)) none), (PO.mk (some 4) (.mv (.t 17)) none)]) (.ops [(PO.mk (some 18) (.load true 4 (.t 1)) none), (PO.mk (some 19) (.mv (.t 3)) none), (PO.mk (some 20) (.bin .sub (.t 19) (.k (.int .i64 3))) none), (PO.mk (some 21) (.bin .mul (.k (.int .i64 8)) (.t 20)) none), (PO.mk (some 22) (.call (F 113) [(.t 18), (.t 21)]) none), (PO.mk (some 23) (.idx 4 false 1 (.t 22) (.k (.int .i64 0))) none), (PO.mk (some 4) (.mv (.t 23)) none)]))) (.seq (.seq (.ops [(PO.mk (some 24) (.mv (.t 4)) none), (PO.mk (some 25) (.bin .and (.t 24) (.k (w64 8388608))) none), (PO.mk (some 26) (.bin .neq (.t 25) (.k (w64 0))) none)]) (.cond (.t 26) (.seq (.ops [(PO.mk (some 27) (.mv (.t 4)) none), (PO.mk (some 28) (.bin .shr (.t 27) (.k (w64 8))) none), (PO.mk (some 4) (.mv (.t 28)) none)]) (.ops [(PO.mk (some 29) (.mv (.t 3)) none), (PO.mk (some 30) (.bin .add (.t 29) (.k (.int .i64 1))) none), (PO.mk (some 3) (.mv (.t 30)) none)])) .skip)) (.seq (.ops [(PO.mk (some 31) (.mv (.t 3)) none), (PO.mk (some 32) (.conv .u32 (.t 31)) none), (PO.mk (some 33) (.bin .shl (.t 32) (.k (w64 24))) none), (PO.mk (some 34) (.mv (.t 4)) none), (PO.mk (some 35) (.conv .u32 (.t 34)) none), (PO.mk (some 36) (.bin .or (.t 33) (.t 35)) none), (PO.mk (some 2) (.mv (.t 36)) none)]) .ret))))))
def k137 (F : Fn) : PF := PF.mk 33 1 [(PR.cell 2 true 4)] (.seq (.ops [(PO.mk (some 1) (.box (.t 0)) none), (PO.mk (some 2) (.alloc [(w64 0), (w64 0), (w64 0), (w64 0)]) none)]) (.seq (.draw [(.s, (PO.mk (some 9) (.load true 4 (.t 1)) none)), (.s, (PO.mk (some 10) (.call (F 105) [(.k (w64 1))]) none)), (.e, (PO.mk (some 11) (.bsl false 4 2 [(w64 0), (w64 0), (w64 0), (w64 0)] [(0, (4, (.t 9))), (4, (4, (.t 10)))]) none)), (.s, (PO.mk (some 12) (.call (F 108) [(.t 11)]) none)), (.e, (PO.mk (some 8) (.mv (.t 12)) none)), (.e, (PO.mk (some 13) (.ext 0 (.t 8)) none)), (.e, (PO.mk (some 14) (.ext 1 (.t 8)) none)), (.a, (PO.mk (some 3) (.alloc [(w64 0), (w64 0), (w64 0), (w64 0)]) none)), (.x, (PO.mk none (.store 4 (.t 3) (.t 13)) none)), (.e, (PO.mk (some 4) (.mv (.t 14)) none))]) (.seq (.seq (.ops [(PO.mk (some 15) (.mv (.t 4)) none)]) (.cond (.t 15) (.seq (.ops [(PO.mk (some 16) (.call (F 105) [(.k (w64 1))]) none), (PO.mk none (.store 4 (.t 2) (.t 16)) none)]) .ret) .skip)) (.seq (.draw [(.s, (PO.mk (some 18) (.load true 4 (.t 1)) none)), (.s, (PO.mk (some 19) (.call (F 111) [(.t 18)]) none)), (.s, (PO.mk (some 20) (.load true 4 (.t 3)) none)), (.s, (PO.mk (some 21) (.call (F 116) [(.t 19), (.t 20)]) none)), (.e, (PO.mk (some 17) (.mv (.t 21)) none)), (.e, (PO.mk (some 22) (.ext 0 (.t 17)) none)), (.e, (PO.mk (some 23) (.ext 1 (.t 17)) none)), (.e, (PO.mk (some 24) (.ext 2 (.t 17)) none)), (.a, (PO.mk (some 5) (.alloc [(w64 0), (w64 0), (w64 0), (w64 0)]) none)), (.a, (PO.mk (some 6) (.alloc [(w64 0), (w64 0), (w64 0), (w64 0)]) none)), (.x, (PO.mk none (.store 4 (.t 5) (.t 22)) none)), (.x, (PO.mk none (.store 4 (.t 6) (.t 23)) none)), (.e, (PO.mk (some 7) (.mv (.t 24)) none))]) (.seq (.draw [(.s, (PO.mk (some 26) (.load true 4 (.t 5)) none)), (.s, (PO.mk (some 27) (.call (F 105) [(.k (w64 1))]) none)), (.e, (PO.mk (some 28) (.bsl false 4 2 [(w64 0), (w64 0), (w64 0), (w64 0)] [(0, (4, (.t 26))), (4, (4, (.t 27)))]) none)), (.s, (PO.mk (some 29) (.call (F 108) [(.t 28)]) none)), (.e, (PO.mk (some 25) (.mv (.t 29)) none)), (.e, (PO.mk (some 30) (.ext 0 (.t 25)) none)), (.e, (PO.mk (some 31) (.ext 1 (.t 25)) none)), (.x, (PO.mk none (.store 4 (.t 5) (.t 30)) none))]) (.seq (.ops [(PO.mk (some 32) (.load true 4 (.t 5)) none), (PO.mk none (.store 4 (.t 2) (.t 32)) none)]) .ret))))))
def k138 (F : Fn) : PF := PF.mk 80 4 [(.t 8), (.t 9)] (.seq (.ops [(PO.mk (some 7) (.box (.t 3)) none), (PO.mk (some 8) (.mv (.k (w32 0))) none), (PO.mk (some 9) (.mv (.k (.bool false))) none)]) (.seq (.ops [(PO.mk (some 15) (.mv (.t 0)) none), (PO.mk (some 16) (.call (F 135) [(.t 15)]) none), (PO.mk (some 14) (.mv (.t 16)) none), (PO.mk (some 17) (.ext 0 (.t 14)) none), (PO.mk (some 18) (.ext 1 (.t 14)) none), (PO.mk (some 10) (.alloc [(w64 0), (w64 0), (w64 0), (w64 0)]) none), (PO.mk none (.store 4 (.t 10) (.t 17)) none), (PO.mk (some 11) (.mv (.t 18)) none)]) (.seq (.seq (.ops [(PO.mk (some 19) (.mv (.t 11)) none), (PO.mk (some 20) (.not (.t 19)) none), (PO.mk (some 21) (.mv (.t 20)) none), (PO.mk (some 22) (.mv (.t 2)) (some (21, false))), (PO.mk (some 23) (.bin .lss (.t 22) (.k (.int .i64 1))) (some (21, false))), (PO.mk (some 24) (.pick (.t 21) (.k (.bool true)) (.t 23)) none), (PO.mk (some 25) (.mv (.t 24)) none), (PO.mk (some 26) (.mv (.t 2)) (some (25, false))), (PO.mk (some 27) (.bin .gtr (.t 26) (.k (.int .i64 1099511627776))) (some (25, false))), (PO.mk (some 28) (.pick (.t 25) (.k (.bool true)) (.t 27)) none)]) (.cond (.t 28) (.seq (.ops [(PO.mk (some 8) (.mv (.k (w32 0))) none), (PO.mk (some 9) (.mv (.k (.bool false))) none)]) .ret) .skip)) (.seq (.ops [(PO.mk (some 29) (.mv (.t 2)) none), (PO.mk (some 30) (.bin .quo (.t 29) (.k (.int .i64 4))) none), (PO.mk (some 31) (.mv (.t 1)) none), (PO.mk (some 32) (.mv (.t 2)) none), (PO.mk (some 33) (.bin .mul (.k (.int .i64 4)) (.t 32)) none), (PO.mk (some 34) (.min [(.t 31), (.t 33)]) none), (PO.mk (some 35) (.max [(.t 30), (.t 34)]) none), (PO.mk (some 1) (.mv (.t 35)) none)]) (.seq (.ops [(PO.mk (some 37) (.load true 4 (.t 10)) none), (PO.mk (some 38) (.mv (.t 1)) none), (PO.mk (some 39) (.conv .u64 (.t 38)) none), (PO.mk (some 40) (.call (F 110) [(.t 37), (.t 39)]) none), (PO.mk (some 36) (.mv (.t 40)) none), (PO.mk (some 41) (.ext 0 (.t 36)) none), (PO.mk (some 42) (.ext 1 (.t 36)) none), (PO.mk (some 12) (.alloc [(w64 0), (w64 0), (w64 0), (w64 0)]) none), (PO.mk none (.store 4 (.t 12) (.t 41)) none), (PO.mk (some 13) (.mv (.t 42)) none)]) (.seq (.seq (.ops [(PO.mk (some 43) (.mv (.t 13)) none)]) (.cond (.t 43) (.seq (.draw [(.e, (PO.mk (some 46) (.mv (.t 2)) none)), (.e, (PO.mk (some 47) (.conv .u64 (.t 46)) none)), (.s, (PO.mk (some 45) (.load true 4 (.t 10)) none)), (.s, (PO.mk (some 48) (.call (F 105) [(.t 47)]) none)), (.s, (PO.mk (some 49) (.call (F 116) [(.t 45), (.t 48)]) none)), (.e, (PO.mk (some 44) (.mv (.t 49)) none)), (.e, (PO.mk (some 50) (.ext 0 (.t 44)) none)), (.e, (PO.mk (some 51) (.ext 1 (.t 44)) none)), (.e, (PO.mk (some 52) (.ext 2 (.t 44)) none)), (.x, (PO.mk none (.store 4 (.t 12) (.t 50)) none))]) (.seq (.seq (.ops [(PO.mk (some 54) (.load true 4 (.t 12)) none), (PO.mk (some 55) (.mv (.t 1)) none), (PO.mk (some 56) (.conv .u64 (.t 55)) none), (PO.mk (some 57) (.call (F 110) [(.t 54), (.t 56)]) none), (PO.mk (some 53) (.mv (.t 57)) none), (PO.mk (some 58) (.ext 0 (.t 53)) none), (PO.mk (some 59) (.ext 1 (.t 53)) none), (PO.mk none (.store 4 (.t 12) (.t 58)) none), (PO.mk (some 13) (.mv (.t 59)) none)]) (.seq (.ops [(PO.mk (some 60) (.mv (.t 13)) none)]) (.cond (.t 60) (.seq (.ops [(PO.mk (some 61) (.load true 4 (.t 7)) none), (PO.mk (some 62) (.call (F 136) [(.t 61)]) none), (PO.mk (some 8) (.mv (.t 62)) none), (PO.mk (some 9) (.mv (.k (.bool true))) none)]) .ret) .skip))) (.ops [(PO.mk (some 63) (.load true 4 (.t 12)) none), (PO.mk none (.store 4 (.t 10) (.t 63)) none)]))) (.draw [(.e, (PO.mk (some 66) (.mv (.t 2)) none)), (.e, (PO.mk (some 67) (.conv .u64 (.t 66)) none)), (.s, (PO.mk (some 65) (.load true 4 (.t 12)) none)), (.s, (PO.mk (some 68) (.call (F 105) [(.t 67)]) none)), (.s, (PO.mk (some 69) (.call (F 116) [(.t 65), (.t 68)]) none)), (.e, (PO.mk (some 64) (.mv (.t 69)) none)), (.e, (PO.mk (some 70) (.ext 0 (.t 64)) none)), (.e, (PO.mk (some 71) (.ext 1 (.t 64)) none)), (.e, (PO.mk (some 72) (.ext 2 (.t 64)) none)), (.x, (PO.mk none (.store 4 (.t 10) (.t 70)) none))]))) (.seq (.seq (.ops [(PO.mk (some 73) (.load true 4 (.t 10)) none), (PO.mk (some 74) (.load true 4 (.t 7)) none), (PO.mk (some 75) (.call (F 106) [(.t 73), (.t 74)]) none), (PO.mk (some 76) (.bin .gtr (.t 75) (.k (.int .i64 0))) none)]) (.cond (.t 76) (.ops [(PO.mk (some 77) (.load true 4 (.t 7)) none), (PO.mk none (.store 4 (.t 10) (.t 77)) none)]) .skip)) (.seq (.ops [(PO.mk (some 78) (.load true 4 (.t 10)) none), (PO.mk (some 79) (.call (F 136) [(.t 78)]) none), (PO.mk (some 8) (.mv (.t 79)) none), (PO.mk (some 9) (.mv (.k (.bool true))) none)]) .ret))))))))
def k139 (F : Fn) : PF := PF.mk 19 2 [(.t 4)] (.seq (.ops [(PO.mk (some 4) (.mv (.k (.sl .nil [] 0))) none)]) (.seq (.ops [(PO.mk (some 5) (.mv (.t 0)) none), (PO.mk (some 6) (.mv (.t 1)) none), (PO.mk (some 7) (.conv .u8 (.t 6)) none), (PO.mk (some 8) (.mv (.t 1)) none), (PO.mk (some 9) (.bin .shr (.t 8) (.k (w64 8))) none), (PO.mk (some 10) (.conv .u8 (.t 9)) none), (PO.mk (some 11) (.mv (.t 1)) none), (PO.mk (some 12) (.bin .shr (.t 11) (.k (w64 16))) none), (PO.mk (some 13) (.conv .u8 (.t 12)) none), (PO.mk (some 14) (.mv (.t 1)) none), (PO.mk (some 15) (.bin .shr (.t 14) (.k (w64 24))) none), (PO.mk (some 16) (.conv .u8 (.t 15)) none), (PO.mk (some 17) (.bsl false 1 4 [(w8 0)] [(0, (1, (.t 7))), (1, (1, (.t 10))), (2, (1, (.t 13))), (3, (1, (.t 16)))]) none), (PO.mk (some 18) (.app 1 1 (.t 5) (.t 17)) none), (PO.mk (some 4) (.mv (.t 18)) none)]) .ret))
def k140 (F : Fn) : PF := PF.mk 25 1 [(.t 2)] (.seq (.ops [(PO.mk (some 1) (.box (.t 0)) none), (PO.mk (some 2) (.mv (.k (.sl .nil [] 0))) none)]) (.seq (.draw2 [] [(.e, (PO.mk (some 5) (.fldA 0 (.t 1)) none)), (.s, (PO.mk (some 6) (.load false 1 (.t 5)) none)), (.x, (PO.mk (some 4) (.mksl true 1 1 [(w8 0)] (.k (.int .i64 0)) (.k (.int .i64 80))) none)), (.x, (PO.mk (some 7) (.call (F 139) [(.t 4), (.t 6)]) none)), (.e, (PO.mk (some 3) (.mv (.t 7)) none))]) (.seq (.seq (.frz [1]) (.draw2 [] [(.e, (PO.mk (some 8) (.mv (.t 3)) none)), (.e, (PO.mk (some 9) (.fldA 1 (.t 1)) none)), (.e, (PO.mk (some 12) (.fldA 33 (.t 1)) none)), (.s, (PO.mk (some 10) (.slArr false 32 1 (.t 9) none none) none)), (.s, (PO.mk (some 13) (.slArr false 32 1 (.t 12) none none) none)), (.x, (PO.mk (some 11) (.app 1 1 (.t 8) (.t 10)) none)), (.x, (PO.mk (some 14) (.app 1 1 (.t 11) (.t 13)) none)), (.e, (PO.mk (some 3) (.mv (.t 14)) none))])) (.seq (.draw [(.e, (PO.mk (some 15) (.mv (.t 3)) none)), (.e, (PO.mk (some 16) (.fldA 65 (.t 1)) none)), (.e, (PO.mk (some 17) (.loadE false 1 (.t 16)) none)), (.e, (PO.mk (some 19) (.fldA 66 (.t 1)) none)), (.e, (PO.mk (some 20) (.loadE false 1 (.t 19)) none)), (.e, (PO.mk (some 22) (.fldA 67 (.t 1)) none)), (.e, (PO.mk (some 23) (.loadE false 1 (.t 22)) none)), (.x, (PO.mk (some 18) (.call (F 139) [(.t 15), (.t 17)]) none)), (.x, (PO.mk (some 21) (.call (F 139) [(.t 18), (.t 20)]) none)), (.x, (PO.mk (some 24) (.call (F 139) [(.t 21), (.t 23)]) none)), (.e, (PO.mk (some 2) (.mv (.t 24)) none))]) .ret))))
def k141 (F : Fn) : PF := PF.mk 7 1 [(PR.cell 2 true 32)] (.seq (.ops [(PO.mk (some 1) (.box (.t 0)) none), (PO.mk (some 2) (.alloc zR32_w80) none)]) (.seq (.ops [(PO.mk (some 3) (.load true 68 (.t 1)) none), (PO.mk (some 4) (.call (F 140) [(.t 3)]) none), (PO.mk (some 5) (.bsl false 1 1 [(.sl .nil [] 0)] [(0, (1, (.t 4)))]) none), (PO.mk (some 6) (.call (F 104) [(.t 5)]) none), (PO.mk none (.store 32 (.t 2) (.t 6)) none)]) .ret))
def k142 (F : Fn) : PF := PF.mk 40 2 [(.t 4)] (.seq (.ops [(PO.mk (some 2) (.box (.t 0)) none), (PO.mk (some 4) (.mv (.k (.int .i64 0))) none)]) (.seq (.ops [(PO.mk (some 10) (.fldA 66 (.t 2)) none), (PO.mk (some 11) (.load false 1 (.t 10)) none), (PO.mk (some 12) (.call (F 135) [(.t 11)]) none), (PO.mk (some 9) (.mv (.t 12)) none), (PO.mk (some 13) (.ext 0 (.t 9)) none), (PO.mk (some 14) (.ext 1 (.t 9)) none), (PO.mk (some 5) (.alloc [(w64 0), (w64 0), (w64 0), (w64 0)]) none), (PO.mk none (.store 4 (.t 5) (.t 13)) none), (PO.mk (some 6) (.mv (.t 14)) none)]) (.seq (.ops [(PO.mk (some 16) (.mv (.t 1)) none), (PO.mk (some 17) (.call (F 135) [(.t 16)]) none), (PO.mk (some 15) (.mv (.t 17)) none), (PO.mk (some 18) (.ext 0 (.t 15)) none), (PO.mk (some 19) (.ext 1 (.t 15)) none), (PO.mk (some 7) (.alloc [(w64 0), (w64 0), (w64 0), (w64 0)]) none), (PO.mk none (.store 4 (.t 7) (.t 18)) none), (PO.mk (some 8) (.mv (.t 19)) none)]) (.seq (.block 0 (.seq (.ops [(PO.mk (some 21) (.mv (.t 6)) none), (PO.mk (some 22) (.not (.t 21)) none), (PO.mk (some 23) (.mv (.t 22)) none), (PO.mk (some 24) (.mv (.t 8)) (some (23, false))), (PO.mk (some 25) (.not (.t 24)) (some (23, false))), (PO.mk (some 26) (.pick (.t 23) (.k (.bool true)) (.t 25)) none), (PO.mk (some 27) (.mv (.t 26)) none), (PO.mk (some 28) (.load true 4 (.t 5)) (some (27, false))), (PO.mk (some 29) (.load true 4 (.t 7)) (some (27, false))), (PO.mk (some 30) (.call (F 106) [(.t 28), (.t 29)]) (some (27, false))), (PO.mk (some 31) (.bin .gtr (.t 30) (.k (.int .i64 0))) (some (27, false))), (PO.mk (some 32) (.pick (.t 27) (.k (.bool true)) (.t 31)) none), (PO.mk (some 20) (.mv (.t 32)) none)]) (.cond (.t 20) (.seq (.ops [(PO.mk (some 4) (.mv (.k (.int .i64 30))) none)]) .ret) (.seq (.draw [(.s, (PO.mk (some 34) (.load true 68 (.t 2)) none)), (.s, (PO.mk (some 35) (.call (F 141) [(.t 34)]) none)), (.s, (PO.mk (some 36) (.call (F 117) [(.t 35)]) none)), (.s, (PO.mk (some 37) (.load true 4 (.t 5)) none)), (.s, (PO.mk (some 38) (.call (F 106) [(.t 36), (.t 37)]) none)), (.e, (PO.mk (some 39) (.bin .gtr (.t 38) (.k (.int .i64 0))) none)), (.e, (PO.mk (some 33) (.mv (.t 39)) none))]) (.cond (.t 33) (.seq (.ops [(PO.mk (some 4) (.mv (.k (.int .i64 50))) none)]) .ret) .skip))))) (.seq (.ops [(PO.mk (some 4) (.mv (.k (.int .i64 0))) none)]) .ret)))))
def k143 (F : Fn) : PF := PF.mk 24 3 [(PR.cell 6 true 68), (.t 7)] (.seq (.ops [(PO.mk (some 3) (.box (.t 0)) none), (PO.mk (some 6) (.alloc z68_39b1) none), (PO.mk (some 7) (.mv (.k (.bool false))) none)]) (.seq (.seq (.ops [(PO.mk (some 8) (.mv (.t 2)) none), (PO.mk (some 9) (.min [(.t 8), (.k (.int .i64 65536))]) none), (PO.mk (some 10) (.max [(.k (.int .i64 0)), (.t 9)]) none), (PO.mk (some 11) (.mv (.k (.int .i64 0))) none)]) (.block 0 (.loop (.seq (.ops [(PO.mk (some 12) (.bin .lss (.t 11) (.t 10)) none)]) (.seq (.cond (.t 12) .skip (.exit 0)) (.seq (.block 1 (.seq (.seq (.ops [(PO.mk (some 13) (.load true 68 (.t 3)) none), (PO.mk (some 14) (.mv (.t 1)) none), (PO.mk (some 15) (.call (F 142) [(.t 13), (.t 14)]) none), (PO.mk (some 16) (.bin .eql (.t 15) (.k (.int .i64 0))) none)]) (.cond (.t 16) (.seq (.ops [(PO.mk (some 17) (.load true 68 (.t 3)) none), (PO.mk none (.store 68 (.t 6) (.t 17)) none), (PO.mk (some 7) (.mv (.k (.bool true))) none)]) .ret) .skip)) (.ops [(PO.mk (some 18) (.fldA 67 (.t 3)) none), (PO.mk (some 19) (.load false 1 (.t 18)) none), (PO.mk (some 20) (.bin .add (.t 19) (.k (w32 1))) none), (PO.mk (some 21) (.fldA 67 (.t 3)) none), (PO.mk none (.store 1 (.t 21) (.t 20)) none)]))) (.ops [(PO.mk (some 22) (.bin .add (.t 11) (.k (.int .i64 1))) none), (PO.mk (some 11) (.mv (.t 22)) none)]))))))) (.seq (.ops [(PO.mk (some 23) (.build z68_39b1 []) none), (PO.mk none (.store 68 (.t 6) (.t 23)) none), (PO.mk (some 7) (.mv (.k (.bool false))) none)]) .ret)))
structure OkHead (P : Program) (F : Fn) : Prop where
  mixed : P.follows .mixedOrders = true
  toOkNum : OkNum P F
  toOkHash : OkHash P F
  h135 : compFn P ⟨[], [], [], [], []⟩ (F 135) = some (k135 F)
  h136 : compFn P ⟨[], [], [], [], []⟩ (F 136) = some (k136 F)
  h137 : compFn P ⟨[], [], [], [], []⟩ (F 137) = some (k137 F)
  h138 : compFn P ⟨[], [], [], [], []⟩ (F 138) = some (k138 F)
  h139 : compFn P ⟨[], [], [], [], []⟩ (F 139) = some (k139 F)
  h140 : compFn P ⟨[4, 17, 20, 23], [], [(2, [1])], [], []⟩ (F 140) = some (k140 F)
  h141 : compFn P ⟨[], [], [], [], []⟩ (F 141) = some (k141 F)
  h142 : compFn P ⟨[], [], [], [], []⟩ (F 142) = some (k142 F)
  h143 : compFn P ⟨[], [], [], [], []⟩ (F 143) = some (k143 F)
end Go.Ab
set_option linter.unusedSimpArgs false
set_option linter.unusedVariables false
set_option maxRecDepth 10000
namespace Go.Ab
open Go Go.RowKit
section
variable {P : Program} {F : Fn}
def tgtR (b : W32) : V := match tgt b with | some t => .tup [nU (natU t), .bool true] | none => .tup [nU 0#256, .bool false]
theorem and_word (b : W32) : (b &&& 8388607#32).toNat = b.toNat % 8388608 := by
  rw [BitVec.toNat_and]
  exact Nat.and_two_pow_sub_one_eq_mod b.toNat 23
theorem and_bit (b : W32) : ((b &&& 8388608#32) != 0#32) = decide (8388608 ≤ b.toNat % 16777216) := by
  have h2 : b.getLsbD 23 = decide (8388608 ≤ b.toNat % 16777216) := by
    rw [BitVec.getLsbD, Nat.testBit_eq_decide_div_mod_eq]
    congr 1
    rw [eq_iff_iff]
    show b.toNat / 8388608 % 2 = 1 ↔ _
    omega
  rw [show (8388608#32) = BitVec.twoPow 32 23 from rfl, BitVec.and_twoPow, ← h2]
  cases b.getLsbD 23 <;> rfl
set_option maxHeartbeats 2000000 in
theorem spec135 (ok : OkHead P F) (st : St) (b : W32) : ACalls P (F 135) [w32 b] st fun v st' => v = tgtR b ∧ st' = st := by
  have okn := ok.toOkNum
  have hb := b.isLt
  refine shows_call ok.mixed ok.h135 (by simp [k135]) ?_
  simp only [k135, eU_zero0]
  simp
  intro rid hrid
  have S := (Sep.start st).new hrid (.cells (eU 0#256))
  generalize st.upd rid _ = st1 at S ⊢
  have hsp : ∀ x y : U, spliceV (eU x) 0 (eU y) = eU y := fun _ _ => rfl
  have oR := S.get
  have hz : fillV (eU 0#256) [] = some (eU 0#256) := rfl
  have hst : ∀ x : U, storeS st1 4 (.ptr (some (rid, 0))) (nU x) = some (st1.upd rid (.cells (eU x))) := fun x => by
    simp [storeS, oR, nU, eU_len, hsp]
  obtain ⟨size, hsize⟩ : ∃ n, n = b.toNat / 16777216 := ⟨_, rfl⟩
  obtain ⟨word, hword⟩ : ∃ n, n = b.toNat % 16777216 := ⟨_, rfl⟩
  have hsz : (b >>> 24).toNat = size := by rw [BitVec.toNat_ushiftRight, Nat.shiftRight_eq_div_pow, hsize]
  have hw8 : (b &&& 8388607#32).toNat = b.toNat % 8388608 := and_word b
  obtain ⟨X, hX⟩ : ∃ X : W, X = (b &&& 8388607#32).setWidth 64 := ⟨_, rfl⟩
  have hXn : X.toNat = b.toNat % 8388608 := by
    rw [hX, BitVec.toNat_setWidth, hw8]
    exact Nat.mod_eq_of_lt (by omega)
  have hX0 : (X == 0#64) = decide (b.toNat % 8388608 = 0) := by
    rw [Bool.eq_iff_iff, beq_iff_eq, decide_eq_true_eq]
    constructor
    · intro h; rw [← hXn, h]; rfl
    · intro h; apply BitVec.eq_of_toNat_eq; rw [hXn, h]; rfl
  have hbit := and_bit b
  have hcv : convV .i64 (w32 (b >>> 24)) = some (.int .i64 (size : Nat)) := by rw [conv_32_i, hsz]
  have w0 : word % 8388608 = b.toNat % 8388608 := by omega
  simp [-conv_32_i, hcv, ← hX, hX0]
  by_cases h0 : b.toNat % 8388608 = 0
  · have e : tgtR b = .tup [nU 0#256, .bool false] := by
      have : tgt b = none := by
        unfold tgt
        rw [if_pos (by omega)]
      rw [tgtR, this]
    simp [h0, hz, storeS, oR, eU_len, hsp, St.seg, segU, e]
    exact ⟨(S.set (.cells (eU 0#256))).was' (by simp), rfl⟩
  by_cases h1 : 8388608 ≤ b.toNat % 16777216
  · have e : tgtR b = .tup [nU 0#256, .bool false] := by
      have : tgt b = none := by
        unfold tgt
        rw [if_pos (by omega)]
      rw [tgtR, this]
    simp [h0, h1, hbit, hz, storeS, oR, eU_len, hsp, St.seg, segU, e]
    exact ⟨(S.set (.cells (eU 0#256))).was' (by simp), rfl⟩
  have hwX : X.toNat = word := by omega
  have htg : tgt b = if tgtV size word = 0 ∨ 2 ^ 256 ≤ tgtV size word then none else some (tgtV size word) := by
    unfold tgt
    rw [if_neg (by omega), ← hsize, ← hword]
  have hszl : size ≤ 255 := by omega
  simp [h0, h1, hbit]
  refine (spec105 okn st1 X).mono ?_
  rintro v st1 ⟨rfl, rfl⟩
  simp
  intro nid hnid
  obtain ⟨N, hN⟩ : ∃ N : U, N = X.setWidth 256 := ⟨_, rfl⟩
  have hNn : N.toNat = word := by
    rw [hN, BitVec.toNat_setWidth, hwX]
    exact Nat.mod_eq_of_lt (by omega)
  rw [← hN]
  have S := S.new hnid (.cells (eU N))
  have hsn : storeS (st1.upd nid (.cells (eU 0#256))) 4 (.ptr (some (nid, 0))) (nU N) = some (st1.upd nid (.cells (eU N))) := by
    simp [storeS, nU, eU_len, hsp]
  simp [hsn]
  generalize st1.upd nid _ = st2 at S ⊢
  have oN := S.get
  have oR := S.mem (i := rid) (o := .cells (eU 0#256)) (by simp)
  have n12 := S.neq (i := nid) (j := rid) 0 1 rfl rfl (by omega)
  by_cases h3 : size ≤ 3
  · have h3' : (size : Int) ≤ 3 := by omega
    have w1 : IntKind.i64.wrap (3 - (size : Int)) = ((3 - size : Nat) : Int) := by rw [wrap64 (by omega) (by omega)]; omega
    have w2 : IntKind.i64.wrap (8 * ((3 - size : Nat) : Int)) = ((8 * (3 - size) : Nat) : Int) := by rw [wrap64 (by omega) (by omega)]; omega
    obtain ⟨m, hm⟩ : ∃ m, m = 3 - size := ⟨_, rfl⟩
    rw [← hm] at w1 w2
    simp [h3', w1, w2, St.seg, oN, segU]
    refine (spec113 okn st2 N (8 * (m : Int))).mono ?_
    rintro v st2 ⟨rfl, rfl⟩
    obtain ⟨R, hR⟩ : ∃ R, R = shrU N (8 * (m : Int)) := ⟨_, rfl⟩
    have hRn : R.toNat = tgtV size word := by
      rw [hR, shrU, if_neg (by omega), BitVec.toNat_ushiftRight, Nat.shiftRight_eq_div_pow, hNn, tgtV, if_pos h3, show (8 * (m : Int)).toNat = 8 * m by omega, hm]
    rw [← hR]
    have hs2 : storeS st2 4 (.ptr (some (nid, 0))) (nU R) = some (st2.upd nid (.cells (eU R))) := by
      simp [storeS, oN, nU, eU_len, hsp]
    have S := S.set (.cells (eU R))
    simp [hs2]
    generalize st2.upd nid _ = st3 at S ⊢
    have oN := S.get
    have oR := S.mem (i := rid) (o := .cells (eU 0#256)) (by simp)
    simp [St.seg, oN, segU]
    refine ⟨_, spec107 okn st3 R, ?_⟩
    have T := S.setAt (.cells (eU R)) 1 rfl
    simp [St.seg, oN, oR, segU, storeS, eU_len, hsp]
    refine ⟨T.was' (by simp), ?_⟩
    rw [tgtR, htg]
    by_cases hz0 : tgtV size word = 0
    · have : R = 0#256 := BitVec.eq_of_toNat_eq (by rw [hRn, hz0]; rfl)
      rw [if_pos (.inl hz0), this]
      simp [nU]
    · have h1 : R ≠ 0#256 := fun e => hz0 (by rw [← hRn, e]; rfl)
      have h2 : R = natU (tgtV size word) := by rw [← hRn, natU, BitVec.ofNat_toNat, BitVec.setWidth_eq]
      have h3 : ¬ 2 ^ 256 ≤ tgtV size word := by rw [← hRn]; exact Nat.not_le.2 R.isLt
      rw [if_neg (by rintro (h | h); exact hz0 h; exact h3 h)]
      simp only
      rw [← h2]
      simp [nU, h1]
  · have h3' : ¬ (size : Int) ≤ 3 := by omega
    have w1 : IntKind.i64.wrap ((size : Int) - 3) = ((size - 3 : Nat) : Int) := by rw [wrap64 (by omega) (by omega)]; omega
    have w2 : IntKind.i64.wrap (8 * ((size - 3 : Nat) : Int)) = ((8 * (size - 3) : Nat) : Int) := by rw [wrap64 (by omega) (by omega)]; omega
    obtain ⟨m, hm⟩ : ∃ m, m = size - 3 := ⟨_, rfl⟩
    rw [← hm] at w1 w2
    have hbl : bitlen word ≤ 24 := bitlen_le.2 (by show word < 16777216; omega)
    have w3 : IntKind.i64.wrap ((bitlen word : Int) + 8 * (m : Int)) = (bitlen word : Int) + 8 * (m : Int) := wrap64 (by omega) (by omega)
    have hw0 : 0 < word := by omega
    have htv : tgtV size word = word * 2 ^ (8 * m) := by rw [tgtV, if_neg h3, hm]
    have hfit : bitlen word + 8 * m ≤ 256 ↔ tgtV size word < 2 ^ 256 := by
      have : bitlen (tgtV size word) = bitlen word + 8 * m := by
        have := bitlen_add (n := word) (k := 8 * m) (m := 0) (Nat.two_pow_pos _) hw0
        rwa [Nat.add_zero, ← htv] at this
      rw [← this, bitlen_le]
    have hne : tgtV size word ≠ 0 := by
      rw [htv]
      exact Nat.ne_of_gt (Nat.mul_pos hw0 (Nat.two_pow_pos _))
    simp [h3', w1, w2, St.seg, oN, segU]
    refine (spec114 okn st2 N).mono ?_
    rintro v st2 ⟨rfl, rfl⟩
    rw [hNn]
    by_cases hb : (256 : Int) < (bitlen word : Int) + 8 * (m : Int)
    · have hbig : 2 ^ 256 ≤ tgtV size word := by
        have := mt hfit.2 (by omega)
        omega
      have e : tgtR b = .tup [nU 0#256, .bool false] := by
        rw [tgtR, htg, if_pos (.inr hbig)]
      have T := S.setAt (.cells (eU 0#256)) 1 rfl
      simp [w1, w2, w3, hb, hz, storeS, oR, eU_len, hsp, St.seg, segU, e]
      exact ⟨T.was' (by simp), rfl⟩
    · simp [w1, w2, w3, hb, St.seg, oN, segU]
      refine (spec112 okn st2 N (8 * (m : Int))).mono ?_
      rintro v st2 ⟨rfl, rfl⟩
      obtain ⟨R, hR⟩ : ∃ R, R = shlU N (8 * (m : Int)) := ⟨_, rfl⟩
      have hlt := hfit.1 (by omega)
      have hm31 : 8 * m ≤ 255 := by
        have := bitlen_pos.2 hw0
        omega
      have hRn : R = natU (tgtV size word) := by
        apply BitVec.eq_of_toNat_eq
        rw [natU_nat hlt, hR, shlU, if_neg (by omega), BitVec.toNat_shiftLeft, Nat.shiftLeft_eq, hNn, show (8 * (m : Int)).toNat = 8 * m by omega, htv]
        exact Nat.mod_eq_of_lt (by rw [← htv]; exact hlt)
      rw [← hR]
      have T := S.setAt (.cells (eU R)) 1 rfl
      have e : tgtR b = .tup [nU R, .bool true] := by
        rw [tgtR, htg, if_neg (by omega), hRn]
      have hs2 : storeS st2 4 (.ptr (some (rid, 0))) (nU R) = some (st2.upd rid (.cells (eU R))) := by
        simp [storeS, oR, nU, eU_len, hsp]
      simp [hs2, St.seg, segU, e]
      exact ⟨T.was' (by simp), rfl⟩
theorem rows2U (a b : U) : fillV (repV (eU 0#256) 2) [(0, 4, .agg (eU a)), (4, 4, .agg (eU b))] = some (rowsOf eU [a, b]) := rfl
theorem sumU2 (a b : U) : sumU [a, b] = a.toNat + b.toNat := by simp [sumU]
theorem work_eq {t : Nat} (ht : t + 1 < 2 ^ 256) : (2 ^ 256 - 1 - t) / (t + 1) + 1 = workN t := by
  rw [workN]
  have e : 2 ^ 256 = (2 ^ 256 - 1 - t) + (t + 1) := by omega
  calc (2 ^ 256 - 1 - t) / (t + 1) + 1 = ((2 ^ 256 - 1 - t) + (t + 1)) / (t + 1) := (Nat.add_div_right _ (Nat.succ_pos t)).symm
    _ = 2 ^ 256 / (t + 1) := by rw [← e]
set_option maxHeartbeats 2000000 in
theorem spec137 (ok : OkHead P F) (st : St) (x : U) : ACalls P (F 137) [nU x] st fun v st' => v = nU (natU (workN x.toNat)) ∧ st' = st := by
  have okn := ok.toOkNum
  refine shows_call ok.mixed ok.h137 (by simp [k137]) ?_
  have hxl := x.isLt
  simp only [k137, nU]
  simp
  intro i1 h1
  have S := (Sep.start st).new h1 (.cells (eU x))
  generalize st.upd i1 _ = st1 at S ⊢
  simp
  intro i2 h2
  have S := S.new h2 (.cells (eU 0#256))
  rw [eU_zero]
  generalize st1.upd i2 _ = st2 at S ⊢
  have o1 := S.mem (i := i1) (o := .cells (eU x)) (by simp)
  simp [St.seg, o1, segU]
  refine ⟨_, spec105 okn st2 1#64, ?_⟩
  have hone : (BitVec.setWidth 256 1#64 : U) = 1#256 := rfl
  have hsp : ∀ x y : U, spliceV (eU x) 0 (eU y) = eU y := fun _ _ => rfl
  have call : ∀ (st : St) (y : U), ACalls P (F 108) [.sl .full (rowsOf eU [y, 1#256]) 2] st fun v st' => v = .tup [nU (BitVec.ofNat 256 (y.toNat + 1)), .bool (ovU (y.toNat + 1))] ∧ st' = st := fun st y => by
    have := spec108 okn st (l := [y, 1#256]) (.inl ⟨.full, rfl⟩) (by simp)
    rw [sumU2] at this
    exact this
  simp [rows2U, nU, hone]
  refine ⟨_, call st2 x, ?_⟩
  simp
  intro i3 h3
  have S := S.new h3 (.cells (eU (BitVec.ofNat 256 (x.toNat + 1))))
  have hs3 : ∀ y : U, storeS (st2.upd i3 (.cells (eU 0#256))) 4 (.ptr (some (i3, 0))) (nU y) = some (st2.upd i3 (.cells (eU y))) := fun y => by
    simp [storeS, nU, eU_len, hsp]
  simp [hs3]
  generalize st2.upd i3 _ = st3 at S ⊢
  have o2 := S.mem (i := i2) (o := .cells (eU 0#256)) (by simp)
  have o1 := S.mem (i := i1) (o := .cells (eU x)) (by simp)
  have o3 := S.get
  by_cases hov : 2 ^ 256 ≤ x.toNat + 1
  · have e1 : ovU (x.toNat + 1) = true := decide_eq_true hov
    have e2 : natU (workN x.toNat) = 1#256 := by
      have : x.toNat + 1 = 2 ^ 256 := by omega
      rw [natU, workN, this, Nat.div_self (Nat.two_pow_pos _)]
    simp [e1]
    refine (spec105 okn st3 1#64).mono ?_
    rintro v st3 ⟨rfl, rfl⟩
    have T := S.setAt (.cells (eU 1#256)) 1 rfl
    have hs : storeS st3 4 (.ptr (some (i2, 0))) (nU 1#256) = some (st3.upd i2 (.cells (eU 1#256))) := by
      simp [storeS, o2, nU, eU_len, hsp]
    simp [hone, hs, St.seg, segU, e2]
    exact T.was' (by simp)
  · have e1 : ovU (x.toNat + 1) = false := decide_eq_false hov
    have hlt : x.toNat + 1 < 2 ^ 256 := by omega
    obtain ⟨Y, hY⟩ : ∃ Y : U, Y = BitVec.ofNat 256 (x.toNat + 1) := ⟨_, rfl⟩
    have hYn : Y.toNat = x.toNat + 1 := by rw [hY, BitVec.toNat_ofNat]; exact Nat.mod_eq_of_lt hlt
    have hY0 : Y ≠ 0#256 := fun e => by rw [e] at hYn; simp at hYn
    rw [← hY] at S o3 ⊢
    simp [e1, St.seg, o1, segU]
    refine ⟨_, spec111 okn st3 x, ?_⟩
    simp [St.seg, o3, segU]
    refine ⟨_, spec116 okn st3 (~~~x) Y, ?_⟩
    simp [hY0]
    intro i5 h5
    have S := S.new h5 (.cells (eU 0#256))
    generalize st3.upd i5 _ = st4 at S ⊢
    simp
    intro i6 h6
    have S := S.new h6 (.cells (eU 0#256))
    generalize st4.upd i6 _ = st5 at S ⊢
    have o5 := S.mem (i := i5) (o := .cells (eU 0#256)) (by simp)
    have n56 := S.neq (i := i6) (j := i5) 0 1 rfl rfl (by omega)
    have hs5 : ∀ y : U, storeS st5 4 (.ptr (some (i5, 0))) (nU y) = some (st5.upd i5 (.cells (eU y))) := fun y => by
      simp [storeS, nU, eU_len, hsp, o5]
    obtain ⟨Q, hQ⟩ : ∃ Q, Q = divU (~~~x) Y := ⟨_, rfl⟩
    have hQn : Q.toNat + 1 = workN x.toNat := by
      rw [← work_eq hlt, hQ, divU, BitVec.toNat_ofNat, hYn, BitVec.toNat_not, Nat.mod_eq_of_lt]
      exact Nat.lt_of_le_of_lt (Nat.div_le_self _ _) (by omega)
    rw [← hQ]
    have S := S.setAt (.cells (eU Q)) 1 rfl
    have o6 := S.mem (i := i6) (o := .cells (eU 0#256)) (by simp)
    simp [hs5]
    generalize st5.upd i5 _ = st6 at S o6 ⊢
    have hs6 : ∀ y : U, storeS st6 4 (.ptr (some (i6, 0))) (nU y) = some (st6.upd i6 (.cells (eU y))) := fun y => by
      simp [storeS, nU, eU_len, hsp, o6]
    have S := S.setAt (.cells (eU (modU (~~~x) Y))) 0 rfl
    simp [hs6]
    generalize st6.upd i6 _ = st7 at S ⊢
    have o5 := S.mem (i := i5) (o := .cells (eU Q)) (by simp)
    simp [St.seg, o5, segU]
    refine ⟨_, spec105 okn st7 1#64, ?_⟩
    simp [rows2U, nU, hone]
    refine ⟨_, call st7 Q, ?_⟩
    have hs7 : ∀ y : U, storeS st7 4 (.ptr (some (i5, 0))) (nU y) = some (st7.upd i5 (.cells (eU y))) := fun y => by
      simp [storeS, nU, eU_len, hsp, o5]
    have S := S.setAt (.cells (eU (BitVec.ofNat 256 (Q.toNat + 1)))) 1 rfl
    simp [hs7]
    generalize st7.upd i5 _ = st8 at S ⊢
    have o5 := S.mem (i := i5) (o := .cells (eU (BitVec.ofNat 256 (Q.toNat + 1)))) (by simp)
    have o2 := S.mem (i := i2) (o := .cells (eU 0#256)) (by simp)
    have T := S.setAt (.cells (eU (BitVec.ofNat 256 (Q.toNat + 1)))) 3 rfl
    simp [St.seg, o5, o2, segU, storeS, eU_len, hsp]
    refine ⟨T.was' (by simp), ?_⟩
    rw [hQn]
    rfl
end
end Go.Ab
set_option linter.unusedSimpArgs false
set_option linter.unusedVariables false
set_option maxRecDepth 10000
namespace Go.Ab
open Go Go.RowKit
section
variable {P : Program} {F : Fn}
def topW (t size : Nat) : Nat := if size ≤ 3 then t * 2 ^ (8 * (3 - size)) else t / 2 ^ (8 * (size - 3))
theorem topW_lt {t size : Nat} (h : bitlen t ≤ 8 * size) : topW t size < 16777216 := by
  have ht := bitlen_le.1 h
  unfold topW
  split
  · rename_i h3
    calc t * 2 ^ (8 * (3 - size)) < 2 ^ (8 * size) * 2 ^ (8 * (3 - size)) := Nat.mul_lt_mul_of_pos_right ht (Nat.two_pow_pos _)
      _ = 2 ^ 24 := by rw [← Nat.pow_add]; congr 1; omega
  · rename_i h3
    rw [Nat.div_lt_iff_lt_mul (Nat.two_pow_pos _)]
    calc t < 2 ^ (8 * size) := ht
      _ = 16777216 * 2 ^ (8 * (size - 3)) := by
        rw [show (16777216 : Nat) = 2 ^ 24 from rfl, ← Nat.pow_add]; congr 1; omega
theorem topW_succ (t size : Nat) : topW t (size + 1) = topW t size / 256 := by
  unfold topW
  by_cases h : size + 1 ≤ 3
  · rw [if_pos h, if_pos (by omega), show 8 * (3 - size) = 8 * (3 - (size + 1)) + 8 by omega, Nat.pow_add, ← Nat.mul_assoc]
    exact (Nat.mul_div_cancel _ (by decide)).symm
  · rw [if_neg h]
    by_cases h3 : size ≤ 3
    · have : size = 3 := by omega
      subst this
      simp
    · rw [if_neg h3, Nat.div_div_eq_div_mul, show 8 * (size + 1 - 3) = 8 * (size - 3) + 8 by omega, Nat.pow_add]
theorem topW_big {t size : Nat} (ht : 0 < t) (h : bitlen t = 8 * size) : 8388608 ≤ topW t size := by
  have hp := bitlen_pos.2 ht
  have hg := bitlen_ge ht
  rw [h] at hg hp
  unfold topW
  split
  · rename_i h3
    calc 8388608 = 2 ^ (8 * size - 1) * 2 ^ (8 * (3 - size)) := by
          rw [← Nat.pow_add, show 8 * size - 1 + 8 * (3 - size) = 23 by omega]
      _ ≤ _ := Nat.mul_le_mul_right _ hg
  · rename_i h3
    rw [Nat.le_div_iff_mul_le (Nat.two_pow_pos _)]
    calc 8388608 * 2 ^ (8 * (size - 3)) = 2 ^ (8 * size - 1) := by
          rw [show (8388608 : Nat) = 2 ^ 23 from rfl, ← Nat.pow_add]; congr 1; omega
      _ ≤ t := hg
theorem topW_small {t size : Nat} (h : bitlen t < 8 * size ∨ t = 0) : topW t size < 8388608 := by
  rcases h with h | rfl
  · have ht : t < 2 ^ (8 * size - 1) := bitlen_le.1 (by omega)
    unfold topW
    split
    · rename_i h3
      calc t * 2 ^ (8 * (3 - size)) < 2 ^ (8 * size - 1) * 2 ^ (8 * (3 - size)) := Nat.mul_lt_mul_of_pos_right ht (Nat.two_pow_pos _)
        _ = 2 ^ 23 := by rw [← Nat.pow_add]; congr 1; omega
    · rename_i h3
      rw [Nat.div_lt_iff_lt_mul (Nat.two_pow_pos _)]
      calc t < 2 ^ (8 * size - 1) := ht
        _ = 8388608 * 2 ^ (8 * (size - 3)) := by
          rw [show (8388608 : Nat) = 2 ^ 23 from rfl, ← Nat.pow_add]; congr 1; omega
  · unfold topW
    simp
theorem short_eq (t : Nat) : sizeN t = (if 8388608 ≤ topW t ((bitlen t + 7) / 8) then (bitlen t + 7) / 8 + 1 else (bitlen t + 7) / 8) ∧
    wordN t = (if 8388608 ≤ topW t ((bitlen t + 7) / 8) then topW t ((bitlen t + 7) / 8) / 256 else topW t ((bitlen t + 7) / 8)) := by
  have hw : wordN t = topW t (sizeN t) := rfl
  rw [hw]
  by_cases h : 0 < bitlen t ∧ bitlen t % 8 = 0
  · have hs : sizeN t = (bitlen t + 7) / 8 + 1 := by rw [sizeN, if_pos h]
    have hb := topW_big (t := t) (size := (bitlen t + 7) / 8) (bitlen_pos.1 h.1) (by omega)
    rw [if_pos hb, if_pos hb, hs, topW_succ]
    exact ⟨rfl, rfl⟩
  · have hs : sizeN t = (bitlen t + 7) / 8 := by rw [sizeN, if_neg h]; rfl
    have hb := topW_small (t := t) (size := (bitlen t + 7) / 8) (by
      by_cases h0 : t = 0
      · exact .inr h0
      · have := bitlen_pos.2 (Nat.pos_of_ne_zero h0)
        exact .inl (by omega))
    rw [if_neg (by omega), if_neg (by omega), hs]
    exact ⟨rfl, rfl⟩
theorem join32 {s w : Nat} (hs : s < 256) (hw : w < 16777216) {a b : W32} (ha : a.toNat = s) (hb : b.toNat = w) : a <<< 24 ||| b = BitVec.ofNat 32 (s * 16777216 + w) := by
  apply BitVec.eq_of_toNat_eq
  rw [BitVec.toNat_or, BitVec.toNat_shiftLeft, Nat.shiftLeft_eq, ha, hb, BitVec.toNat_ofNat]
  rw [Nat.mod_eq_of_lt (show s * 2 ^ 24 < 2 ^ 32 by show s * 16777216 < 4294967296; omega), Nat.mod_eq_of_lt (show s * 16777216 + w < 2 ^ 32 by show _ < 4294967296; omega)]
  exact or_disj s w 24 hw
theorem and_bit64 (b : W) (hb : b.toNat < 16777216) : ((b &&& 8388608#64) != 0#64) = decide (8388608 ≤ b.toNat) := by
  have h2 : b.getLsbD 23 = decide (8388608 ≤ b.toNat) := by
    rw [BitVec.getLsbD, Nat.testBit_eq_decide_div_mod_eq]
    congr 1
    rw [eq_iff_iff]
    show b.toNat / 8388608 % 2 = 1 ↔ _
    omega
  rw [show (8388608#64) = BitVec.twoPow 64 23 from rfl, BitVec.and_twoPow, ← h2]
  cases b.getLsbD 23 <;> rfl
theorem limb_small {x : U} (h : x.toNat < 18446744073709551616) : (limb x 0).toNat = x.toNat := by
  rw [limb_nat, Nat.pow_zero, Nat.div_one, Nat.mod_eq_of_lt h]
set_option maxHeartbeats 2000000 in
theorem spec136 (ok : OkHead P F) (st : St) (x : U) : ACalls P (F 136) [nU x] st fun v st' => v = w32 (shortN x.toNat) ∧ st' = st := by
  have okn := ok.toOkNum
  refine shows_call ok.mixed ok.h136 (by simp [k136]) ?_
  have hxl := x.isLt
  obtain ⟨t, ht⟩ : ∃ t, t = x.toNat := ⟨_, rfl⟩
  rw [← ht]
  obtain ⟨e1, e2⟩ := short_eq t
  have hL : bitlen t ≤ 256 := by rw [ht]; exact bitlen_le.2 hxl
  obtain ⟨size, hsize⟩ : ∃ s, s = (bitlen t + 7) / 8 := ⟨_, rfl⟩
  rw [← hsize] at e1 e2
  have hsz : size ≤ 32 := by omega
  have htop := topW_lt (t := t) (size := size) (by omega)
  have w1 : IntKind.i64.wrap ((bitlen t : Int) + 7) = (bitlen t : Int) + 7 := wrap64 (by omega) (by omega)
  have d1 : Int.tdiv ((bitlen t : Int) + 7) 8 = (size : Int) := by rw [Int.tdiv_eq_ediv_of_nonneg (by omega)]; omega
  have w2 : IntKind.i64.wrap (size : Int) = size := wrap64 (by omega) (by omega)
  have w3 : IntKind.i64.wrap ((size : Int) + 1) = (size : Int) + 1 := wrap64 (by omega) (by omega)
  have fin : ∀ Wd : W, Wd.toNat = topW t size → (8388608 ≤ topW t size → ((Wd &&& 8388608#64) != 0#64) = true ∧ shortN t = BitVec.ofInt 32 ((size : Int) + 1) <<< 24 ||| (Wd >>> 8).setWidth 32) ∧
      (¬ 8388608 ≤ topW t size → ((Wd &&& 8388608#64) != 0#64) = false ∧ shortN t = BitVec.ofInt 32 (size : Int) <<< 24 ||| Wd.setWidth 32) := by
    intro Wd hW
    have hb := and_bit64 Wd (by omega)
    have hs8 : ((BitVec.ofInt 32 (size : Int)) : W32).toNat = size := by
      rw [BitVec.ofInt_natCast, BitVec.toNat_ofNat]; exact Nat.mod_eq_of_lt (by omega)
    have hs9 : ((BitVec.ofInt 32 ((size : Int) + 1)) : W32).toNat = size + 1 := by
      rw [show ((size : Int) + 1) = ((size + 1 : Nat) : Int) by omega, BitVec.ofInt_natCast, BitVec.toNat_ofNat]; exact Nat.mod_eq_of_lt (by omega)
    have hw8 : (Wd.setWidth 32).toNat = topW t size := by
      rw [BitVec.toNat_setWidth, hW]; exact Nat.mod_eq_of_lt (by omega)
    have hw9 : ((Wd >>> 8).setWidth 32).toNat = topW t size / 256 := by
      rw [BitVec.toNat_setWidth, BitVec.toNat_ushiftRight, Nat.shiftRight_eq_div_pow, hW]; exact Nat.mod_eq_of_lt (by omega)
    constructor
    · intro hbig
      rw [if_pos hbig] at e1 e2
      rw [hW, decide_eq_true hbig] at hb
      exact ⟨hb, by rw [shortN, e1, e2]; exact (join32 (by omega) (by omega) hs9 hw9).symm⟩
    · intro hbig
      rw [if_neg hbig] at e1 e2
      rw [hW, decide_eq_false hbig] at hb
      exact ⟨hb, by rw [shortN, e1, e2]; exact (join32 (by omega) (by omega) hs8 hw8).symm⟩
  simp only [k136]
  simp only [nU]
  simp
  intro i1 h1
  have S := (Sep.start st).new h1 (.cells (eU x))
  generalize st.upd i1 _ = st1 at S ⊢
  have o1 := S.get
  simp [St.seg, o1, segU]
  refine (spec114 okn st1 x).mono ?_
  rintro v st1 ⟨rfl, rfl⟩
  rw [← ht]
  simp [w1, d1, w2]
  have sub1 : St.sub st st1 := S.was' (by simp)
  by_cases h3 : size ≤ 3
  · have h3' : (size : Int) ≤ 3 := by omega
    have w4 : IntKind.i64.wrap (3 - (size : Int)) = ((3 - size : Nat) : Int) := by rw [wrap64 (by omega) (by omega)]; omega
    have w5 : IntKind.i64.wrap (8 * ((3 - size : Nat) : Int)) = ((8 * (3 - size) : Nat) : Int) := by rw [wrap64 (by omega) (by omega)]; omega
    obtain ⟨m, hm⟩ : ∃ m, m = 3 - size := ⟨_, rfl⟩
    have w6 : (8 * (m : Int)) = ((8 * m : Nat) : Int) := by omega
    rw [← hm] at w4 w5
    rw [← w6] at w5
    have hR : (BitVec.ofNat 64 (8 * m)).toNat = 8 * m := by rw [BitVec.toNat_ofNat]; exact Nat.mod_eq_of_lt (by omega)
    have hcv : convV .u64 (.int .i64 (8 * (m : Int))) = some (w64 (BitVec.ofNat 64 (8 * m))) := by rw [w6, conv_i_64, BitVec.ofInt_natCast]
    have ht24 : t < 16777216 := by
      have := bitlen_le.1 (show bitlen t ≤ 24 by omega)
      exact this
    have hWd : (limb x 0 <<< (8 * m)).toNat = topW t size := by
      rw [shl_nat, limb_small (by omega), ← ht, topW, if_pos h3, ← hm]
      apply Nat.mod_eq_of_lt
      have : 2 ^ (8 * m) ≤ 2 ^ 24 := Nat.pow_le_pow_right (by omega) (by omega)
      calc t * 2 ^ (8 * m) ≤ 16777216 * 2 ^ 24 := Nat.mul_le_mul (by omega) this
        _ < 18446744073709551616 := by decide
    obtain ⟨f1, f2⟩ := fin _ hWd
    have hsg : segOf (eU x) 0 1 = some [w64 (limb x 0)] := rfl
    by_cases hbig : 8388608 ≤ topW t size
    · obtain ⟨q1, q2⟩ := f1 hbig
      rw [q2]
      simp [h3', w4, w5, w3, idxArrV, St.seg, o1, hsg, hcv, -conv_i_64, hR, q1]
      simp [sub1]
    · obtain ⟨q1, q2⟩ := f2 hbig
      rw [q2]
      simp [h3', w4, w5, w3, idxArrV, St.seg, o1, hsg, hcv, -conv_i_64, hR, q1]
      simp [sub1]
  · have h3' : ¬ (size : Int) ≤ 3 := by omega
    have w4 : IntKind.i64.wrap ((size : Int) - 3) = ((size - 3 : Nat) : Int) := by rw [wrap64 (by omega) (by omega)]; omega
    have w5 : IntKind.i64.wrap (8 * ((size - 3 : Nat) : Int)) = ((8 * (size - 3) : Nat) : Int) := by rw [wrap64 (by omega) (by omega)]; omega
    obtain ⟨m, hm⟩ : ∃ m, m = size - 3 := ⟨_, rfl⟩
    have w6 : (8 * (m : Int)) = ((8 * m : Nat) : Int) := by omega
    rw [← hm] at w4 w5
    rw [← w6] at w5
    simp [h3', w4, w5, St.seg, o1, segU]
    refine (spec113 okn st1 x (8 * (m : Int))).mono ?_
    rintro v st1 ⟨rfl, rfl⟩
    obtain ⟨R, hR⟩ : ∃ R, R = shrU x (8 * (m : Int)) := ⟨_, rfl⟩
    rw [← hR]
    have hRn : R.toNat = topW t size := by
      rw [hR, shrU, if_neg (by omega), BitVec.toNat_ushiftRight, Nat.shiftRight_eq_div_pow, ← ht, topW, if_neg h3, show (8 * (m : Int)).toNat = 8 * m by omega, hm]
    have hWd : (limb R 0).toNat = topW t size := by
      rw [limb_small (by omega), hRn]
    have hix : idxV 4 false 1 (nU R) (.int .i64 0) = some (w64 (limb R 0)) := rfl
    obtain ⟨f1, f2⟩ := fin _ hWd
    by_cases hbig : 8388608 ≤ topW t size
    · obtain ⟨q1, q2⟩ := f1 hbig
      rw [q2]
      simp [hix, q1, w3]
      simp [sub1]
    · obtain ⟨q1, q2⟩ := f2 hbig
      rw [q2]
      simp [hix, q1, w3]
      simp [sub1]
end
end Go.Ab
set_option linter.unusedSimpArgs false
set_option linter.unusedVariables false
set_option maxRecDepth 10000
namespace Go.Ab
open Go Go.RowKit
section
variable {P : Program} {F : Fn}
theorem gtr_cmp (a b : U) : decide (0 < cmpU a b) = decide (b.toNat < a.toNat) := by
  congr 1
  rw [eq_iff_iff]
  unfold cmpU
  constructor
  · intro h
    split at h
    · omega
    · split at h
      · omega
      · rename_i h1 h2
        have : a.toNat ≠ b.toNat := fun e => h2 (BitVec.eq_of_toNat_eq e)
        omega
  · intro h
    rw [if_neg (by omega), if_neg (by rintro rfl; omega)]
    omega
def nextR (b : W32) (took should : Int) (limit : Nat) : V := match nextN b took should limit with | some x => .tup [w32 x, .bool true] | none => .tup [w32 0#32, .bool false]
theorem of64 {n : Nat} (h : n < 18446744073709551616) : (BitVec.ofInt 64 (n : Int)).toNat = n := by
  rw [BitVec.ofInt_natCast, BitVec.toNat_ofNat]; exact Nat.mod_eq_of_lt h
set_option maxHeartbeats 4000000 in
theorem spec138 (ok : OkHead P F) (st : St) (b : W32) (took should : Int) (limit : U) (hr : -9223372036854775808 ≤ took ∧ took ≤ 9223372036854775807) :
    ACalls P (F 138) [w32 b, .int .i64 took, .int .i64 should, nU limit] st fun v st' => v = nextR b took should limit.toNat ∧ st' = st := by
  have okn := ok.toOkNum
  refine shows_call ok.mixed ok.h138 (by simp [k138]) ?_
  simp only [k138, nU]
  simp
  intro i7 h7
  have S := (Sep.start st).new h7 (.cells (eU limit))
  generalize st.upd i7 _ = st1 at S ⊢
  simp
  refine (spec135 ok st1 b).mono ?_
  rintro v st1 ⟨rfl, rfl⟩
  have hsp : ∀ x y : U, spliceV (eU x) 0 (eU y) = eU y := fun _ _ => rfl
  obtain ⟨T0, t1, hT⟩ : ∃ (T0 : U) (t1 : Bool), tgtR b = .tup [nU T0, .bool t1] ∧ (t1 = false → tgt b = none) ∧ (t1 = true → tgt b = some T0.toNat) := by
    unfold tgtR
    cases h : tgt b with
    | none => exact ⟨0#256, false, rfl, fun _ => rfl, fun h => by cases h⟩
    | some t => exact ⟨natU t, true, rfl, fun h => (by cases h), fun _ => (by rw [natU_nat (tgt_lt h).2])⟩
  obtain ⟨hT1, hT2, hT3⟩ := hT
  rw [hT1, eU_zero]
  simp
  intro i10 h10
  have S := S.new h10 (.cells (eU T0))
  have hs10 : ∀ y : U, storeS (st1.upd i10 (.cells (eU 0#256))) 4 (.ptr (some (i10, 0))) (nU y) = some (st1.upd i10 (.cells (eU y))) := fun y => by
    simp [storeS, nU, eU_len, hsp]
  simp [hs10]
  generalize st1.upd i10 _ = st2 at S ⊢
  cases t1 with
  | false =>
    have : nextR b took should limit.toNat = .tup [w32 0#32, .bool false] := by
      rw [nextR, nextN, hT2 rfl]
    simp [this]
    exact S.was' (by simp)
  | true =>
    have htg := hT3 rfl
    by_cases hs1 : should < 1
    · have : nextR b took should limit.toNat = .tup [w32 0#32, .bool false] := by
        rw [nextR, nextN, htg]; simp [hs1]
      simp [this, hs1]
      exact S.was' (by simp)
    by_cases hs2 : 1099511627776 < should
    · have : nextR b took should limit.toNat = .tup [w32 0#32, .bool false] := by
        rw [nextR, nextN, htg]; simp [hs1, hs2]
      simp [this, hs1, hs2]
      exact S.was' (by simp)
    have e : nextR b took should limit.toNat = .tup [w32 (shortN (nextT T0.toNat (clampT took should) should.toNat limit.toNat)), .bool true] := by
      rw [nextR, nextN, htg]; simp [hs1, hs2]
    rw [e]
    have hcl := clampT_le (took := took) (should := should) (by omega) (by omega)
    obtain ⟨tk, htk⟩ : ∃ tk, tk = clampT took should := ⟨_, rfl⟩
    rw [← htk] at hcl ⊢
    obtain ⟨sh, rfl⟩ := Int.eq_ofNat_of_zero_le (show 0 ≤ should by omega)
    have hsh0 : 0 < sh := by omega
    have hshl : sh ≤ 1099511627776 := by omega
    have w4 : IntKind.i64.wrap (4 * (sh : Int)) = 4 * (sh : Int) := wrap64 (by omega) (by omega)
    have w0 : IntKind.i64.wrap ((sh : Int) / 4) = (sh : Int) / 4 := wrap64 (by omega) (by omega)
    have hmn : foldV min2V (.int .i64 took) [.int .i64 (4 * (sh : Int))] = some (.int .i64 (min took (4 * (sh : Int)))) := by
      simp only [foldV, min2V, if_true, Option.bind_some]
      congr 2
      split <;> omega
    have hmx : foldV max2V (.int .i64 ((sh : Int) / 4)) [.int .i64 (min took (4 * (sh : Int)))] = some (.int .i64 (tk : Int)) := by
      simp only [foldV, max2V, if_true, Option.bind_some]
      congr 2
      rw [htk, clampT, Int.tdiv_eq_ediv_of_nonneg (by omega)]
      split <;> omega
    rw [Int.toNat_natCast]
    obtain ⟨TK, hTK⟩ : ∃ TK : W, TK = BitVec.ofInt 64 (tk : Int) := ⟨_, rfl⟩
    have hTKn : TK.toNat = tk := by rw [hTK]; exact of64 (by omega)
    obtain ⟨SH, hSH⟩ : ∃ SH : W, SH = BitVec.ofInt 64 (sh : Int) := ⟨_, rfl⟩
    have hSHn : SH.toNat = sh := by rw [hSH]; exact of64 (by omega)
    have c1 : convV .u64 (.int .i64 (tk : Int)) = some (w64 TK) := by rw [hTK, conv_i_64]
    have c2 : convV .u64 (.int .i64 (sh : Int)) = some (w64 SH) := by rw [hSH, conv_i_64]
    have o10 := S.get
    have o7 := S.mem (i := i7) (o := .cells (eU limit)) (by simp)
    simp [hs1, hs2, w4, w0, hmn, hmx, c1, -conv_i_64, St.seg, o10, segU]
    refine (spec110 okn st2 T0 TK).mono ?_
    rintro v st2 ⟨rfl, rfl⟩
    rw [hTKn]
    simp
    intro i12 h12
    have hs12 : ∀ (s : St) (x y : U), s i12 = some (.cells (eU x)) → storeS s 4 (.ptr (some (i12, 0))) (nU y) = some (s.upd i12 (.cells (eU y))) := fun s x y h => by
      simp [storeS, nU, eU_len, hsp, h]
    have hs10' : ∀ (s : St) (x y : U), s i10 = some (.cells (eU x)) → storeS s 4 (.ptr (some (i10, 0))) (nU y) = some (s.upd i10 (.cells (eU y))) := fun s x y h => by
      simp [storeS, nU, eU_len, hsp, h]
    have S := S.new h12 (.cells (eU (BitVec.ofNat 256 (T0.toNat * tk))))
    have hst := hs12 (st2.upd i12 (.cells (eU 0#256))) 0#256 (BitVec.ofNat 256 (T0.toNat * tk)) (by simp)
    rw [upd_upd] at hst
    simp [hst]
    generalize st2.upd i12 _ = st3 at S ⊢
    by_cases hov : 2 ^ 256 ≤ T0.toNat * tk
    · have e1 : ovU (T0.toNat * tk) = true := decide_eq_true hov
      have hge : ¬ T0.toNat * tk < 2 ^ 256 := by omega
      have o10 := S.mem (i := i10) (o := .cells (eU T0)) (by simp)
      have o12 := S.get
      simp [e1, c1, c2, -conv_i_64, St.seg, o10, segU]
      refine ⟨_, spec105 okn st3 SH, ?_⟩
      have hShU : (SH.setWidth 256 : U).toNat = sh := by
        rw [BitVec.toNat_setWidth, hSHn]; exact Nat.mod_eq_of_lt (by omega)
      have hSh0 : (SH.setWidth 256 : U) ≠ 0#256 := fun e => by rw [e] at hShU; simp at hShU; omega
      simp
      refine ⟨_, spec116 okn st3 T0 (SH.setWidth 256), ?_⟩
      obtain ⟨D, hD⟩ : ∃ D, D = divU T0 (SH.setWidth 256) := ⟨_, rfl⟩
      have hDn : D.toNat = T0.toNat / sh := by
        rw [hD, divU, hShU]
        exact natU_nat (Nat.lt_of_le_of_lt (Nat.div_le_self _ _) T0.isLt)
      have hst := hs12 st3 _ D o12
      simp [hSh0, ← hD, hst]
      have S := S.setAt (.cells (eU D)) 0 rfl
      generalize st3.upd i12 _ = st4 at S ⊢
      have o12 := S.get
      simp [c1, -conv_i_64, St.seg, o12, segU]
      refine (spec110 okn st4 D TK).mono ?_
      rintro v st4 ⟨rfl, rfl⟩
      rw [hTKn]
      obtain ⟨Q, hQ⟩ : ∃ Q : U, Q = BitVec.ofNat 256 (D.toNat * tk) := ⟨_, rfl⟩
      have hst := hs12 st4 _ Q o12
      rw [← hQ]
      simp [hst]
      have S := S.setAt (.cells (eU Q)) 0 rfl
      generalize st4.upd i12 _ = st5 at S ⊢
      have o12 := S.get
      have o7 := S.mem (i := i7) (o := .cells (eU limit)) (by simp)
      by_cases hov2 : 2 ^ 256 ≤ D.toNat * tk
      · have e2 : ovU (D.toNat * tk) = true := decide_eq_true hov2
        have hres : nextT T0.toNat tk sh limit.toNat = limit.toNat := by
          rw [nextT, if_neg hge, ← hDn, if_pos (.inl hov2)]
        simp [e2, St.seg, o7, segU]
        refine (spec136 ok st5 limit).mono ?_
        rintro v st5 ⟨rfl, rfl⟩
        rw [hres]
        simp
        exact S.was' (by simp)
      have e2 : ovU (D.toNat * tk) = false := decide_eq_false hov2
      have hQn : Q.toNat = D.toNat * tk := by rw [hQ]; exact natU_nat (by omega)
      have hQlt : ¬ 2 ^ 256 ≤ Q.toNat := by rw [hQn]; exact hov2
      have hres : nextT T0.toNat tk sh limit.toNat = if 2 ^ 256 ≤ Q.toNat ∨ limit.toNat < Q.toNat then limit.toNat else Q.toNat := by
        rw [nextT, if_neg hge, ← hDn, ← hQn]
      have hst := hs10' st5 _ Q (S.mem (i := i10) (o := .cells (eU T0)) (by simp))
      simp only [nU] at hst
      have n710 := (S.neq (i := i10) (j := i7) 1 2 rfl rfl (by omega)).symm
      simp [e2, St.seg, o12, segU, hst, o7, n710]
      have S := S.setAt (.cells (eU Q)) 1 rfl
      generalize st5.upd i10 _ = st6 at S ⊢
      have o10 := S.mem (i := i10) (o := .cells (eU Q)) (by simp)
      have o7 := S.mem (i := i7) (o := .cells (eU limit)) (by simp)
      try simp [St.seg, o10, o7, segU]
      refine (spec106 okn st6 Q limit).mono ?_
      rintro v st6 ⟨rfl, rfl⟩
      have hgt := gtr_cmp Q limit
      by_cases hl : limit.toNat < Q.toNat
      · rw [decide_eq_true hl] at hgt
        have hst := hs10' st6 Q limit o10
        simp only [nU] at hst
        simp [hgt, St.seg, o7, segU, hst]
        have S := S.setAt (.cells (eU limit)) 1 rfl
        generalize st6.upd i10 _ = st9 at S ⊢
        have o10 := S.mem (i := i10) (o := .cells (eU limit)) (by simp)
        try simp [St.seg, o10, segU]
        refine (spec136 ok st9 limit).mono ?_
        rintro v st9 ⟨rfl, rfl⟩
        rw [hres, if_pos (.inr hl)]
        simp
        exact S.was' (by simp)
      · rw [decide_eq_false hl] at hgt
        simp [hgt, St.seg, o10, segU]
        refine (spec136 ok st6 Q).mono ?_
        rintro v st6 ⟨rfl, rfl⟩
        rw [hres, if_neg (by rintro (h | h); exact hQlt h; exact hl h)]
        simp
        exact S.was' (by simp)
    · have e1 : ovU (T0.toNat * tk) = false := decide_eq_false hov
      have hlt : T0.toNat * tk < 2 ^ 256 := by omega
      have hn : (BitVec.ofNat 256 (T0.toNat * tk)).toNat = T0.toNat * tk := natU_nat hlt
      have o12 := S.get
      simp [e1, c2, -conv_i_64, St.seg, o12, segU]
      refine ⟨_, spec105 okn st3 SH, ?_⟩
      have hShU : (SH.setWidth 256 : U).toNat = sh := by
        rw [BitVec.toNat_setWidth, hSHn]; exact Nat.mod_eq_of_lt (by omega)
      have hSh0 : (SH.setWidth 256 : U) ≠ 0#256 := fun e => by rw [e] at hShU; simp at hShU; omega
      simp
      refine ⟨_, spec116 okn st3 (BitVec.ofNat 256 (T0.toNat * tk)) (SH.setWidth 256), ?_⟩
      simp [hSh0]
      obtain ⟨Q, hQ⟩ : ∃ Q, Q = divU (BitVec.ofNat 256 (T0.toNat * tk)) (SH.setWidth 256) := ⟨_, rfl⟩
      have hQn : Q.toNat = T0.toNat * tk / sh := by
        rw [hQ, divU, hn, hShU]
        exact natU_nat (Nat.lt_of_le_of_lt (Nat.div_le_self _ _) hlt)
      have hQlt : ¬ 2 ^ 256 ≤ Q.toNat := Nat.not_le.2 Q.isLt
      have hres : nextT T0.toNat tk sh limit.toNat = if 2 ^ 256 ≤ Q.toNat ∨ limit.toNat < Q.toNat then limit.toNat else Q.toNat := by
        rw [nextT, if_pos hlt, ← hQn]
      rw [← hQ]
      have hst := hs10' st3 _ Q (S.mem (i := i10) (o := .cells (eU T0)) (by simp))
      simp [hst]
      have S := S.setAt (.cells (eU Q)) 1 rfl
      generalize st3.upd i10 _ = st6 at S ⊢
      have o10 := S.mem (i := i10) (o := .cells (eU Q)) (by simp)
      have o7 := S.mem (i := i7) (o := .cells (eU limit)) (by simp)
      try simp [St.seg, o10, o7, segU]
      refine (spec106 okn st6 Q limit).mono ?_
      rintro v st6 ⟨rfl, rfl⟩
      have hgt := gtr_cmp Q limit
      by_cases hl : limit.toNat < Q.toNat
      · rw [decide_eq_true hl] at hgt
        have hst := hs10' st6 Q limit o10
        simp only [nU] at hst
        simp [hgt, St.seg, o7, segU, hst]
        have S := S.setAt (.cells (eU limit)) 1 rfl
        generalize st6.upd i10 _ = st9 at S ⊢
        have o10 := S.mem (i := i10) (o := .cells (eU limit)) (by simp)
        try simp [St.seg, o10, segU]
        refine (spec136 ok st9 limit).mono ?_
        rintro v st9 ⟨rfl, rfl⟩
        rw [hres, if_pos (.inr hl)]
        simp
        exact S.was' (by simp)
      · rw [decide_eq_false hl] at hgt
        simp [hgt, St.seg, o10, segU]
        refine (spec136 ok st6 Q).mono ?_
        rintro v st6 ⟨rfl, rfl⟩
        rw [hres, if_neg (by rintro (h | h); exact hQlt h; exact hl h)]
        simp
        exact S.was' (by simp)
end
end Go.Ab
set_option linter.unusedVariables false
namespace Go.Ab
open Go
def k130 (F : Fn) : PF := PF.mk 306 1 [(PR.cell 2 true 32)] (.seq (.ops [(PO.mk (some 2) (.alloc zR32_w80) none)]) (.seq (.ops [(PO.mk (some 27) (.call (F 131) []) none), (PO.mk (some 3) (.mv (.t 27)) none)]) (.seq (.ops [(PO.mk (some 28) (.mv (.t 0)) none), (PO.mk (some 29) (.lenStr (.t 28)) none), (PO.mk (some 30) (.conv .u64 (.t 29)) none), (PO.mk (some 31) (.bin .mul (.t 30) (.k (w64 8))) none), (PO.mk (some 4) (.mv (.t 31)) none)]) (.seq (.ops [(PO.mk (some 32) (.mv (.t 0)) none), (PO.mk (some 33) (.bin .add (.t 32) (.k (.str (ByteArray.mk ⟨[128]⟩)))) none), (PO.mk (some 0) (.mv (.t 33)) none)]) (.seq (.block 0 (.loop (.seq (.seq (.ops [(PO.mk (some 34) (.mv (.t 0)) none), (PO.mk (some 35) (.lenStr (.t 34)) none), (PO.mk (some 36) (.bin .rem (.t 35) (.k (.int .i64 64))) none), (PO.mk (some 37) (.bin .neq (.t 36) (.k (.int .i64 56))) none)]) (.cond (.t 37) .skip (.exit 0))) (.block 1 (.ops [(PO.mk (some 38) (.mv (.t 0)) none), (PO.mk (some 39) (.bin .add (.t 38) (.k (.str (ByteArray.mk ⟨[0]⟩)))) none), (PO.mk (some 0) (.mv (.t 39)) none)]))))) (.seq (.ops [(PO.mk (some 5) (.mv (.k (.str (ByteArray.mk ⟨[]⟩)))) none)]) (.seq (.seq (.ops [(PO.mk (some 6) (.mv (.k (.int .i64 0))) none)]) (.block 2 (.loop (.seq (.seq (.ops [(PO.mk (some 40) (.mv (.t 6)) none), (PO.mk (some 41) (.bin .lss (.t 40) (.k (.int .i64 8))) none)]) (.cond (.t 41) .skip (.exit 2))) (.seq (.block 3 (.seq (.ops [(PO.mk (some 44) (.mv (.t 4)) none), (PO.mk (some 45) (.bin .rem (.t 44) (.k (w64 256))) none), (PO.mk (some 46) (.conv .u8 (.t 45)) none), (PO.mk (some 47) (.bsl false 1 1 [(w8 0)] [(0, (1, (.t 46)))]) none), (PO.mk (some 48) (.toStr (.t 47)) none), (PO.mk (some 49) (.mv (.t 5)) none), (PO.mk (some 50) (.bin .add (.t 48) (.t 49)) none), (PO.mk (some 5) (.mv (.t 50)) none)]) (.ops [(PO.mk (some 51) (.mv (.t 4)) none), (PO.mk (some 52) (.bin .quo (.t 51) (.k (w64 256))) none), (PO.mk (some 4) (.mv (.t 52)) none)]))) (.ops [(PO.mk (some 42) (.mv (.t 6)) none), (PO.mk (some 43) (.bin .add (.t 42) (.k (.int .i64 1))) none), (PO.mk (some 6) (.mv (.t 43)) none)])))))) (.seq (.ops [(PO.mk (some 53) (.mv (.t 0)) none), (PO.mk (some 54) (.mv (.t 5)) none), (PO.mk (some 55) (.bin .add (.t 53) (.t 54)) none), (PO.mk (some 0) (.mv (.t 55)) none)]) (.seq (.ops [(PO.mk (some 56) (.bsl true 1 8 [(w32 0)] [(0, (1, (.k (w32 1779033703)))), (1, (1, (.k (w32 3144134277)))), (2, (1, (.k (w32 1013904242)))), (3, (1, (.k (w32 2773480762)))), (4, (1, (.k (w32 1359893119)))), (5, (1, (.k (w32 2600822924)))), (6, (1, (.k (w32 528734635)))), (7, (1, (.k (w32 1541459225))))]) none), (PO.mk (some 7) (.mv (.t 56)) none)]) (.seq (.seq (.ops [(PO.mk (some 8) (.mv (.k (.int .i64 0))) none)]) (.block 4 (.loop (.seq (.seq (.ops [(PO.mk (some 57) (.mv (.t 8)) none), (PO.mk (some 58) (.mv (.t 0)) none), (PO.mk (some 59) (.lenStr (.t 58)) none), (PO.mk (some 60) (.bin .lss (.t 57) (.t 59)) none)]) (.cond (.t 60) .skip (.exit 4))) (.seq (.block 5 (.seq (.ops [(PO.mk (some 9) (.mv (.k (.sl .nil [] 0))) none)]) (.seq (.seq (.ops [(PO.mk (some 10) (.mv (.k (.int .i64 0))) none)]) (.block 6 (.loop (.seq (.seq (.ops [(PO.mk (some 63) (.mv (.t 10)) none), (PO.mk (some 64) (.bin .lss (.t 63) (.k (.int .i64 16))) none)]) (.cond (.t 64) .skip (.exit 6))) (.seq (.block 7 (.seq (.ops [(PO.mk (some 11) (.mv (.k (w32 0))) none)]) (.seq (.seq (.ops [(PO.mk (some 12) (.mv (.k (.int .i64 0))) none)]) (.block 8 (.loop (.seq (.seq (.ops [(PO.mk (some 67) (.mv (.t 12)) none), (PO.mk (some 68) (.bin .lss (.t 67) (.k (.int .i64 4))) none)]) (.cond (.t 68) .skip (.exit 8))) (.seq (.block 9 (.ops [(PO.mk (some 71) (.mv (.t 11)) none), (PO.mk (some 72) (.bin .mul (.t 71) (.k (w32 256))) none), (PO.mk (some 73) (.mv (.t 0)) none), (PO.mk (some 74) (.mv (.t 8)) none), (PO.mk (some 75) (.mv (.t 10)) none), (PO.mk (some 76) (.bin .mul (.k (.int .i64 4)) (.t 75)) none), (PO.mk (some 77) (.bin .add (.t 74) (.t 76)) none), (PO.mk (some 78) (.mv (.t 12)) none), (PO.mk (some 79) (.bin .add (.t 77) (.t 78)) none), (PO.mk (some 80) (.idxStr (.t 73) (.t 79)) none), (PO.mk (some 81) (.conv .u32 (.t 80)) none), (PO.mk (some 82) (.bin .add (.t 72) (.t 81)) none), (PO.mk (some 11) (.mv (.t 82)) none)])) (.ops [(PO.mk (some 69) (.mv (.t 12)) none), (PO.mk (some 70) (.bin .add (.t 69) (.k (.int .i64 1))) none), (PO.mk (some 12) (.mv (.t 70)) none)])))))) (.ops [(PO.mk (some 83) (.mv (.t 9)) none), (PO.mk (some 84) (.mv (.t 11)) none), (PO.mk (some 85) (.bsl false 1 1 [(w32 0)] [(0, (1, (.t 84)))]) none), (PO.mk (some 86) (.app 1 4 (.t 83) (.t 85)) none), (PO.mk (some 9) (.mv (.t 86)) none)])))) (.ops [(PO.mk (some 65) (.mv (.t 10)) none), (PO.mk (some 66) (.bin .add (.t 65) (.k (.int .i64 1))) none), (PO.mk (some 10) (.mv (.t 66)) none)])))))) (.seq (.seq (.ops [(PO.mk (some 13) (.mv (.k (.int .i64 16))) none)]) (.block 10 (.loop (.seq (.seq (.ops [(PO.mk (some 87) (.mv (.t 13)) none), (PO.mk (some 88) (.bin .lss (.t 87) (.k (.int .i64 64))) none)]) (.cond (.t 88) .skip (.exit 10))) (.seq (.block 11 (.seq (.draw [(.e, (PO.mk (some 91) (.mv (.t 9)) none)), (.e, (PO.mk (some 92) (.mv (.t 13)) none)), (.e, (PO.mk (some 93) (.bin .sub (.t 92) (.k (.int .i64 15))) none)), (.e, (PO.mk (some 94) (.idxSl 1 (.t 91) (.t 93)) none)), (.e, (PO.mk (some 97) (.mv (.t 9)) none)), (.e, (PO.mk (some 98) (.mv (.t 13)) none)), (.e, (PO.mk (some 99) (.bin .sub (.t 98) (.k (.int .i64 15))) none)), (.e, (PO.mk (some 100) (.idxSl 1 (.t 97) (.t 99)) none)), (.e, (PO.mk (some 104) (.mv (.t 9)) none)), (.e, (PO.mk (some 105) (.mv (.t 13)) none)), (.e, (PO.mk (some 106) (.bin .sub (.t 105) (.k (.int .i64 15))) none)), (.e, (PO.mk (some 107) (.idxSl 1 (.t 104) (.t 106)) none)), (.s, (PO.mk (some 95) (.load false 1 (.t 94)) none)), (.s, (PO.mk (some 96) (.call (F 132) [(.t 95), (.k (.int .i64 7))]) none)), (.s, (PO.mk (some 101) (.load false 1 (.t 100)) none)), (.s, (PO.mk (some 102) (.call (F 132) [(.t 101), (.k (.int .i64 18))]) none)), (.e, (PO.mk (some 103) (.bin .xor (.t 96) (.t 102)) none)), (.s, (PO.mk (some 108) (.load false 1 (.t 107)) none)), (.s, (PO.mk (some 109) (.call (F 133) [(.t 108), (.k (.int .i64 3))]) none)), (.e, (PO.mk (some 110) (.bin .xor (.t 103) (.t 109)) none)), (.e, (PO.mk (some 14) (.mv (.t 110)) none))]) (.seq (.draw [(.e, (PO.mk (some 111) (.mv (.t 9)) none)), (.e, (PO.mk (some 112) (.mv (.t 13)) none)), (.e, (PO.mk (some 113) (.bin .sub (.t 112) (.k (.int .i64 2))) none)), (.e, (PO.mk (some 114) (.idxSl 1 (.t 111) (.t 113)) none)), (.e, (PO.mk (some 117) (.mv (.t 9)) none)), (.e, (PO.mk (some 118) (.mv (.t 13)) none)), (.e, (PO.mk (some 119) (.bin .sub (.t 118) (.k (.int .i64 2))) none)), (.e, (PO.mk (some 120) (.idxSl 1 (.t 117) (.t 119)) none)), (.e, (PO.mk (some 124) (.mv (.t 9)) none)), (.e, (PO.mk (some 125) (.mv (.t 13)) none)), (.e, (PO.mk (some 126) (.bin .sub (.t 125) (.k (.int .i64 2))) none)), (.e, (PO.mk (some 127) (.idxSl 1 (.t 124) (.t 126)) none)), (.s, (PO.mk (some 115) (.load false 1 (.t 114)) none)), (.s, (PO.mk (some 116) (.call (F 132) [(.t 115), (.k (.int .i64 17))]) none)), (.s, (PO.mk (some 121) (.load false 1 (.t 120)) none)), (.s, (PO.mk (some 122) (.call (F 132) [(.t 121), (.k (.int .i64 19))]) none)), (.e, (PO.mk (some 123) (.bin .xor (.t 116) (.t 122)) none)), (.s, (PO.mk (some 128) (.load false 1 (.t 127)) none)), (.s, (PO.mk (some 129) (.call (F 133) [(.t 128), (.k (.int .i64 10))]) none)), (.e, (PO.mk (some 130) (.bin .xor (.t 123) (.t 129)) none)), (.e, (PO.mk (some 15) (.mv (.t 130)) none))]) (.draw [(.e, (PO.mk (some 131) (.mv (.t 9)) none)), (.e, (PO.mk (some 132) (.mv (.t 9)) none)), (.e, (PO.mk (some 133) (.mv (.t 13)) none)), (.e, (PO.mk (some 134) (.bin .sub (.t 133) (.k (.int .i64 16))) none)), (.e, (PO.mk (some 135) (.idxSl 1 (.t 132) (.t 134)) none)), (.e, (PO.mk (some 137) (.mv (.t 14)) none)), (.e, (PO.mk (some 139) (.mv (.t 9)) none)), (.e, (PO.mk (some 140) (.mv (.t 13)) none)), (.e, (PO.mk (some 141) (.bin .sub (.t 140) (.k (.int .i64 7))) none)), (.e, (PO.mk (some 142) (.idxSl 1 (.t 139) (.t 141)) none)), (.e, (PO.mk (some 145) (.mv (.t 15)) none)), (.s, (PO.mk (some 136) (.load false 1 (.t 135)) none)), (.e, (PO.mk (some 138) (.bin .add (.t 136) (.t 137)) none)), (.s, (PO.mk (some 143) (.load false 1 (.t 142)) none)), (.e, (PO.mk (some 144) (.bin .add (.t 138) (.t 143)) none)), (.e, (PO.mk (some 146) (.bin .add (.t 144) (.t 145)) none)), (.e, (PO.mk (some 147) (.bsl false 1 1 [(w32 0)] [(0, (1, (.t 146)))]) none)), (.x, (PO.mk (some 148) (.app 1 4 (.t 131) (.t 147)) none)), (.e, (PO.mk (some 9) (.mv (.t 148)) none))])))) (.ops [(PO.mk (some 89) (.mv (.t 13)) none), (PO.mk (some 90) (.bin .add (.t 89) (.k (.int .i64 1))) none), (PO.mk (some 13) (.mv (.t 90)) none)])))))) (.seq (.ops [(PO.mk (some 149) (.bsl false 1 0 [(w32 0)] []) none), (PO.mk (some 150) (.mv (.t 7)) none), (PO.mk (some 151) (.app 1 4 (.t 149) (.t 150)) none), (PO.mk (some 16) (.mv (.t 151)) none)]) (.seq (.seq (.ops [(PO.mk (some 17) (.mv (.k (.int .i64 0))) none)]) (.block 12 (.loop (.seq (.seq (.ops [(PO.mk (some 152) (.mv (.t 17)) none), (PO.mk (some 153) (.bin .lss (.t 152) (.k (.int .i64 64))) none)]) (.cond (.t 153) .skip (.exit 12))) (.seq (.block 13 (.seq (.draw [(.e, (PO.mk (some 156) (.mv (.t 16)) none)), (.e, (PO.mk (some 157) (.idxSl 1 (.t 156) (.k (.int .i64 4))) none)), (.e, (PO.mk (some 160) (.mv (.t 16)) none)), (.e, (PO.mk (some 161) (.idxSl 1 (.t 160) (.k (.int .i64 4))) none)), (.e, (PO.mk (some 165) (.mv (.t 16)) none)), (.e, (PO.mk (some 166) (.idxSl 1 (.t 165) (.k (.int .i64 4))) none)), (.s, (PO.mk (some 158) (.load false 1 (.t 157)) none)), (.s, (PO.mk (some 159) (.call (F 132) [(.t 158), (.k (.int .i64 6))]) none)), (.s, (PO.mk (some 162) (.load false 1 (.t 161)) none)), (.s, (PO.mk (some 163) (.call (F 132) [(.t 162), (.k (.int .i64 11))]) none)), (.e, (PO.mk (some 164) (.bin .xor (.t 159) (.t 163)) none)), (.s, (PO.mk (some 167) (.load false 1 (.t 166)) none)), (.s, (PO.mk (some 168) (.call (F 132) [(.t 167), (.k (.int .i64 25))]) none)), (.e, (PO.mk (some 169) (.bin .xor (.t 164) (.t 168)) none)), (.e, (PO.mk (some 18) (.mv (.t 169)) none))]) (.seq (.draw [(.e, (PO.mk (some 170) (.mv (.t 16)) none)), (.e, (PO.mk (some 171) (.idxSl 1 (.t 170) (.k (.int .i64 7))) none)), (.e, (PO.mk (some 173) (.mv (.t 18)) none)), (.e, (PO.mk (some 175) (.mv (.t 16)) none)), (.e, (PO.mk (some 176) (.idxSl 1 (.t 175) (.k (.int .i64 4))) none)), (.e, (PO.mk (some 178) (.mv (.t 16)) none)), (.e, (PO.mk (some 179) (.idxSl 1 (.t 178) (.k (.int .i64 5))) none)), (.e, (PO.mk (some 182) (.mv (.t 16)) none)), (.e, (PO.mk (some 183) (.idxSl 1 (.t 182) (.k (.int .i64 4))) none)), (.e, (PO.mk (some 186) (.mv (.t 16)) none)), (.e, (PO.mk (some 187) (.idxSl 1 (.t 186) (.k (.int .i64 6))) none)), (.e, (PO.mk (some 192) (.mv (.t 3)) none)), (.e, (PO.mk (some 193) (.mv (.t 17)) none)), (.e, (PO.mk (some 194) (.idxSl 1 (.t 192) (.t 193)) none)), (.e, (PO.mk (some 197) (.mv (.t 9)) none)), (.e, (PO.mk (some 198) (.mv (.t 17)) none)), (.e, (PO.mk (some 199) (.idxSl 1 (.t 197) (.t 198)) none)), (.s, (PO.mk (some 172) (.load false 1 (.t 171)) none)), (.e, (PO.mk (some 174) (.bin .add (.t 172) (.t 173)) none)), (.s, (PO.mk (some 177) (.load false 1 (.t 176)) none)), (.s, (PO.mk (some 180) (.load false 1 (.t 179)) none)), (.e, (PO.mk (some 181) (.bin .and (.t 177) (.t 180)) none)), (.s, (PO.mk (some 184) (.load false 1 (.t 183)) none)), (.e, (PO.mk (some 185) (.bin .sub (.k (w32 4294967295)) (.t 184)) none)), (.s, (PO.mk (some 188) (.load false 1 (.t 187)) none)), (.e, (PO.mk (some 189) (.bin .and (.t 185) (.t 188)) none)), (.e, (PO.mk (some 190) (.bin .xor (.t 181) (.t 189)) none)), (.e, (PO.mk (some 191) (.bin .add (.t 174) (.t 190)) none)), (.s, (PO.mk (some 195) (.load false 1 (.t 194)) none)), (.e, (PO.mk (some 196) (.bin .add (.t 191) (.t 195)) none)), (.s, (PO.mk (some 200) (.load false 1 (.t 199)) none)), (.e, (PO.mk (some 201) (.bin .add (.t 196) (.t 200)) none)), (.e, (PO.mk (some 19) (.mv (.t 201)) none))]) (.seq (.draw [(.e, (PO.mk (some 202) (.mv (.t 16)) none)), (.e, (PO.mk (some 203) (.idxSl 1 (.t 202) (.k (.int .i64 0))) none)), (.e, (PO.mk (some 206) (.mv (.t 16)) none)), (.e, (PO.mk (some 207) (.idxSl 1 (.t 206) (.k (.int .i64 0))) none)), (.e, (PO.mk (some 211) (.mv (.t 16)) none)), (.e, (PO.mk (some 212) (.idxSl 1 (.t 211) (.k (.int .i64 0))) none)), (.s, (PO.mk (some 204) (.load false 1 (.t 203)) none)), (.s, (PO.mk (some 205) (.call (F 132) [(.t 204), (.k (.int .i64 2))]) none)), (.s, (PO.mk (some 208) (.load false 1 (.t 207)) none)), (.s, (PO.mk (some 209) (.call (F 132) [(.t 208), (.k (.int .i64 13))]) none)), (.e, (PO.mk (some 210) (.bin .xor (.t 205) (.t 209)) none)), (.s, (PO.mk (some 213) (.load false 1 (.t 212)) none)), (.s, (PO.mk (some 214) (.call (F 132) [(.t 213), (.k (.int .i64 22))]) none)), (.e, (PO.mk (some 215) (.bin .xor (.t 210) (.t 214)) none)), (.e, (PO.mk (some 20) (.mv (.t 215)) none))]) (.seq (.draw [(.e, (PO.mk (some 216) (.mv (.t 20)) none)), (.e, (PO.mk (some 217) (.mv (.t 16)) none)), (.e, (PO.mk (some 218) (.idxSl 1 (.t 217) (.k (.int .i64 0))) none)), (.e, (PO.mk (some 220) (.mv (.t 16)) none)), (.e, (PO.mk (some 221) (.idxSl 1 (.t 220) (.k (.int .i64 1))) none)), (.e, (PO.mk (some 224) (.mv (.t 16)) none)), (.e, (PO.mk (some 225) (.idxSl 1 (.t 224) (.k (.int .i64 0))) none)), (.e, (PO.mk (some 227) (.mv (.t 16)) none)), (.e, (PO.mk (some 228) (.idxSl 1 (.t 227) (.k (.int .i64 2))) none)), (.e, (PO.mk (some 232) (.mv (.t 16)) none)), (.e, (PO.mk (some 233) (.idxSl 1 (.t 232) (.k (.int .i64 1))) none)), (.e, (PO.mk (some 235) (.mv (.t 16)) none)), (.e, (PO.mk (some 236) (.idxSl 1 (.t 235) (.k (.int .i64 2))) none)), (.s, (PO.mk (some 219) (.load false 1 (.t 218)) none)), (.s, (PO.mk (some 222) (.load false 1 (.t 221)) none)), (.e, (PO.mk (some 223) (.bin .and (.t 219) (.t 222)) none)), (.s, (PO.mk (some 226) (.load false 1 (.t 225)) none)), (.s, (PO.mk (some 229) (.load false 1 (.t 228)) none)), (.e, (PO.mk (some 230) (.bin .and (.t 226) (.t 229)) none)), (.e, (PO.mk (some 231) (.bin .xor (.t 223) (.t 230)) none)), (.s, (PO.mk (some 234) (.load false 1 (.t 233)) none)), (.s, (PO.mk (some 237) (.load false 1 (.t 236)) none)), (.e, (PO.mk (some 238) (.bin .and (.t 234) (.t 237)) none)), (.e, (PO.mk (some 239) (.bin .xor (.t 231) (.t 238)) none)), (.e, (PO.mk (some 240) (.bin .add (.t 216) (.t 239)) none)), (.e, (PO.mk (some 21) (.mv (.t 240)) none))]) (.draw [(.e, (PO.mk (some 241) (.mv (.t 19)) none)), (.e, (PO.mk (some 242) (.mv (.t 21)) none)), (.e, (PO.mk (some 243) (.bin .add (.t 241) (.t 242)) none)), (.e, (PO.mk (some 244) (.mv (.t 16)) none)), (.e, (PO.mk (some 245) (.idxSl 1 (.t 244) (.k (.int .i64 0))) none)), (.e, (PO.mk (some 247) (.mv (.t 16)) none)), (.e, (PO.mk (some 248) (.idxSl 1 (.t 247) (.k (.int .i64 1))) none)), (.e, (PO.mk (some 250) (.mv (.t 16)) none)), (.e, (PO.mk (some 251) (.idxSl 1 (.t 250) (.k (.int .i64 2))) none)), (.e, (PO.mk (some 253) (.mv (.t 16)) none)), (.e, (PO.mk (some 254) (.idxSl 1 (.t 253) (.k (.int .i64 3))) none)), (.e, (PO.mk (some 256) (.mv (.t 19)) none)), (.e, (PO.mk (some 258) (.mv (.t 16)) none)), (.e, (PO.mk (some 259) (.idxSl 1 (.t 258) (.k (.int .i64 4))) none)), (.e, (PO.mk (some 261) (.mv (.t 16)) none)), (.e, (PO.mk (some 262) (.idxSl 1 (.t 261) (.k (.int .i64 5))) none)), (.e, (PO.mk (some 264) (.mv (.t 16)) none)), (.e, (PO.mk (some 265) (.idxSl 1 (.t 264) (.k (.int .i64 6))) none)), (.s, (PO.mk (some 246) (.load false 1 (.t 245)) none)), (.s, (PO.mk (some 249) (.load false 1 (.t 248)) none)), (.s, (PO.mk (some 252) (.load false 1 (.t 251)) none)), (.s, (PO.mk (some 255) (.load false 1 (.t 254)) none)), (.e, (PO.mk (some 257) (.bin .add (.t 255) (.t 256)) none)), (.s, (PO.mk (some 260) (.load false 1 (.t 259)) none)), (.s, (PO.mk (some 263) (.load false 1 (.t 262)) none)), (.s, (PO.mk (some 266) (.load false 1 (.t 265)) none)), (.e, (PO.mk (some 267) (.bsl false 1 8 [(w32 0)] [(0, (1, (.t 243))), (1, (1, (.t 246))), (2, (1, (.t 249))), (3, (1, (.t 252))), (4, (1, (.t 257))), (5, (1, (.t 260))), (6, (1, (.t 263))), (7, (1, (.t 266)))]) none)), (.e, (PO.mk (some 16) (.mv (.t 267)) none))])))))) (.ops [(PO.mk (some 154) (.mv (.t 17)) none), (PO.mk (some 155) (.bin .add (.t 154) (.k (.int .i64 1))) none), (PO.mk (some 17) (.mv (.t 155)) none)])))))) (.seq (.ops [(PO.mk (some 22) (.mv (.k (.int .i64 0))) none)]) (.block 14 (.loop (.seq (.seq (.ops [(PO.mk (some 268) (.mv (.t 22)) none), (PO.mk (some 269) (.bin .lss (.t 268) (.k (.int .i64 8))) none)]) (.cond (.t 269) .skip (.exit 14))) (.seq (.block 15 (.draw [(.e, (PO.mk (some 272) (.mv (.t 7)) none)), (.e, (PO.mk (some 273) (.mv (.t 22)) none)), (.e, (PO.mk (some 274) (.idxSl 1 (.t 272) (.t 273)) none)), (.e, (PO.mk (some 276) (.mv (.t 16)) none)), (.e, (PO.mk (some 277) (.mv (.t 22)) none)), (.e, (PO.mk (some 278) (.idxSl 1 (.t 276) (.t 277)) none)), (.s, (PO.mk (some 275) (.load false 1 (.t 274)) none)), (.s, (PO.mk (some 279) (.load false 1 (.t 278)) none)), (.e, (PO.mk (some 280) (.bin .add (.t 275) (.t 279)) none)), (.e, (PO.mk (some 281) (.idxSl 1 (.t 272) (.t 273)) none)), (.x, (PO.mk none (.store 1 (.t 281) (.t 280)) none))])) (.ops [(PO.mk (some 270) (.mv (.t 22)) none), (PO.mk (some 271) (.bin .add (.t 270) (.k (.int .i64 1))) none), (PO.mk (some 22) (.mv (.t 271)) none)])))))))))))) (.ops [(PO.mk (some 61) (.mv (.t 8)) none), (PO.mk (some 62) (.bin .add (.t 61) (.k (.int .i64 64))) none), (PO.mk (some 8) (.mv (.t 62)) none)])))))) (.seq (.ops [(PO.mk (some 282) (.build zR32_w80 []) none), (PO.mk (some 23) (.alloc zR32_w80) none), (PO.mk none (.store 32 (.t 23) (.t 282)) none)]) (.seq (.seq (.ops [(PO.mk (some 24) (.mv (.k (.int .i64 0))) none)]) (.block 16 (.loop (.seq (.seq (.ops [(PO.mk (some 283) (.mv (.t 24)) none), (PO.mk (some 284) (.bin .lss (.t 283) (.k (.int .i64 8))) none)]) (.cond (.t 284) .skip (.exit 16))) (.seq (.block 17 (.seq (.ops [(PO.mk (some 287) (.mv (.t 7)) none), (PO.mk (some 288) (.mv (.t 24)) none), (PO.mk (some 289) (.idxSl 1 (.t 287) (.t 288)) none), (PO.mk (some 290) (.load false 1 (.t 289)) none), (PO.mk (some 25) (.mv (.t 290)) none)]) (.seq (.ops [(PO.mk (some 26) (.mv (.k (.int .i64 3))) none)]) (.block 18 (.loop (.seq (.seq (.ops [(PO.mk (some 291) (.mv (.t 26)) none), (PO.mk (some 292) (.bin .geq (.t 291) (.k (.int .i64 0))) none)]) (.cond (.t 292) .skip (.exit 18))) (.seq (.block 19 (.seq (.ops [(PO.mk (some 295) (.mv (.t 24)) none), (PO.mk (some 296) (.bin .mul (.k (.int .i64 4)) (.t 295)) none), (PO.mk (some 297) (.mv (.t 26)) none), (PO.mk (some 298) (.bin .add (.t 296) (.t 297)) none), (PO.mk (some 299) (.mv (.t 25)) none), (PO.mk (some 300) (.bin .rem (.t 299) (.k (w32 256))) none), (PO.mk (some 301) (.conv .u8 (.t 300)) none), (PO.mk (some 302) (.idxArr 32 1 (.t 23) (.t 298)) none), (PO.mk none (.store 1 (.t 302) (.t 301)) none)]) (.ops [(PO.mk (some 303) (.mv (.t 25)) none), (PO.mk (some 304) (.bin .quo (.t 303) (.k (w32 256))) none), (PO.mk (some 25) (.mv (.t 304)) none)]))) (.ops [(PO.mk (some 293) (.mv (.t 26)) none), (PO.mk (some 294) (.bin .sub (.t 293) (.k (.int .i64 1))) none), (PO.mk (some 26) (.mv (.t 294)) none)])))))))) (.ops [(PO.mk (some 285) (.mv (.t 24)) none), (PO.mk (some 286) (.bin .add (.t 285) (.k (.int .i64 1))) none), (PO.mk (some 24) (.mv (.t 286)) none)])))))) (.seq (.ops [(PO.mk (some 305) (.load true 32 (.t 23)) none), (PO.mk none (.store 32 (.t 2) (.t 305)) none)]) .ret)))))))))))))
def k134 (F : Fn) : PF := PF.mk 9 1 [(PR.cell 2 true 32)] (.seq (.ops [(PO.mk (some 2) (.alloc zR32_w80) none)]) (.seq (.ops [(PO.mk (some 4) (.mv (.t 0)) none), (PO.mk (some 5) (.call (F 130) [(.t 4)]) none), (PO.mk (some 3) (.alloc zR32_w80) none), (PO.mk none (.store 32 (.t 3) (.t 5)) none)]) (.seq (.seq (.frz [3]) (.ops [(PO.mk (some 6) (.slArr false 32 1 (.t 3) none none) none), (PO.mk (some 7) (.toStr (.t 6)) none), (PO.mk (some 8) (.call (F 130) [(.t 7)]) none), (PO.mk none (.store 32 (.t 2) (.t 8)) none)])) .ret)))
def k131 (F : Fn) : PF := PF.mk 2 0 [(.t 0)] (.seq (.ops [(PO.mk (some 0) (.mv (.k (.sl .nil [] 0))) none)]) (.seq (.ops [(PO.mk (some 1) (.bsl false 1 64 [(w32 0)] [(0, (1, (.k (w32 1116352408)))), (1, (1, (.k (w32 1899447441)))), (2, (1, (.k (w32 3049323471)))), (3, (1, (.k (w32 3921009573)))), (4, (1, (.k (w32 961987163)))), (5, (1, (.k (w32 1508970993)))), (6, (1, (.k (w32 2453635748)))), (7, (1, (.k (w32 2870763221)))), (8, (1, (.k (w32 3624381080)))), (9, (1, (.k (w32 310598401)))), (10, (1, (.k (w32 607225278)))), (11, (1, (.k (w32 1426881987)))), (12, (1, (.k (w32 1925078388)))), (13, (1, (.k (w32 2162078206)))), (14, (1, (.k (w32 2614888103)))), (15, (1, (.k (w32 3248222580)))), (16, (1, (.k (w32 3835390401)))), (17, (1, (.k (w32 4022224774)))), (18, (1, (.k (w32 264347078)))), (19, (1, (.k (w32 604807628)))), (20, (1, (.k (w32 770255983)))), (21, (1, (.k (w32 1249150122)))), (22, (1, (.k (w32 1555081692)))), (23, (1, (.k (w32 1996064986)))), (24, (1, (.k (w32 2554220882)))), (25, (1, (.k (w32 2821834349)))), (26, (1, (.k (w32 2952996808)))), (27, (1, (.k (w32 3210313671)))), (28, (1, (.k (w32 3336571891)))), (29, (1, (.k (w32 3584528711)))), (30, (1, (.k (w32 113926993)))), (31, (1, (.k (w32 338241895)))), (32, (1, (.k (w32 666307205)))), (33, (1, (.k (w32 773529912)))), (34, (1, (.k (w32 1294757372)))), (35, (1, (.k (w32 1396182291)))), (36, (1, (.k (w32 1695183700)))), (37, (1, (.k (w32 1986661051)))), (38, (1, (.k (w32 2177026350)))), (39, (1, (.k (w32 2456956037)))), (40, (1, (.k (w32 2730485921)))), (41, (1, (.k (w32 2820302411)))), (42, (1, (.k (w32 3259730800)))), (43, (1, (.k (w32 3345764771)))), (44, (1, (.k (w32 3516065817)))), (45, (1, (.k (w32 3600352804)))), (46, (1, (.k (w32 4094571909)))), (47, (1, (.k (w32 275423344)))), (48, (1, (.k (w32 430227734)))), (49, (1, (.k (w32 506948616)))), (50, (1, (.k (w32 659060556)))), (51, (1, (.k (w32 883997877)))), (52, (1, (.k (w32 958139571)))), (53, (1, (.k (w32 1322822218)))), (54, (1, (.k (w32 1537002063)))), (55, (1, (.k (w32 1747873779)))), (56, (1, (.k (w32 1955562222)))), (57, (1, (.k (w32 2024104815)))), (58, (1, (.k (w32 2227730452)))), (59, (1, (.k (w32 2361852424)))), (60, (1, (.k (w32 2428436474)))), (61, (1, (.k (w32 2756734187)))), (62, (1, (.k (w32 3204031479)))), (63, (1, (.k (w32 3329325298))))]) none), (PO.mk (some 0) (.mv (.t 1)) none)]) .ret))
def k132 (F : Fn) : PF := PF.mk 21 2 [(.t 4)] (.seq (.ops [(PO.mk (some 4) (.mv (.k (w32 0))) none)]) (.seq (.seq (.ops [(PO.mk (some 5) (.mv (.k (.int .i64 0))) none)]) (.block 0 (.loop (.seq (.seq (.ops [(PO.mk (some 7) (.mv (.t 5)) none), (PO.mk (some 8) (.mv (.t 1)) none), (PO.mk (some 9) (.bin .lss (.t 7) (.t 8)) none)]) (.cond (.t 9) .skip (.exit 0))) (.seq (.block 1 (.seq (.ops [(PO.mk (some 12) (.mv (.t 0)) none), (PO.mk (some 13) (.bin .rem (.t 12) (.k (w32 2))) none), (PO.mk (some 6) (.mv (.t 13)) none)]) (.seq (.ops [(PO.mk (some 14) (.mv (.t 0)) none), (PO.mk (some 15) (.bin .quo (.t 14) (.k (w32 2))) none), (PO.mk (some 0) (.mv (.t 15)) none)]) (.ops [(PO.mk (some 16) (.mv (.t 0)) none), (PO.mk (some 17) (.mv (.t 6)) none), (PO.mk (some 18) (.bin .mul (.t 17) (.k (w32 2147483648))) none), (PO.mk (some 19) (.bin .add (.t 16) (.t 18)) none), (PO.mk (some 0) (.mv (.t 19)) none)])))) (.ops [(PO.mk (some 10) (.mv (.t 5)) none), (PO.mk (some 11) (.bin .add (.t 10) (.k (.int .i64 1))) none), (PO.mk (some 5) (.mv (.t 11)) none)])))))) (.seq (.ops [(PO.mk (some 20) (.mv (.t 0)) none), (PO.mk (some 4) (.mv (.t 20)) none)]) .ret)))
def k133 (F : Fn) : PF := PF.mk 14 2 [(.t 4)] (.seq (.ops [(PO.mk (some 4) (.mv (.k (w32 0))) none)]) (.seq (.seq (.ops [(PO.mk (some 5) (.mv (.k (.int .i64 0))) none)]) (.block 0 (.loop (.seq (.seq (.ops [(PO.mk (some 6) (.mv (.t 5)) none), (PO.mk (some 7) (.mv (.t 1)) none), (PO.mk (some 8) (.bin .lss (.t 6) (.t 7)) none)]) (.cond (.t 8) .skip (.exit 0))) (.seq (.block 1 (.ops [(PO.mk (some 11) (.mv (.t 0)) none), (PO.mk (some 12) (.bin .quo (.t 11) (.k (w32 2))) none), (PO.mk (some 0) (.mv (.t 12)) none)])) (.ops [(PO.mk (some 9) (.mv (.t 5)) none), (PO.mk (some 10) (.bin .add (.t 9) (.k (.int .i64 1))) none), (PO.mk (some 5) (.mv (.t 10)) none)])))))) (.seq (.ops [(PO.mk (some 13) (.mv (.t 0)) none), (PO.mk (some 4) (.mv (.t 13)) none)]) .ret)))
structure OkRef01 (P : Program) (F : Fn) : Prop where
  mixed : P.follows .mixedOrders = true
  h130 : compFn P ⟨[56], [], [], [], []⟩ (F 130) = some (k130 F)
  h134 : compFn P ⟨[], [], [(2, [3])], [], []⟩ (F 134) = some (k134 F)
  h131 : compFn P ⟨[], [], [], [], []⟩ (F 131) = some (k131 F)
  h132 : compFn P ⟨[], [], [], [], []⟩ (F 132) = some (k132 F)
  h133 : compFn P ⟨[], [], [], [], []⟩ (F 133) = some (k133 F)
end Go.Ab
set_option linter.unusedVariables false
namespace Go.Ab
open Go
def k144 (F : Fn) : PF := PF.mk 6 1 [(.t 2)] (.seq (.ops [(PO.mk (some 2) (.mv (.k (.sl .nil [] 0))) none)]) (.seq (.ops [(PO.mk (some 3) (.mv (.t 0)) none), (PO.mk (some 4) (.build [(w64 0), (w64 0), (w64 0), (w64 0)] [(0, (1, (.t 3))), (1, (1, (.k (w64 0)))), (2, (1, (.k (w64 0)))), (3, (1, (.k (w64 0))))]) none), (PO.mk (some 5) (.call (F 121) [(.t 4)]) none), (PO.mk (some 2) (.mv (.t 5)) none)]) .ret))
def k145 (F : Fn) : PF := PF.mk 19 1 [(.t 2)] (.seq (.ops [(PO.mk (some 2) (.mv (.k (.int .i64 0))) none)]) (.seq (.ops [(PO.mk (some 4) (.mv (.t 0)) none), (PO.mk (some 5) (.lenSl (.t 4)) none), (PO.mk (some 3) (.mv (.t 5)) none)]) (.seq (.block 0 (.loop (.seq (.seq (.ops [(PO.mk (some 6) (.mv (.t 3)) none), (PO.mk (some 7) (.bin .gtr (.t 6) (.k (.int .i64 0))) none), (PO.mk (some 8) (.mv (.t 7)) none), (PO.mk (some 9) (.mv (.t 0)) (some (8, true))), (PO.mk (some 10) (.mv (.t 3)) (some (8, true))), (PO.mk (some 11) (.bin .sub (.t 10) (.k (.int .i64 1))) (some (8, true))), (PO.mk (some 12) (.idxSl 1 (.t 9) (.t 11)) (some (8, true))), (PO.mk (some 13) (.load false 1 (.t 12)) (some (8, true))), (PO.mk (some 14) (.not (.t 13)) (some (8, true))), (PO.mk (some 15) (.pick (.t 8) (.t 14) (.k (.bool false))) none)]) (.cond (.t 15) .skip (.exit 0))) (.block 1 (.ops [(PO.mk (some 16) (.mv (.t 3)) none), (PO.mk (some 17) (.bin .sub (.t 16) (.k (.int .i64 1))) none), (PO.mk (some 3) (.mv (.t 17)) none)]))))) (.seq (.ops [(PO.mk (some 18) (.mv (.t 3)) none), (PO.mk (some 2) (.mv (.t 18)) none)]) .ret))))
def k146 (F : Fn) : PF := PF.mk 34 1 [(.t 2), (.t 3)] (.seq (.ops [(PO.mk (some 2) (.mv (.k (.sl .nil [] 0))) none), (PO.mk (some 3) (.mv (.k (.bool false))) none)]) (.seq (.ops [(PO.mk (some 7) (.mv (.t 0)) none), (PO.mk (some 8) (.bin .quo (.t 7) (.k (w32 16777216))) none), (PO.mk (some 9) (.conv .i64 (.t 8)) none), (PO.mk (some 4) (.mv (.t 9)) none)]) (.seq (.ops [(PO.mk (some 10) (.mv (.t 0)) none), (PO.mk (some 11) (.bin .rem (.t 10) (.k (w32 16777216))) none), (PO.mk (some 12) (.conv .u64 (.t 11)) none), (PO.mk (some 5) (.mv (.t 12)) none)]) (.seq (.seq (.ops [(PO.mk (some 13) (.mv (.t 5)) none), (PO.mk (some 14) (.bin .geq (.t 13) (.k (w64 8388608))) none), (PO.mk (some 15) (.mv (.t 14)) none), (PO.mk (some 16) (.mv (.t 5)) (some (15, false))), (PO.mk (some 17) (.bin .eql (.t 16) (.k (w64 0))) (some (15, false))), (PO.mk (some 18) (.pick (.t 15) (.k (.bool true)) (.t 17)) none)]) (.cond (.t 18) (.seq (.ops [(PO.mk (some 2) (.mv (.k (.sl .nil [] 0))) none), (PO.mk (some 3) (.mv (.k (.bool false))) none)]) .ret) .skip)) (.seq (.ops [(PO.mk (some 19) (.mv (.t 5)) none), (PO.mk (some 20) (.call (F 144) [(.t 19)]) none), (PO.mk (some 21) (.mv (.t 4)) none), (PO.mk (some 22) (.bin .sub (.t 21) (.k (.int .i64 3))) none), (PO.mk (some 23) (.bin .mul (.k (.int .i64 8)) (.t 22)) none), (PO.mk (some 24) (.call (F 127) [(.t 20), (.t 23)]) none), (PO.mk (some 6) (.mv (.t 24)) none)]) (.seq (.seq (.seq (.frz [6]) (.ops [(PO.mk (some 25) (.mv (.t 6)) none), (PO.mk (some 26) (.call (F 145) [(.t 25)]) none), (PO.mk (some 27) (.bin .eql (.t 26) (.k (.int .i64 0))) none), (PO.mk (some 28) (.mv (.t 27)) none), (PO.mk (some 29) (.mv (.t 6)) (some (28, false))), (PO.mk (some 30) (.call (F 145) [(.t 29)]) (some (28, false))), (PO.mk (some 31) (.bin .gtr (.t 30) (.k (.int .i64 256))) (some (28, false))), (PO.mk (some 32) (.pick (.t 28) (.k (.bool true)) (.t 31)) none)])) (.cond (.t 32) (.seq (.ops [(PO.mk (some 2) (.mv (.k (.sl .nil [] 0))) none), (PO.mk (some 3) (.mv (.k (.bool false))) none)]) .ret) .skip)) (.seq (.ops [(PO.mk (some 33) (.mv (.t 6)) none), (PO.mk (some 2) (.mv (.t 33)) none), (PO.mk (some 3) (.mv (.k (.bool true))) none)]) .ret)))))))
def k147 (F : Fn) : PF := PF.mk 37 1 [(.t 2)] (.seq (.ops [(PO.mk (some 2) (.mv (.k (w32 0))) none)]) (.seq (.ops [(PO.mk (some 6) (.mv (.t 0)) none), (PO.mk (some 7) (.call (F 145) [(.t 6)]) none), (PO.mk (some 8) (.bin .add (.t 7) (.k (.int .i64 7))) none), (PO.mk (some 9) (.bin .quo (.t 8) (.k (.int .i64 8))) none), (PO.mk (some 3) (.mv (.t 9)) none)]) (.seq (.seq (.ops [(PO.mk (some 10) (.mv (.t 0)) none), (PO.mk (some 11) (.call (F 145) [(.t 10)]) none), (PO.mk (some 12) (.bin .gtr (.t 11) (.k (.int .i64 0))) none), (PO.mk (some 13) (.mv (.t 12)) none), (PO.mk (some 14) (.mv (.t 0)) (some (13, true))), (PO.mk (some 15) (.call (F 145) [(.t 14)]) (some (13, true))), (PO.mk (some 16) (.bin .rem (.t 15) (.k (.int .i64 8))) (some (13, true))), (PO.mk (some 17) (.bin .eql (.t 16) (.k (.int .i64 0))) (some (13, true))), (PO.mk (some 18) (.pick (.t 13) (.t 17) (.k (.bool false))) none)]) (.cond (.t 18) (.ops [(PO.mk (some 19) (.mv (.t 3)) none), (PO.mk (some 20) (.bin .add (.t 19) (.k (.int .i64 1))) none), (PO.mk (some 3) (.mv (.t 20)) none)]) .skip)) (.seq (.ops [(PO.mk (some 22) (.mv (.t 0)) none), (PO.mk (some 23) (.mv (.t 3)) none), (PO.mk (some 24) (.bin .sub (.t 23) (.k (.int .i64 3))) none), (PO.mk (some 25) (.bin .mul (.k (.int .i64 (-8))) (.t 24)) none), (PO.mk (some 26) (.call (F 127) [(.t 22), (.t 25)]) none), (PO.mk (some 27) (.call (F 122) [(.t 26)]) none), (PO.mk (some 21) (.mv (.t 27)) none), (PO.mk (some 28) (.ext 0 (.t 21)) none), (PO.mk (some 29) (.ext 1 (.t 21)) none), (PO.mk (some 4) (.alloc [(w64 0), (w64 0), (w64 0), (w64 0)]) none), (PO.mk none (.store 4 (.t 4) (.t 28)) none), (PO.mk (some 5) (.mv (.t 29)) none)]) (.seq (.ops [(PO.mk (some 30) (.mv (.t 3)) none), (PO.mk (some 31) (.conv .u32 (.t 30)) none), (PO.mk (some 32) (.bin .mul (.t 31) (.k (w32 16777216))) none), (PO.mk (some 33) (.idxArr 4 1 (.t 4) (.k (.int .i64 0))) none), (PO.mk (some 34) (.load false 1 (.t 33)) none), (PO.mk (some 35) (.conv .u32 (.t 34)) none), (PO.mk (some 36) (.bin .add (.t 32) (.t 35)) none), (PO.mk (some 2) (.mv (.t 36)) none)]) .ret)))))
def k148 (F : Fn) : PF := PF.mk 15 1 [(.t 2)] (.seq (.ops [(PO.mk (some 2) (.mv (.k (.sl .nil [] 0))) none)]) (.seq (.ops [(PO.mk (some 6) (.call (F 144) [(.k (w64 1))]) none), (PO.mk (some 7) (.call (F 127) [(.t 6), (.k (.int .i64 256))]) none), (PO.mk (some 8) (.mv (.t 0)) none), (PO.mk (some 9) (.call (F 144) [(.k (w64 1))]) none), (PO.mk (some 10) (.call (F 124) [(.t 8), (.t 9)]) none), (PO.mk (some 11) (.call (F 129) [(.t 7), (.t 10)]) none), (PO.mk (some 5) (.mv (.t 11)) none), (PO.mk (some 12) (.ext 0 (.t 5)) none), (PO.mk (some 13) (.ext 1 (.t 5)) none), (PO.mk (some 3) (.mv (.t 12)) none), (PO.mk (some 4) (.mv (.t 13)) none)]) (.seq (.ops [(PO.mk (some 14) (.mv (.t 3)) none), (PO.mk (some 2) (.mv (.t 14)) none)]) .ret)))
def k149 (F : Fn) : PF := PF.mk 82 4 [(.t 8), (.t 9)] (.seq (.ops [(PO.mk (some 8) (.mv (.k (w32 0))) none), (PO.mk (some 9) (.mv (.k (.bool false))) none)]) (.seq (.ops [(PO.mk (some 16) (.mv (.t 0)) none), (PO.mk (some 17) (.call (F 146) [(.t 16)]) none), (PO.mk (some 15) (.mv (.t 17)) none), (PO.mk (some 18) (.ext 0 (.t 15)) none), (PO.mk (some 19) (.ext 1 (.t 15)) none), (PO.mk (some 10) (.mv (.t 18)) none), (PO.mk (some 11) (.mv (.t 19)) none)]) (.seq (.seq (.ops [(PO.mk (some 20) (.mv (.t 11)) none), (PO.mk (some 21) (.not (.t 20)) none), (PO.mk (some 22) (.mv (.t 21)) none), (PO.mk (some 23) (.mv (.t 2)) (some (22, false))), (PO.mk (some 24) (.bin .lss (.t 23) (.k (.int .i64 1))) (some (22, false))), (PO.mk (some 25) (.pick (.t 22) (.k (.bool true)) (.t 24)) none), (PO.mk (some 26) (.mv (.t 25)) none), (PO.mk (some 27) (.mv (.t 2)) (some (26, false))), (PO.mk (some 28) (.bin .gtr (.t 27) (.k (.int .i64 1099511627776))) (some (26, false))), (PO.mk (some 29) (.pick (.t 26) (.k (.bool true)) (.t 28)) none)]) (.cond (.t 29) (.seq (.ops [(PO.mk (some 8) (.mv (.k (w32 0))) none), (PO.mk (some 9) (.mv (.k (.bool false))) none)]) .ret) .skip)) (.seq (.seq (.ops [(PO.mk (some 30) (.mv (.t 1)) none), (PO.mk (some 31) (.mv (.t 2)) none), (PO.mk (some 32) (.bin .quo (.t 31) (.k (.int .i64 4))) none), (PO.mk (some 33) (.bin .lss (.t 30) (.t 32)) none)]) (.cond (.t 33) (.ops [(PO.mk (some 34) (.mv (.t 2)) none), (PO.mk (some 35) (.bin .quo (.t 34) (.k (.int .i64 4))) none), (PO.mk (some 1) (.mv (.t 35)) none)]) .skip)) (.seq (.seq (.ops [(PO.mk (some 36) (.mv (.t 1)) none), (PO.mk (some 37) (.mv (.t 2)) none), (PO.mk (some 38) (.bin .mul (.k (.int .i64 4)) (.t 37)) none), (PO.mk (some 39) (.bin .gtr (.t 36) (.t 38)) none)]) (.cond (.t 39) (.ops [(PO.mk (some 40) (.mv (.t 2)) none), (PO.mk (some 41) (.bin .mul (.k (.int .i64 4)) (.t 40)) none), (PO.mk (some 1) (.mv (.t 41)) none)]) .skip)) (.seq (.ops [(PO.mk (some 42) (.mv (.t 10)) none), (PO.mk (some 43) (.mv (.t 1)) none), (PO.mk (some 44) (.conv .u64 (.t 43)) none), (PO.mk (some 45) (.call (F 144) [(.t 44)]) none), (PO.mk (some 46) (.call (F 128) [(.t 42), (.t 45)]) none), (PO.mk (some 12) (.mv (.t 46)) none)]) (.seq (.ops [(PO.mk (some 48) (.mv (.t 12)) none), (PO.mk (some 49) (.mv (.t 2)) none), (PO.mk (some 50) (.conv .u64 (.t 49)) none), (PO.mk (some 51) (.call (F 144) [(.t 50)]) none), (PO.mk (some 52) (.call (F 129) [(.t 48), (.t 51)]) none), (PO.mk (some 47) (.mv (.t 52)) none), (PO.mk (some 53) (.ext 0 (.t 47)) none), (PO.mk (some 54) (.ext 1 (.t 47)) none), (PO.mk (some 13) (.mv (.t 53)) none), (PO.mk (some 14) (.mv (.t 54)) none)]) (.seq (.seq (.ops [(PO.mk (some 55) (.mv (.t 12)) none), (PO.mk (some 56) (.call (F 145) [(.t 55)]) none), (PO.mk (some 57) (.bin .gtr (.t 56) (.k (.int .i64 256))) none)]) (.cond (.t 57) (.seq (.ops [(PO.mk (some 59) (.mv (.t 10)) none), (PO.mk (some 60) (.mv (.t 2)) none), (PO.mk (some 61) (.conv .u64 (.t 60)) none), (PO.mk (some 62) (.call (F 144) [(.t 61)]) none), (PO.mk (some 63) (.call (F 129) [(.t 59), (.t 62)]) none), (PO.mk (some 58) (.mv (.t 63)) none), (PO.mk (some 64) (.ext 0 (.t 58)) none), (PO.mk (some 65) (.ext 1 (.t 58)) none), (PO.mk (some 13) (.mv (.t 64)) none)]) (.ops [(PO.mk (some 66) (.mv (.t 13)) none), (PO.mk (some 67) (.mv (.t 1)) none), (PO.mk (some 68) (.conv .u64 (.t 67)) none), (PO.mk (some 69) (.call (F 144) [(.t 68)]) none), (PO.mk (some 70) (.call (F 128) [(.t 66), (.t 69)]) none), (PO.mk (some 13) (.mv (.t 70)) none)])) .skip)) (.seq (.seq (.ops [(PO.mk (some 71) (.mv (.t 13)) none), (PO.mk (some 72) (.call (F 145) [(.t 71)]) none), (PO.mk (some 73) (.bin .gtr (.t 72) (.k (.int .i64 256))) none)]) (.cond (.t 73) (.seq (.ops [(PO.mk (some 74) (.mv (.t 3)) none), (PO.mk (some 75) (.call (F 147) [(.t 74)]) none), (PO.mk (some 8) (.mv (.t 75)) none), (PO.mk (some 9) (.mv (.k (.bool true))) none)]) .ret) .skip)) (.seq (.seq (.ops [(PO.mk (some 76) (.mv (.t 3)) none), (PO.mk (some 77) (.mv (.t 13)) none), (PO.mk (some 78) (.call (F 125) [(.t 76), (.t 77)]) none)]) (.cond (.t 78) (.ops [(PO.mk (some 79) (.mv (.t 3)) none), (PO.mk (some 13) (.mv (.t 79)) none)]) .skip)) (.seq (.ops [(PO.mk (some 80) (.mv (.t 13)) none), (PO.mk (some 81) (.call (F 147) [(.t 80)]) none), (PO.mk (some 8) (.mv (.t 81)) none), (PO.mk (some 9) (.mv (.k (.bool true))) none)]) .ret)))))))))))
def k150 (F : Fn) : PF := PF.mk 19 1 [(.t 2)] (.seq (.ops [(PO.mk (some 2) (.mv (.k (.str (ByteArray.mk ⟨[]⟩)))) none)]) (.seq (.ops [(PO.mk (some 3) (.mv (.k (.str (ByteArray.mk ⟨[]⟩)))) none)]) (.seq (.seq (.ops [(PO.mk (some 4) (.mv (.k (.int .i64 0))) none)]) (.block 0 (.loop (.seq (.seq (.ops [(PO.mk (some 5) (.mv (.t 4)) none), (PO.mk (some 6) (.bin .lss (.t 5) (.k (.int .i64 4))) none)]) (.cond (.t 6) .skip (.exit 0))) (.seq (.block 1 (.seq (.ops [(PO.mk (some 9) (.mv (.t 3)) none), (PO.mk (some 10) (.mv (.t 0)) none), (PO.mk (some 11) (.bin .rem (.t 10) (.k (w32 256))) none), (PO.mk (some 12) (.conv .u8 (.t 11)) none), (PO.mk (some 13) (.bsl false 1 1 [(w8 0)] [(0, (1, (.t 12)))]) none), (PO.mk (some 14) (.toStr (.t 13)) none), (PO.mk (some 15) (.bin .add (.t 9) (.t 14)) none), (PO.mk (some 3) (.mv (.t 15)) none)]) (.ops [(PO.mk (some 16) (.mv (.t 0)) none), (PO.mk (some 17) (.bin .quo (.t 16) (.k (w32 256))) none), (PO.mk (some 0) (.mv (.t 17)) none)]))) (.ops [(PO.mk (some 7) (.mv (.t 4)) none), (PO.mk (some 8) (.bin .add (.t 7) (.k (.int .i64 1))) none), (PO.mk (some 4) (.mv (.t 8)) none)])))))) (.seq (.ops [(PO.mk (some 18) (.mv (.t 3)) none), (PO.mk (some 2) (.mv (.t 18)) none)]) .ret))))
def k151 (F : Fn) : PF := PF.mk 26 1 [(.t 2)] (.seq (.ops [(PO.mk (some 1) (.box (.t 0)) none), (PO.mk (some 2) (.mv (.k (.str (ByteArray.mk ⟨[]⟩)))) none)]) (.seq (.seq (.frz [1]) (.draw [(.e, (PO.mk (some 3) (.fldA 0 (.t 1)) none)), (.e, (PO.mk (some 4) (.loadE false 1 (.t 3)) none)), (.e, (PO.mk (some 6) (.fldA 1 (.t 1)) none)), (.e, (PO.mk (some 10) (.fldA 33 (.t 1)) none)), (.e, (PO.mk (some 14) (.fldA 65 (.t 1)) none)), (.e, (PO.mk (some 15) (.loadE false 1 (.t 14)) none)), (.e, (PO.mk (some 18) (.fldA 66 (.t 1)) none)), (.e, (PO.mk (some 19) (.loadE false 1 (.t 18)) none)), (.e, (PO.mk (some 22) (.fldA 67 (.t 1)) none)), (.e, (PO.mk (some 23) (.loadE false 1 (.t 22)) none)), (.s, (PO.mk (some 5) (.call (F 150) [(.t 4)]) none)), (.s, (PO.mk (some 7) (.slArr false 32 1 (.t 6) none none) none)), (.s, (PO.mk (some 8) (.toStr (.t 7)) none)), (.e, (PO.mk (some 9) (.bin .add (.t 5) (.t 8)) none)), (.s, (PO.mk (some 11) (.slArr false 32 1 (.t 10) none none) none)), (.s, (PO.mk (some 12) (.toStr (.t 11)) none)), (.e, (PO.mk (some 13) (.bin .add (.t 9) (.t 12)) none)), (.s, (PO.mk (some 16) (.call (F 150) [(.t 15)]) none)), (.e, (PO.mk (some 17) (.bin .add (.t 13) (.t 16)) none)), (.s, (PO.mk (some 20) (.call (F 150) [(.t 19)]) none)), (.e, (PO.mk (some 21) (.bin .add (.t 17) (.t 20)) none)), (.s, (PO.mk (some 24) (.call (F 150) [(.t 23)]) none)), (.e, (PO.mk (some 25) (.bin .add (.t 21) (.t 24)) none)), (.e, (PO.mk (some 2) (.mv (.t 25)) none))])) .ret))
def k152 (F : Fn) : PF := PF.mk 27 1 [(.t 2)] (.seq (.ops [(PO.mk (some 1) (.box (.t 0)) none), (PO.mk (some 2) (.mv (.k (.sl .nil [] 0))) none)]) (.seq (.ops [(PO.mk (some 3) (.mv (.k (.sl .nil [] 0))) none)]) (.seq (.seq (.ops [(PO.mk (some 4) (.mv (.k (.int .i64 0))) none)]) (.block 0 (.loop (.seq (.seq (.ops [(PO.mk (some 7) (.mv (.t 4)) none), (PO.mk (some 8) (.bin .lss (.t 7) (.k (.int .i64 32))) none)]) (.cond (.t 8) .skip (.exit 0))) (.seq (.block 1 (.seq (.ops [(PO.mk (some 11) (.mv (.t 4)) none), (PO.mk (some 12) (.idxArr 32 1 (.t 1) (.t 11)) none), (PO.mk (some 13) (.load false 1 (.t 12)) none), (PO.mk (some 5) (.mv (.t 13)) none)]) (.seq (.ops [(PO.mk (some 6) (.mv (.k (.int .i64 0))) none)]) (.block 2 (.loop (.seq (.seq (.ops [(PO.mk (some 14) (.mv (.t 6)) none), (PO.mk (some 15) (.bin .lss (.t 14) (.k (.int .i64 8))) none)]) (.cond (.t 15) .skip (.exit 2))) (.seq (.block 3 (.seq (.ops [(PO.mk (some 18) (.mv (.t 3)) none), (PO.mk (some 19) (.mv (.t 5)) none), (PO.mk (some 20) (.bin .rem (.t 19) (.k (w8 2))) none), (PO.mk (some 21) (.bin .eql (.t 20) (.k (w8 1))) none), (PO.mk (some 22) (.bsl false 1 1 [(.bool false)] [(0, (1, (.t 21)))]) none), (PO.mk (some 23) (.app 1 1 (.t 18) (.t 22)) none), (PO.mk (some 3) (.mv (.t 23)) none)]) (.ops [(PO.mk (some 24) (.mv (.t 5)) none), (PO.mk (some 25) (.bin .quo (.t 24) (.k (w8 2))) none), (PO.mk (some 5) (.mv (.t 25)) none)]))) (.ops [(PO.mk (some 16) (.mv (.t 6)) none), (PO.mk (some 17) (.bin .add (.t 16) (.k (.int .i64 1))) none), (PO.mk (some 6) (.mv (.t 17)) none)])))))))) (.ops [(PO.mk (some 9) (.mv (.t 4)) none), (PO.mk (some 10) (.bin .add (.t 9) (.k (.int .i64 1))) none), (PO.mk (some 4) (.mv (.t 10)) none)])))))) (.seq (.seq (.frz [3]) (.ops [(PO.mk (some 26) (.mv (.t 3)) none), (PO.mk (some 2) (.mv (.t 26)) none)])) .ret))))
def k153 (F : Fn) : PF := PF.mk 37 2 [(.t 4)] (.seq (.ops [(PO.mk (some 2) (.box (.t 0)) none), (PO.mk (some 4) (.mv (.k (.int .i64 0))) none)]) (.seq (.ops [(PO.mk (some 10) (.fldA 66 (.t 2)) none), (PO.mk (some 11) (.load false 1 (.t 10)) none), (PO.mk (some 12) (.call (F 146) [(.t 11)]) none), (PO.mk (some 9) (.mv (.t 12)) none), (PO.mk (some 13) (.ext 0 (.t 9)) none), (PO.mk (some 14) (.ext 1 (.t 9)) none), (PO.mk (some 5) (.mv (.t 13)) none), (PO.mk (some 6) (.mv (.t 14)) none)]) (.seq (.ops [(PO.mk (some 16) (.mv (.t 1)) none), (PO.mk (some 17) (.call (F 146) [(.t 16)]) none), (PO.mk (some 15) (.mv (.t 17)) none), (PO.mk (some 18) (.ext 0 (.t 15)) none), (PO.mk (some 19) (.ext 1 (.t 15)) none), (PO.mk (some 7) (.mv (.t 18)) none), (PO.mk (some 8) (.mv (.t 19)) none)]) (.seq (.seq (.ops [(PO.mk (some 20) (.mv (.t 6)) none), (PO.mk (some 21) (.not (.t 20)) none), (PO.mk (some 22) (.mv (.t 21)) none), (PO.mk (some 23) (.mv (.t 8)) (some (22, false))), (PO.mk (some 24) (.not (.t 23)) (some (22, false))), (PO.mk (some 25) (.pick (.t 22) (.k (.bool true)) (.t 24)) none), (PO.mk (some 26) (.mv (.t 25)) none), (PO.mk (some 27) (.mv (.t 7)) (some (26, false))), (PO.mk (some 28) (.mv (.t 5)) (some (26, false))), (PO.mk (some 29) (.call (F 125) [(.t 27), (.t 28)]) (some (26, false))), (PO.mk (some 30) (.pick (.t 26) (.k (.bool true)) (.t 29)) none)]) (.cond (.t 30) (.seq (.ops [(PO.mk (some 4) (.mv (.k (.int .i64 30))) none)]) .ret) .skip)) (.seq (.seq (.ops [(PO.mk (some 31) (.mv (.t 5)) none), (PO.mk (some 32) (.load true 68 (.t 2)) none), (PO.mk (some 33) (.call (F 151) [(.t 32)]) none), (PO.mk (some 34) (.call (F 134) [(.t 33)]) none), (PO.mk (some 35) (.call (F 152) [(.t 34)]) none), (PO.mk (some 36) (.call (F 125) [(.t 31), (.t 35)]) none)]) (.cond (.t 36) (.seq (.ops [(PO.mk (some 4) (.mv (.k (.int .i64 50))) none)]) .ret) .skip)) (.seq (.ops [(PO.mk (some 4) (.mv (.k (.int .i64 0))) none)]) .ret))))))
structure OkRef05 (P : Program) (F : Fn) : Prop where
  mixed : P.follows .mixedOrders = true
  toOkRef02 : OkRef02 P F
  toOkRef01 : OkRef01 P F
  h144 : compFn P ⟨[], [], [], [], []⟩ (F 144) = some (k144 F)
  h145 : compFn P ⟨[], [], [], [], []⟩ (F 145) = some (k145 F)
  h146 : compFn P ⟨[], [], [(6, [6])], [], []⟩ (F 146) = some (k146 F)
  h147 : compFn P ⟨[], [], [], [], []⟩ (F 147) = some (k147 F)
  h148 : compFn P ⟨[], [], [], [], []⟩ (F 148) = some (k148 F)
  h149 : compFn P ⟨[], [], [], [], []⟩ (F 149) = some (k149 F)
  h150 : compFn P ⟨[], [], [], [], []⟩ (F 150) = some (k150 F)
  h151 : compFn P ⟨[4, 15, 19, 23], [], [(1, [1])], [], []⟩ (F 151) = some (k151 F)
  h152 : compFn P ⟨[], [], [(11, [3])], [], []⟩ (F 152) = some (k152 F)
  h153 : compFn P ⟨[], [], [], [], []⟩ (F 153) = some (k153 F)
end Go.Ab

import Derived.Test.YtgodabkifdmfcaaGreatK7
import Derived.Test.YtgodabkifdmfcaaGreatK4
import Derived.Test.YtgodabkifdmfcaaGreatK6
set_option linter.unusedSimpArgs false
set_option linter.unusedVariables false
set_option maxRecDepth 10000
namespace Go.Ab
open Go Go.RowKit
theorem hf8 (b : UInt8) : fillV (repV [w8 0] 1) [(0, 1, w8 b)] = some (rowsOf e8 [b]) := rfl
theorem hf32 (b : W32) : fillV (repV [w32 0#32] 1) [(0, 1, w32 b)] = some (rowsOf e32 [b]) := rfl
theorem hs8 (st : St) (b : UInt8) : toStrV st (.sl .full (e8 b) 1) = some (sB [b]) := toStr_sB (.inl ⟨.full, rfl⟩) (by simp)
theorem bv_len (l : List UInt8) : BitVec.ofInt 64 (l.length : Int) = BitVec.ofNat 64 l.length := BitVec.ofInt_natCast ..
theorem tail_down : ∀ q : Fin 8, tailL.drop (8 - (q.val + 1)) = (8 * q.val) :: tailL.drop (8 - q.val) := by decide
def tailR (n q : Nat) : List UInt8 := (tailL.drop (8 - q)).map (tailB n)
theorem tailR_succ (n q : Nat) (h : q < 8) : tailR n (q + 1) = tailB n (8 * q) :: tailR n q := by
  have := tail_down ⟨q, h⟩
  simp only at this
  rw [tailR, this]; rfl
theorem tailR_len (n q : Nat) (h : q ≤ 8) : (tailR n q).length ≤ 100 := by simp [tailR, tailL]; omega
theorem set_back {α : Type} (p r : List α) (z c : α) (j : Nat) : (p ++ List.replicate (j + 1) z ++ r).set (p.length + j) c = p ++ List.replicate j z ++ c :: r := by
  rw [List.replicate_succ', ← List.append_assoc, List.append_assoc (p ++ _), List.set_append_right _ _ (by simp)]
  simp
section
variable {P : Program} {F : Fn}
set_option maxHeartbeats 4000000 in
theorem spec130 (ok : OkRef01 P F) (st : St) (l : List UInt8) (hl : l.length ≤ 100000) : ACalls P (F 130) [sB l] st fun v st' => v = .agg (eId (sha l)) ∧ st' = st := by
  refine shows_call ok.mixed ok.h130 (by simp [k130]) ?_
  simp only [k130]
  have hz : V.str (ByteArray.mk ⟨[]⟩) = sB [] := rfl
  have hz1 : V.str (ByteArray.mk ⟨[128]⟩) = sB [128] := rfl
  have hz2 : V.str (ByteArray.mk ⟨[0]⟩) = sB [0] := rfl
  simp only [hz, hz1, hz2]
  simp
  intro rid hrid
  have S := (Sep.start st).new hrid (.cells zR32_w80)
  generalize st.upd rid _ = st1 at S ⊢
  refine (spec131 ok st1).mono ?_
  rintro v st1 ⟨rfl, rfl⟩
  have a1 := sB_add l [128] (by simp; omega)
  simp [sB_len, a1, bv_len]
  obtain ⟨Z, hZ⟩ : ∃ Z, Z = (119 - l.length % 64) % 64 := ⟨_, rfl⟩
  refine vc_loopJ (fun k env' st' => ∃ z, z ≤ Z ∧ k = Z - z ∧ env' 0 = sB (l ++ 128 :: List.replicate z 0) ∧ st' = st1) Z
    ⟨0, by omega, by omega, rfl, rfl⟩ ?_
  rintro J hJ k env2 st4 hsame ⟨z, hz, rfl, h0, rfl⟩
  have q2 := hsame.get 2 rfl
  have q3 := hsame.get 3 rfl
  have q4 := hsame.get 4 rfl
  simp at q2 q3 q4
  clear hsame
  have hle : (l ++ 128 :: List.replicate z (0 : UInt8)).length = l.length + 1 + z := by simp; omega
  have htm : Int.tmod ((l.length + 1 + z : Nat) : Int) 64 = (((l.length + 1 + z) % 64 : Nat) : Int) := rfl
  obtain ⟨m, hm⟩ : ∃ m, m = l.length + 1 + z := ⟨_, rfl⟩
  obtain ⟨pre, hpre⟩ : ∃ pre, pre = l ++ 128 :: List.replicate z (0 : UInt8) := ⟨_, rfl⟩
  rw [← hpre] at h0 hle
  rw [← hm] at hle htm
  have hlen := sB_len pre
  rw [hle] at hlen
  by_cases h56 : m % 64 = 56
  · have : z = Z := by omega
    subst this
    have h56' : ((m : Int).tmod 64 != 56) = false := by rw [htm, h56]; rfl
    simp [h0, hlen, h56']
    have ha : ∀ (a : List UInt8) (b : UInt8), a.length ≤ 100 → binV .add (sB [b]) (sB a) = some (sB (b :: a)) := fun a b h => sB_add [b] a (by simp; omega)
    clear hJ J
    obtain ⟨N, hN⟩ : ∃ N : W, N = BitVec.ofNat 64 l.length * 8#64 := ⟨_, rfl⟩
    rw [← hN] at q4
    refine vc_loopJ (fun k env' st' => ∃ q, q ≤ 8 ∧ k = 8 - q ∧ env' 6 = .int .i64 (q : Nat) ∧ env' 4 = w64 (N >>> (8 * q)) ∧ env' 5 = sB (tailR l.length q) ∧ st' = st4) 8
      ⟨0, by omega, by omega, rfl, by simp [q4], rfl, rfl⟩ ?_
    rintro J hJ k env3 st5 hsame ⟨q, hq, rfl, h6, h4, h5, rfl⟩
    have r0 := (hsame.get 0 rfl).trans h0
    have r2 := (hsame.get 2 rfl).trans q2
    have r3 := (hsame.get 3 rfl).trans q3
    clear hsame
    have w1 : IntKind.i64.wrap ((q : Int) + 1) = (q : Int) + 1 := wrap64 (by omega) (by omega)
    by_cases hlt8 : q < 8
    · have hlt8' : (q : Int) < 8 := by omega
      have htl := tailR_succ l.length q hlt8
      have hll : (tailR l.length q).length ≤ 100 := tailR_len _ _ hq
      have hb : UInt8.ofBitVec ((N >>> (8 * q)).setWidth 8) = tailB l.length (8 * q) := by rw [tailB, hN]; rfl
      simp [h6, h4, h5, hlt8', w1, hf8, hs8, low8_64, div8_64, sh8_64, hb, ha _ _ hll, htl]
      refine Round.mk (8 - (q + 1)) _ (by omega) (sub_self _) (hJ _ _ _ ⟨q + 1, by omega, rfl, by simp, ?_, ?_, rfl⟩)
      · simp
        congr 2
      · simp [htl]
    · have : q = 8 := by omega
      subst this
      have hpad : pre ++ tailR l.length 8 = padM l := by
        rw [hpre, padM, ← hZ]
        simp only [List.append_assoc, List.cons_append]
        rfl
      have hL : (padM l).length ≤ 200000 := by
        have := tailR_len l.length 8 (by omega)
        rw [← hpad, List.length_append, hle]; omega
      have ha2 := sB_add pre (tailR l.length 8) (by rw [← List.length_append, hpad]; omega)
      rw [hpad] at ha2
      simp [h6, h5, r0, ha2]
      have hiv : fillV (repV [w32 0#32] 8) [(0, 1, w32 1779033703#32), (1, 1, w32 3144134277#32), (2, 1, w32 1013904242#32), (3, 1, w32 2773480762#32), (4, 1, w32 1359893119#32), (5, 1, w32 2600822924#32), (6, 1, w32 528734635#32), (7, 1, w32 1541459225#32)] = some (cells8 iv) := rfl
      simp [hiv]
      intro hid hhid
      have S := S.new hhid (.cells (cells8 iv))
      generalize st5.upd hid _ = st6 at S ⊢
      obtain ⟨L, hLe⟩ : ∃ L, L = padM l := ⟨_, rfl⟩
      obtain ⟨nb, hnb⟩ : ∃ nb, nb = L.length / 64 := ⟨_, rfl⟩
      have hL64 : L.length = 64 * nb := by
        rw [hnb, hLe]
        simp only [padM, List.length_append, List.length_cons, List.length_replicate, List.length_map, List.length_nil]
        omega
      have hsha : shaL l = outV (blocksM nb iv L) := by rw [shaL, ← hLe, ← hnb]
      rw [← hLe] at hL ⊢
      simp
      refine vc_loopJ (fun k env' st' => ∃ b hc, b ≤ nb ∧ k = nb - b ∧ env' 8 = .int .i64 ((64 * b : Nat) : Int) ∧ blocksM (nb - b) hc (L.drop (64 * b)) = blocksM nb iv L ∧ Sep [pt hid (.cells (cells8 hc)), pt rid (.cells zR32_w80), Was st] st') nb
        ⟨0, iv, by omega, by omega, rfl, by simp, S⟩ ?_
      clear S hJ J
      rintro J hJ k env4 st7 hsame ⟨b, hc, hb, rfl, h8, hbl, S⟩
      have t0 := hsame.get 0 rfl
      have t2 := hsame.get 2 rfl
      have t3 := hsame.get 3 rfl
      have t7 := hsame.get 7 rfl
      simp [r2, r3] at t0 t2 t3 t7
      clear hsame
      obtain ⟨at_, hat⟩ : ∃ n, n = 64 * b := ⟨_, rfl⟩
      rw [← hat] at h8 hbl
      by_cases hlt : b < nb
      · have hlt' : (at_ : Int) < L.length := by omega
        simp [t0, h8, sB_len, hlt']
        obtain ⟨blk, hblk⟩ : ∃ blk, blk = (L.drop at_).take 64 := ⟨_, rfl⟩
        have hbkl : blk.length = 64 := by rw [hblk]; simp; omega
        have hbkg : ∀ i (h : i < 64), blk[i] = L[at_ + i] := fun i h => by simp only [hblk]; simp
        obtain ⟨W, hW⟩ : ∃ W, W = words blk := ⟨_, rfl⟩
        have hWl : W.length = 16 := by rw [hW, words_len, hbkl]
        have S : Sep [Sl 1 e32 (.sl .nil [] 0) (W.take 0), pt hid (.cells (cells8 hc)), pt rid (.cells zR32_w80), Was st] st7 := Sep.slNil S
        refine vc_loopJ (fun k env' st' => ∃ i s, i ≤ 16 ∧ k = 16 - i ∧ env' 10 = .int .i64 (i : Nat) ∧ env' 9 = s ∧ Sep [Sl 1 e32 s (W.take i), pt hid (.cells (cells8 hc)), pt rid (.cells zR32_w80), Was st] st') 16
          ⟨0, _, by omega, by omega, by simp, by simp, S⟩ ?_
        clear S
        rintro JA hJA k env5 st8 hsame ⟨i, s, hi, rfl, h10, h9, S⟩
        have u0 := (hsame.get 0 rfl).trans (by simp [t0] : _ = sB L)
        have u2 := (hsame.get 2 rfl).trans (by simp [t2] : _ = V.ptr (some (rid, 0)))
        have u3 := (hsame.get 3 rfl).trans (by simp [t3] : _ = V.sl SK.full (rowsOf e32 shaK) 64)
        have u7 := (hsame.get 7 rfl).trans (by simp [t7] : _ = V.hsl hid 0 1 8)
        have u8 := (hsame.get 8 rfl).trans (by simp [h8] : _ = V.int .i64 (at_ : Int))
        clear hsame
        have wi : IntKind.i64.wrap ((i : Int) + 1) = (i : Int) + 1 := wrap64 (by omega) (by omega)
        by_cases hi16 : i < 16
        · have hi16' : (i : Int) < 16 := by omega
          obtain ⟨q4, hq4⟩ : ∃ q, q = (blk.drop (4 * i)).take 4 := ⟨_, rfl⟩
          have hq4l : q4.length = 4 := by rw [hq4]; simp; omega
          have hq4g : ∀ j (h : j < 4), q4[j] = L[at_ + 4 * i + j]'(by omega) := fun j h => by
            have : q4[j] = blk[4 * i + j] := by simp only [hq4]; simp
            rw [this, hbkg _ (by omega)]
            congr 1
            omega
          simp [h10, hi16']
          refine vc_loopJ (fun k env' st' => ∃ j, j ≤ 4 ∧ k = 4 - j ∧ env' 12 = .int .i64 (j : Nat) ∧ env' 11 = w32 (be4R (q4.take j)) ∧ st' = st8) 4
            ⟨0, by omega, by omega, by simp, by simp [be4R], rfl⟩ ?_
          rintro JB hJB k env6 st9 hsame ⟨j, hj, rfl, h12, h11, rfl⟩
          have v0 := (hsame.get 0 rfl).trans (by simp [u0] : _ = sB L)
          have v8 := (hsame.get 8 rfl).trans (by simp [u8] : _ = V.int .i64 (at_ : Int))
          have v9 := (hsame.get 9 rfl).trans (by simp [h9] : _ = s)
          have v10 := (hsame.get 10 rfl).trans (by simp [h10] : _ = V.int .i64 (i : Int))
          clear hsame
          by_cases hj4 : j < 4
          · have hj4' : (j : Int) < 4 := by omega
            have wj : IntKind.i64.wrap ((j : Int) + 1) = (j : Int) + 1 := wrap64 (by omega) (by omega)
            obtain ⟨x, hx⟩ : ∃ x, x = at_ + 4 * i + j := ⟨_, rfl⟩
            have hxL : x < L.length := by omega
            have b0 : IntKind.i64.wrap (4 * (i : Int)) = 4 * (i : Int) := wrap64 (by omega) (by omega)
            have b1 : IntKind.i64.wrap ((at_ : Int) + 4 * (i : Int)) = (at_ : Int) + 4 * (i : Int) := wrap64 (by omega) (by omega)
            have b2 : IntKind.i64.wrap ((at_ : Int) + 4 * (i : Int) + (j : Int)) = (x : Int) := by rw [wrap64 (by omega) (by omega)]; omega
            have hix := sB_idx L .i64 hxL
            have hst : be4R (q4.take (j + 1)) = be4R (q4.take j) * 256#32 + L[x].toBitVec.setWidth 32 := by
              have e : q4[j] = L[x] := by rw [hq4g j hj4]; congr 1; omega
              rw [List.take_succ_eq_append_getElem (by omega), be4R, List.foldl_append, e]; rfl
            simp [v0, v8, v10, h11, h12, hj4', b0, b1, b2, hix, wj]
            exact Round.mk (4 - (j + 1)) _ (by omega) (sub_self _) (hJB _ _ _ ⟨j + 1, by omega, rfl, by simp, by simp [hst], rfl⟩)
          · have : j = 4 := by omega
            subst this
            have hwd : be4R (q4.take 4) = W[i] := by
              have e1 : q4 = [q4[0], q4[1], q4[2], q4[3]] := by
                apply List.ext_getElem
                · simp [hq4l]
                · intro n h1 h2
                  have : n = 0 ∨ n = 1 ∨ n = 2 ∨ n = 3 := by omega
                  rcases this with rfl | rfl | rfl | rfl <;> rfl
              have e2 : ∀ j (h : j < 4), q4[j] = blk[4 * i + j] := fun j h => by simp only [hq4]; simp
              have e3 := words_get blk i (by omega)
              have e4 : W[i] = (words blk)[i]'(by rw [words_len]; omega) := by simp only [hW]
              rw [List.take_of_length_le (by omega), e4, e3, e1, be4R_eq, e2 0 (by omega), e2 1 (by omega), e2 2 (by omega), e2 3 (by omega)]
              rfl
            simp [v9, h12, h11, hf32]
            have hel : elems st9 1 (.sl .full (e32 (be4R (q4.take 4))) 1) = some (e32 (be4R (q4.take 4)), 1) := rfl
            rw [hel]
            refine Sep.app1 e32_len (by omega) S (a := W[i]) (by rw [hwd]) (by simp; omega) ?_
            intro s' st10 S
            simp [v10, wi]
            refine Round.mk (16 - (i + 1)) _ (by omega) (sub_self _) (hJA _ _ _ ⟨i + 1, s', by omega, rfl, by simp, by simp, ?_⟩)
            rw [List.take_succ_eq_append_getElem (by omega)]
            exact S
        · have : i = 16 := by omega
          subst this
          rw [List.take_of_length_le (by omega)] at S
          simp [h10]
          have S : Sep [Sl 1 e32 s (sched W 0), pt hid (.cells (cells8 hc)), pt rid (.cells zR32_w80), Was st] st8 := S
          refine vc_loopJ (fun k env' st' => ∃ m s, 16 ≤ m ∧ m ≤ 64 ∧ k = 64 - m ∧ env' 13 = .int .i64 (m : Nat) ∧ env' 9 = s ∧ Sep [Sl 1 e32 s (sched W (m - 16)), pt hid (.cells (cells8 hc)), pt rid (.cells zR32_w80), Was st] st') 48
            ⟨16, _, by omega, by omega, by omega, by simp, by simp [h9], S⟩ ?_
          clear S
          rintro JB hJB k env6 st9 hsame ⟨m, s2, hm16, hm64, rfl, h13, h9, S⟩
          have v0 := (hsame.get 0 rfl).trans (by simp [u0] : _ = sB L)
          have v2 := (hsame.get 2 rfl).trans (by simp [u2] : _ = V.ptr (some (rid, 0)))
          have v3 := (hsame.get 3 rfl).trans (by simp [u3] : _ = V.sl SK.full (rowsOf e32 shaK) 64)
          have v7 := (hsame.get 7 rfl).trans (by simp [u7] : _ = V.hsl hid 0 1 8)
          have v8 := (hsame.get 8 rfl).trans (by simp [u8] : _ = V.int .i64 (at_ : Int))
          clear hsame
          by_cases hm : m < 64
          · have hm' : (m : Int) < 64 := by omega
            obtain ⟨X, hX⟩ : ∃ X, X = sched W (m - 16) := ⟨_, rfl⟩
            have hXl : X.length = m := by rw [hX, sched_len, hWl]; omega
            obtain ⟨m15, e15⟩ : ∃ a, a + 15 = m := ⟨m - 15, by omega⟩
            obtain ⟨m2, e2⟩ : ∃ a, a + 2 = m := ⟨m - 2, by omega⟩
            obtain ⟨m16, e16⟩ : ∃ a, a + 16 = m := ⟨m - 16, by omega⟩
            obtain ⟨m7, e7⟩ : ∃ a, a + 7 = m := ⟨m - 7, by omega⟩
            have b15 : IntKind.i64.wrap ((m : Int) - 15) = (m15 : Int) := by rw [wrap64 (by omega) (by omega)]; omega
            have b2 : IntKind.i64.wrap ((m : Int) - 2) = (m2 : Int) := by rw [wrap64 (by omega) (by omega)]; omega
            have b16 : IntKind.i64.wrap ((m : Int) - 16) = (m16 : Int) := by rw [wrap64 (by omega) (by omega)]; omega
            have b7 : IntKind.i64.wrap ((m : Int) - 7) = (m7 : Int) := by rw [wrap64 (by omega) (by omega)]; omega
            have w1 : IntKind.i64.wrap ((m : Int) + 1) = (m : Int) + 1 := wrap64 (by omega) (by omega)
            rw [← hX] at S
            have rd := Sep.rd e32_len S
            obtain ⟨p15, hp15, hl15⟩ := rd.idx e32_len (i := m15) (by omega) .i64
            obtain ⟨p2, hp2, hl2⟩ := rd.idx e32_len (i := m2) (by omega) .i64
            obtain ⟨p16, hp16, hl16⟩ := rd.idx e32_len (i := m16) (by omega) .i64
            obtain ⟨p7, hp7, hl7⟩ := rd.idx e32_len (i := m7) (by omega) .i64
            obtain ⟨x15, hx15⟩ : ∃ x, x = X[m15] := ⟨_, rfl⟩
            obtain ⟨x2, hx2⟩ : ∃ x, x = X[m2] := ⟨_, rfl⟩
            obtain ⟨x16, hx16⟩ : ∃ x, x = X[m16] := ⟨_, rfl⟩
            obtain ⟨x7, hx7⟩ : ∃ x, x = X[m7] := ⟨_, rfl⟩
            rw [← hx15] at hl15
            rw [← hx2] at hl2
            rw [← hx16] at hl16
            rw [← hx7] at hl7
            have hnw : nextW X = x16 + (ror x15 7 ^^^ ror x15 18 ^^^ x15 >>> 3) + x7 + (ror x2 17 ^^^ ror x2 19 ^^^ x2 >>> 10) := by
              have hD : ∀ j (hj : j < X.length), X.getD j 0 = X[j] := fun j hj => by
                rw [List.getD_eq_getElem?_getD, List.getElem?_eq_getElem hj]; rfl
              rw [nextW, hXl, show m - 16 = m16 by omega, show m - 15 = m15 by omega, show m - 7 = m7 by omega, show m - 2 = m2 by omega, hD _ (by omega), hD _ (by omega), hD _ (by omega), hD _ (by omega), ← hx15, ← hx2, ← hx16, ← hx7]
              rfl
            simp [h13, h9, hm', b15, b2, b16, b7, hp15, hp2, hp16, hp7, hl15, hl2, hl16, hl7, e32]
            refine ⟨_, spec132 ok st9 x15 7 (by omega) rfl, ?_⟩
            simp [hl15, e32]
            refine ⟨_, spec132 ok st9 x15 18 (by omega) rfl, ?_⟩
            simp [hl15, e32]
            refine ⟨_, spec133 ok st9 x15 3 (by omega) rfl, ?_⟩
            simp [h13, h9, hm', b15, b2, b16, b7, hp15, hp2, hp16, hp7, hl15, hl2, hl16, hl7, e32]
            refine ⟨_, spec132 ok st9 x2 17 (by omega) rfl, ?_⟩
            simp [hl2, e32]
            refine ⟨_, spec132 ok st9 x2 19 (by omega) rfl, ?_⟩
            simp [hl2, e32]
            refine ⟨_, spec133 ok st9 x2 10 (by omega) rfl, ?_⟩
            simp [h13, h9, b15, b2, b16, b7, hp15, hp2, hp16, hp7, hl15, hl2, hl16, hl7, e32, ← hnw, hf32]
            have hel : elems st9 1 (.sl .full [w32 (nextW X)] 1) = some (e32 (nextW X), 1) := rfl
            simp [hel]
            refine Sep.app1 e32_len (by omega) S (a := nextW X) rfl (by omega) ?_
            intro s' st10 S
            simp [h13, w1]
            refine Round.mk (64 - (m + 1)) _ (by omega) (sub_self _) (hJB _ _ _ ⟨m + 1, s', by omega, by omega, rfl, by simp, by simp, ?_⟩)
            rw [show m + 1 - 16 = (m - 16) + 1 by omega, sched, ← hX]
            exact S
          · have : m = 64 := by omega
            subst this
            obtain ⟨X, hX⟩ : ∃ X, X = sched W 48 := ⟨_, rfl⟩
            have hXl : X.length = 64 := by rw [hX, sched_len, hWl]
            rw [show 64 - 16 = 48 from rfl, ← hX] at S
            have oh := S.mem (i := hid) (o := .cells (cells8 hc)) (by simp)
            have hel : elems st9 1 (.hsl hid 0 1 8) = some (cells8 hc, 8) := by
              have : segOf (cells8 hc) 0 8 = some (cells8 hc) := rfl
              simp [elems, St.seg, oh, this]
            simp [h13, v7, fillV, repV, hel]
            refine app_nil _ _ (.inr rfl) (by omega) (by omega) ?_
            intro vid hvid
            have S := S.new hvid (.cells (cells8 hc))
            generalize st9.upd vid _ = st10 at S ⊢
            simp
            have S : Sep [Rd 1 e32 (.hsl vid 0 1 8) hc.list, Sl 1 e32 s2 X, pt hid (.cells (cells8 hc)), pt rid (.cells zR32_w80), Was st] st10 := S.head fun h hh => .inr ⟨vid, 0, rfl, by
              simp only [St.seg, show h vid = some (.cells (cells8 hc)) from hh]
              rfl⟩
            clear hJA JA hJB JB
            refine vc_loopJ (fun k env' st' => ∃ i sv, i ≤ 64 ∧ k = 64 - i ∧ env' 17 = .int .i64 (i : Nat) ∧ env' 16 = sv ∧ Sep [Rd 1 e32 sv (rnds (shaK.take i) (X.take i) hc).list, Sl 1 e32 s2 X, pt hid (.cells (cells8 hc)), pt rid (.cells zR32_w80), Was st] st') 64
              ⟨0, _, by omega, by omega, by simp, by simp, S⟩ ?_
            clear S
            rintro JC hJC k env7 st11 hsame ⟨i, sv, hi, rfl, h17, h16, S⟩
            have x0 := (hsame.get 0 rfl).trans (by simp [v0] : _ = sB L)
            have x2 := (hsame.get 2 rfl).trans (by simp [v2] : _ = V.ptr (some (rid, 0)))
            have x3 := (hsame.get 3 rfl).trans (by simp [v3] : _ = V.sl SK.full (rowsOf e32 shaK) 64)
            have x7 := (hsame.get 7 rfl).trans (by simp [v7] : _ = V.hsl hid 0 1 8)
            have x8 := (hsame.get 8 rfl).trans (by simp [v8] : _ = V.int .i64 (at_ : Int))
            have x9 := (hsame.get 9 rfl).trans (by simp [h9] : _ = s2)
            clear hsame
            have wi : IntKind.i64.wrap ((i : Int) + 1) = (i : Int) + 1 := wrap64 (by omega) (by omega)
            obtain ⟨v, hv⟩ : ∃ v, v = rnds (shaK.take i) (X.take i) hc := ⟨_, rfl⟩
            rw [← hv] at S
            have rv := Sep.rdOf S
            have hvl : v.list.length = 8 := rfl
            by_cases hi64 : i < 64
            · have hi64' : (i : Int) < 64 := by omega
              obtain ⟨pK, hpK, hlK⟩ := (rd_full (f := e32) (sz := 1) shaK st11 (n := 64) rfl).idx e32_len (i := i) hi64 .i64
              obtain ⟨pX, hpX, hlX⟩ := (Sep.rd e32_len S.drop).idx e32_len (i := i) (by omega) .i64
              obtain ⟨p0, hp0, hl0⟩ := rv.idx e32_len (i := 0) (by omega) .i64
              obtain ⟨p1, hp1, hl1⟩ := rv.idx e32_len (i := 1) (by omega) .i64
              obtain ⟨p2, hp2, hl2⟩ := rv.idx e32_len (i := 2) (by omega) .i64
              obtain ⟨p3, hp3, hl3⟩ := rv.idx e32_len (i := 3) (by omega) .i64
              obtain ⟨p4, hp4, hl4⟩ := rv.idx e32_len (i := 4) (by omega) .i64
              obtain ⟨p5, hp5, hl5⟩ := rv.idx e32_len (i := 5) (by omega) .i64
              obtain ⟨p6, hp6, hl6⟩ := rv.idx e32_len (i := 6) (by omega) .i64
              obtain ⟨p7, hp7, hl7⟩ := rv.idx e32_len (i := 7) (by omega) .i64
              have hl0 : ldCells st11 1 p0 = some [w32 v.a] := hl0
              have hl1 : ldCells st11 1 p1 = some [w32 v.b] := hl1
              have hl2 : ldCells st11 1 p2 = some [w32 v.c] := hl2
              have hl3 : ldCells st11 1 p3 = some [w32 v.d] := hl3
              have hl4 : ldCells st11 1 p4 = some [w32 v.e] := hl4
              have hl5 : ldCells st11 1 p5 = some [w32 v.f] := hl5
              have hl6 : ldCells st11 1 p6 = some [w32 v.g] := hl6
              have hl7 : ldCells st11 1 p7 = some [w32 v.h] := hl7
              have hp0 : idxSlV 1 sv (.int .i64 0) = some p0 := hp0
              have hp1 : idxSlV 1 sv (.int .i64 1) = some p1 := hp1
              have hp2 : idxSlV 1 sv (.int .i64 2) = some p2 := hp2
              have hp3 : idxSlV 1 sv (.int .i64 3) = some p3 := hp3
              have hp4 : idxSlV 1 sv (.int .i64 4) = some p4 := hp4
              have hp5 : idxSlV 1 sv (.int .i64 5) = some p5 := hp5
              have hp6 : idxSlV 1 sv (.int .i64 6) = some p6 := hp6
              have hp7 : idxSlV 1 sv (.int .i64 7) = some p7 := hp7
              obtain ⟨kK, hkK⟩ : ∃ x, x = shaK[i]'hi64 := ⟨_, rfl⟩
              obtain ⟨xX, hxX⟩ : ∃ x, x = X[i]'(by omega) := ⟨_, rfl⟩
              rw [← hkK] at hlK
              rw [← hxX] at hlX
              have hrn : rnds (shaK.take (i + 1)) (X.take (i + 1)) hc = rnd v kK xX := by
                rw [List.take_succ_eq_append_getElem hi64, List.take_succ_eq_append_getElem (show i < X.length by omega), rnds_snoc _ _ _ _ _ (by rw [List.length_take, List.length_take, hXl]; rfl), ← hv, ← hkK, ← hxX]
              simp [h17, h16, hi64', hp4, hl4]
              refine ⟨_, spec132 ok st11 v.e 6 (by omega) rfl, ?_⟩
              simp [hl4]
              refine ⟨_, spec132 ok st11 v.e 11 (by omega) rfl, ?_⟩
              simp [hl4]
              refine ⟨_, spec132 ok st11 v.e 25 (by omega) rfl, ?_⟩
              have hb1 : ror v.e 6 ^^^ ror v.e 11 ^^^ ror v.e 25 = bg1 v.e := rfl
              simp [h16, h17, x3, x9, hb1, hp0, hp1, hp2, hp3, hp4, hp5, hp6, hp7, hpK, hpX, hl0, hl1, hl2, hl3, hl4, hl5, hl6, hl7, hlK, hlX, e32, not_sub]
              refine ⟨_, spec132 ok st11 v.a 2 (by omega) rfl, ?_⟩
              simp [hl0]
              refine ⟨_, spec132 ok st11 v.a 13 (by omega) rfl, ?_⟩
              simp [hl0]
              refine ⟨_, spec132 ok st11 v.a 22 (by omega) rfl, ?_⟩
              have hb0 : ror v.a 2 ^^^ ror v.a 13 ^^^ ror v.a 22 = bg0 v.a := rfl
              simp [h16, h17, hb0, hp0, hp1, hp2, hp3, hp4, hp5, hp6, hp7, hl0, hl1, hl2, hl3, hl4, hl5, hl6, hl7, e32, not_sub]
              rw [← BitVec.add_assoc (v.h + bg1 v.e + (v.e &&& v.f ^^^ ~~~v.e &&& v.g) + kK + xX) (bg0 v.a) _]
              refine onV_fill (cs := rowsOf e32 (rnd v kK xX).list) rfl ?_
              simp [h17, wi]
              refine Round.mk (64 - (i + 1)) _ (by omega) (sub_self _) (hJC _ _ _ ⟨i + 1, _, by omega, rfl, by simp, rfl, ?_⟩)
              rw [hrn]
              exact S.drop.put (.inl ⟨.full, by simp; rfl⟩)
            · have : i = 64 := by omega
              subst this
              have hv2 : v = rnds shaK X hc := by rw [hv, List.take_of_length_le (show shaK.length ≤ 64 from Nat.le_refl _), List.take_of_length_le (by omega)]
              have S : Sep [pt hid (.cells ((addL hc.list v.list 0).map w32)), Rd 1 e32 sv v.list, pt rid (.cells zR32_w80), Was st] st11 := (Sep.tail (fun r hr => hr.drop) S).swap
              simp [h17]
              clear hJC JC
              refine vc_loopJ (fun k env' st' => ∃ i, i ≤ 8 ∧ k = 8 - i ∧ env' 22 = .int .i64 (i : Nat) ∧ Sep [pt hid (.cells ((addL hc.list v.list i).map w32)), Rd 1 e32 sv v.list, pt rid (.cells zR32_w80), Was st] st') 8
                ⟨0, by omega, by omega, by simp, S⟩ ?_
              clear S
              rintro JD hJD k env8 st12 hsame ⟨i, hi, rfl, h22, S⟩
              have y2 := (hsame.get 2 rfl).trans (by simp [x2] : _ = V.ptr (some (rid, 0)))
              have y0 := (hsame.get 0 rfl).trans (by simp [x0] : _ = sB L)
              have y3 := (hsame.get 3 rfl).trans (by simp [x3] : _ = V.sl SK.full (rowsOf e32 shaK) 64)
              have y7 := (hsame.get 7 rfl).trans (by simp [x7] : _ = V.hsl hid 0 1 8)
              have y8 := (hsame.get 8 rfl).trans (by simp [x8] : _ = V.int .i64 (at_ : Int))
              have y16 := (hsame.get 16 rfl).trans (by simp [h16] : _ = sv)
              clear hsame
              have wi : IntKind.i64.wrap ((i : Int) + 1) = (i : Int) + 1 := wrap64 (by omega) (by omega)
              by_cases hi8 : i < 8
              · have hi8' : (i : Int) < 8 := by omega
                have hih : i < hc.list.length := hi8
                have hiv8 : i < v.list.length := hi8
                have hll : (addL hc.list v.list i).length = 8 := addL_len _ _ _
                obtain ⟨p, hp, hl⟩ := (Sep.rdOf S.drop).idx e32_len (i := i) (show i < v.list.length from hi8) .i64
                have rr := arr_read (f := w32) S.get (i := i) (by omega)
                rw [addL_get _ _ i i (show i < hc.list.length from hi8) (Nat.le_refl _)] at rr
                have hst := arr_store (f := w32) S.get (i := i) (by omega) (x := hc.list[i]'hih + v.list[i]'hiv8) (v := w32 (hc.list[i]'hih + v.list[i]'hiv8)) rfl
                have hset : (addL hc.list v.list i).set i (hc.list[i]'hih + v.list[i]'hiv8) = addL hc.list v.list (i + 1) := by
                  rw [addL, List.getD_eq_getElem?_getD, List.getD_eq_getElem?_getD, List.getElem?_eq_getElem (show i < hc.list.length from hi8), List.getElem?_eq_getElem (show i < v.list.length from hi8)]; rfl
                rw [hset] at hst
                have T := S.set (.cells ((addL hc.list v.list (i + 1)).map w32))
                simp [h22, hi8', y7, y16, hp, hl, rr, e32, hst, wi]
                exact Round.mk (8 - (i + 1)) _ (by omega) (sub_self _) (hJD _ _ _ ⟨i + 1, by omega, rfl, by simp, T⟩)
              · have : i = 8 := by omega
                subst this
                have e : (addL hc.list v.list 8).map w32 = cells8 (addV hc v) := rfl
                rw [e] at S
                have w64' : IntKind.i64.wrap ((at_ : Int) + 64) = ((64 * (b + 1) : Nat) : Int) := by rw [wrap64 (by omega) (by omega)]; omega
                simp [h22, y8, w64']
                refine Round.mk (nb - (b + 1)) _ (by omega) (sub_self _) (hJ _ _ _ ⟨b + 1, addV hc v, by omega, rfl, by simp, ?_, S.swap.drop⟩)
                have e2 : nb - b = (nb - (b + 1)) + 1 := by omega
                rw [e2, blocksM, ← hblk, List.drop_drop] at hbl
                rw [show 64 * (b + 1) = at_ + 64 by omega, ← hbl, hv2, hX, hW]
                rfl
      · have : b = nb := by omega
        subst this
        rw [Nat.sub_self] at hbl
        have hbl : hc = blocksM b iv L := hbl
        simp [t0, h8, sB_len, hL64, ← hat]
        have hz : fillV zR32_w80 [] = some zR32_w80 := rfl
        have hsz : spliceV zR32_w80 0 zR32_w80 = zR32_w80 := rfl
        simp [hz]
        intro oid hoid
        have S := S.new hoid (.cells zR32_w80)
        simp [storeS, hsz]
        generalize st7.upd oid _ = st8 at S ⊢
        rw [zR32_rep] at S
        refine vc_loopJ (fun k env' st' => ∃ i, i ≤ 8 ∧ k = 8 - i ∧ env' 24 = .int .i64 (i : Nat) ∧ Sep [pt oid (.cells (((hc.list.take i).flatMap out4 ++ List.replicate (4 * (8 - i)) (0 : UInt8)).map w8)), pt hid (.cells (cells8 hc)), pt rid (.cells (zR32_w80)), Was st] st') 8
          ⟨0, by omega, by omega, rfl, S⟩ ?_
        clear S hJ J
        rintro J hJ k env5 st9 hsame ⟨i, hi, rfl, h24, S⟩
        have u2 := (hsame.get 2 rfl).trans (by simp [t2] : _ = V.ptr (some (rid, 0)))
        have u7 := (hsame.get 7 rfl).trans (by simp [t7] : _ = V.hsl hid 0 1 8)
        have u23 := (hsame.get 23 rfl).trans (by simp : _ = V.ptr (some (oid, 0)))
        clear hsame
        by_cases hi8 : i < 8
        · have hi8' : (i : Int) < 8 := by omega
          have wi : IntKind.i64.wrap ((i : Int) + 1) = (i : Int) + 1 := wrap64 (by omega) (by omega)
          have hih : i < hc.list.length := hi8
          obtain ⟨x, hx⟩ : ∃ x, x = hc.list[i] := ⟨_, rfl⟩
          have rr := arr_read (f := w32) (xs := hc.list) S.swap.get hih
          rw [← hx] at rr
          obtain ⟨p, hp⟩ : ∃ p, p = (hc.list.take i).flatMap out4 := ⟨_, rfl⟩
          have hpl : p.length = 4 * i := by
            rw [hp]
            have : i = 0 ∨ i = 1 ∨ i = 2 ∨ i = 3 ∨ i = 4 ∨ i = 5 ∨ i = 6 ∨ i = 7 := by omega
            rcases this with rfl | rfl | rfl | rfl | rfl | rfl | rfl | rfl <;> rfl
          have hpn : (hc.list.take (i + 1)).flatMap out4 = p ++ out4 x := by
            rw [List.take_succ_eq_append_getElem hih, List.flatMap_append, ← hp, ← hx]
            simp
          have S : Sep [pt oid (.cells ((p ++ List.replicate 4 0 ++ ((out4 x).drop 4 ++ List.replicate (4 * (7 - i)) (0 : UInt8))).map w8)), pt hid (.cells (cells8 hc)), pt rid (.cells (zR32_w80)), Was st] st9 := by
            rw [← hp, show 4 * (8 - i) = 4 + 4 * (7 - i) by omega, ← List.replicate_append_replicate] at S
            rw [List.append_assoc]
            exact S
          simp [h24, hi8', u7, rr]
          refine vc_loopJ (fun k env' st' => ∃ j, j ≤ 4 ∧ k = j ∧ env' 26 = .int .i64 ((j : Nat) - 1 : Int) ∧ env' 25 = w32 (x >>> (8 * (4 - j))) ∧ Sep [pt oid (.cells ((p ++ List.replicate j 0 ++ ((out4 x).drop j ++ List.replicate (4 * (7 - i)) (0 : UInt8))).map w8)), pt hid (.cells (cells8 hc)), pt rid (.cells (zR32_w80)), Was st] st') 4
            ⟨4, by omega, by omega, by simp, by simp, S⟩ ?_
          clear S
          rintro JE hJE k env6 st10 hsame ⟨j, hj, rfl, h26, h25, S⟩
          have v2 := (hsame.get 2 rfl).trans (by simp [u2] : _ = V.ptr (some (rid, 0)))
          have v7 := (hsame.get 7 rfl).trans (by simp [u7] : _ = V.hsl hid 0 1 8)
          have v23 := (hsame.get 23 rfl).trans (by simp [u23] : _ = V.ptr (some (oid, 0)))
          have v24 := (hsame.get 24 rfl).trans (by simp [h24] : _ = V.int .i64 (i : Int))
          clear hsame
          cases k with
          | zero =>
            simp [h26, v24, wi]
            refine Round.mk (8 - (i + 1)) _ (by omega) (sub_self _) (hJ _ _ _ ⟨i + 1, by omega, rfl, by simp, ?_⟩)
            rw [hpn, show 8 - (i + 1) = 7 - i by omega]
            simpa using S
          | succ j =>
            have h26 : env6 26 = .int .i64 (j : Int) := by rw [h26]; congr 1; omega
            have b0 : IntKind.i64.wrap (4 * (i : Int)) = 4 * (i : Int) := wrap64 (by omega) (by omega)
            obtain ⟨y, hy⟩ : ∃ y, y = 4 * i + j := ⟨_, rfl⟩
            have b1 : IntKind.i64.wrap (4 * (i : Int) + (j : Int)) = (y : Int) := by rw [wrap64 (by omega) (by omega)]; omega
            have b2 : IntKind.i64.wrap ((j : Int) - 1) = (j : Int) - 1 := wrap64 (by omega) (by omega)
            have a0 := idxArr_ptr 32 oid (z := (y : Int)) (j := y) (by omega) (by omega)
            obtain ⟨c, hc'⟩ : ∃ c, c = UInt8.ofBitVec ((x >>> (8 * (4 - (j + 1)))).setWidth 8) := ⟨_, rfl⟩
            have hod : (out4 x).drop j = c :: (out4 x).drop (j + 1) := by
              rw [hc']
              have : j = 0 ∨ j = 1 ∨ j = 2 ∨ j = 3 := by omega
              rcases this with rfl | rfl | rfl | rfl <;> simp [out4]
            have hset := set_back p ((out4 x).drop (j + 1) ++ List.replicate (4 * (7 - i)) (0 : UInt8)) 0 c j
            rw [hpl, ← hy, ← List.cons_append, ← hod] at hset
            have hst := arr_store (f := w8) S.get (i := y) (by simp; omega) (x := c) (v := w8 c) rfl
            have S := S.set (.cells (((p ++ List.replicate (j + 1) 0 ++ ((out4 x).drop (j + 1) ++ List.replicate (4 * (7 - i)) (0 : UInt8))).set y c).map w8))
            rw [hset] at hst S
            obtain ⟨ys, hys⟩ : ∃ ys, ys = p ++ List.replicate j 0 ++ ((out4 x).drop j ++ List.replicate (4 * (7 - i)) (0 : UInt8)) := ⟨_, rfl⟩
            rw [← hys] at hst S
            have hsh : x >>> (8 * (4 - (j + 1))) / 256#32 = x >>> (8 * (4 - j)) := by
              rw [div256]; congr 1; omega
            have hlo : (x >>> (8 * (4 - (j + 1))) % 256#32).setWidth 8 = (x >>> (8 * (4 - (j + 1)))).setWidth 8 := low8 _
            have hj0 : (0 : Int) ≤ (j : Int) := by omega
            generalize 4 - (j + 1) = sh at h25 hc' hsh hlo
            simp [h26, h25, v23, v24, b0, b1, b2, a0, hsh, hlo, ← hc', hst]
            exact Round.mk j _ (by omega) (sub_self _) (hJE _ _ _ ⟨j, by omega, rfl, by simp, by simp, by rw [← hys]; exact S⟩)
        · have : i = 8 := by omega
          subst this
          have oo := S.get
          have e : ((hc.list.take 8).flatMap out4 ++ List.replicate (4 * (8 - 8)) (0 : UInt8)).map w8 = eId (sha l) := by
            have : eId (sha l) = (shaL l).map w8 := rfl
            rw [this, hsha, ← hbl]
            rfl
          rw [e] at oo
          have orr := S.mem (i := rid) (o := .cells zR32_w80) (by simp)
          have hst := store_z32 orr (sha l)
          have sgi := segId0 (sha l)
          have T := S.setAt (.cells (eId (sha l))) 2 rfl
          simp [u2, u23, h24, St.seg, oo, sgi, hst]
          exact T.was' (by simp)
  · have h56' : ((m : Int).tmod 64 != 56) = true := by
      rw [htm]
      simp; omega
    have hzZ : z < Z := by omega
    have ha := sB_add pre [0] (by simp; omega)
    simp [h0, hlen, h56', ha]
    refine Round.mk (Z - (z + 1)) _ (by omega) (sub_self _) (hJ _ _ _ ⟨z + 1, by omega, rfl, ?_, rfl⟩)
    rw [hpre, List.replicate_succ']
    simp
theorem spec134 (ok : OkRef01 P F) (st : St) (l : List UInt8) (hl : l.length ≤ 100000) : ACalls P (F 134) [sB l] st fun v st' => v = .agg (eId (sha2 l)) ∧ st' = st := by
  refine shows_call ok.mixed ok.h134 (by simp [k134]) ?_
  simp only [k134]
  simp
  intro rid hrid
  have S := (Sep.start st).new hrid (.cells zR32_w80)
  generalize st.upd rid _ = st1 at S ⊢
  refine (spec130 ok st1 l hl).mono ?_
  rintro v st1 ⟨rfl, rfl⟩
  simp
  intro iid hiid
  have S := S.new hiid (.cells zR32_w80)
  obtain ⟨x, hx⟩ : ∃ x, x = sha l := ⟨_, rfl⟩
  rw [← hx]
  have S1 := S.set (.cells (eId x))
  have hst := store_z32 S.get x
  generalize st1.upd iid (.cells zR32_w80) = st2 at S S1 hst ⊢
  simp [hst]
  generalize st2.upd iid (.cells (eId x)) = st3 at S1 ⊢
  have o := S1.get
  have S2 := S1.set (.ro (eId x))
  simp [frzP, frzV, frzOb, o]
  generalize st3.upd iid (.ro (eId x)) = st4 at S2 ⊢
  have hseg := segId0 x
  have htk : List.take 32 (eId x) = rowsOf e8 x.toList := by
    rw [← eId_rows, List.take_of_length_le (by rw [eId_len]; omega)]
  have hts : toStrV st4 (.sl .full (rowsOf e8 x.toList) 32) = some (sB x.toList) := toStr_sB (.inl ⟨.full, by simp⟩) (by simp)
  simp [slArrV, bounds, hseg, htk, hts]
  refine (spec130 ok st4 x.toList (by simp)).mono ?_
  rintro v st4 ⟨rfl, rfl⟩
  have hr : st4 rid = some (.cells zR32_w80) := S2.mem (by simp)
  have hst := store_z32 hr (sha x.toList)
  have T := S2.setAt (.cells (eId (sha x.toList))) 1 rfl
  have hsg := segId0 (sha x.toList)
  simp [hst, St.seg, hsg]
  refine ⟨T.was' (by simp), ?_⟩
  rw [hx, sha2, sha_list]
end
end Go.Ab
set_option linter.unusedSimpArgs false
set_option linter.unusedVariables false
set_option maxRecDepth 10000
namespace Go.Ab
open Go Go.RowKit
section
variable {P : Program} {F : Fn}
theorem tgtB_cases {b : W32} {v : V} (h : TgtB b v) : (tgt b = none ∧ v = .tup [.sl .nil [] 0, .bool false]) ∨ ∃ t k l, tgt b = some t ∧ v = .tup [slK_ k l, .bool true] ∧ valB l = t ∧ l.length ≤ 3000 := by
  unfold TgtB at h
  cases e : tgt b with
  | none => rw [e] at h; exact .inl ⟨rfl, h⟩
  | some t =>
    rw [e] at h
    obtain ⟨k, l, h1, h2, h3⟩ := h
    exact .inr ⟨t, k, l, rfl, h1, h2, h3⟩
set_option maxHeartbeats 1000000 in
theorem spec153 (ok : OkRef05 P F) (st : St) (h : Hdr) (limit : W32) : ACalls P (F 153) [.agg (eHdr h), w32 limit] st fun v st' => v = .int .i64 (provedN h limit) ∧ st' = st := by
  have okr := ok.toOkRef02
  have ok1 := ok.toOkRef01
  refine shows_call ok.mixed ok.h153 (by simp [k153]) ?_
  simp only [k153]
  simp
  intro i2 h2
  have S := (Sep.start st).new h2 (.cells (eHdr h))
  generalize st.upd i2 _ = st1 at S ⊢
  have o2 := S.get
  have sub : St.sub st st1 := S.was' (by simp)
  simp [St.seg, o2, hsegBits]
  refine (spec146 ok st1 h.bits).mono ?_
  rintro v st1 ⟨hT, rfl⟩
  rcases tgtB_cases hT with ⟨e1, rfl⟩ | ⟨t, k, l, e1, rfl, hv, hll⟩
  · have e : provedN h limit = 30 := by simp [provedN, e1]
    simp
    refine (spec146 ok st1 limit).mono ?_
    rintro v st1 ⟨hT2, rfl⟩
    rcases tgtB_cases hT2 with ⟨e2, rfl⟩ | ⟨t2, k2, l2, e2, rfl, hv2, hll2⟩
    · simp [e, sub]
    · simp [e, sub]
  · simp
    refine (spec146 ok st1 limit).mono ?_
    rintro v st1 ⟨hT2, rfl⟩
    rcases tgtB_cases hT2 with ⟨e2, rfl⟩ | ⟨t2, k2, l2, e2, rfl, hv2, hll2⟩
    · have e : provedN h limit = 30 := by simp [provedN, e1, e2]
      simp [e, sub]
    · have e : provedN h limit = if t2 < t then 30 else if t < idN (hId h) then 50 else 0 := by simp [provedN, e1, e2]
      simp
      refine (spec125 okr (rd_slK k2 l2 st1) (rd_slK k l st1) (by omega) (by omega)).mono ?_
      rintro v st1 ⟨rfl, rfl⟩
      rw [hv, hv2]
      by_cases hl : t2 < t
      · simp [hl, e, sub]
      · simp [hl, e, St.seg, o2, hsegAll]
        refine (spec151 ok st1 h).mono ?_
        rintro v st1 ⟨rfl, rfl⟩
        simp
        refine (spec134 ok1 st1 (hBytes h) (by rw [hBytes_len]; omega)).mono ?_
        rintro v st1 ⟨rfl, rfl⟩
        simp
        have hid : sha2 (hBytes h) = hId h := rfl
        rw [hid]
        obtain ⟨N, hN⟩ : ∃ N, N = idN (hId h) := ⟨_, rfl⟩
        have hNl : N < 2 ^ 256 := hN ▸ idN_lt _
        have h152 := spec152 ok st1 (hId h)
        rw [← hN] at h152 ⊢
        clear hN
        refine h152.mono ?_
        rintro v st1 ⟨rfl, rfl⟩
        simp
        have hn : valB (bitsN 256 N) = N := by rw [valB_bitsN, Nat.mod_eq_of_lt hNl]
        refine (spec125 okr (rd_slK k l st1) (rd_slK .some (bitsN 256 N) st1) (by omega) (by rw [bitsN_len]; omega)).mono ?_
        rintro v st1 ⟨rfl, rfl⟩
        rw [hv, hn]
        by_cases hl2 : t < N
        · simp [hl2, sub]
        · simp [hl2, sub]
end
end Go.Ab
set_option linter.unusedSimpArgs false
set_option linter.unusedVariables false
set_option maxRecDepth 10000
namespace Go.Ab
open Go Go.RowKit
theorem splice_right {a t vs : List V} {n k : Nat} (ha : a.length = n) : spliceV (a ++ t) (n + k) vs = a ++ spliceV t k vs := by
  subst ha
  unfold spliceV
  rw [List.take_length_add_append, Nat.add_assoc, List.drop_length_add_append]
  simp only [List.append_assoc]
def eNpre (x : Nd) : List V := eHdr x.hdr ++ eId x.id
theorem eNpre_len (x : Nd) : (eNpre x).length = 100 := by simp [eNpre, eHdr_len, eId_len]
theorem eNd_pre (x : Nd) : eNd x = eNpre x ++ (.int .i64 x.parent :: .int .i64 x.skip :: .int .i64 x.height :: (eU (natU x.work) ++ [.bool x.failed])) := by simp [eNd, eNpre]
theorem spl_hdr (x : Nd) (h : Hdr) : spliceV (eNd x) 0 (eHdr h) = eNd { x with hdr := h } := by
  unfold spliceV
  rw [List.take_zero, List.nil_append, Nat.zero_add, eHdr_len, eNd_drop68]; rfl
theorem spl_id (x : Nd) (i : Id) : spliceV (eNd x) 68 (eId i) = eNd { x with id := i } := by
  rw [eNd, show 68 = 68 + 0 from rfl, splice_right (eHdr_len _)]
  unfold spliceV
  rw [List.take_zero, List.nil_append, Nat.zero_add, show (eId i).length = (eId x.id).length by rw [eId_len, eId_len], List.drop_left]; rfl
theorem spl_par (x : Nd) (n : Int) : spliceV (eNd x) 100 [.int .i64 n] = eNd { x with parent := n } := by
  rw [eNd_pre, show 100 = 100 + 0 from rfl, splice_right (eNpre_len _), eNd_pre]; rfl
theorem spl_skip (x : Nd) (n : Nat) : spliceV (eNd x) 101 [.int .i64 n] = eNd { x with skip := n } := by
  rw [eNd_pre, show 101 = 100 + 1 from rfl, splice_right (eNpre_len _), eNd_pre]; rfl
theorem spl_hgt (x : Nd) (n : Nat) : spliceV (eNd x) 102 [.int .i64 n] = eNd { x with height := n } := by
  rw [eNd_pre, show 102 = 100 + 2 from rfl, splice_right (eNpre_len _), eNd_pre]; rfl
theorem spl_work (x : Nd) (n : Nat) : spliceV (eNd x) 103 (eU (natU n)) = eNd { x with work := n } := by
  rw [eNd_pre, show 103 = 100 + 3 from rfl, splice_right (eNpre_len _), eNd_pre]; rfl
def nd0 : Nd := ⟨hdr0, id0, 0, 0, 0, 0, false⟩
theorem z108_eq : z108_9b14 = eNd nd0 := by
  have : eU (natU 0) = [w64 0, w64 0, w64 0, w64 0] := by rw [eU_zero0]; rfl
  rw [eNd, show nd0.work = 0 from rfl, this]; rfl
theorem seg_of_take {cs ys : List V} {o n : Nat} (h : ((cs.drop o).take n) = ys) (hl : o + n ≤ cs.length) : segOf cs o n = some ys := by
  unfold segOf
  rw [if_pos hl, h]
theorem osegAll (x : Nd) : segOf (eNd x) 0 108 = some (eNd x) := by
  refine seg_of_take ?_ (by rw [eNd_len]; omega)
  rw [List.drop_zero, ← eNd_len x, List.take_length]
theorem osegId (x : Nd) : segOf (eNd x) 68 32 = some (eId x.id) := seg_of_take (nsegId x) (by rw [eNd_len]; omega)
theorem osegHgt (x : Nd) : segOf (eNd x) 102 1 = some [.int .i64 x.height] := seg_of_take (nsegHgt x) (by rw [eNd_len]; omega)
theorem osegWork (x : Nd) : segOf (eNd x) 103 4 = some (eU (natU x.work)) := seg_of_take (nsegWork x) (by rw [eNd_len]; omega)
theorem osegTime (x : Nd) : segOf (eNd x) 65 1 = some [w32 x.hdr.time] := seg_of_take (nsegTime x) (by rw [eNd_len]; omega)
theorem osegBits (x : Nd) : segOf (eNd x) 66 1 = some [w32 x.hdr.bits] := seg_of_take (nsegBits x) (by rw [eNd_len]; omega)
def TreeS (tid : Nat) (r : Rl) (l : List Nd) : Asn := fun h => ∃ s mid es, Sep [Sl 108 eNd s l, pt tid (.cells (eRl r ++ [s, .map (some mid)])), pt mid (.mp (encM kId kInt es))] h ∧ ∀ k, lk k es = (findM l k).map fun (i : Nat) => (i : Int)
theorem TreeS.toR {tid : Nat} {r : Rl} {l : List Nd} {st : St} (h : TreeS tid r l st) (hl : l ≠ []) : TreeR tid r l st := by
  obtain ⟨s, mid, es, S, hk⟩ := h
  obtain ⟨sid, spare, rfl, hs, S⟩ := S.slObj hl
  exact ⟨sid, mid, spare, es, S.mem (i := tid) (by simp), S.get, S.mem (i := mid) (by simp), hs, hk⟩
theorem Sep.treeR {tid : Nat} {r : Rl} {l : List Nd} {L : List Asn} {st : St} (h : Sep (TreeS tid r l :: L) st) (hl : l ≠ []) : TreeR tid r l st := by
  obtain ⟨h', h1, h2⟩ := h.part
  exact (h2.toR hl).sub h1
theorem splice74 (r : Rl) (a b c : V) : spliceV (eRl r ++ [a, b]) 74 [c] = eRl r ++ [c, b] := by
  rw [show 74 = 74 + 0 from rfl, splice_right (eRl_len r)]; rfl
def putM (l : List Nd) (h : Hdr) (p : Int) : Nd := if p < 0 then ⟨h, hId h, p, 0, 0, workN ((tgt h.bits).getD 0), false⟩ else ndOf l h p.toNat
theorem natU_add (a b : Nat) : BitVec.ofNat 256 (sumU [natU a, natU b]) = natU (a + b) := by
  apply BitVec.eq_of_toNat_eq
  simp [sumU, natU]
theorem tgtR_get (b : W32) : tgtR b = .tup [nU (natU ((tgt b).getD 0)), .bool (tgt b).isSome] ∧ (natU ((tgt b).getD 0)).toNat = (tgt b).getD 0 := by
  unfold tgtR
  cases h : tgt b with
  | none => exact ⟨rfl, rfl⟩
  | some t => exact ⟨rfl, natU_nat (tgt_lt h).2⟩
section
variable {P : Program} {F : Fn}
set_option maxHeartbeats 2000000 in
theorem spec156 (ok : OkIndex P F) {tid : Nat} {r : Rl} {l : List Nd} {g : St} (T : TreeS tid r l g) (w : l ≠ [] → Wf l) (hl : l.length ≤ 16384) (h : Hdr) (p : Int) (hp : p = -1 ∨ (0 ≤ p ∧ p < l.length)) :
    ACalls P (F 156) [.ptr (some (tid, 0)), .agg (eHdr h), .int .i64 p] g fun v st' => v = .int .i64 (l.length : Nat) ∧ TreeS tid r (l ++ [putM l h p]) st' := by
  have okh := ok.toOkHead
  have okn := okh.toOkNum
  obtain ⟨s, mid, es, S, hlk⟩ := T
  refine shows_call ok.mixed ok.h156 (by simp [k156]) ?_
  simp only [k156, z108_eq, eU_zero0]
  simp
  intro i4 h4
  have S := S.new h4 (.cells (eHdr h))
  generalize g.upd i4 _ = st1 at S ⊢
  have o4 := S.get
  have hfl : fillV (eNd nd0) [(0, 68, .agg (eHdr h)), (68, 32, .agg (eId (hId h))), (100, 1, .int .i64 p)] = some (eNd { nd0 with hdr := h, id := hId h, parent := p }) := by
    simp [fillV, eHdr_len, eId_len, eNd_len, spl_hdr, spl_id, spl_par]
  simp [St.seg, o4, hsegAll]
  refine ⟨_, spec141 okh st1 h, ?_⟩
  simp [hfl]
  intro i7 h7
  have S := S.new h7 (.cells (eNd nd0))
  have hsp : ∀ x y, spliceV (eNd x) 0 (eNd y) = eNd y := fun x y => by simp [spliceV, eNd_len]
  simp [storeS, eNd_len, hsp]
  have S := S.setAt (.cells (eNd { nd0 with hdr := h, id := hId h, parent := p })) 0 rfl
  simp at S
  generalize st1.upd i7 _ = st2 at S ⊢
  have o4 := S.mem (i := i4) (o := .cells (eHdr h)) (by simp)
  simp [St.seg, o4, hsegBits]
  refine (spec135 okh st2 h.bits).mono ?_
  rintro v st2 ⟨rfl, rfl⟩
  obtain ⟨hA1, hA2⟩ := tgtR_get h.bits
  rw [hA1]
  obtain ⟨T, hT⟩ : ∃ T, T = (tgt h.bits).getD 0 := ⟨_, rfl⟩
  rw [← hT] at hA2 ⊢
  have hspU : ∀ x y : U, spliceV (eU x) 0 (eU y) = eU y := fun _ _ => rfl
  simp
  intro i8 h8
  have S := S.new h8 (.cells (eU 0#256))
  simp [storeS, nU, eU_len, hspU]
  have S := S.setAt (.cells (eU (natU T))) 0 rfl
  simp at S
  generalize st2.upd i8 _ = st3 at S ⊢
  have o8 := S.get
  have o7 := S.mem (i := i7) (o := .cells (eNd { nd0 with hdr := h, id := hId h, parent := p })) (by simp)
  simp [St.seg, o8, segU]
  refine (spec137 okh st3 (natU T)).mono ?_
  rintro v st3 ⟨rfl, rfl⟩
  rw [hA2]
  obtain ⟨W, hW⟩ : ∃ W, W = workN T := ⟨_, rfl⟩
  rw [← hW]
  have S := S.setAt (.cells (eNd { nd0 with hdr := h, id := hId h, parent := p, work := W })) 1 rfl
  simp [storeS, o7, nU, eU_len, eNd_len, spl_work]
  simp at S
  generalize st3.upd i7 _ = st4 at S ⊢
  refine condB_join (fun env' st' => env' 0 = .ptr (some (tid, 0)) ∧ env' 7 = .ptr (some (i7, 0)) ∧ Sep [pt i7 (.cells (eNd (putM l h p))), Sl 108 eNd s l, pt tid (.cells (eRl r ++ [s, .map (some mid)])), pt mid (.mp (encM kId kInt es))] st') ?_ ?_
  · rcases hp with rfl | ⟨hp1, hp2⟩
    · have e : putM l h (-1) = { nd0 with hdr := h, id := hId h, parent := -1, work := W } := by
        simp [putM, hW, hT, nd0]
      simp
      rw [e]
      exact Sep.tail (fun r hr => hr.drop) S.drop
    · obtain ⟨q, rfl⟩ : ∃ q : Nat, p = q := ⟨p.toNat, by omega⟩
      have hq : q < l.length := by omega
      have hne : l ≠ [] := by rintro rfl; simp at hq
      have w := w hne
      obtain ⟨sid, spare, rfl, hsp1, S⟩ := (S.pull 3).slObj hne
      have TR : TreeAt tid sid mid spare es r l st4 := ⟨S.mem (i := tid) (by simp), S.get, S.mem (i := mid) (by simp), hsp1, hlk⟩
      obtain ⟨x1, hx1⟩ : ∃ x1 : Nd, x1 = { nd0 with hdr := h, id := hId h, parent := (q : Int), work := W } := ⟨_, rfl⟩
      have f1 : x1.work = W := by rw [hx1]
      have f2 : putM l h q = { x1 with height := hgt l q + 1, work := W + (nd l q).work, skip := anc l q (skipH (hgt l q + 1)) } := by
        rw [hx1]; simp [putM, ndOf, hW, hT, nd0]
      rw [← hx1] at S
      clear hx1
      have o2 := TR.rows
      have o1 := TR.top
      have o7 := S.mem (i := i7) (o := .cells (eNd x1)) (by simp)
      have hg := hgt_at hq
      have hgl := w.hgt_le hq
      have hqi : (q : Int) < l.length := by omega
      simp [St.seg, o1, o2, tree_seg74, hq, nd_all hq]
      intro i10 h10
      have S := S.new h10 (.cells (eNd nd0))
      simp [storeS, eNd_len, hsp]
      have S := S.setAt (.cells (eNd l[q])) 0 rfl
      simp at S
      generalize st4.upd i10 _ = st5 at S ⊢
      have o10 := S.get
      have o7 := S.mem (i := i7) (o := .cells (eNd x1)) (by simp)
      obtain ⟨H, hH⟩ : ∃ H, H = l[q].height := ⟨_, rfl⟩
      obtain ⟨pw, hpw⟩ : ∃ n, n = l[q].work := ⟨_, rfl⟩
      have hoH := osegHgt l[q]
      have hoW := osegWork l[q]
      rw [nd_at hq, hg] at f2
      rw [← hH] at hoH f2 hg
      rw [← hpw] at hoW f2
      have hw1 : IntKind.i64.wrap ((H : Int) + 1) = (H : Int) + 1 := wrap64 (by omega) (by omega)
      obtain ⟨x2, e1, e2, e3, f2⟩ : ∃ x2 : Nd, spliceV (eNd x1) 102 [.int .i64 ((H : Int) + 1)] = eNd x2 ∧ x2.work = W ∧ x2.height = H + 1 ∧ putM l h q = { x2 with work := W + pw, skip := anc l q (skipH (H + 1)) } := ⟨_, spl_hgt x1 (H + 1), f1, rfl, f2⟩
      simp [storeS, St.seg, o10, o7, hoH, hw1, eNd_len, e1]
      have S := S.setAt (.cells (eNd x2)) 3 rfl
      simp at S
      generalize st5.upd i7 _ = st6 at S ⊢
      have o10 := S.get
      have o7 := S.mem (i := i7) (o := .cells (eNd x2)) (by simp)
      have hoW2 := osegWork x2
      rw [e2] at hoW2
      have hfl2 : fillV (repV (eU 0#256) 2) [(0, 4, .agg (eU (natU W))), (4, 4, .agg (eU (natU pw)))] = some (rowsOf eU [natU W, natU pw]) := rfl
      simp [St.seg, o10, o7, hoW, hoW2, hfl2]
      have rd2 : Rd 4 eU (.sl .full (eU (natU W) ++ eU (natU pw)) 2) [natU W, natU pw] st6 := .inl ⟨.full, by simp [rowsOf]⟩
      refine (spec108 okn st6 rd2 (by simp)).mono ?_
      rintro v st6 ⟨rfl, rfl⟩
      rw [natU_add]
      obtain ⟨x3, e4, e5, f2⟩ : ∃ x3 : Nd, spliceV (eNd x2) 103 (eU (natU (W + pw))) = eNd x3 ∧ x3.height = H + 1 ∧ putM l h q = { x3 with skip := anc l q (skipH (H + 1)) } := ⟨_, spl_work x2 (W + pw), e3, f2⟩
      simp [o7, nU, storeS, eNd_len, e4, eU_len]
      have S := S.setAt (.cells (eNd x3)) 3 rfl
      simp at S
      generalize st6.upd i7 _ = st7 at S ⊢
      have o7 := S.mem (i := i7) (o := .cells (eNd x3)) (by simp)
      have ho3 := osegHgt x3
      rw [e5] at ho3
      simp [St.seg, o7, ho3]
      have TR : TreeR tid r l st7 := ⟨sid, mid, spare, es, S.mem (i := tid) (by simp), S.mem (i := sid) (by simp), S.mem (i := mid) (by simp), hsp1, hlk⟩
      refine (spec157 ok st7 (H + 1) (by omega)).mono ?_
      rintro v st7 ⟨rfl, rfl⟩
      have hsk := skipH_lt (h := H + 1) (by omega)
      refine (spec158 ok TR w q (skipH (H + 1) : Nat)).mono ?_
      rintro v st8 ⟨rfl, hst8⟩
      rw [hst8]
      clear hst8 st8
      have ea : ancI l q (skipH (H + 1) : Nat) = (anc l q (skipH (H + 1)) : Nat) := by
        have : ¬ l.length ≤ q := by omega
        have h2 : ¬ (H < skipH (H + 1)) := by omega
        have h3 : ¬ ((q : Int) < 0) := by omega
        have h4 : ¬ ((skipH (H + 1) : Int) < 0) := by omega
        simp [ancI, this, hg, h2, h3, h4]
      rw [ea]
      have e6 := spl_skip x3 (anc l q (skipH (H + 1)))
      rw [← f2] at e6
      simp [o7, storeS, eNd_len, e6]
      have S := S.setAt (.cells (eNd (putM l h q))) 3 rfl
      simp at S
      generalize st7.upd i7 _ = st8 at S ⊢
      have S := Sep.tail (fun r hr => Sep.tail (fun r hr => hr.drop) hr.drop) S.drop
      refine Sep.swap ?_
      have S := Sep.ofObj S hsp1
      exact Sep.swap (Sep.tail (fun r hr => hr) (Sep.swap S))
  · rintro env' st9 hsame ⟨g0, g7, S⟩
    have g4 := hsame
    clear hsame
    have o1 := S.mem (i := tid) (o := .cells (eRl r ++ [s, .map (some mid)])) (by simp)
    have o7 := S.get
    have hlen := (Sep.rd eNd_len S.swap).len
    have hfl3 : fillV (repV (eNd nd0) 1) [(0, 108, .agg (eNd (putM l h p)))] = some (eNd (putM l h p)) := by
      have : repV (eNd nd0) 1 = eNd nd0 := by simp [repV]
      simp [this, fillV, eNd_len, spliceV]
    simp [g0, g7, St.seg, o1, tree_seg74, hlen, o7, osegAll, hfl3]
    have hel : elems st9 108 (V.sl SK.full (eNd (putM l h p)) 1) = some (eNd (putM l h p), 1) := by simp [elems, eNd_len]
    rw [hel]
    refine Sep.app1 eNd_len (by omega) S.swap rfl (by omega) ?_
    intro s' st10 S
    obtain ⟨sid, spare, rfl, hsp1, S⟩ := S.slObj (by simp)
    have o1 := S.mem (i := tid) (o := .cells (eRl r ++ [s, .map (some mid)])) (by simp)
    simp [g0, storeS, o1, splice74, eRl_len]
    have S := S.setAt (.cells (eRl r ++ [.hsl sid 0 108 (l.length + 1), .map (some mid)])) 2 rfl
    simp at S
    generalize st10.upd tid _ = st11 at S ⊢
    have o1 := S.mem (i := tid) (o := .cells (eRl r ++ [.hsl sid 0 108 (l.length + 1), .map (some mid)])) (by simp)
    have o7 := S.mem (i := i7) (o := .cells (eNd (putM l h p))) (by simp)
    have om := S.mem (i := mid) (o := .mp (encM kId kInt es)) (by simp)
    have hms := mset_enc keyed_id om (hId h) (l.length : Int)
    have hpid : (putM l h p).id = hId h := by unfold putM; split <;> rfl
    have hid := osegId (putM l h p)
    rw [hpid] at hid
    simp only [kId, kInt] at hms
    simp [g0, g7, St.seg, o1, o7, tree_seg75, hid, hms]
    have S := S.setAt (.mp (encM kId kInt (aSet (hId h) (l.length : Int) es))) 3 rfl
    simp at S
    refine ⟨_, sub_self _, ?_⟩
    have S := Sep.tail (fun r hr => hr.drop) S
    rw [show rowsOf eNd l ++ (eNd (putM l h p) ++ spare) = rowsOf eNd (l ++ [putM l h p]) ++ spare by simp [rowsOf]] at S
    have S := Sep.ofObj S hsp1
    rw [show (l ++ [putM l h p]).length = l.length + 1 by simp] at S
    refine ⟨_, mid, _, S, fun k => ?_⟩
    rw [lk_aSet, hlk, findM_append, hpid]
    by_cases e : k = hId h
    · subst e; simp
    · rw [if_neg e, if_neg (fun e' => e e'.symm)]
end
end Go.Ab
set_option linter.unusedSimpArgs false
set_option linter.unusedVariables false
set_option maxRecDepth 10000
namespace Go.Ab
open Go Go.RowKit
def clI (l : List Nd) (i : Int) : Nat := (max 0 (min i ((l.length : Int) - 1))).toNat
theorem clI_lt {l : List Nd} (w : Wf l) (i : Int) : clI l i < l.length := by
  have := w.ne
  unfold clI; omega
theorem clI_of {l : List Nd} {n : Nat} (h : n < l.length) : clI l n = n := by unfold clI; omega
def timesI (l : List Nd) (n : Nat) (i : Int) : List W32 := if i < 0 then [] else timesM l n i.toNat
theorem timesM_succ {l : List Nd} {n i : Nat} (hi : i < l.length) : timesM l (n + 1) i = l[i].hdr.time :: timesI l n l[i].parent := by
  simp [timesM, hi, timesI]
theorem timesM_ne {l : List Nd} {n i : Nat} (hi : i < l.length) : timesM l (n + 1) i ≠ [] := by simp [timesM, hi]
section
variable {P : Program} {F : Fn}
theorem spec166 (ok : OkIndex P F) {st : St} {tid : Nat} {r : Rl} {l : List Nd} (h : TreeR tid r l st) (w : Wf l) (hl : l.length ≤ 16384) (i : Int) : ACalls P (F 166) [.ptr (some (tid, 0)), .int .i64 i] st fun v st' => v = w32 (medianM l (clI l i)) ∧ st' = st := by
  obtain ⟨sid, mid, spare, es, h⟩ := h
  refine shows_call ok.mixed ok.h166 (by simp [k166]) ?_
  simp only [k166]
  have o1 := h.top
  have hne := w.ne
  obtain ⟨n, hn⟩ : ∃ n, n = clI l i := ⟨_, rfl⟩
  have hnl : n < l.length := hn ▸ clI_lt w i
  rw [← hn]
  have hw : IntKind.i64.wrap ((l.length : Int) - 1) = (l.length : Int) - 1 := wrap64 (by omega) (by omega)
  have hmn : foldV min2V (.int .i64 i) [.int .i64 ((l.length : Int) - 1)] = some (.int .i64 (min i ((l.length : Int) - 1))) := by
    simp only [foldV, min2V, if_true, Option.bind_some]
    congr 2
    split <;> omega
  have hmx : foldV max2V (.int .i64 0) [.int .i64 (min i ((l.length : Int) - 1))] = some (.int .i64 (n : Int)) := by
    simp only [foldV, max2V, if_true, Option.bind_some]
    unfold clI at hn
    congr 2
    split <;> omega
  simp [St.seg, o1, tree_seg74, hw, hmn, hmx]
  refine vc_loopJ (fun c env' st' => ∃ (acc : List W32) (j : Int) (s : V), c = 11 - acc.length ∧ acc.length ≤ 11 ∧ acc ++ timesI l (11 - acc.length) j = timesM l 11 n ∧ (0 ≤ j → j < l.length) ∧ env' 1 = .int .i64 j ∧ env' 5 = s ∧ Sep [Sl 1 e32 s acc, Was st] st') 11
    ⟨[], n, .sl .nil [] 0, rfl, by simp, ?_, by omega, by simp, by simp, (Sep.start st).slNil⟩ ?_
  · simp [timesI]; omega
  · rintro J hJ c env' st2 hsame ⟨acc, j, s, rfl, hal, he, hj, g1, g5, S⟩
    have g0 := hsame.get 0 rfl
    simp at g0
    clear hsame
    have hsub := S.was' (st0 := st) (by simp)
    have h2 := h.sub hsub
    have o1 := h2.top
    have o2 := h2.rows
    have hlen := (Sep.rd e32_len S).len
    have hfin : acc = timesM l 11 n → ACalls P (F 164) [s] st2 fun v st' => v = w32 (medianM l n) ∧ St.sub st st' := by
      intro e
      have hne2 : acc ≠ [] := by rw [e]; exact timesM_ne hnl
      obtain ⟨sid2, spare2, rfl, hs2, S⟩ := S.slObj hne2
      refine (spec164 ok S.get (by omega) hne2).mono ?_
      rintro v st3 ⟨rfl, rfl⟩
      have S := S.setAt (.cells (rowsOf e32 (sorted32 acc) ++ spare2)) 0 rfl
      have hsub := S.was' (st0 := st) (by simp)
      have em : middle32 acc = medianM l n := by rw [e]; rfl
      exact ⟨by rw [em], hsub⟩
    by_cases hj0 : 0 ≤ j
    · by_cases ha : (acc.length : Int) < 11
      · obtain ⟨q, rfl⟩ : ∃ q : Nat, j = q := ⟨j.toNat, by omega⟩
        have hq : q < l.length := by have := hj hj0; omega
        simp [g0, g1, g5, hlen, ha, St.seg, o1, o2, tree_seg74, hq, nd_time hq]
        have hfl : fillV (repV [w32 0#32] 1) [(0, 1, w32 l[q].hdr.time)] = some (e32 l[q].hdr.time) := rfl
        simp [hfl]
        have hel : elems st2 1 (.sl .full (e32 l[q].hdr.time) 1) = some (e32 l[q].hdr.time, 1) := rfl
        rw [hel]
        refine Sep.app1 e32_len (by omega) S rfl (by omega) ?_
        intro s' st3 S
        have h3 := h.sub (S.was' (st0 := st) (by simp))
        have o1 := h3.top
        have o2 := h3.rows
        simp [g0, g1, St.seg, o1, o2, tree_seg74, hq, nd_par hq]
        have e11 : 11 - acc.length = (11 - (acc.length + 1)) + 1 := by omega
        refine Round.mk (11 - (acc ++ [l[q].hdr.time]).length) _ (by simp; omega) (sub_self _) (hJ _ _ _ ⟨acc ++ [l[q].hdr.time], l[q].parent, s', rfl, by simp; omega, ?_, ?_, by simp, by simp, S⟩)
        · rw [← he]
          have : timesI l (11 - acc.length) (q : Int) = l[q].hdr.time :: timesI l (11 - (acc.length + 1)) l[q].parent := by
            rw [e11, ← timesM_succ hq]; simp [timesI]; omega
          rw [this]; simp
        · intro hp
          rcases Nat.eq_zero_or_pos q with e | e
          · subst e
            have := (w.zero _ (List.getElem?_eq_getElem hq)).1
            omega
          · have := (w.succ q _ e (List.getElem?_eq_getElem hq)).2.1
            omega
      · have e11 : acc.length = 11 := by omega
        have e : acc = timesM l 11 n := by
          rw [e11] at he
          rw [← he]
          have : timesI l (11 - 11) j = [] := by unfold timesI; split <;> rfl
          rw [this]; simp
        simp [g0, g1, g5, hlen, ha, hj0]
        refine (hfin e).mono ?_
        rintro v st3 ⟨rfl, hs3⟩
        simp [hs3]
    · have e : acc = timesM l 11 n := by
        rw [← he]
        have : timesI l (11 - acc.length) j = [] := by unfold timesI; rw [if_pos (by omega)]
        rw [this]; simp
      simp [g0, g1, g5, hj0]
      refine (hfin e).mono ?_
      rintro v st3 ⟨rfl, hs3⟩
      simp [hs3]
theorem checkM_ok {r : Rl} (h : checkM r = 0) : tgt r.limit ≠ none ∧ r.gen.bits = r.limit ∧ 0 ≤ r.every ∧ r.every ≤ 1000 ∧ 1 ≤ r.spacing ∧ r.spacing ≤ 1048576 ∧ 0 ≤ r.subsidy ∧ r.subsidy ≤ 1125899906842624 ∧ 0 ≤ r.work ∧ r.work ≤ 1000 := by
  unfold checkM at h
  split at h
  · cases h
  · rename_i h1
    split at h
    · cases h
    · rename_i h2
      have : r.gen.bits = r.limit := by
        by_cases e : r.gen.bits = r.limit
        · exact e
        · exact absurd (.inr e) h1
      exact ⟨fun e => h1 (.inl e), this, by omega, by omega, by omega, by omega, by omega, by omega, by omega, by omega⟩
set_option maxHeartbeats 1000000 in
theorem spec167 (ok : OkIndex P F) {st : St} {tid : Nat} {r : Rl} {l : List Nd} (h : TreeR tid r l st) (w : Wf l) (hl : l.length ≤ 16384) (hr : checkM r = 0) {i : Nat} (hi : i < l.length) : ACalls P (F 167) [.ptr (some (tid, 0)), .int .i64 (i : Nat)] st fun v st' => v = w32 (nextM r l i) ∧ st' = st := by
  have okh := ok.toOkHead
  obtain ⟨hr1, hr2, hr3, hr4, hr5, hr6, -, -⟩ := checkM_ok hr
  have hR := h
  obtain ⟨sid, mid, spare, es, h⟩ := h
  refine shows_call ok.mixed ok.h167 (by simp [k167]) ?_
  simp only [k167, z108_eq, eU_zero0]
  simp
  refine (spec161 ok hR w i).mono ?_
  rintro v st ⟨rfl, rfl⟩
  have hin : inI l i = i := by unfold inI; rw [if_neg (by omega)]; omega
  rw [hin]
  obtain ⟨x, hx⟩ : ∃ x, x = nd l i := ⟨_, rfl⟩
  have hxh : x.height = hgt l i := by rw [hx, nd_at hi, hgt_at hi]
  have hgl := w.hgt_le hi
  rw [← hx]
  simp
  intro i5 h5
  have S := (Sep.start st).new h5 (.cells (eNd nd0))
  have hsp : ∀ x y, spliceV (eNd x) 0 (eNd y) = eNd y := fun x y => by simp [spliceV, eNd_len]
  simp [storeS, eNd_len, hsp]
  have S := S.setAt (.cells (eNd x)) 0 rfl
  simp at S
  generalize st.upd i5 _ = st1 at S ⊢
  have hs1 := S.was' (st0 := st) (by simp)
  have ht := h.sub hs1
  have o1 := ht.top
  have o5 := S.get
  obtain ⟨E, hE⟩ : ∃ E : Nat, r.every = E := ⟨r.every.toNat, by omega⟩
  obtain ⟨H, hH⟩ : ∃ H, H = x.height := ⟨_, rfl⟩
  have ohH := osegHgt x
  rw [← hH] at ohH hxh
  have tev := tree_every r (.hsl sid 0 108 l.length) (.map (some mid))
  rw [hE] at tev
  have hw1 : IntKind.i64.wrap ((H : Int) + 1) = (H : Int) + 1 := wrap64 (by omega) (by omega)
  simp [St.seg, o1, tev]
  have hnx : nextM r l i = if E = 0 ∨ (H + 1) % E ≠ 0 then x.hdr.bits else (nextN x.hdr.bits ((x.hdr.time.toNat : Int) - (nd l (anc l i (H + 1 - E))).hdr.time.toNat) (r.every * r.spacing) (limitN r)).getD 0 := by
    unfold nextM
    simp only [← hx, ← hH, hE]
    have e1 : ((H : Int) + 1).tmod (E : Int) = (((H + 1) % E : Nat) : Int) := by
      rw [Int.tmod_eq_emod_of_nonneg (by omega)]; push_cast; rfl
    have e2 : (max 0 ((H : Int) + 1 - E)).toNat = H + 1 - E := by omega
    rw [e1, e2]
    have e3 : ((E : Int) = 0 ∨ (((H + 1) % E : Nat) : Int) ≠ 0) ↔ (E = 0 ∨ (H + 1) % E ≠ 0) := by omega
    by_cases c : (E = 0 ∨ (H + 1) % E ≠ 0)
    · rw [if_pos c, if_pos (e3.2 c)]
    · rw [if_neg c, if_neg (fun h => c (e3.1 h))]
  by_cases hE0 : E = 0
  · have : nextM r l i = x.hdr.bits := by rw [hnx, if_pos (.inl hE0)]
    rw [this]
    have hE0' : ((E : Int) == 0) = true := by simp [hE0]
    simp [hE0, o5, osegBits, St.seg, hs1]
  · have hem : ((H : Int) + 1).tmod (E : Int) = (((H + 1) % E : Nat) : Int) := by
      rw [Int.tmod_eq_emod_of_nonneg (by omega)]; push_cast; rfl
    obtain ⟨M, hM⟩ : ∃ M, M = (H + 1) % E := ⟨_, rfl⟩
    have hMl : M < E := hM ▸ Nat.mod_lt _ (by omega)
    rw [← hM] at hem hnx
    have hem2 : IntKind.i64.wrap ((((H : Int) + 1)) % (E : Int)) = (M : Int) := by
      rw [← Int.tmod_eq_emod_of_nonneg (by omega), hem]; exact wrap64 (by omega) (by omega)
    have hem3 : IntKind.i64.wrap ((((H : Int) + 1)).tmod (E : Int)) = (M : Int) := by
      rw [hem]; exact wrap64 (by omega) (by omega)
    have hEb : ((E : Int) == 0) = false := by simp; omega
    simp [hEb, hE0, o5, ohH, osegBits, St.seg, hw1, o1, tev, hem2, hem3]
    by_cases hM0 : M = 0
    · rw [if_neg (by omega)] at hnx
      rw [hnx]
      have htb : (((H : Int) + 1).tmod (E : Int) != 0) = false := by rw [hem, hM0]; rfl
      have hl0 := w.ne
      have hmn1 : foldV min2V (.int .i64 (i : Nat)) [.int .i64 ((l.length : Int) - 1)] = some (.int .i64 (i : Nat)) := by
        simp only [foldV, min2V, if_true, Option.bind_some]
        congr 2
        split <;> omega
      have hmx1 : foldV max2V (.int .i64 0) [.int .i64 (i : Nat)] = some (.int .i64 (i : Nat)) := by
        simp only [foldV, max2V, if_true, Option.bind_some]
        congr 2
        split <;> omega
      obtain ⟨K, hK⟩ : ∃ K, K = H + 1 - E := ⟨_, rfl⟩
      rw [← hK]
      have hmx2 : foldV max2V (.int .i64 0) [.int .i64 ((H : Int) + 1 - (E : Int))] = some (.int .i64 (K : Nat)) := by
        simp only [foldV, max2V, if_true, Option.bind_some]
        congr 2
        split <;> omega
      have hw2 : IntKind.i64.wrap ((l.length : Int) - 1) = (l.length : Int) - 1 := wrap64 (by omega) (by omega)
      have hw3 : IntKind.i64.wrap ((H : Int) + 1 - (E : Int)) = (H : Int) + 1 - (E : Int) := wrap64 (by omega) (by omega)
      have hKh : K ≤ hgt l i := by omega
      have hal := w.anc_lt (i := i) (h := K) hi
      obtain ⟨A, hA⟩ : ∃ A, A = anc l i K := ⟨_, rfl⟩
      have ea : ancI l i K = (A : Nat) := by
        have h1 : ¬ l.length ≤ i := by omega
        have h2 : ¬ hgt l i < K := by omega
        have h3 : ¬ ((i : Int) < 0) := by omega
        have h4 : ¬ ((K : Int) < 0) := by omega
        simp [ancI, h1, h2, h3, h4, hA]
      rw [← hA] at hal ⊢
      have TR1 : TreeR tid r l st1 := ⟨sid, mid, spare, es, ht⟩
      have o2 := ht.rows
      simp [htb, St.seg, o1, o5, tree_seg74, tev, ohH, hw1, hw2, hw3, hmn1, hmx1, hmx2]
      refine ⟨_, spec158 ok TR1 w i K, ?_⟩
      rw [ea]
      have hall := nd_all (spare := spare) hal
      rw [← nd_at hal] at hall
      simp [o2, hal, hall, St.seg]
      intro i6 h6
      have S := S.new h6 (.cells (eNd nd0))
      simp [storeS, eNd_len, hsp]
      have S := S.setAt (.cells (eNd (nd l A))) 0 rfl
      simp at S
      generalize st1.upd i6 _ = st2 at S ⊢
      have ht := h.sub (S.was' (st0 := st) (by simp))
      have o1 := ht.top
      simp [St.seg, o1, tree_limit]
      refine (spec135 okh st2 r.limit).mono ?_
      rintro v st2 ⟨rfl, rfl⟩
      obtain ⟨hA1, hA2⟩ := tgtR_get r.limit
      rw [hA1]
      have hlim : (natU ((tgt r.limit).getD 0)).toNat = limitN r := hA2
      obtain ⟨T, hT⟩ : ∃ T, T = natU ((tgt r.limit).getD 0) := ⟨_, rfl⟩
      rw [← hT] at hlim ⊢
      have hspU : ∀ x y : U, spliceV (eU x) 0 (eU y) = eU y := fun _ _ => rfl
      simp
      intro i7 h7
      have S := S.new h7 (.cells (eU 0#256))
      simp [storeS, nU, eU_len, hspU]
      have S := S.setAt (.cells (eU T)) 0 rfl
      simp at S
      generalize st2.upd i7 _ = st3 at S ⊢
      have hs3 := S.was' (st0 := st) (by simp)
      have ht := h.sub hs3
      have o1 := ht.top
      have o7 := S.get
      have o6 := S.mem (i := i6) (o := .cells (eNd (nd l A))) (by simp)
      have o5 := S.mem (i := i5) (o := .cells (eNd x)) (by simp)
      have tsp := tree_spacing r (.hsl sid 0 108 l.length) (.map (some mid))
      obtain ⟨SP, hSP⟩ : ∃ n : Nat, r.spacing = n := ⟨r.spacing.toNat, by omega⟩
      rw [hSP] at tsp
      have hm : E * SP ≤ 1000 * 1048576 := Nat.mul_le_mul (by omega) (by omega)
      obtain ⟨Q, hQ⟩ : ∃ n : Int, n = (E : Int) * (SP : Int) := ⟨_, rfl⟩
      have hQb : 0 ≤ Q ∧ Q ≤ 1000 * 1048576 := by
        have : Q = ((E * SP : Nat) : Int) := by rw [hQ]; push_cast; rfl
        omega
      have hw4 : IntKind.i64.wrap Q = Q := wrap64 (by omega) (by omega)
      have hx1 := x.hdr.time.isLt
      have hx2 := (nd l A).hdr.time.isLt
      have hw5 : IntKind.i64.wrap ((x.hdr.time.toNat : Int) - ((nd l A).hdr.time.toNat : Int)) = (x.hdr.time.toNat : Int) - ((nd l A).hdr.time.toNat : Int) := wrap64 (by omega) (by omega)
      simp [St.seg, o1, o5, o6, o7, osegBits, osegTime, tev, tsp, segU, hw5, ← hQ, hw4]
      refine (spec138 okh st3 x.hdr.bits _ Q T (by omega)).mono ?_
      rintro v st3 ⟨rfl, rfl⟩
      rw [hE, hSP, ← hQ, hlim]
      unfold nextR
      cases nextN x.hdr.bits ((x.hdr.time.toNat : Int) - ((nd l A).hdr.time.toNat : Int)) Q (limitN r) <;> simp [hs3]
    · rw [if_pos (.inr hM0)] at hnx
      rw [hnx]
      have htb : (((H : Int) + 1).tmod (E : Int) != 0) = true := by rw [hem]; simp; omega
      simp [htb, o5, osegBits, St.seg, hs1]
set_option maxHeartbeats 1000000 in
theorem spec168 (ok : OkIndex P F) {st : St} {tid : Nat} {r : Rl} {l : List Nd} (h : TreeR tid r l st) (w : Wf l) (hl : l.length ≤ 16384) (hr : checkM r = 0) (x : Hdr) (p now : Int) : ACalls P (F 168) [.ptr (some (tid, 0)), .agg (eHdr x), .int .i64 p, .int .i64 now] st fun v st' => v = .int .i64 (fitsM r l x p now) ∧ st' = st := by
  have okh := ok.toOkHead
  obtain ⟨sid, mid, spare, es, h⟩ := h
  refine shows_call ok.mixed ok.h168 (by simp [k168]) ?_
  simp only [k168]
  simp
  intro i5 h5
  have S := (Sep.start st).new h5 (.cells (eHdr x))
  generalize st.upd i5 _ = st1 at S ⊢
  have hs1 := S.was' (st0 := st) (by simp)
  have ht := h.sub hs1
  have o1 := ht.top
  have o2 := ht.rows
  have o5 := S.get
  have TR1 : TreeR tid r l st1 := ⟨sid, mid, spare, es, ht⟩
  by_cases h1 : p < 0
  · have e : fitsM r l x p now = 100 := by simp [fitsM, h1]
    simp [h1, e, hs1]
  · by_cases h2 : (l.length : Int) ≤ p
    · have e : fitsM r l x p now = 100 := by simp [fitsM, h2]
      simp [h1, h2, e, hs1, St.seg, o1, tree_seg74]
    · obtain ⟨n, rfl⟩ : ∃ n : Nat, p = n := ⟨p.toNat, by omega⟩
      have hn : n < l.length := by omega
      have h2' : ¬ l.length ≤ n := by omega
      simp [h1, h2', St.seg, o1, o5, tree_seg74, hsegAll, tree_limit]
      refine (spec142 okh st1 x r.limit).mono ?_
      rintro v st1 ⟨rfl, rfl⟩
      obtain ⟨pv, hpv⟩ : ∃ pv, pv = provedN x r.limit := ⟨_, rfl⟩
      rw [← hpv]
      by_cases hp : pv = 0
      · subst hp
        simp [St.seg, o1, o2, tree_seg74, hn, nd_fail hn]
        cases hf : l[n].failed with
        | true =>
          have e : fitsM r l x n now = 101 := by
            simp [fitsM, h1, h2', ← hpv, nd_at hn, hf]
          simp [e, hs1]
        | false =>
          simp [St.seg, o5, hsegBits]
          refine ⟨_, spec167 ok TR1 w hl hr hn, ?_⟩
          simp
          by_cases hb : x.bits = nextM r l n
          · have hbb : (x.bits != nextM r l n) = false := by simp [hb]
            simp [hbb, St.seg, o5, hsegTime]
            refine ⟨_, spec166 ok TR1 w hl n, ?_⟩
            rw [clI_of hn]
            simp
            by_cases hm : x.time ≤ medianM l n
            · have e : fitsM r l x n now = 102 := by
                simp [fitsM, h1, h2', ← hpv, nd_at hn, hf, hb, hm]
              simp [hm, e, hs1]
            · have htl := x.time.isLt
              have hw : IntKind.i64.wrap ((x.time.toNat : Int) - 7200) = (x.time.toNat : Int) - 7200 := wrap64 (by omega) (by omega)
              by_cases hnw : now < (x.time.toNat : Int) - 7200
              · have e : fitsM r l x n now = 103 := by
                  simp [fitsM, h1, h2', ← hpv, nd_at hn, hf, hb, hm, hnw]
                simp [hm, St.seg, o5, hsegTime, hw, hnw, e, hs1]
              · have e : fitsM r l x n now = 0 := by
                  simp [fitsM, h1, h2', ← hpv, nd_at hn, hf, hb, hm, hnw]
                simp [hm, St.seg, o5, hsegTime, hw, hnw, e, hs1]
          · have hbb : (x.bits != nextM r l n) = true := by simp [hb]
            have e : fitsM r l x n now = 30 := by
              simp [fitsM, h1, h2', ← hpv, nd_at hn, hf, hb]
            simp [hbb, e, hs1]
      · have e : fitsM r l x n now = pv := by
          simp [fitsM, h1, h2', ← hpv, hp]
        have hpb : (pv != 0) = true := by simp [hp]
        simp [hpb, e, hs1]
end
end Go.Ab
set_option linter.unusedSimpArgs false
set_option linter.unusedVariables false
set_option maxRecDepth 10000
namespace Go.Ab
open Go Go.RowKit
theorem Wf.neNil {l : List Nd} (w : Wf l) : l ≠ [] := by
  have := w.ne
  rintro rfl
  simp at this
def setF (f : Nat → Bool) (l : List Nd) : List Nd := l.mapIdx fun j x => if f j then { x with failed := true } else x
section
variable {f : Nat → Bool} {l : List Nd}
@[simp] theorem setF_length : (setF f l).length = l.length := by simp [setF]
theorem setF_get? (i : Nat) : (setF f l)[i]? = (l[i]?).map fun x => if f i then { x with failed := true } else x := by simp [setF]
theorem setF_hgt (i : Nat) : hgt (setF f l) i = hgt l i := by
  unfold hgt
  rw [setF_get?]
  cases l[i]? with
  | none => rfl
  | some x => simp only [Option.map_some, Option.getD_some]; split <;> rfl
theorem setF_par (i : Nat) : par (setF f l) i = par l i := by
  unfold par
  rw [setF_get?]
  cases l[i]? with
  | none => rfl
  | some x => simp only [Option.map_some, Option.getD_some]; split <;> rfl
theorem setF_upN (n i : Nat) : upN (setF f l) n i = upN l n i := by
  induction n generalizing i with
  | zero => rfl
  | succ n ih => rw [upN, upN, setF_par, ih]
theorem setF_anc (i h : Nat) : anc (setF f l) i h = anc l i h := by rw [anc, anc, setF_hgt, setF_upN]
theorem setF_wf (w : Wf l) : Wf (setF f l) := by
  refine ⟨by simpa using w.ne, fun x hx => ?_, fun i x hi hx => ?_, fun i x hi hx => ?_⟩
  · rw [setF_get?] at hx
    cases h : l[0]? with
    | none => rw [h] at hx; cases hx
    | some y =>
      rw [h] at hx
      have := w.zero y h
      simp at hx
      rw [← hx]
      split <;> exact this
  · rw [setF_get?] at hx
    cases h : l[i]? with
    | none => rw [h] at hx; cases hx
    | some y =>
      rw [h] at hx
      have := w.succ i y hi h
      simp at hx
      rw [← hx, setF_hgt]
      split <;> exact this
  · rw [setF_get?] at hx
    cases h : l[i]? with
    | none => rw [h] at hx; cases hx
    | some y =>
      rw [h] at hx
      have := w.skip i y hi h
      simp at hx
      rw [← hx, setF_anc]
      split <;> exact this
end
def failM (l : List Nd) (i : Int) : List Nd × Nat :=
  if i < 1 ∨ (l.length : Int) ≤ i then (l, 0)
  else (setF (fun k => onB l i k) l, ((List.range l.length).filter fun (k : Nat) => onB l i k && !(nd l k).failed).length)
theorem onB_nat {l : List Nd} {i k : Nat} (hi : i < l.length) (hk : k < l.length) : onB l i k = decide (hgt l i ≤ hgt l k ∧ anc l k (hgt l i) = i) := by
  have h1 : ¬ l.length ≤ k := by omega
  have h3 : ¬ ((k : Int) < 0) := by omega
  have h4 : ¬ ((hgt l i : Int) < 0) := by omega
  by_cases h : hgt l i ≤ hgt l k
  · have h2 : ¬ hgt l k < hgt l i := by omega
    simp [onB, hi, ancI, h1, h2, h3, h4, h]
    rw [Bool.eq_iff_iff]; simp; omega
  · have h2 : hgt l k < hgt l i := by omega
    have : ¬ ((-1 : Int) = i) := by omega
    simp [onB, hi, ancI, h1, h2, h3, h4, h, this]
section
variable {P : Program} {F : Fn}
set_option maxHeartbeats 1000000 in
theorem spec169 (ok : OkIndex P F) {g : St} {tid : Nat} {r : Rl} {l : List Nd} (T : TreeS tid r l g) (w : Wf l) (hl : l.length ≤ 16384) (hr : checkM r = 0) (x : Hdr) (now : Int) :
    ACalls P (F 169) [.ptr (some (tid, 0)), .agg (eHdr x), .int .i64 now] g fun v st' => v = .tup [.int .i64 (addM r l x now).2.1, .int .i64 (addM r l x now).2.2] ∧ TreeS tid r (addM r l x now).1 st' := by
  have okh := ok.toOkHead
  refine shows_call ok.mixed ok.h169 (by simp [k169]) ?_
  simp only [k169]
  simp
  intro i4 h4
  have S := (Sep.one T).new h4 (.cells (eHdr x))
  generalize g.upd i4 _ = st1 at S ⊢
  have TR := S.swap.treeR w.neNil
  obtain ⟨sid, mid, spare, es, ht⟩ := id TR
  have o1 := ht.top
  have o4 := S.get
  have hfin : ∃ s, St.sub s st1 ∧ TreeS tid r l s := by
    obtain ⟨h', k1, k2⟩ := S.swap.part
    exact ⟨h', k1, k2⟩
  have hlk := fun k => lookup_lk keyed_id (ev := kInt) ht.by_ (.int .i64 0) k
  simp only [ht.look, kId] at hlk
  simp [St.seg, o1, o4, tree_seg75, hsegAll]
  refine ⟨_, spec141 okh st1 x, ?_⟩
  simp [hlk]
  cases hf : findM l (hId x) with
  | some i =>
    have e : addM r l x now = (l, (i : Int), 5) := by simp [addM, hf]
    simp [e, kInt, hfin]
  | none =>
    simp [St.seg, o1, o4, tree_seg75, hsegPrev, hlk, kInt]
    cases hf2 : findM l x.prev with
    | none =>
      have e : addM r l x now = (l, -1, 100) := by simp [addM, hf, hf2]
      simp [e, hfin]
    | some p =>
      have hp := findM_lt hf2
      simp [St.seg, o4, hsegAll]
      refine (spec168 ok TR w hl hr x p now).mono ?_
      rintro v st1 ⟨rfl, rfl⟩
      obtain ⟨fv, hfv⟩ : ∃ fv, fv = fitsM r l x p now := ⟨_, rfl⟩
      rw [← hfv]
      by_cases hz : fv = 0
      · subst hz
        simp [St.seg, o1, tree_seg74]
        by_cases hfull : l.length = 16384
        · have e : addM r l x now = (l, -1, 3) := by simp [addM, hf, hf2, ← hfv, hfull]
          have hb : ((l.length : Int) == 16384) = true := by simp [hfull]
          simp [hb, e, hfin]
        · have e : addM r l x now = (l ++ [ndOf l x p], (l.length : Int), 0) := by simp [addM, hf, hf2, ← hfv, hfull]
          have hb : ((l.length : Int) == 16384) = false := by simp; omega
          simp [hb, e, St.seg, o4, hsegAll]
          have hpi : (p : Int) = -1 ∨ (0 ≤ (p : Int) ∧ (p : Int) < l.length) := by omega
          have hpm : putM l x p = ndOf l x p := by simp [putM]; omega
          refine (Sep.call S.swap (fun h hh => spec156 ok hh (fun _ => w) hl x p hpi)).mono ?_
          intro v st2 S2
          obtain ⟨h', k1, rfl, k2⟩ := S2.part
          rw [hpm] at k2
          simp
          exact ⟨h', k1, k2⟩
      · have e : addM r l x now = (l, -1, fv) := by simp [addM, hf, hf2, ← hfv, hz]
        have hb : (fv != 0) = true := by simp [hz]
        simp [hb, e, hfin]
end
end Go.Ab
set_option linter.unusedSimpArgs false
set_option linter.unusedVariables false
set_option maxRecDepth 10000
namespace Go.Ab
open Go Go.RowKit
theorem eRl_drop5 (r : Rl) : (eRl r).drop 5 = eHdr r.gen ++ [r.txs] := rfl
theorem rseg (r : Rl) {o n : Nat} {ys : List V} (h : ((eRl r).drop o).take n = ys) (hl : o + n ≤ 74) : segOf (eRl r) o n = some ys := by
  unfold segOf
  rw [if_pos (by rw [eRl_len]; exact hl), h]
theorem rsegLimit (r : Rl) : segOf (eRl r) 0 1 = some [w32 r.limit] := rseg r rfl (by omega)
theorem rsegEvery (r : Rl) : segOf (eRl r) 1 1 = some [.int .i64 r.every] := rseg r rfl (by omega)
theorem rsegSpacing (r : Rl) : segOf (eRl r) 2 1 = some [.int .i64 r.spacing] := rseg r rfl (by omega)
theorem rsegSubsidy (r : Rl) : segOf (eRl r) 3 1 = some [.int .i64 r.subsidy] := rseg r rfl (by omega)
theorem rsegWork (r : Rl) : segOf (eRl r) 4 1 = some [.int .i64 r.work] := rseg r rfl (by omega)
theorem rsegBits (r : Rl) : segOf (eRl r) 71 1 = some [w32 r.gen.bits] := rseg r (by
  rw [show 71 = 5 + 66 from rfl, ← List.drop_drop, eRl_drop5, List.drop_append_of_le_length (by rw [eHdr_len]; omega), hdrop66]; rfl) (by omega)
theorem rsegGen (r : Rl) : segOf (eRl r) 5 68 = some (eHdr r.gen) := rseg r (by
  rw [eRl_drop5, ← eHdr_len r.gen, List.take_left]) (by omega)
theorem rsegAll (r : Rl) : segOf (eRl r) 0 74 = some (eRl r) := rseg r (by rw [List.drop_zero, ← eRl_len r, List.take_length]) (by omega)
section
variable {P : Program} {F : Fn}
set_option maxHeartbeats 1000000 in
theorem spec154 (ok : OkIndex P F) (st : St) (r : Rl) : ACalls P (F 154) [.agg (eRl r)] st fun v st' => v = .int .i64 (checkM r) ∧ st' = st := by
  have okh := ok.toOkHead
  refine shows_call ok.mixed ok.h154 (by simp [k154]) ?_
  simp only [k154, eU_zero0]
  simp
  intro i1 h1
  have S := (Sep.start st).new h1 (.cells (eRl r))
  generalize st.upd i1 _ = st1 at S ⊢
  have o1 := S.get
  simp [St.seg, o1, rsegLimit]
  refine (spec135 okh st1 r.limit).mono ?_
  rintro v st1 ⟨rfl, rfl⟩
  obtain ⟨hA1, hA2⟩ := tgtR_get r.limit
  rw [hA1]
  have hspU : ∀ x y : U, spliceV (eU x) 0 (eU y) = eU y := fun _ _ => rfl
  simp
  intro i3 h3
  have S := S.new h3 (.cells (eU 0#256))
  simp [storeS, nU, eU_len, hspU]
  have S := S.setAt (.cells (eU (natU ((tgt r.limit).getD 0)))) 0 rfl
  simp at S
  generalize st1.upd i3 _ = st2 at S ⊢
  have o1 := S.mem (i := i1) (o := .cells (eRl r)) (by simp)
  have hs := S.was' (st0 := st) (by simp)
  cases ht : tgt r.limit with
  | none =>
    have e : checkM r = 30 := by simp [checkM, ht]
    simp [e, hs]
  | some T =>
    by_cases hb : r.gen.bits = r.limit
    · have hbb : (r.gen.bits != r.limit) = false := by simp [hb]
      by_cases c0 : r.every < 0
      · have e : checkM r = 1 := by simp [checkM, ht, hb, c0]
        simp [hbb, e, c0, St.seg, o1, rsegLimit, rsegEvery, rsegSpacing, rsegSubsidy, rsegWork, rsegBits, hs]
      by_cases c1 : 1000 < r.every
      · have e : checkM r = 1 := by simp [checkM, ht, hb, c1]
        simp [hbb, e, c0, c1, St.seg, o1, rsegLimit, rsegEvery, rsegSpacing, rsegSubsidy, rsegWork, rsegBits, hs]
      by_cases c2 : r.spacing < 1
      · have e : checkM r = 1 := by simp [checkM, ht, hb, c2]
        simp [hbb, e, c0, c1, c2, St.seg, o1, rsegLimit, rsegEvery, rsegSpacing, rsegSubsidy, rsegWork, rsegBits, hs]
      by_cases c3 : 1048576 < r.spacing
      · have e : checkM r = 1 := by simp [checkM, ht, hb, c3]
        simp [hbb, e, c0, c1, c2, c3, St.seg, o1, rsegLimit, rsegEvery, rsegSpacing, rsegSubsidy, rsegWork, rsegBits, hs]
      by_cases c4 : r.subsidy < 0
      · have e : checkM r = 1 := by simp [checkM, ht, hb, c4]
        simp [hbb, e, c0, c1, c2, c3, c4, St.seg, o1, rsegLimit, rsegEvery, rsegSpacing, rsegSubsidy, rsegWork, rsegBits, hs]
      by_cases c5 : 1125899906842624 < r.subsidy
      · have e : checkM r = 1 := by simp [checkM, ht, hb, c5]
        simp [hbb, e, c0, c1, c2, c3, c4, c5, St.seg, o1, rsegLimit, rsegEvery, rsegSpacing, rsegSubsidy, rsegWork, rsegBits, hs]
      by_cases c6 : r.work < 0
      · have e : checkM r = 1 := by simp [checkM, ht, hb, c6]
        simp [hbb, e, c0, c1, c2, c3, c4, c5, c6, St.seg, o1, rsegLimit, rsegEvery, rsegSpacing, rsegSubsidy, rsegWork, rsegBits, hs]
      by_cases c7 : 1000 < r.work
      · have e : checkM r = 1 := by simp [checkM, ht, hb, c7]
        simp [hbb, e, c0, c1, c2, c3, c4, c5, c6, c7, St.seg, o1, rsegLimit, rsegEvery, rsegSpacing, rsegSubsidy, rsegWork, rsegBits, hs]
      have e : checkM r = 0 := by simp [checkM, ht, hb, c0, c1, c2, c3, c4, c5, c6, c7]
      simp [hbb, e, c0, c1, c2, c3, c4, c5, c6, c7, St.seg, o1, rsegLimit, rsegEvery, rsegSpacing, rsegSubsidy, rsegWork, rsegBits, hs]
    · have hbb : (r.gen.bits != r.limit) = true := by simp [hb]
      have e : checkM r = 30 := by simp [checkM, hb]
      simp [hbb, e, St.seg, o1, rsegLimit, rsegBits, hs]
set_option maxHeartbeats 1000000 in
theorem spec155 (ok : OkIndex P F) (st : St) (r : Rl) : ACalls P (F 155) [.agg (eRl r)] st fun v st' =>
    if checkM r = 0 then ∃ tid, v = .tup [.ptr (some (tid, 0)), .int .i64 0] ∧ Sep [TreeS tid r (newM r), Was st] st' else v = .tup [.ptr none, .int .i64 (checkM r)] ∧ st' = st := by
  have okh := ok.toOkHead
  refine shows_call ok.mixed ok.h155 (by simp [k155]) ?_
  simp only [k155]
  simp
  intro i1 h1
  have S := (Sep.start st).new h1 (.cells (eRl r))
  generalize st.upd i1 _ = st1 at S ⊢
  have o1 := S.get
  have hs := S.was' (st0 := st) (by simp)
  simp [St.seg, o1, rsegAll]
  refine (spec154 ok st1 r).mono ?_
  rintro v st1 ⟨rfl, rfl⟩
  by_cases hc : checkM r = 0
  · simp [hc, St.seg, o1, rsegAll]
    intro i12 h12
    have S := S.new h12 (.mp [])
    generalize st1.upd i12 _ = st2 at S ⊢
    have hfl : fillV z76_2d2c [(0, 74, .agg (eRl r)), (75, 1, .map (some i12))] = some (eRl r ++ [.sl .nil [] 0, .map (some i12)]) := by
      have hz : z76_2d2c = z76_2d2c.take 74 ++ [.sl .nil [] 0, .map none] := rfl
      have hl : (z76_2d2c.take 74).length = 74 := rfl
      have e1 : spliceV z76_2d2c 0 (eRl r) = eRl r ++ [.sl .nil [] 0, .map none] := by
        unfold spliceV
        rw [List.take_zero, List.nil_append, Nat.zero_add, eRl_len]; rfl
      have e2 : spliceV (eRl r ++ [.sl .nil [] 0, .map none]) 75 [.map (some i12)] = eRl r ++ [.sl .nil [] 0, .map (some i12)] := by
        rw [show 75 = 74 + 1 from rfl, splice_right (eRl_len r)]; rfl
      have hz2 : z76_2d2c.length = 76 := rfl
      simp [fillV, eRl_len, hz2, e1, e2]
    simp [hfl]
    intro i14 h14
    have S := S.new h14 (.cells (eRl r ++ [.sl .nil [] 0, .map (some i12)]))
    generalize st2.upd i14 _ = st3 at S ⊢
    have o1 := S.mem (i := i1) (o := .cells (eRl r)) (by simp)
    have S := Sep.slNil (sz := 108) (f := eNd) S
    have S : Sep [All [Sl 108 eNd (.sl .nil [] 0) [], pt i14 (.cells (eRl r ++ [.sl .nil [] 0, .map (some i12)])), pt i12 (.mp [])], pt i1 (.cells (eRl r)), Was st] st3 := Sep.all (L1 := [_, _, _]) S
    have S : Sep [TreeS i14 r [], pt i1 (.cells (eRl r)), Was st] st3 := S.head fun h hh => ⟨_, i12, [], hh, fun k => rfl⟩
    simp [St.seg, o1, rsegGen]
    refine (Sep.call S (fun h hh => spec156 ok hh (fun h => absurd rfl h) (by simp) r.gen (-1) (.inl rfl))).mono ?_
    intro v st4 S
    have S := S.head (A' := TreeS i14 r (newM r)) fun h hh => hh.2
    simp
    exact ⟨_, sub_self _, Sep.tail (fun r hr => hr.drop) S⟩
  · have hcb : (checkM r != 0) = true := by simp [hc]
    simp [hc, hcb, hs]
end
end Go.Ab
set_option linter.unusedVariables false
namespace Go.Ab
open Go
def k208 (F : Fn) : PF := PF.mk 60 1 [(.t 2)] (.seq (.ops [(PO.mk (some 1) (.box (.t 0)) none), (PO.mk (some 2) (.mv (.k (.int .i64 0))) none)]) (.seq (.ops [(PO.mk (some 6) (.fldA 0 (.t 1)) none), (PO.mk (some 7) (.load false 1 (.t 6)) none), (PO.mk (some 8) (.call (F 146) [(.t 7)]) none), (PO.mk (some 5) (.mv (.t 8)) none), (PO.mk (some 9) (.ext 0 (.t 5)) none), (PO.mk (some 10) (.ext 1 (.t 5)) none), (PO.mk (some 3) (.mv (.t 9)) none), (PO.mk (some 4) (.mv (.t 10)) none)]) (.seq (.seq (.ops [(PO.mk (some 11) (.mv (.t 4)) none), (PO.mk (some 12) (.not (.t 11)) none), (PO.mk (some 13) (.mv (.t 12)) none), (PO.mk (some 14) (.fldA 5 (.t 1)) (some (13, false))), (PO.mk (some 15) (.fldA 0 (.t 14)) (some (13, false))), (PO.mk (some 16) (.fldA 66 (.t 15)) (some (13, false))), (PO.mk (some 17) (.load false 1 (.t 16)) (some (13, false))), (PO.mk (some 18) (.fldA 0 (.t 1)) (some (13, false))), (PO.mk (some 19) (.load false 1 (.t 18)) (some (13, false))), (PO.mk (some 20) (.bin .neq (.t 17) (.t 19)) (some (13, false))), (PO.mk (some 21) (.pick (.t 13) (.k (.bool true)) (.t 20)) none)]) (.cond (.t 21) (.seq (.ops [(PO.mk (some 2) (.mv (.k (.int .i64 30))) none)]) .ret) .skip)) (.seq (.seq (.ops [(PO.mk (some 22) (.fldA 1 (.t 1)) none), (PO.mk (some 23) (.load false 1 (.t 22)) none), (PO.mk (some 24) (.bin .lss (.t 23) (.k (.int .i64 0))) none), (PO.mk (some 25) (.mv (.t 24)) none), (PO.mk (some 26) (.fldA 1 (.t 1)) (some (25, false))), (PO.mk (some 27) (.load false 1 (.t 26)) (some (25, false))), (PO.mk (some 28) (.bin .gtr (.t 27) (.k (.int .i64 1000))) (some (25, false))), (PO.mk (some 29) (.pick (.t 25) (.k (.bool true)) (.t 28)) none), (PO.mk (some 30) (.mv (.t 29)) none), (PO.mk (some 31) (.fldA 2 (.t 1)) (some (30, false))), (PO.mk (some 32) (.load false 1 (.t 31)) (some (30, false))), (PO.mk (some 33) (.bin .lss (.t 32) (.k (.int .i64 1))) (some (30, false))), (PO.mk (some 34) (.pick (.t 30) (.k (.bool true)) (.t 33)) none), (PO.mk (some 35) (.mv (.t 34)) none), (PO.mk (some 36) (.fldA 2 (.t 1)) (some (35, false))), (PO.mk (some 37) (.load false 1 (.t 36)) (some (35, false))), (PO.mk (some 38) (.bin .gtr (.t 37) (.k (.int .i64 1048576))) (some (35, false))), (PO.mk (some 39) (.pick (.t 35) (.k (.bool true)) (.t 38)) none), (PO.mk (some 40) (.mv (.t 39)) none), (PO.mk (some 41) (.fldA 3 (.t 1)) (some (40, false))), (PO.mk (some 42) (.load false 1 (.t 41)) (some (40, false))), (PO.mk (some 43) (.bin .lss (.t 42) (.k (.int .i64 0))) (some (40, false))), (PO.mk (some 44) (.pick (.t 40) (.k (.bool true)) (.t 43)) none), (PO.mk (some 45) (.mv (.t 44)) none), (PO.mk (some 46) (.fldA 3 (.t 1)) (some (45, false))), (PO.mk (some 47) (.load false 1 (.t 46)) (some (45, false))), (PO.mk (some 48) (.bin .gtr (.t 47) (.k (.int .i64 1125899906842624))) (some (45, false))), (PO.mk (some 49) (.pick (.t 45) (.k (.bool true)) (.t 48)) none), (PO.mk (some 50) (.mv (.t 49)) none), (PO.mk (some 51) (.fldA 4 (.t 1)) (some (50, false))), (PO.mk (some 52) (.load false 1 (.t 51)) (some (50, false))), (PO.mk (some 53) (.bin .lss (.t 52) (.k (.int .i64 0))) (some (50, false))), (PO.mk (some 54) (.pick (.t 50) (.k (.bool true)) (.t 53)) none), (PO.mk (some 55) (.mv (.t 54)) none), (PO.mk (some 56) (.fldA 4 (.t 1)) (some (55, false))), (PO.mk (some 57) (.load false 1 (.t 56)) (some (55, false))), (PO.mk (some 58) (.bin .gtr (.t 57) (.k (.int .i64 1000))) (some (55, false))), (PO.mk (some 59) (.pick (.t 55) (.k (.bool true)) (.t 58)) none)]) (.cond (.t 59) (.seq (.ops [(PO.mk (some 2) (.mv (.k (.int .i64 1))) none)]) .ret) .skip)) (.seq (.ops [(PO.mk (some 2) (.mv (.k (.int .i64 0))) none)]) .ret)))))
def k209 (F : Fn) : PF := PF.mk 43 3 [(PR.cell 6 true 104)] (.seq (.ops [(PO.mk (some 4) (.box (.t 1)) none), (PO.mk (some 6) (.alloc z104_1a18) none)]) (.seq (.ops [(PO.mk (some 11) (.fldA 66 (.t 4)) none), (PO.mk (some 12) (.load false 1 (.t 11)) none), (PO.mk (some 13) (.call (F 146) [(.t 12)]) none), (PO.mk (some 10) (.mv (.t 13)) none), (PO.mk (some 14) (.ext 0 (.t 10)) none), (PO.mk (some 15) (.ext 1 (.t 10)) none), (PO.mk (some 7) (.mv (.t 14)) none), (PO.mk (some 8) (.mv (.t 15)) none)]) (.seq (.draw [(.e, (PO.mk (some 20) (.mv (.t 2)) none)), (.e, (PO.mk (some 21) (.mv (.t 7)) none)), (.s, (PO.mk (some 16) (.load true 68 (.t 4)) none)), (.s, (PO.mk (some 17) (.load true 68 (.t 4)) none)), (.s, (PO.mk (some 18) (.call (F 151) [(.t 17)]) none)), (.s, (PO.mk (some 19) (.call (F 134) [(.t 18)]) none)), (.s, (PO.mk (some 22) (.call (F 148) [(.t 21)]) none)), (.e, (PO.mk (some 23) (.build z104_1a18 [(0, (68, (.t 16))), (68, (32, (.t 19))), (100, (1, (.t 20))), (102, (1, (.t 22)))]) none)), (.a, (PO.mk (some 9) (.alloc z104_1a18) none)), (.x, (PO.mk none (.store 104 (.t 9) (.t 23)) none))]) (.seq (.seq (.ops [(PO.mk (some 24) (.mv (.t 2)) none), (PO.mk (some 25) (.bin .geq (.t 24) (.k (.int .i64 0))) none)]) (.cond (.t 25) (.seq (.ops [(PO.mk (some 26) (.mv (.t 0)) none), (PO.mk (some 27) (.mv (.t 2)) none), (PO.mk (some 28) (.idxSl 104 (.t 26) (.t 27)) none), (PO.mk (some 29) (.fldA 101 (.t 28)) none), (PO.mk (some 30) (.load false 1 (.t 29)) none), (PO.mk (some 31) (.bin .add (.t 30) (.k (.int .i64 1))) none), (PO.mk (some 32) (.fldA 101 (.t 9)) none), (PO.mk none (.store 1 (.t 32) (.t 31)) none)]) (.draw [(.e, (PO.mk (some 33) (.fldA 102 (.t 9)) none)), (.e, (PO.mk (some 35) (.mv (.t 0)) none)), (.e, (PO.mk (some 36) (.mv (.t 2)) none)), (.e, (PO.mk (some 37) (.idxSl 104 (.t 35) (.t 36)) none)), (.e, (PO.mk (some 38) (.fldA 102 (.t 37)) none)), (.s, (PO.mk (some 34) (.load false 1 (.t 33)) none)), (.s, (PO.mk (some 39) (.load false 1 (.t 38)) none)), (.x, (PO.mk (some 40) (.call (F 124) [(.t 34), (.t 39)]) none)), (.e, (PO.mk (some 41) (.fldA 102 (.t 9)) none)), (.x, (PO.mk none (.store 1 (.t 41) (.t 40)) none))])) .skip)) (.seq (.ops [(PO.mk (some 42) (.load true 104 (.t 9)) none), (PO.mk none (.store 104 (.t 6) (.t 42)) none)]) .ret)))))
def k210 (F : Fn) : PF := PF.mk 8 1 [(.t 2)] (.seq (.ops [(PO.mk (some 1) (.box (.t 0)) none), (PO.mk (some 2) (.mv (.k (.sl .nil [] 0))) none)]) (.seq (.ops [(PO.mk (some 3) (.fldA 5 (.t 1)) none), (PO.mk (some 4) (.fldA 0 (.t 3)) none), (PO.mk (some 5) (.load true 68 (.t 4)) none), (PO.mk (some 6) (.call (F 209) [(.k (.sl .nil [] 0)), (.t 5), (.k (.int .i64 (-1)))]) none), (PO.mk (some 7) (.bsl false 104 1 z104_1a18 [(0, (104, (.t 6)))]) none), (PO.mk (some 2) (.mv (.t 7)) none)]) .ret))
def k211 (F : Fn) : PF := PF.mk 22 2 [(.t 4)] (.seq (.ops [(PO.mk (some 3) (.box (.t 1)) none), (PO.mk (some 4) (.mv (.k (.int .i64 0))) none)]) (.seq (.ops [(PO.mk (some 5) (.mv (.k (.int .i64 (-1)))) none)]) (.seq (.seq (.ops [(PO.mk (some 6) (.mv (.k (.int .i64 0))) none)]) (.block 0 (.loop (.seq (.seq (.ops [(PO.mk (some 7) (.mv (.t 6)) none), (PO.mk (some 8) (.mv (.t 0)) none), (PO.mk (some 9) (.lenSl (.t 8)) none), (PO.mk (some 10) (.bin .lss (.t 7) (.t 9)) none)]) (.cond (.t 10) .skip (.exit 0))) (.seq (.block 1 (.seq (.draw [(.e, (PO.mk (some 13) (.mv (.t 0)) none)), (.e, (PO.mk (some 14) (.mv (.t 6)) none)), (.e, (PO.mk (some 15) (.idxSl 104 (.t 13) (.t 14)) none)), (.e, (PO.mk (some 16) (.fldA 68 (.t 15)) none)), (.s, (PO.mk (some 17) (.load true 32 (.t 16)) none)), (.s, (PO.mk (some 18) (.load true 32 (.t 3)) none)), (.e, (PO.mk (some 19) (.eqa (.agg 32) false (.t 17) (.t 18)) none))]) (.cond (.t 19) (.ops [(PO.mk (some 20) (.mv (.t 6)) none), (PO.mk (some 5) (.mv (.t 20)) none)]) .skip))) (.ops [(PO.mk (some 11) (.mv (.t 6)) none), (PO.mk (some 12) (.bin .add (.t 11) (.k (.int .i64 1))) none), (PO.mk (some 6) (.mv (.t 12)) none)])))))) (.seq (.ops [(PO.mk (some 21) (.mv (.t 5)) none), (PO.mk (some 4) (.mv (.t 21)) none)]) .ret))))
def k212 (F : Fn) : PF := PF.mk 41 3 [(.t 6)] (.seq (.ops [(PO.mk (some 6) (.mv (.k (.int .i64 0))) none)]) (.seq (.seq (.ops [(PO.mk (some 7) (.mv (.t 1)) none), (PO.mk (some 8) (.bin .lss (.t 7) (.k (.int .i64 0))) none), (PO.mk (some 9) (.mv (.t 8)) none), (PO.mk (some 10) (.mv (.t 1)) (some (9, false))), (PO.mk (some 11) (.mv (.t 0)) (some (9, false))), (PO.mk (some 12) (.lenSl (.t 11)) (some (9, false))), (PO.mk (some 13) (.bin .geq (.t 10) (.t 12)) (some (9, false))), (PO.mk (some 14) (.pick (.t 9) (.k (.bool true)) (.t 13)) none), (PO.mk (some 15) (.mv (.t 14)) none), (PO.mk (some 16) (.mv (.t 2)) (some (15, false))), (PO.mk (some 17) (.bin .lss (.t 16) (.k (.int .i64 0))) (some (15, false))), (PO.mk (some 18) (.pick (.t 15) (.k (.bool true)) (.t 17)) none), (PO.mk (some 19) (.mv (.t 18)) none), (PO.mk (some 20) (.mv (.t 2)) (some (19, false))), (PO.mk (some 21) (.mv (.t 0)) (some (19, false))), (PO.mk (some 22) (.mv (.t 1)) (some (19, false))), (PO.mk (some 23) (.idxSl 104 (.t 21) (.t 22)) (some (19, false))), (PO.mk (some 24) (.fldA 101 (.t 23)) (some (19, false))), (PO.mk (some 25) (.load false 1 (.t 24)) (some (19, false))), (PO.mk (some 26) (.bin .gtr (.t 20) (.t 25)) (some (19, false))), (PO.mk (some 27) (.pick (.t 19) (.k (.bool true)) (.t 26)) none)]) (.cond (.t 27) (.seq (.ops [(PO.mk (some 6) (.mv (.k (.int .i64 (-1)))) none)]) .ret) .skip)) (.seq (.block 0 (.loop (.seq (.seq (.ops [(PO.mk (some 28) (.mv (.t 0)) none), (PO.mk (some 29) (.mv (.t 1)) none), (PO.mk (some 30) (.idxSl 104 (.t 28) (.t 29)) none), (PO.mk (some 31) (.fldA 101 (.t 30)) none), (PO.mk (some 32) (.load false 1 (.t 31)) none), (PO.mk (some 33) (.mv (.t 2)) none), (PO.mk (some 34) (.bin .gtr (.t 32) (.t 33)) none)]) (.cond (.t 34) .skip (.exit 0))) (.block 1 (.ops [(PO.mk (some 35) (.mv (.t 0)) none), (PO.mk (some 36) (.mv (.t 1)) none), (PO.mk (some 37) (.idxSl 104 (.t 35) (.t 36)) none), (PO.mk (some 38) (.fldA 100 (.t 37)) none), (PO.mk (some 39) (.load false 1 (.t 38)) none), (PO.mk (some 1) (.mv (.t 39)) none)]))))) (.seq (.ops [(PO.mk (some 40) (.mv (.t 1)) none), (PO.mk (some 6) (.mv (.t 40)) none)]) .ret))))
def k213 (F : Fn) : PF := PF.mk 78 2 [(.t 4)] (.seq (.ops [(PO.mk (some 4) (.mv (.k (w32 0))) none)]) (.seq (.ops [(PO.mk (some 5) (.mv (.k (.sl .nil [] 0))) none)]) (.seq (.block 0 (.loop (.seq (.seq (.ops [(PO.mk (some 9) (.mv (.t 1)) none), (PO.mk (some 10) (.bin .geq (.t 9) (.k (.int .i64 0))) none), (PO.mk (some 11) (.mv (.t 10)) none), (PO.mk (some 12) (.mv (.t 5)) (some (11, true))), (PO.mk (some 13) (.lenSl (.t 12)) (some (11, true))), (PO.mk (some 14) (.bin .lss (.t 13) (.k (.int .i64 11))) (some (11, true))), (PO.mk (some 15) (.pick (.t 11) (.t 14) (.k (.bool false))) none)]) (.cond (.t 15) .skip (.exit 0))) (.block 1 (.seq (.ops [(PO.mk (some 16) (.mv (.t 5)) none), (PO.mk (some 17) (.mv (.t 0)) none), (PO.mk (some 18) (.mv (.t 1)) none), (PO.mk (some 19) (.idxSl 104 (.t 17) (.t 18)) none), (PO.mk (some 20) (.fldA 0 (.t 19)) none), (PO.mk (some 21) (.fldA 65 (.t 20)) none), (PO.mk (some 22) (.load false 1 (.t 21)) none), (PO.mk (some 23) (.bsl false 1 1 [(w32 0)] [(0, (1, (.t 22)))]) none), (PO.mk (some 24) (.app 1 4 (.t 16) (.t 23)) none), (PO.mk (some 5) (.mv (.t 24)) none)]) (.ops [(PO.mk (some 25) (.mv (.t 0)) none), (PO.mk (some 26) (.mv (.t 1)) none), (PO.mk (some 27) (.idxSl 104 (.t 25) (.t 26)) none), (PO.mk (some 28) (.fldA 100 (.t 27)) none), (PO.mk (some 29) (.load false 1 (.t 28)) none), (PO.mk (some 1) (.mv (.t 29)) none)])))))) (.seq (.seq (.ops [(PO.mk (some 6) (.mv (.k (.int .i64 0))) none)]) (.block 2 (.loop (.seq (.seq (.ops [(PO.mk (some 30) (.mv (.t 6)) none), (PO.mk (some 31) (.mv (.t 5)) none), (PO.mk (some 32) (.lenSl (.t 31)) none), (PO.mk (some 33) (.bin .lss (.t 30) (.t 32)) none)]) (.cond (.t 33) .skip (.exit 2))) (.seq (.block 3 (.seq (.ops [(PO.mk (some 7) (.mv (.k (.int .i64 0))) none)]) (.seq (.seq (.ops [(PO.mk (some 8) (.mv (.k (.int .i64 0))) none)]) (.block 4 (.loop (.seq (.seq (.ops [(PO.mk (some 36) (.mv (.t 8)) none), (PO.mk (some 37) (.mv (.t 5)) none), (PO.mk (some 38) (.lenSl (.t 37)) none), (PO.mk (some 39) (.bin .lss (.t 36) (.t 38)) none)]) (.cond (.t 39) .skip (.exit 4))) (.seq (.block 5 (.seq (.draw [(.e, (PO.mk (some 42) (.mv (.t 5)) none)), (.e, (PO.mk (some 43) (.mv (.t 8)) none)), (.e, (PO.mk (some 44) (.idxSl 1 (.t 42) (.t 43)) none)), (.e, (PO.mk (some 46) (.mv (.t 5)) none)), (.e, (PO.mk (some 47) (.mv (.t 6)) none)), (.e, (PO.mk (some 48) (.idxSl 1 (.t 46) (.t 47)) none)), (.s, (PO.mk (some 45) (.load false 1 (.t 44)) none)), (.s, (PO.mk (some 49) (.load false 1 (.t 48)) none)), (.e, (PO.mk (some 50) (.bin .lss (.t 45) (.t 49)) none)), (.e, (PO.mk (some 51) (.mv (.t 50)) none)), (.e, (PO.mk (some 52) (.mv (.t 5)) (some (51, false)))), (.e, (PO.mk (some 53) (.mv (.t 8)) (some (51, false)))), (.e, (PO.mk (some 54) (.idxSl 1 (.t 52) (.t 53)) (some (51, false)))), (.e, (PO.mk (some 56) (.mv (.t 5)) (some (51, false)))), (.e, (PO.mk (some 57) (.mv (.t 6)) (some (51, false)))), (.e, (PO.mk (some 58) (.idxSl 1 (.t 56) (.t 57)) (some (51, false)))), (.s, (PO.mk (some 55) (.load false 1 (.t 54)) (some (51, false)))), (.s, (PO.mk (some 59) (.load false 1 (.t 58)) (some (51, false)))), (.e, (PO.mk (some 60) (.bin .eql (.t 55) (.t 59)) (some (51, false)))), (.e, (PO.mk (some 61) (.mv (.t 60)) (some (51, false)))), (.e, (PO.mk (some 62) (.mv (.t 8)) (some (61, true)))), (.e, (PO.mk (some 63) (.mv (.t 6)) (some (61, true)))), (.e, (PO.mk (some 64) (.bin .lss (.t 62) (.t 63)) (some (61, true)))), (.e, (PO.mk (some 65) (.pick (.t 61) (.t 64) (.k (.bool false))) (some (51, false)))), (.e, (PO.mk (some 66) (.pick (.t 51) (.k (.bool true)) (.t 65)) none))]) (.cond (.t 66) (.ops [(PO.mk (some 67) (.mv (.t 7)) none), (PO.mk (some 68) (.bin .add (.t 67) (.k (.int .i64 1))) none), (PO.mk (some 7) (.mv (.t 68)) none)]) .skip))) (.ops [(PO.mk (some 40) (.mv (.t 8)) none), (PO.mk (some 41) (.bin .add (.t 40) (.k (.int .i64 1))) none), (PO.mk (some 8) (.mv (.t 41)) none)])))))) (.seq (.ops [(PO.mk (some 69) (.mv (.t 7)) none), (PO.mk (some 70) (.mv (.t 5)) none), (PO.mk (some 71) (.lenSl (.t 70)) none), (PO.mk (some 72) (.bin .quo (.t 71) (.k (.int .i64 2))) none), (PO.mk (some 73) (.bin .eql (.t 69) (.t 72)) none)]) (.cond (.t 73) (.seq (.ops [(PO.mk (some 74) (.mv (.t 5)) none), (PO.mk (some 75) (.mv (.t 6)) none), (PO.mk (some 76) (.idxSl 1 (.t 74) (.t 75)) none), (PO.mk (some 77) (.load false 1 (.t 76)) none), (PO.mk (some 4) (.mv (.t 77)) none)]) .ret) .skip))))) (.ops [(PO.mk (some 34) (.mv (.t 6)) none), (PO.mk (some 35) (.bin .add (.t 34) (.k (.int .i64 1))) none), (PO.mk (some 6) (.mv (.t 35)) none)])))))) (.seq (.ops [(PO.mk (some 4) (.mv (.k (w32 0))) none)]) .ret)))))
def k214 (F : Fn) : PF := PF.mk 77 3 [(.t 6)] (.seq (.ops [(PO.mk (some 3) (.box (.t 0)) none), (PO.mk (some 6) (.mv (.k (w32 0))) none)]) (.seq (.ops [(PO.mk (some 14) (.mv (.t 1)) none), (PO.mk (some 15) (.mv (.t 2)) none), (PO.mk (some 16) (.idxSl 104 (.t 14) (.t 15)) none), (PO.mk (some 17) (.load true 104 (.t 16)) none), (PO.mk (some 7) (.alloc z104_1a18) none), (PO.mk none (.store 104 (.t 7) (.t 17)) none)]) (.seq (.seq (.ops [(PO.mk (some 18) (.fldA 1 (.t 3)) none), (PO.mk (some 19) (.load false 1 (.t 18)) none), (PO.mk (some 20) (.bin .eql (.t 19) (.k (.int .i64 0))) none), (PO.mk (some 21) (.mv (.t 20)) none), (PO.mk (some 22) (.fldA 101 (.t 7)) (some (21, false))), (PO.mk (some 23) (.load false 1 (.t 22)) (some (21, false))), (PO.mk (some 24) (.bin .add (.t 23) (.k (.int .i64 1))) (some (21, false))), (PO.mk (some 25) (.fldA 1 (.t 3)) (some (21, false))), (PO.mk (some 26) (.load false 1 (.t 25)) (some (21, false))), (PO.mk (some 27) (.bin .rem (.t 24) (.t 26)) (some (21, false))), (PO.mk (some 28) (.bin .neq (.t 27) (.k (.int .i64 0))) (some (21, false))), (PO.mk (some 29) (.pick (.t 21) (.k (.bool true)) (.t 28)) none)]) (.cond (.t 29) (.seq (.ops [(PO.mk (some 30) (.fldA 0 (.t 7)) none), (PO.mk (some 31) (.fldA 66 (.t 30)) none), (PO.mk (some 32) (.load false 1 (.t 31)) none), (PO.mk (some 6) (.mv (.t 32)) none)]) .ret) .skip)) (.seq (.ops [(PO.mk (some 33) (.fldA 101 (.t 7)) none), (PO.mk (some 34) (.load false 1 (.t 33)) none), (PO.mk (some 35) (.bin .add (.t 34) (.k (.int .i64 1))) none), (PO.mk (some 36) (.fldA 1 (.t 3)) none), (PO.mk (some 37) (.load false 1 (.t 36)) none), (PO.mk (some 38) (.bin .sub (.t 35) (.t 37)) none), (PO.mk (some 8) (.mv (.t 38)) none)]) (.seq (.seq (.ops [(PO.mk (some 39) (.mv (.t 8)) none), (PO.mk (some 40) (.bin .lss (.t 39) (.k (.int .i64 0))) none)]) (.cond (.t 40) (.ops [(PO.mk (some 8) (.mv (.k (.int .i64 0))) none)]) .skip)) (.seq (.ops [(PO.mk (some 41) (.mv (.t 1)) none), (PO.mk (some 42) (.mv (.t 1)) none), (PO.mk (some 43) (.mv (.t 2)) none), (PO.mk (some 44) (.mv (.t 8)) none), (PO.mk (some 45) (.call (F 212) [(.t 42), (.t 43), (.t 44)]) none), (PO.mk (some 46) (.idxSl 104 (.t 41) (.t 45)) none), (PO.mk (some 47) (.load true 104 (.t 46)) none), (PO.mk (some 9) (.alloc z104_1a18) none), (PO.mk none (.store 104 (.t 9) (.t 47)) none)]) (.seq (.ops [(PO.mk (some 49) (.fldA 0 (.t 3)) none), (PO.mk (some 50) (.load false 1 (.t 49)) none), (PO.mk (some 51) (.call (F 146) [(.t 50)]) none), (PO.mk (some 48) (.mv (.t 51)) none), (PO.mk (some 52) (.ext 0 (.t 48)) none), (PO.mk (some 53) (.ext 1 (.t 48)) none), (PO.mk (some 10) (.mv (.t 52)) none), (PO.mk (some 11) (.mv (.t 53)) none)]) (.seq (.ops [(PO.mk (some 55) (.fldA 0 (.t 7)) none), (PO.mk (some 56) (.fldA 66 (.t 55)) none), (PO.mk (some 57) (.load false 1 (.t 56)) none), (PO.mk (some 58) (.fldA 0 (.t 7)) none), (PO.mk (some 59) (.fldA 65 (.t 58)) none), (PO.mk (some 60) (.load false 1 (.t 59)) none), (PO.mk (some 61) (.conv .i64 (.t 60)) none), (PO.mk (some 62) (.fldA 0 (.t 9)) none), (PO.mk (some 63) (.fldA 65 (.t 62)) none), (PO.mk (some 64) (.load false 1 (.t 63)) none), (PO.mk (some 65) (.conv .i64 (.t 64)) none), (PO.mk (some 66) (.bin .sub (.t 61) (.t 65)) none), (PO.mk (some 67) (.fldA 1 (.t 3)) none), (PO.mk (some 68) (.load false 1 (.t 67)) none), (PO.mk (some 69) (.fldA 2 (.t 3)) none), (PO.mk (some 70) (.load false 1 (.t 69)) none), (PO.mk (some 71) (.bin .mul (.t 68) (.t 70)) none), (PO.mk (some 72) (.mv (.t 10)) none), (PO.mk (some 73) (.call (F 149) [(.t 57), (.t 66), (.t 71), (.t 72)]) none), (PO.mk (some 54) (.mv (.t 73)) none), (PO.mk (some 74) (.ext 0 (.t 54)) none), (PO.mk (some 75) (.ext 1 (.t 54)) none), (PO.mk (some 12) (.mv (.t 74)) none), (PO.mk (some 13) (.mv (.t 75)) none)]) (.seq (.ops [(PO.mk (some 76) (.mv (.t 12)) none), (PO.mk (some 6) (.mv (.t 76)) none)]) .ret)))))))))
def k215 (F : Fn) : PF := PF.mk 79 4 [(.t 8), (.t 9), (.t 10)] (.seq (.ops [(PO.mk (some 4) (.box (.t 0)) none), (PO.mk (some 6) (.box (.t 2)) none), (PO.mk (some 8) (.mv (.k (.sl .nil [] 0))) none), (PO.mk (some 9) (.mv (.k (.int .i64 0))) none), (PO.mk (some 10) (.mv (.k (.int .i64 0))) none)]) (.seq (.ops [(PO.mk (some 14) (.load true 68 (.t 6)) none), (PO.mk (some 15) (.call (F 151) [(.t 14)]) none), (PO.mk (some 16) (.call (F 134) [(.t 15)]) none), (PO.mk (some 11) (.alloc zR32_w80) none), (PO.mk none (.store 32 (.t 11) (.t 16)) none)]) (.seq (.seq (.ops [(PO.mk (some 17) (.mv (.t 1)) none), (PO.mk (some 18) (.load true 32 (.t 11)) none), (PO.mk (some 19) (.call (F 211) [(.t 17), (.t 18)]) none), (PO.mk (some 20) (.bin .geq (.t 19) (.k (.int .i64 0))) none)]) (.cond (.t 20) (.seq (.ops [(PO.mk (some 21) (.mv (.t 1)) none), (PO.mk (some 22) (.mv (.t 1)) none), (PO.mk (some 23) (.load true 32 (.t 11)) none), (PO.mk (some 24) (.call (F 211) [(.t 22), (.t 23)]) none), (PO.mk (some 8) (.mv (.t 21)) none), (PO.mk (some 9) (.mv (.t 24)) none), (PO.mk (some 10) (.mv (.k (.int .i64 5))) none)]) .ret) .skip)) (.seq (.ops [(PO.mk (some 25) (.mv (.t 1)) none), (PO.mk (some 26) (.fldA 1 (.t 6)) none), (PO.mk (some 27) (.load true 32 (.t 26)) none), (PO.mk (some 28) (.call (F 211) [(.t 25), (.t 27)]) none), (PO.mk (some 12) (.mv (.t 28)) none)]) (.seq (.seq (.ops [(PO.mk (some 29) (.mv (.t 12)) none), (PO.mk (some 30) (.bin .lss (.t 29) (.k (.int .i64 0))) none)]) (.cond (.t 30) (.seq (.ops [(PO.mk (some 31) (.mv (.t 1)) none), (PO.mk (some 8) (.mv (.t 31)) none), (PO.mk (some 9) (.mv (.k (.int .i64 (-1)))) none), (PO.mk (some 10) (.mv (.k (.int .i64 100))) none)]) .ret) .skip)) (.seq (.ops [(PO.mk (some 32) (.load true 68 (.t 6)) none), (PO.mk (some 33) (.fldA 0 (.t 4)) none), (PO.mk (some 34) (.load false 1 (.t 33)) none), (PO.mk (some 35) (.call (F 153) [(.t 32), (.t 34)]) none), (PO.mk (some 13) (.mv (.t 35)) none)]) (.seq (.seq (.ops [(PO.mk (some 36) (.mv (.t 13)) none), (PO.mk (some 37) (.bin .neq (.t 36) (.k (.int .i64 0))) none)]) (.cond (.t 37) (.seq (.ops [(PO.mk (some 38) (.mv (.t 1)) none), (PO.mk (some 39) (.mv (.t 13)) none), (PO.mk (some 8) (.mv (.t 38)) none), (PO.mk (some 9) (.mv (.k (.int .i64 (-1)))) none), (PO.mk (some 10) (.mv (.t 39)) none)]) .ret) .skip)) (.seq (.seq (.ops [(PO.mk (some 40) (.mv (.t 1)) none), (PO.mk (some 41) (.mv (.t 12)) none), (PO.mk (some 42) (.idxSl 104 (.t 40) (.t 41)) none), (PO.mk (some 43) (.fldA 103 (.t 42)) none), (PO.mk (some 44) (.load false 1 (.t 43)) none)]) (.cond (.t 44) (.seq (.ops [(PO.mk (some 45) (.mv (.t 1)) none), (PO.mk (some 8) (.mv (.t 45)) none), (PO.mk (some 9) (.mv (.k (.int .i64 (-1)))) none), (PO.mk (some 10) (.mv (.k (.int .i64 101))) none)]) .ret) .skip)) (.seq (.seq (.draw [(.e, (PO.mk (some 46) (.fldA 66 (.t 6)) none)), (.e, (PO.mk (some 49) (.mv (.t 1)) none)), (.e, (PO.mk (some 50) (.mv (.t 12)) none)), (.s, (PO.mk (some 47) (.load false 1 (.t 46)) none)), (.s, (PO.mk (some 48) (.load true 74 (.t 4)) none)), (.s, (PO.mk (some 51) (.call (F 214) [(.t 48), (.t 49), (.t 50)]) none)), (.e, (PO.mk (some 52) (.bin .neq (.t 47) (.t 51)) none))]) (.cond (.t 52) (.seq (.ops [(PO.mk (some 53) (.mv (.t 1)) none), (PO.mk (some 8) (.mv (.t 53)) none), (PO.mk (some 9) (.mv (.k (.int .i64 (-1)))) none), (PO.mk (some 10) (.mv (.k (.int .i64 30))) none)]) .ret) .skip)) (.seq (.seq (.draw [(.e, (PO.mk (some 54) (.fldA 65 (.t 6)) none)), (.e, (PO.mk (some 56) (.mv (.t 1)) none)), (.e, (PO.mk (some 57) (.mv (.t 12)) none)), (.s, (PO.mk (some 55) (.load false 1 (.t 54)) none)), (.s, (PO.mk (some 58) (.call (F 213) [(.t 56), (.t 57)]) none)), (.e, (PO.mk (some 59) (.bin .leq (.t 55) (.t 58)) none))]) (.cond (.t 59) (.seq (.ops [(PO.mk (some 60) (.mv (.t 1)) none), (PO.mk (some 8) (.mv (.t 60)) none), (PO.mk (some 9) (.mv (.k (.int .i64 (-1)))) none), (PO.mk (some 10) (.mv (.k (.int .i64 102))) none)]) .ret) .skip)) (.seq (.seq (.ops [(PO.mk (some 61) (.fldA 65 (.t 6)) none), (PO.mk (some 62) (.load false 1 (.t 61)) none), (PO.mk (some 63) (.conv .i64 (.t 62)) none), (PO.mk (some 64) (.bin .sub (.t 63) (.k (.int .i64 7200))) none), (PO.mk (some 65) (.mv (.t 3)) none), (PO.mk (some 66) (.bin .gtr (.t 64) (.t 65)) none)]) (.cond (.t 66) (.seq (.ops [(PO.mk (some 67) (.mv (.t 1)) none), (PO.mk (some 8) (.mv (.t 67)) none), (PO.mk (some 9) (.mv (.k (.int .i64 (-1)))) none), (PO.mk (some 10) (.mv (.k (.int .i64 103))) none)]) .ret) .skip)) (.seq (.draw2 [] [(.e, (PO.mk (some 68) (.bsl false 104 0 z104_1a18 []) none)), (.e, (PO.mk (some 69) (.mv (.t 1)) none)), (.e, (PO.mk (some 71) (.mv (.t 1)) none)), (.e, (PO.mk (some 73) (.mv (.t 12)) none)), (.e, (PO.mk (some 77) (.mv (.t 1)) none)), (.e, (PO.mk (some 78) (.lenSl (.t 77)) none)), (.s, (PO.mk (some 72) (.load true 68 (.t 6)) none)), (.x, (PO.mk (some 70) (.appf 104 160 (.t 68) (.t 69)) none)), (.x, (PO.mk (some 74) (.call (F 209) [(.t 71), (.t 72), (.t 73)]) none)), (.e, (PO.mk (some 75) (.bsl false 104 1 z104_1a18 [(0, (104, (.t 74)))]) none)), (.x, (PO.mk (some 76) (.app 104 160 (.t 70) (.t 75)) none)), (.e, (PO.mk (some 8) (.mv (.t 76)) none)), (.e, (PO.mk (some 9) (.mv (.t 78)) none)), (.e, (PO.mk (some 10) (.mv (.k (.int .i64 0))) none))]) .ret))))))))))))
def k216 (F : Fn) : PF := PF.mk 54 2 [(.t 4), (.t 5)] (.seq (.ops [(PO.mk (some 4) (.mv (.k (.sl .nil [] 0))) none), (PO.mk (some 5) (.mv (.k (.int .i64 0))) none)]) (.seq (.ops [(PO.mk (some 9) (.bsl false 104 0 z104_1a18 []) none), (PO.mk (some 10) (.mv (.t 0)) none), (PO.mk (some 11) (.app 104 160 (.t 9) (.t 10)) none), (PO.mk (some 6) (.mv (.t 11)) none)]) (.seq (.ops [(PO.mk (some 7) (.mv (.k (.int .i64 0))) none)]) (.seq (.seq (.ops [(PO.mk (some 8) (.mv (.k (.int .i64 0))) none)]) (.block 0 (.loop (.seq (.seq (.ops [(PO.mk (some 12) (.mv (.t 8)) none), (PO.mk (some 13) (.mv (.t 0)) none), (PO.mk (some 14) (.lenSl (.t 13)) none), (PO.mk (some 15) (.bin .lss (.t 12) (.t 14)) none)]) (.cond (.t 15) .skip (.exit 0))) (.seq (.block 1 (.seq (.ops [(PO.mk (some 18) (.mv (.t 1)) none), (PO.mk (some 19) (.bin .geq (.t 18) (.k (.int .i64 1))) none), (PO.mk (some 20) (.mv (.t 19)) none), (PO.mk (some 21) (.mv (.t 1)) (some (20, true))), (PO.mk (some 22) (.mv (.t 0)) (some (20, true))), (PO.mk (some 23) (.lenSl (.t 22)) (some (20, true))), (PO.mk (some 24) (.bin .lss (.t 21) (.t 23)) (some (20, true))), (PO.mk (some 25) (.pick (.t 20) (.t 24) (.k (.bool false))) none), (PO.mk (some 26) (.mv (.t 25)) none), (PO.mk (some 27) (.mv (.t 0)) (some (26, true))), (PO.mk (some 28) (.mv (.t 8)) (some (26, true))), (PO.mk (some 29) (.mv (.t 0)) (some (26, true))), (PO.mk (some 30) (.mv (.t 1)) (some (26, true))), (PO.mk (some 31) (.idxSl 104 (.t 29) (.t 30)) (some (26, true))), (PO.mk (some 32) (.fldA 101 (.t 31)) (some (26, true))), (PO.mk (some 33) (.load false 1 (.t 32)) (some (26, true))), (PO.mk (some 34) (.call (F 212) [(.t 27), (.t 28), (.t 33)]) (some (26, true))), (PO.mk (some 35) (.mv (.t 1)) (some (26, true))), (PO.mk (some 36) (.bin .eql (.t 34) (.t 35)) (some (26, true))), (PO.mk (some 37) (.pick (.t 26) (.t 36) (.k (.bool false))) none), (PO.mk (some 38) (.mv (.t 37)) none), (PO.mk (some 39) (.mv (.t 0)) (some (38, true))), (PO.mk (some 40) (.mv (.t 8)) (some (38, true))), (PO.mk (some 41) (.idxSl 104 (.t 39) (.t 40)) (some (38, true))), (PO.mk (some 42) (.fldA 103 (.t 41)) (some (38, true))), (PO.mk (some 43) (.load false 1 (.t 42)) (some (38, true))), (PO.mk (some 44) (.not (.t 43)) (some (38, true))), (PO.mk (some 45) (.pick (.t 38) (.t 44) (.k (.bool false))) none)]) (.cond (.t 45) (.seq (.ops [(PO.mk (some 46) (.mv (.t 6)) none), (PO.mk (some 47) (.mv (.t 8)) none), (PO.mk (some 48) (.idxSl 104 (.t 46) (.t 47)) none), (PO.mk (some 49) (.fldA 103 (.t 48)) none), (PO.mk none (.store 1 (.t 49) (.k (.bool true))) none)]) (.ops [(PO.mk (some 50) (.mv (.t 7)) none), (PO.mk (some 51) (.bin .add (.t 50) (.k (.int .i64 1))) none), (PO.mk (some 7) (.mv (.t 51)) none)])) .skip))) (.ops [(PO.mk (some 16) (.mv (.t 8)) none), (PO.mk (some 17) (.bin .add (.t 16) (.k (.int .i64 1))) none), (PO.mk (some 8) (.mv (.t 17)) none)])))))) (.seq (.ops [(PO.mk (some 52) (.mv (.t 6)) none), (PO.mk (some 53) (.mv (.t 7)) none), (PO.mk (some 4) (.mv (.t 52)) none), (PO.mk (some 5) (.mv (.t 53)) none)]) .ret)))))
structure OkRef10 (P : Program) (F : Fn) : Prop where
  mixed : P.follows .mixedOrders = true
  toOkRef05 : OkRef05 P F
  h208 : compFn P ⟨[], [], [], [], []⟩ (F 208) = some (k208 F)
  h209 : compFn P ⟨[], [], [], [], []⟩ (F 209) = some (k209 F)
  h210 : compFn P ⟨[], [], [], [], []⟩ (F 210) = some (k210 F)
  h211 : compFn P ⟨[], [], [], [], []⟩ (F 211) = some (k211 F)
  h212 : compFn P ⟨[], [], [], [], []⟩ (F 212) = some (k212 F)
  h213 : compFn P ⟨[], [], [], [], []⟩ (F 213) = some (k213 F)
  h214 : compFn P ⟨[], [], [], [], []⟩ (F 214) = some (k214 F)
  h215 : compFn P ⟨[70], [], [], [], []⟩ (F 215) = some (k215 F)
  h216 : compFn P ⟨[], [], [], [], []⟩ (F 216) = some (k216 F)
end Go.Ab
set_option linter.unusedSimpArgs false
set_option linter.unusedVariables false
set_option maxRecDepth 10000
namespace Go.Ab
open Go Go.RowKit
def rowP (sz : Nat) (s : V) (i : Nat) : V := (idxSlV sz s (.int .i64 (i : Int))).getD .junk
def fldP (o : Nat) (p : V) : V := (fldAV o p).getD .junk
section
variable {α : Type} {f : α → List V} {sz : Nat}
theorem Rd.row (hf : ∀ a, (f a).length = sz) {s : V} {l : List α} {st : St} (h : Rd sz f s l st) {i : Nat} (hi : i < l.length) :
    idxSlV sz s (.int .i64 (i : Int)) = some (rowP sz s i) ∧ fldAV 0 (rowP sz s i) = some (rowP sz s i) ∧ ldCells st sz (rowP sz s i) = some (f l[i]) ∧
      ∀ o n, o + n ≤ sz → fldAV o (rowP sz s i) = some (fldP o (rowP sz s i)) ∧ ldCells st n (fldP o (rowP sz s i)) = some (((f l[i]).drop o).take n) := by
  have hli := hf l[i]
  rcases h with ⟨k, rfl⟩ | ⟨sid, off, rfl, hs⟩
  · have e : idxSlV sz (.sl k (rowsOf f l) l.length) (.int .i64 (i : Int)) = some (.eptr ((rowsOf f l).drop (i * sz))) := by simp [hi]
    have er : rowP sz (.sl k (rowsOf f l) l.length) i = .eptr ((rowsOf f l).drop (i * sz)) := by rw [rowP, e]; rfl
    have hd : (rowsOf f l).drop (i * sz) = f l[i] ++ rowsOf f (l.drop (i + 1)) := by
      rw [rowsOf_drop hf, List.drop_eq_getElem_cons hi, rowsOf_cons]
    rw [er]
    refine ⟨e, by simp, ?_, fun o n hon => ⟨by simp [fldP], ?_⟩⟩
    · rw [ld_eptr, rowsOf_eptr hf l hi]
    · simp only [fldP, fldAV, Option.getD_some, ld_eptr]
      unfold segOf
      rw [hd, if_pos (by simp; omega), List.drop_zero, List.drop_append_of_le_length (by omega), List.take_append_of_le_length (by simp; omega)]
  · have e : idxSlV sz (.hsl sid off sz l.length) (.int .i64 (i : Int)) = some (.ptr (some (sid, off + i * sz))) := by simp [hi]
    have er : rowP sz (.hsl sid off sz l.length) i = .ptr (some (sid, off + i * sz)) := by rw [rowP, e]; rfl
    have hrow : st.seg sid (off + i * sz) sz = some (f l[i]) := by
      rw [seg_at hs hi]
      have := rowsOf_row hf l [] hi
      rw [List.append_nil] at this
      rw [this]
    rw [er]
    refine ⟨e, by simp, by rw [ld_ptr, hrow], fun o n hon => ⟨by simp [fldP], ?_⟩⟩
    simp only [fldP, fldAV, Option.getD_some, ld_ptr]
    unfold St.seg at hrow ⊢
    have key : ∀ cs : List V, segOf cs (off + i * sz) sz = some (f l[i]) → segOf cs (off + i * sz + o) n = some (((f l[i]).drop o).take n) := fun cs hc => by
      unfold segOf at hc ⊢
      split at hc
      · rename_i hle
        have hx := Option.some.inj hc
        rw [if_pos (by omega), ← hx, List.drop_take, List.drop_drop, List.take_take, Nat.min_eq_left (by omega)]
      · cases hc
    split at hrow <;> first | exact key _ hrow | cases hrow
end
abbrev Rw := Nd × SK × List Bool
def eRw (r : Rw) : List V := eHdr r.1.hdr ++ (eId r.1.id ++ [.int .i64 r.1.parent, .int .i64 r.1.height, slK_ r.2.1 r.2.2, .bool r.1.failed])
theorem eRw_len (r : Rw) : (eRw r).length = 104 := by simp [eRw, eHdr_len, eId_len]
def nds (l : List Rw) : List Nd := l.map (·.1)
@[simp] theorem nds_len (l : List Rw) : (nds l).length = l.length := by simp [nds]
theorem nds_get {l : List Rw} {i : Nat} (h : i < l.length) : (nds l)[i]'(by simpa using h) = l[i].1 := by simp [nds]
theorem nds_append (a b : List Rw) : nds (a ++ b) = nds a ++ nds b := by simp [nds]
def Okw (r : Rw) : Prop := valB r.2.2 = r.1.work ∧ r.2.2.length ≤ 512 + r.1.height
def Okws (l : List Rw) : Prop := ∀ r ∈ l, Okw r
theorem eRw_drop68 (r : Rw) : (eRw r).drop 68 = eId r.1.id ++ [.int .i64 r.1.parent, .int .i64 r.1.height, slK_ r.2.1 r.2.2, .bool r.1.failed] := by
  rw [eRw, ← eHdr_len r.1.hdr, List.drop_left]
theorem eRw_drop100 (r : Rw) : (eRw r).drop 100 = [.int .i64 r.1.parent, .int .i64 r.1.height, slK_ r.2.1 r.2.2, .bool r.1.failed] := by
  rw [show 100 = 68 + 32 from rfl, ← List.drop_drop, eRw_drop68]
  rw [show 32 = (eId r.1.id).length from (eId_len _).symm, List.drop_left]
theorem rwHdr (r : Rw) : ((eRw r).drop 0).take 68 = eHdr r.1.hdr := by rw [List.drop_zero, eRw, ← eHdr_len r.1.hdr, List.take_left]
theorem rwId (r : Rw) : ((eRw r).drop 68).take 32 = eId r.1.id := by rw [eRw_drop68, ← eId_len r.1.id, List.take_left]
theorem rwPar (r : Rw) : ((eRw r).drop 100).take 1 = [.int .i64 r.1.parent] := by rw [eRw_drop100]; rfl
theorem rwHgt (r : Rw) : ((eRw r).drop 101).take 1 = [.int .i64 r.1.height] := by rw [show 101 = 100 + 1 from rfl, ← List.drop_drop, eRw_drop100]; rfl
theorem rwWork (r : Rw) : ((eRw r).drop 102).take 1 = [slK_ r.2.1 r.2.2] := by rw [show 102 = 100 + 2 from rfl, ← List.drop_drop, eRw_drop100]; rfl
theorem rwFail (r : Rw) : ((eRw r).drop 103).take 1 = [.bool r.1.failed] := by rw [show 103 = 100 + 3 from rfl, ← List.drop_drop, eRw_drop100]; rfl
theorem rwTime (r : Rw) : ((eRw r).drop 65).take 1 = [w32 r.1.hdr.time] := by
  have := take_drop_take (cs := eRw r) (a := 0) (n := 68) (o := 65) (k := 1) (by omega)
  rw [Nat.zero_add] at this
  rw [this, rwHdr, hdrop65]; rfl
theorem rwBits (r : Rw) : ((eRw r).drop 66).take 1 = [w32 r.1.hdr.bits] := by
  have := take_drop_take (cs := eRw r) (a := 0) (n := 68) (o := 66) (k := 1) (by omega)
  rw [Nat.zero_add] at this
  rw [this, rwHdr, hdrop66]; rfl
abbrev RdN (s : V) (l : List Rw) (st : St) : Prop := Rd 104 eRw s l st
section
variable {P : Program} {F : Fn}
def findI (l : List Nd) (id : Id) : Int := match findM l id with | some i => i | none => -1
theorem findI_push (l : List Nd) (x : Nd) (id : Id) : findI (l ++ [x]) id = if x.id = id then (l.length : Int) else findI l id := by
  unfold findI
  rw [findM_append]
  split <;> rename_i h <;> split at h <;> simp_all
theorem spec211 (ok : OkRef10 P F) {st : St} {s : V} {l : List Rw} (h : RdN s l st) (hl : l.length ≤ 1000000) (k : Id) : ACalls P (F 211) [s, .agg (eId k)] st fun v st' => v = .int .i64 (findI (nds l) k) ∧ st' = st := by
  refine shows_call ok.mixed ok.h211 (by simp [k211]) ?_
  simp only [k211]
  simp
  intro i3 h3
  have S := (Sep.start st).new h3 (.cells (eId k))
  generalize st.upd i3 _ = st1 at S ⊢
  have o3 := S.get
  have hs := S.was' (st0 := st) (by simp)
  have hr := h.sub hs
  have hlen := h.len
  refine vc_loopJ (fun c env' st' => ∃ i, i ≤ l.length ∧ c = l.length - i ∧ env' 6 = .int .i64 (i : Nat) ∧ env' 5 = .int .i64 (findI (nds (l.take i)) k) ∧ st' = st1) l.length
    ⟨0, by omega, by omega, rfl, by simp [nds, findI, findM], rfl⟩ ?_
  rintro J hJ c env' st2 hsame ⟨i, hi, rfl, h6, h5, rfl⟩
  have g0 := hsame.get 0 rfl
  have g3 := hsame.get 3 rfl
  simp at g0 g3
  clear hsame
  have w1 : IntKind.i64.wrap ((i : Int) + 1) = (i : Int) + 1 := wrap64 (by omega) (by omega)
  by_cases hlt : i < l.length
  · obtain ⟨r1, r2, r3, r4⟩ := hr.row eRw_len hlt
    obtain ⟨f1, f2⟩ := r4 68 32 (by omega)
    rw [rwId] at f2
    have hp : nds (l.take (i + 1)) = nds (l.take i) ++ [l[i].1] := by
      rw [List.take_succ_eq_append_getElem hlt, nds_append]; rfl
    have hfi := findI_push (nds (l.take i)) l[i].1 k
    rw [← hp, nds_len, List.length_take, Nat.min_eq_left (by omega)] at hfi
    simp [g0, g3, h6, hlen, hlt, r1, f1, f2, St.seg, o3, segId0, eqK, eId_len, eqL_id]
    by_cases he : l[i].1.id = k
    · rw [if_pos he] at hfi
      simp [he, h6, w1]
      exact Round.mk (l.length - (i + 1)) _ (by omega) (sub_self _) (hJ _ _ _ ⟨i + 1, by omega, rfl, by simp, by simp [hfi], rfl⟩)
    · rw [if_neg he] at hfi
      simp [he, h6, w1]
      exact Round.mk (l.length - (i + 1)) _ (by omega) (sub_self _) (hJ _ _ _ ⟨i + 1, by omega, rfl, by simp, by simp [hfi, h5], rfl⟩)
  · have : i = l.length := by omega
    subst this
    rw [List.take_length] at h5
    simp [g0, h6, hlen, h5, hs]
theorem spec212 (ok : OkRef10 P F) {st : St} {s : V} {l : List Rw} (h : RdN s l st) (w : Wf (nds l)) (hl : l.length ≤ 1000000) (i k : Int) : ACalls P (F 212) [s, .int .i64 i, .int .i64 k] st fun v st' => v = .int .i64 (ancI (nds l) i k) ∧ st' = st := by
  refine shows_call ok.mixed ok.h212 (by simp [k212]) ?_
  simp only [k212]
  have hlen := h.len
  by_cases c1 : i < 0
  · have e : ancI (nds l) i k = -1 := by simp [ancI, c1]
    simp [c1, e]
  by_cases c2 : (l.length : Int) ≤ i
  · have e : ancI (nds l) i k = -1 := by simp [ancI, c2]
    simp [c1, c2, hlen, e]
  by_cases c3 : k < 0
  · have e : ancI (nds l) i k = -1 := by simp [ancI, c3]
    simp [c1, c2, c3, hlen, e]
  obtain ⟨n, rfl⟩ : ∃ n : Nat, i = n := ⟨i.toNat, by omega⟩
  obtain ⟨q, rfl⟩ : ∃ n : Nat, k = n := ⟨k.toNat, by omega⟩
  have hn : n < l.length := by omega
  have hnn : n < (nds l).length := by simpa using hn
  have c2' : ¬ l.length ≤ n := by omega
  have hg : ∀ j (hj : j < l.length), hgt (nds l) j = l[j].1.height := fun j hj => by rw [hgt_at (by simpa using hj), nds_get hj]
  obtain ⟨r1, r2, r3, r4⟩ := h.row eRw_len hn
  obtain ⟨f1, f2⟩ := r4 101 1 (by omega)
  rw [rwHgt, ← hg n hn] at f2
  by_cases c4 : hgt (nds l) n < q
  · have e : ancI (nds l) n q = -1 := by
      have : (hgt (nds l) n : Int) < q := by omega
      simp [ancI, this]
    simp [c1, c2', c3, hlen, e, r1, f1, f2, c4]
  · have e : ancI (nds l) n q = (anc (nds l) n q : Nat) := by
      have h1 : ¬ (hgt (nds l) n : Int) < q := by omega
      have h3 : ¬ ((n : Int) < 0) := by omega
      have h4 : ¬ ((q : Int) < 0) := by omega
      simp [ancI, h1, h3, h4, c2', c4]
    simp [c1, c2', c3, hlen, e, r1, f1, f2, c4]
    refine vc_loopJ (fun c env' st' => ∃ j, j < l.length ∧ q ≤ hgt (nds l) j ∧ c = j ∧ env' 1 = .int .i64 (j : Nat) ∧ anc (nds l) j q = anc (nds l) n q ∧ st' = st) n
      ⟨n, hn, by omega, rfl, by simp, rfl, rfl⟩ ?_
    rintro J hJ c env' st2 hsame ⟨j, hj, hq, rfl, h1, ha, rfl⟩
    have g0 := hsame.get 0 rfl
    have g2 := hsame.get 2 rfl
    simp at g0 g2
    clear hsame
    obtain ⟨r1, r2, r3, r4⟩ := h.row eRw_len hj
    obtain ⟨f1, f2⟩ := r4 101 1 (by omega)
    obtain ⟨f3, f4⟩ := r4 100 1 (by omega)
    rw [rwHgt, ← hg c hj] at f2
    rw [rwPar] at f4
    have hjn : c < (nds l).length := by simpa using hj
    by_cases hlt : q < hgt (nds l) c
    · have hp0 := w.pos_of_hgt (i := c) (by omega)
      have hpl := w.par_lt hp0 hjn
      have hph := w.hgt_par hp0 hjn
      have hpa := w.anc_par hjn hlt
      have hpe : (l[c].1.parent : Int) = (par (nds l) c : Nat) := by
        have := w.succ c _ hp0 (List.getElem?_eq_getElem hjn)
        rw [par_at hjn, nds_get hj] 
        rw [nds_get hj] at this
        omega
      rw [hpe] at f4
      simp [g0, g2, h1, r1, f1, f2, f3, f4, hlt]
      exact Round.mk (par (nds l) c) _ hpl (sub_self _) (hJ _ _ _ ⟨par (nds l) c, by omega, by omega, rfl, by simp, by rw [← hpa]; exact ha, rfl⟩)
    · have hqe : q = hgt (nds l) c := by omega
      have : anc (nds l) c q = c := by rw [hqe, anc_self]
      simp [g0, g2, h1, r1, f1, f2, hlt, ← ha, this]
end
end Go.Ab
set_option linter.unusedSimpArgs false
set_option linter.unusedVariables false
namespace Go.Ab
open Go Go.RowKit
theorem sorted32_pair (l : List W32) : ∀ (i j : Nat) (hi : i < (sorted32 l).length) (hj : j < (sorted32 l).length), i ≤ j → (sorted32 l)[i] ≤ (sorted32 l)[j] := by
  have hs : (sorted32 l).Pairwise (fun a b => decide (a ≤ b) = true) := by
    refine List.pairwise_mergeSort (fun a b c h1 h2 => ?_) (fun a b => ?_) l
    · simp at h1 h2 ⊢; exact Nat.le_trans h1 h2
    · simp; exact Nat.le_total a.toNat b.toNat
  intro i j hi hj hij
  rcases Nat.lt_or_ge i j with h | h
  · have := List.pairwise_iff_getElem.1 hs i j hi hj h
    simpa using this
  · have : i = j := by omega
    subst this
    exact Nat.le_refl _
def cLt (t : List W32) (m : W32) : Nat := t.countP fun x => decide (x < m)
def cLe (t : List W32) (m : W32) : Nat := t.countP fun x => decide (x ≤ m)
def cEq (t : List W32) (m : W32) (c : Nat) : Nat := (t.take c).countP fun x => decide (x = m)
section
variable {s : List W32} (hs : ∀ (i j : Nat) (hi : i < s.length) (hj : j < s.length), i ≤ j → s[i] ≤ s[j])
include hs
theorem below_le {k : Nat} (hk : k < s.length) {m : W32} (h : m ≤ s[k]) : cLt s m ≤ k := by
  have e : s = s.take k ++ s.drop k := (List.take_append_drop k s).symm
  unfold cLt
  rw [e, List.countP_append]
  have h1 : (s.take k).countP (fun x => decide (x < m)) ≤ k := by
    refine Nat.le_trans List.countP_le_length ?_
    simp; omega
  have h2 : (s.drop k).countP (fun x => decide (x < m)) = 0 := by
    rw [List.countP_eq_zero]
    intro x hx
    obtain ⟨j, hj, rfl⟩ := List.mem_iff_getElem.1 hx
    rw [List.getElem_drop]
    have hj' : k + j < s.length := by simpa [Nat.lt_sub_iff_add_lt, Nat.add_comm] using hj
    have := hs k (k + j) hk hj' (by omega)
    simp only [decide_eq_true_eq, BitVec.lt_def, BitVec.le_def] at this h ⊢
    omega
  omega
theorem below_ge {k : Nat} (hk : k < s.length) {m : W32} (h : s[k] < m) : k + 1 ≤ cLt s m := by
  have e : s = s.take (k + 1) ++ s.drop (k + 1) := (List.take_append_drop _ s).symm
  unfold cLt
  rw [e, List.countP_append]
  have h1 : (s.take (k + 1)).countP (fun x => decide (x < m)) = (s.take (k + 1)).length := by
    rw [List.countP_eq_length]
    intro x hx
    obtain ⟨j, hj, rfl⟩ := List.mem_iff_getElem.1 hx
    rw [List.getElem_take]
    have hj' : j < k + 1 := by simp at hj; omega
    have := hs j k (by omega) hk (by omega)
    simp only [decide_eq_true_eq, BitVec.lt_def, BitVec.le_def] at this h ⊢
    omega
  rw [h1, List.length_take]
  omega
theorem upto_le {k : Nat} (hk : k < s.length) {m : W32} (h : m < s[k]) : cLe s m ≤ k := by
  have e : s = s.take k ++ s.drop k := (List.take_append_drop k s).symm
  unfold cLe
  rw [e, List.countP_append]
  have h1 : (s.take k).countP (fun x => decide (x ≤ m)) ≤ k := by
    refine Nat.le_trans List.countP_le_length ?_
    simp; omega
  have h2 : (s.drop k).countP (fun x => decide (x ≤ m)) = 0 := by
    rw [List.countP_eq_zero]
    intro x hx
    obtain ⟨j, hj, rfl⟩ := List.mem_iff_getElem.1 hx
    rw [List.getElem_drop]
    have hj' : k + j < s.length := by simpa [Nat.lt_sub_iff_add_lt, Nat.add_comm] using hj
    have := hs k (k + j) hk hj' (by omega)
    simp only [decide_eq_true_eq, BitVec.lt_def, BitVec.le_def] at this h ⊢
    omega
  omega
theorem upto_ge {k : Nat} (hk : k < s.length) {m : W32} (h : s[k] ≤ m) : k + 1 ≤ cLe s m := by
  have e : s = s.take (k + 1) ++ s.drop (k + 1) := (List.take_append_drop _ s).symm
  unfold cLe
  rw [e, List.countP_append]
  have h1 : (s.take (k + 1)).countP (fun x => decide (x ≤ m)) = (s.take (k + 1)).length := by
    rw [List.countP_eq_length]
    intro x hx
    obtain ⟨j, hj, rfl⟩ := List.mem_iff_getElem.1 hx
    rw [List.getElem_take]
    have hj' : j < k + 1 := by simp at hj; omega
    have := hs j k (by omega) hk (by omega)
    simp only [decide_eq_true_eq, BitVec.lt_def, BitVec.le_def] at this h ⊢
    omega
  rw [h1, List.length_take]
  omega
end
theorem cLt_sorted (t : List W32) (m : W32) : cLt (sorted32 t) m = cLt t m := (List.mergeSort_perm t _).countP_eq _
theorem cLe_sorted (t : List W32) (m : W32) : cLe (sorted32 t) m = cLe t m := (List.mergeSort_perm t _).countP_eq _
theorem cLe_split (t : List W32) (m : W32) : cLe t m = cLt t m + cEq t m t.length := by
  unfold cLe cLt cEq
  rw [List.take_length]
  induction t with
  | nil => rfl
  | cons x t ih =>
    simp only [List.countP_cons, ih, decide_eq_true_eq]
    by_cases h1 : x < m
    · have h2 : x ≤ m := Nat.le_of_lt h1
      have h3 : x ≠ m := fun e => by subst e; exact absurd h1 (Nat.lt_irrefl _)
      simp [h1, h2, h3]; omega
    · by_cases h3 : x = m
      · have h2 : x ≤ m := by subst h3; exact Nat.le_refl _
        simp [h1, h2, h3]; omega
      · have h2 : ¬ x ≤ m := fun h => by
          have e : x.toNat ≠ m.toNat := fun e => h3 (BitVec.eq_of_toNat_eq e)
          simp only [BitVec.lt_def, BitVec.le_def] at h h1
          omega
        simp [h1, h2, h3]
theorem cEq_succ (t : List W32) (m : W32) {c : Nat} (h : c < t.length) : cEq t m (c + 1) = cEq t m c + if t[c] = m then 1 else 0 := by
  unfold cEq
  rw [List.take_succ_eq_append_getElem h, List.countP_append]
  simp [List.countP_cons]
theorem cEq_mono (t : List W32) (m : W32) {c : Nat} (h : c ≤ t.length) : cEq t m c ≤ cEq t m t.length := by
  have e : t.take t.length = t.take c ++ t.drop c := by rw [List.take_length, List.take_append_drop]
  unfold cEq
  rw [e, List.countP_append]
  omega
def rk (t : List W32) (a : Nat) : Nat → Nat
  | 0 => 0
  | c + 1 => rk t a c + if t.getD c 0 < t.getD a 0 ∨ (t.getD c 0 = t.getD a 0 ∧ c < a) then 1 else 0
theorem rk_le (t : List W32) (a c : Nat) : rk t a c ≤ c := by
  induction c with
  | zero => exact Nat.le_refl _
  | succ c ih => rw [rk]; split <;> omega
theorem rk_eq (t : List W32) {a : Nat} (ha : a < t.length) : ∀ c, c ≤ t.length → rk t a c = (t.take c).countP (fun x => decide (x < t[a])) + cEq t t[a] (min c a)
  | 0, _ => by simp [rk, cEq]
  | c + 1, h => by
    have hc : c < t.length := by omega
    have e1 : t.getD c 0 = t[c] := by simp [hc]
    have e2 : t.getD a 0 = t[a] := by simp [ha]
    have ih := rk_eq t ha c (by omega)
    rw [rk, ih, e1, e2, List.take_succ_eq_append_getElem hc, List.countP_append]
    simp only [List.countP_cons, List.countP_nil, Nat.zero_add, decide_eq_true_eq]
    by_cases h1 : t[c] < t[a]
    · have h2 : t[c] ≠ t[a] := fun e => by rw [e] at h1; exact absurd h1 (Nat.lt_irrefl _)
      have : cEq t t[a] (min (c + 1) a) = cEq t t[a] (min c a) := by
        by_cases hca : c < a
        · rw [show min (c + 1) a = c + 1 by omega, show min c a = c by omega, cEq_succ t _ hc, if_neg h2]; rfl
        · rw [show min (c + 1) a = a by omega, show min c a = a by omega]
      rw [this]
      simp [h1]; omega
    · by_cases h2 : t[c] = t[a]
      · by_cases hca : c < a
        · have : cEq t t[a] (min (c + 1) a) = cEq t t[a] (min c a) + 1 := by
            rw [show min (c + 1) a = c + 1 by omega, show min c a = c by omega, cEq_succ t _ hc, if_pos h2]
          rw [this]
          simp [h1, h2, hca]; omega
        · rw [show min (c + 1) a = min c a by omega]
          simp [h1, h2, hca]
      · have : cEq t t[a] (min (c + 1) a) = cEq t t[a] (min c a) := by
          by_cases hca : c < a
          · rw [show min (c + 1) a = c + 1 by omega, show min c a = c by omega, cEq_succ t _ hc, if_neg h2]; rfl
          · rw [show min (c + 1) a = a by omega, show min c a = a by omega]
        rw [this]
        simp [h1, h2]
theorem rk_all (t : List W32) {a : Nat} (ha : a < t.length) : rk t a t.length = cLt t t[a] + cEq t t[a] a := by
  rw [rk_eq t ha _ (Nat.le_refl _), List.take_length, Nat.min_eq_right (by omega)]; rfl
theorem middle_get {t : List W32} (h : t ≠ []) : middle32 t = (sorted32 t)[t.length / 2]'(by rw [sorted32_length]; have := List.length_pos_iff.2 h; omega) := by
  have hl : t.length / 2 < (sorted32 t).length := by rw [sorted32_length]; have := List.length_pos_iff.2 h; omega
  unfold middle32
  rw [List.getD_eq_getElem?_getD, List.getElem?_eq_getElem hl]; rfl
theorem rk_middle {t : List W32} {a : Nat} (ha : a < t.length) (h : rk t a t.length = t.length / 2) : t[a] = middle32 t := by
  have hne : t ≠ [] := by rintro rfl; simp at ha
  have hl : t.length / 2 < (sorted32 t).length := by rw [sorted32_length]; omega
  rw [middle_get hne]
  rw [rk_all t ha] at h
  have h1 : cEq t t[a] a < cEq t t[a] t.length := by
    have := cEq_mono t t[a] (c := a + 1) (by omega)
    rw [cEq_succ t _ ha, if_pos rfl] at this
    omega
  have h2 := cLe_split t t[a]
  obtain ⟨x, hx⟩ : ∃ x, x = t[a] := ⟨_, rfl⟩
  rw [← hx] at h h1 h2 ⊢
  obtain ⟨y, hy⟩ : ∃ y, y = (sorted32 t)[t.length / 2] := ⟨_, rfl⟩
  rw [← hy]
  apply BitVec.eq_of_toNat_eq
  have p1 : ¬ x < y := fun hlt => by
    have := upto_le (sorted32_pair t) hl (m := x) (by rw [← hy]; exact hlt)
    rw [cLe_sorted] at this
    omega
  have p2 : ¬ y < x := fun hlt => by
    have := below_ge (sorted32_pair t) hl (m := x) (by rw [← hy]; exact hlt)
    rw [cLt_sorted] at this
    omega
  simp only [BitVec.lt_def] at p1 p2
  omega
theorem step_through {g : Nat → Nat} (n k : Nat) (h0 : g 0 ≤ k) (hn : k < g n) (hs : ∀ c, c < n → g (c + 1) ≤ g c + 1) : ∃ c, c < n ∧ g c = k ∧ g (c + 1) = k + 1 := by
  induction n with
  | zero => omega
  | succ n ih =>
    by_cases h : k < g n
    · obtain ⟨c, h1, h2⟩ := ih h fun c hc => hs c (by omega)
      exact ⟨c, by omega, h2⟩
    · have := hs n (by omega)
      exact ⟨n, by omega, by omega, by omega⟩
theorem rk_some {t : List W32} (hne : t ≠ []) : ∃ a, a < t.length ∧ rk t a t.length = t.length / 2 := by
  have hp := List.length_pos_iff.2 hne
  have hl : t.length / 2 < (sorted32 t).length := by rw [sorted32_length]; omega
  obtain ⟨m, hm⟩ : ∃ m, m = (sorted32 t)[t.length / 2] := ⟨_, rfl⟩
  have h1 := below_le (sorted32_pair t) hl (m := m) (by rw [← hm]; exact Nat.le_refl _)
  have h2 := upto_ge (sorted32_pair t) hl (m := m) (by rw [← hm]; exact Nat.le_refl _)
  rw [cLt_sorted] at h1
  rw [cLe_sorted, cLe_split] at h2
  obtain ⟨c, hc, e1, e2⟩ := step_through (g := fun c => cLt t m + cEq t m c) t.length (t.length / 2) (by simp [cEq]; exact h1) (by show _ < cLt t m + _; omega) (fun c hc => by
    show cLt t m + cEq t m (c + 1) ≤ cLt t m + cEq t m c + 1
    rw [cEq_succ t m hc]
    split <;> omega)
  rw [cEq_succ t m hc] at e2
  have : t[c] = m := by
    by_cases h : t[c] = m
    · exact h
    · rw [if_neg h] at e2; omega
  exact ⟨c, hc, by rw [rk_all t hc, this]; exact e1⟩
end Go.Ab
set_option linter.unusedSimpArgs false
set_option linter.unusedVariables false
set_option maxRecDepth 10000
namespace Go.Ab
open Go Go.RowKit
section
variable {P : Program} {F : Fn}
def exK (i : Nat) (M : Env → St → Prop) (Q : Ex → Env → St → Prop) : Ex → Env → St → Prop := fun e env st => if e = .exit i then M env st else Q e env st
@[simp] theorem exK_n (i : Nat) (M : Env → St → Prop) (Q : Ex → Env → St → Prop) (env : Env) (st : St) : exK i M Q .normal env st = Q .normal env st := by simp [exK]
@[simp] theorem exK_r (i : Nat) (M : Env → St → Prop) (Q : Ex → Env → St → Prop) (env : Env) (st : St) : exK i M Q .ret env st = Q .ret env st := by simp [exK]
@[simp] theorem exK_e (i j : Nat) (M : Env → St → Prop) (Q : Ex → Env → St → Prop) (env : Env) (st : St) : exK i M Q (.exit j) env st = if j = i then M env st else Q (.exit j) env st := by simp [exK]
theorem timesM_len (l : List Nd) : ∀ n i, (timesM l n i).length ≤ n
  | 0, i => by simp [timesM]
  | n + 1, i => by
    unfold timesM
    split
    · rename_i x _
      split
      · simp
      · have := timesM_len l n x.parent.toNat
        simp only [List.length_cons]; omega
    · simp
theorem vc_exitTo {c : PC} {Q : Ex → Env → St → Prop} {env : Env} {st : St} (i : Nat) (M : Env → St → Prop) (h : vc P c (exK i M Q) env st) (k : ∀ env' st', Same c.writes env env' → M env' st' → Q (.exit i) env' st') : vc P c Q env st :=
  vc_frame c _ _ env st (fun e env' st' hs hq => by
    unfold exK at hq
    split at hq
    · rename_i h; subst h; exact k _ _ hs hq
    · exact hq) h
set_option maxHeartbeats 2000000 in
theorem spec213 (ok : OkRef10 P F) {st : St} {s : V} {l : List Rw} (h : RdN s l st) (w : Wf (nds l)) (hl : l.length ≤ 16384) {n : Nat} (hn : n < l.length) : ACalls P (F 213) [s, .int .i64 (n : Nat)] st fun v st' => v = w32 (medianM (nds l) n) ∧ st' = st := by
  refine shows_call ok.mixed ok.h213 (by simp [k213]) ?_
  simp only [k213]
  have hnn : n < (nds l).length := by simpa using hn
  simp
  refine vc_exitTo 0 (fun env' st' => ∃ q, env' 5 = q ∧ Sep [Sl 1 e32 q (timesM (nds l) 11 n), Was st] st') ?goA ?goB
  case goB =>
    rintro env1 st1 hsame ⟨q, h5, S⟩
    obtain ⟨T, hT⟩ : ∃ T, T = timesM (nds l) 11 n := ⟨_, rfl⟩
    have hne : T ≠ [] := by rw [hT]; exact timesM_ne hnn
    have hTl : T.length ≤ 11 := by rw [hT]; exact timesM_len _ _ _
    have em : medianM (nds l) n = middle32 T := by rw [hT]; rfl
    rw [← hT] at S
    rw [em]
    have hlen := (Sep.rd e32_len S).len
    have hsub := S.was' (st0 := st) (by simp)
    have rd := Sep.rd e32_len S
    simp
    refine vc_loopJ (fun c env' st' => ∃ a, a ≤ T.length ∧ c = T.length - a ∧ (∀ b, b < a → rk T b T.length ≠ T.length / 2) ∧ env' 6 = .int .i64 (a : Nat) ∧ env' 5 = q ∧ st' = st1) T.length
      ⟨0, by omega, by omega, by omega, by simp, by simp [h5], rfl⟩ ?_
    clear h5
    rintro J hJ c env2 st2 hsame ⟨a, ha, rfl, hall, h6, h5, rfl⟩
    clear hsame
    have wa : IntKind.i64.wrap ((a : Int) + 1) = (a : Int) + 1 := wrap64 (by omega) (by omega)
    by_cases hlt : a < T.length
    · obtain ⟨pa, hpa, hla⟩ := rd.idx e32_len hlt .i64
      simp [h5, h6, hlen, hlt]
      refine vc_loopJ (fun c env' st' => ∃ b, b ≤ T.length ∧ c = T.length - b ∧ env' 8 = .int .i64 (b : Nat) ∧ env' 7 = .int .i64 (rk T a b : Nat) ∧ st' = st2) T.length
        ⟨0, by omega, by omega, by simp, by simp [rk], rfl⟩ ?_
      rintro J2 hJ2 c env3 st3 hsame ⟨b, hb, rfl, h8, h7, rfl⟩
      have g5 := (hsame.get 5 rfl).trans (by simp [h5] : _ = q)
      have g6 := (hsame.get 6 rfl).trans (by simp [h6] : _ = V.int .i64 (a : Int))
      clear hsame
      have hrl := rk_le T a b
      by_cases hbl : b < T.length
      · obtain ⟨pb, hpb, hlb⟩ := rd.idx e32_len hbl .i64
        have wb : IntKind.i64.wrap ((b : Int) + 1) = (b : Int) + 1 := wrap64 (by omega) (by omega)
        have wr : IntKind.i64.wrap ((rk T a b : Int) + 1) = (rk T a b : Int) + 1 := wrap64 (by omega) (by omega)
        have e1 : T.getD b 0 = T[b] := by simp [hbl]
        have e2 : T.getD a 0 = T[a] := by simp [hlt]
        have hrk : rk T a (b + 1) = rk T a b + if T[b] < T[a] ∨ (T[b] = T[a] ∧ b < a) then 1 else 0 := by rw [rk, e1, e2]
        obtain ⟨x, hx⟩ : ∃ x, x = T[b] := ⟨_, rfl⟩
        obtain ⟨y, hy⟩ : ∃ y, y = T[a] := ⟨_, rfl⟩
        rw [← hx] at hlb hrk
        rw [← hy] at hla hrk
        have on : (x < y ∨ (x = y ∧ b < a)) → rk T a (b + 1) = rk T a b + 1 := fun h => by rw [hrk, if_pos h]
        have off : ¬ (x < y ∨ (x = y ∧ b < a)) → rk T a (b + 1) = rk T a b := fun h => by rw [hrk, if_neg h]; rfl
        by_cases c1 : x < y
        · have e := on (.inl c1)
          simp [g5, g6, h7, h8, hlen, hbl, hpa, hpb, hla, hlb, e32, c1, wb, wr]
          exact Round.mk (T.length - (b + 1)) _ (by omega) (sub_self _) (hJ2 _ _ _ ⟨b + 1, by omega, rfl, by simp, by simp [e], rfl⟩)
        · by_cases c2 : x = y
          · subst c2
            by_cases c3 : b < a
            · have e := on (.inr ⟨rfl, c3⟩)
              simp [g5, g6, h7, h8, hlen, hbl, hpa, hpb, hla, hlb, e32, c1, c3, wb, wr]
              exact Round.mk (T.length - (b + 1)) _ (by omega) (sub_self _) (hJ2 _ _ _ ⟨b + 1, by omega, rfl, by simp, by simp [e], rfl⟩)
            · have e := off (fun h => h.elim c1 fun h => c3 h.2)
              simp [g5, g6, h7, h8, hlen, hbl, hpa, hpb, hla, hlb, e32, c1, c3, wb, wr]
              exact Round.mk (T.length - (b + 1)) _ (by omega) (sub_self _) (hJ2 _ _ _ ⟨b + 1, by omega, rfl, by simp, by simp [e, h7], rfl⟩)
          · have e := off (fun h => h.elim c1 fun h => c2 h.1)
            have c2' : (x == y) = false := by simp [c2]
            simp [g5, g6, h7, h8, hlen, hbl, hpa, hpb, hla, hlb, e32, c1, c2', wb, wr]
            exact Round.mk (T.length - (b + 1)) _ (by omega) (sub_self _) (hJ2 _ _ _ ⟨b + 1, by omega, rfl, by simp, by simp [e, h7], rfl⟩)
      · have : b = T.length := by omega
        subst this
        have hq : ((T.length : Int).tdiv 2) = ((T.length / 2 : Nat) : Int) := tdiv_nat _ 2
        have hw : IntKind.i64.wrap ((T.length / 2 : Nat) : Int) = ((T.length / 2 : Nat) : Int) := wrap64 (by omega) (by omega)
        obtain ⟨H, hH⟩ : ∃ H, H = T.length / 2 := ⟨_, rfl⟩
        rw [← hH] at hq hw
        by_cases hk : rk T a T.length = H
        · have hm := rk_middle hlt (by rw [hk, hH])
          rw [hm] at hla
          have hb' : ((rk T a T.length : Int) == (H : Int)) = true := by simp [hk]
          simp [g5, g6, h7, h8, hlen, hq, hw, hb', hpa, hla, e32]
          exact hsub
        · have hb' : ((rk T a T.length : Int) == (H : Int)) = false := by simp; omega
          simp [g5, g6, h7, h8, hlen, hq, hw, hb', wa]
          refine Round.mk (T.length - (a + 1)) _ (by omega) (sub_self _) (hJ _ _ _ ⟨a + 1, by omega, rfl, ?_, by simp, by simp [g5], rfl⟩)
          intro b hb
          rcases Nat.lt_or_ge b a with h | h
          · exact hall b h
          · have : b = a := by omega
            subst this
            rw [← hH]; exact hk
    · exfalso
      obtain ⟨b, hb, e⟩ := rk_some hne
      exact hall b (by omega) e
  refine vc_loopJ (fun c env' st' => ∃ (acc : List W32) (j : Int) (q : V), c = 11 - acc.length ∧ acc.length ≤ 11 ∧ acc ++ timesI (nds l) (11 - acc.length) j = timesM (nds l) 11 n ∧ (0 ≤ j → j < l.length) ∧ env' 1 = .int .i64 j ∧ env' 5 = q ∧ Sep [Sl 1 e32 q acc, Was st] st') 11
    ⟨[], n, .sl .nil [] 0, rfl, by simp, ?_, by omega, by simp, by simp, (Sep.start st).slNil⟩ ?_
  · simp [timesI]; omega
  · rintro J hJ c env' st2 hsame ⟨acc, j, q, rfl, hal, he, hj, g1, g5, S⟩
    have g0 := hsame.get 0 rfl
    simp at g0
    clear hsame
    have hsub := S.was' (st0 := st) (by simp)
    have h2 := h.sub hsub
    have hlen := (Sep.rd e32_len S).len
    by_cases hgo : 0 ≤ j ∧ (acc.length : Int) < 11
    · obtain ⟨hj0, ha⟩ := hgo
      obtain ⟨p, rfl⟩ : ∃ p : Nat, j = p := ⟨j.toNat, by omega⟩
      have hp : p < l.length := by have := hj hj0; omega
      have hpn : p < (nds l).length := by simpa using hp
      obtain ⟨r1, r2, r3, r4⟩ := h2.row eRw_len hp
      obtain ⟨f1, f2⟩ := r4 65 1 (by omega)
      rw [rwTime] at f2
      obtain ⟨T, hT⟩ : ∃ T, T = l[p].1.hdr.time := ⟨_, rfl⟩
      rw [← hT] at f2
      simp [g0, g1, g5, hlen, ha, r1, r2, f1, f2, hf32]
      have hel : elems st2 1 (.sl .full (e32 T) 1) = some (e32 T, 1) := rfl
      rw [hel]
      refine Sep.app1 e32_len (by omega) S (a := T) rfl (by omega) ?_
      intro s' st3 S
      have h3 := h.sub (S.was' (st0 := st) (by simp))
      obtain ⟨r1, r2, r3, r4⟩ := h3.row eRw_len hp
      obtain ⟨f1, f2⟩ := r4 100 1 (by omega)
      rw [rwPar] at f2
      simp [g0, g1, r1, f1, f2]
      have e11 : 11 - acc.length = (11 - (acc.length + 1)) + 1 := by omega
      refine Round.mk (11 - (acc ++ [T]).length) _ (by simp; omega) (sub_self _) (hJ _ _ _ ⟨acc ++ [T], l[p].1.parent, s', rfl, by simp; omega, ?_, ?_, by simp, by simp, S⟩)
      · rw [← he]
        have : timesI (nds l) (11 - acc.length) (p : Int) = T :: timesI (nds l) (11 - (acc.length + 1)) l[p].1.parent := by
          have := timesM_succ (l := nds l) (n := 11 - (acc.length + 1)) hpn
          rw [nds_get hp, ← hT] at this
          rw [e11, ← this]; simp [timesI]; omega
        rw [this]; simp
      · intro hq
        rcases Nat.eq_zero_or_pos p with e | e
        · subst e
          have := (w.zero _ (List.getElem?_eq_getElem hpn)).1
          rw [nds_get hp] at this
          omega
        · have := (w.succ p _ e (List.getElem?_eq_getElem hpn)).2.1
          rw [nds_get hp] at this
          omega
    · have eT : acc = timesM (nds l) 11 n := by
        rw [← he]
        by_cases hj0 : 0 ≤ j
        · have e11 : 11 - acc.length = 0 := by omega
          rw [e11]
          have : timesI (nds l) 0 j = [] := by unfold timesI; split <;> rfl
          rw [this]; simp
        · have : timesI (nds l) (11 - acc.length) j = [] := by unfold timesI; rw [if_pos (by omega)]
          rw [this]; simp
      rw [← eT]
      by_cases hj0 : 0 ≤ j
      · have ha : ¬ ((acc.length : Int) < 11) := fun h => hgo ⟨hj0, h⟩
        simp [g1, g5, hlen, hj0, ha]
        exact S
      · simp [g1, g5, hj0]
        exact S
end
end Go.Ab
set_option linter.unusedSimpArgs false
set_option linter.unusedVariables false
set_option maxRecDepth 10000
namespace Go.Ab
open Go Go.RowKit
theorem xsegHgt (r : Rw) : segOf (eRw r) 101 1 = some [.int .i64 r.1.height] := seg_of_take (rwHgt r) (by rw [eRw_len]; omega)
theorem xsegWork (r : Rw) : segOf (eRw r) 102 1 = some [slK_ r.2.1 r.2.2] := seg_of_take (rwWork r) (by rw [eRw_len]; omega)
theorem xsegTime (r : Rw) : segOf (eRw r) 65 1 = some [w32 r.1.hdr.time] := seg_of_take (rwTime r) (by rw [eRw_len]; omega)
theorem xsegBits (r : Rw) : segOf (eRw r) 66 1 = some [w32 r.1.hdr.bits] := seg_of_take (rwBits r) (by rw [eRw_len]; omega)
theorem xsegAll (r : Rw) : segOf (eRw r) 0 104 = some (eRw r) := by
  unfold segOf
  rw [if_pos (by rw [eRw_len]; omega), List.drop_zero, ← eRw_len r, List.take_length]
theorem spl_z104 (r : Rw) : spliceV z104_1a18 0 (eRw r) = eRw r := by
  unfold spliceV
  rw [List.take_zero, List.nil_append, Nat.zero_add, eRw_len, ← z104_1a18_len, List.drop_length, List.append_nil]
theorem store104 {st : St} {i : Nat} {r : Rw} : storeS (st.upd i (.cells z104_1a18)) 104 (.ptr (some (i, 0))) (.agg (eRw r)) = some (st.upd i (.cells (eRw r))) := by
  simp [storeS, eRw_len, spl_z104]
section
variable {P : Program} {F : Fn}
set_option maxHeartbeats 2000000 in
theorem spec214 (ok : OkRef10 P F) {st : St} {s : V} {l : List Rw} (h : RdN s l st) (w : Wf (nds l)) (hl : l.length ≤ 16384) {r : Rl} (hr : checkM r = 0) {n : Nat} (hn : n < l.length) : ACalls P (F 214) [.agg (eRl r), s, .int .i64 (n : Nat)] st fun v st' => v = w32 (nextM r (nds l) n) ∧ st' = st := by
  have ok5 := ok.toOkRef05
  obtain ⟨hr1, hr2, hr3, hr4, hr5, hr6, -, -⟩ := checkM_ok hr
  refine shows_call ok.mixed ok.h214 (by simp [k214]) ?_
  simp only [k214]
  have hnn : n < (nds l).length := by simpa using hn
  obtain ⟨x, hx⟩ : ∃ x, x = l[n] := ⟨_, rfl⟩
  have hxh : x.1.height = hgt (nds l) n := by rw [hgt_at hnn, nds_get hn, hx]
  have hgl := w.hgt_le hnn
  obtain ⟨E, hE⟩ : ∃ E : Nat, r.every = E := ⟨r.every.toNat, by omega⟩
  obtain ⟨H, hH⟩ : ∃ H, H = x.1.height := ⟨_, rfl⟩
  have hnx : nextM r (nds l) n = if E = 0 ∨ (H + 1) % E ≠ 0 then x.1.hdr.bits else (nextN x.1.hdr.bits ((x.1.hdr.time.toNat : Int) - (nd (nds l) (anc (nds l) n (H + 1 - E))).hdr.time.toNat) (r.every * r.spacing) (limitN r)).getD 0 := by
    have e0 : nd (nds l) n = x.1 := by rw [nd_at hnn, nds_get hn, hx]
    unfold nextM
    simp only [e0, ← hH, hE]
    have e1 : ((H : Int) + 1).tmod (E : Int) = (((H + 1) % E : Nat) : Int) := by
      rw [Int.tmod_eq_emod_of_nonneg (by omega)]; push_cast; rfl
    have e2 : (max 0 ((H : Int) + 1 - E)).toNat = H + 1 - E := by omega
    rw [e1, e2]
    have e3 : ((E : Int) = 0 ∨ (((H + 1) % E : Nat) : Int) ≠ 0) ↔ (E = 0 ∨ (H + 1) % E ≠ 0) := by omega
    by_cases c : (E = 0 ∨ (H + 1) % E ≠ 0)
    · rw [if_pos c, if_pos (e3.2 c)]
    · rw [if_neg c, if_neg (fun h => c (e3.1 h))]
  have rEv := rsegEvery r
  have rSp := rsegSpacing r
  rw [hE] at rEv
  simp
  intro i3 h3
  have S := (Sep.start st).new h3 (.cells (eRl r))
  generalize st.upd i3 _ = st1 at S ⊢
  obtain ⟨r1, r2, r3, r4⟩ := (h.sub (S.was' (st0 := st) (by simp))).row eRw_len hn
  rw [← hx] at r3
  simp [r1, r3]
  intro i7 h7
  have S := S.new h7 (.cells z104_1a18)
  simp [store104]
  have S := S.setAt (.cells (eRw x)) 0 rfl
  simp at S
  generalize st1.upd i7 _ = st2 at S ⊢
  have hs := S.was' (st0 := st) (by simp)
  have o3 := S.mem (i := i3) (o := .cells (eRl r)) (by simp)
  have o7 := S.get
  have xH := xsegHgt x
  rw [← hH] at xH hxh
  have hw1 : IntKind.i64.wrap ((H : Int) + 1) = (H : Int) + 1 := wrap64 (by omega) (by omega)
  simp [St.seg, o3, rEv]
  by_cases hE0 : E = 0
  · have : nextM r (nds l) n = x.1.hdr.bits := by rw [hnx, if_pos (.inl hE0)]
    rw [this]
    have hE0' : ((E : Int) == 0) = true := by simp [hE0]
    simp [hE0, o7, xsegBits, St.seg, hs]
  · have hem : ((H : Int) + 1).tmod (E : Int) = (((H + 1) % E : Nat) : Int) := by
      rw [Int.tmod_eq_emod_of_nonneg (by omega)]; push_cast; rfl
    obtain ⟨M, hM⟩ : ∃ M, M = (H + 1) % E := ⟨_, rfl⟩
    have hMl : M < E := hM ▸ Nat.mod_lt _ (by omega)
    rw [← hM] at hem hnx
    have hem2 : IntKind.i64.wrap ((((H : Int) + 1)) % (E : Int)) = (M : Int) := by
      rw [← Int.tmod_eq_emod_of_nonneg (by omega), hem]; exact wrap64 (by omega) (by omega)
    have hem3 : IntKind.i64.wrap ((((H : Int) + 1)).tmod (E : Int)) = (M : Int) := by
      rw [hem]; exact wrap64 (by omega) (by omega)
    have hEb : ((E : Int) == 0) = false := by simp; omega
    simp [hEb, hE0, o7, xH, St.seg, hw1, o3, rEv, hem2, hem3]
    by_cases hM0 : M = 0
    · rw [if_neg (by omega)] at hnx
      rw [hnx]
      have htb : (((H : Int) + 1).tmod (E : Int) != 0) = false := by rw [hem, hM0]; rfl
      obtain ⟨K, hK⟩ : ∃ K, K = H + 1 - E := ⟨_, rfl⟩
      rw [← hK]
      have hw3 : IntKind.i64.wrap ((H : Int) + 1 - (E : Int)) = (H : Int) + 1 - (E : Int) := wrap64 (by omega) (by omega)
      have hKh : K ≤ hgt (nds l) n := by omega
      have hal := w.anc_lt (i := n) (h := K) hnn
      obtain ⟨A, hA⟩ : ∃ A, A = anc (nds l) n K := ⟨_, rfl⟩
      have ea : ancI (nds l) n K = (A : Nat) := by
        have h1 : ¬ (nds l).length ≤ n := by omega
        have h1' : ¬ l.length ≤ n := by omega
        have h2 : ¬ hgt (nds l) n < K := by omega
        have h3 : ¬ ((n : Int) < 0) := by omega
        have h4 : ¬ ((K : Int) < 0) := by omega
        simp [ancI, h1', h2, h3, h4, hA]
      rw [← hA] at hal ⊢
      have hal' : A < l.length := by simpa using hal
      simp [htb, o7, o3, xH, rEv, St.seg, hw1, hw3]
      refine condB_join (fun env' st' => env' 8 = .int .i64 (K : Int) ∧ st' = st2) ?_ ?_
      · by_cases hneg : (H : Int) + 1 - (E : Int) < 0
        · have : K = 0 := by omega
          simp [hneg, this]
        · have : (K : Int) = (H : Int) + 1 - (E : Int) := by omega
          simp [hneg, this]
      rintro env' st' hsame ⟨h8, rfl⟩
      have g1 := (hsame.get 1 rfl).trans (by simp : _ = s)
      have g2 := (hsame.get 2 rfl).trans (by simp : _ = V.int .i64 (n : Int))
      have g3 := (hsame.get 3 rfl).trans (by simp : _ = V.ptr (some (i3, 0)))
      have g7 := (hsame.get 7 rfl).trans (by simp : _ = V.ptr (some (i7, 0)))
      clear hsame
      have hr2 := h.sub hs
      simp [g1, g2, h8]
      refine (spec212 ok hr2 w (by omega) n K).mono ?_
      rintro v st2 ⟨rfl, rfl⟩
      rw [ea]
      obtain ⟨r1, r2, r3, r4⟩ := hr2.row eRw_len hal'
      obtain ⟨y, hy⟩ : ∃ y, y = l[A] := ⟨_, rfl⟩
      have hyn : nd (nds l) A = y.1 := by rw [nd_at hal, nds_get hal', hy]
      rw [← hy] at r3
      rw [hyn]
      simp [r1, r3]
      intro i9 h9
      have S := S.new h9 (.cells z104_1a18)
      simp [store104]
      have S := S.setAt (.cells (eRw y)) 0 rfl
      simp at S
      generalize st2.upd i9 _ = st3 at S ⊢
      have hs := S.was' (st0 := st) (by simp)
      have o3 := S.mem (i := i3) (o := .cells (eRl r)) (by simp)
      have o7 := S.mem (i := i7) (o := .cells (eRw x)) (by simp)
      have o9 := S.get
      simp [g3, St.seg, o3, rsegLimit]
      refine (spec146 ok5 st3 r.limit).mono ?_
      rintro v st3 ⟨hT, rfl⟩
      rcases tgtB_cases hT with ⟨ht, rfl⟩ | ⟨T, k, tb, ht, rfl, hTv, hTl⟩
      · exact absurd ht hr1
      · have hlim : limitN r = valB tb := by rw [limitN, ht, hTv]; rfl
        obtain ⟨SP, hSP⟩ : ∃ n : Nat, r.spacing = n := ⟨r.spacing.toNat, by omega⟩
        rw [hSP] at rSp
        have hm : E * SP ≤ 1000 * 1048576 := Nat.mul_le_mul (by omega) (by omega)
        obtain ⟨Q, hQ⟩ : ∃ n : Int, n = (E : Int) * (SP : Int) := ⟨_, rfl⟩
        have hQb : 0 ≤ Q ∧ Q ≤ 1000 * 1048576 := by
          have : Q = ((E * SP : Nat) : Int) := by rw [hQ]; push_cast; rfl
          omega
        have hw4 : IntKind.i64.wrap Q = Q := wrap64 (by omega) (by omega)
        have hx1 := x.1.hdr.time.isLt
        have hx2 := y.1.hdr.time.isLt
        have hw5 : IntKind.i64.wrap ((x.1.hdr.time.toNat : Int) - (y.1.hdr.time.toNat : Int)) = (x.1.hdr.time.toNat : Int) - (y.1.hdr.time.toNat : Int) := wrap64 (by omega) (by omega)
        simp [g3, g7, St.seg, o3, o7, o9, xsegBits, xsegTime, rEv, rSp, hw5, ← hQ, hw4]
        refine (spec149 ok5 x.1.hdr.bits _ Q (rd_slK k tb st3) (by omega) (by omega)).mono ?_
        rintro v st3 ⟨rfl, rfl⟩
        rw [hE, hSP, ← hQ, hlim]
        unfold nextR
        cases nextN x.1.hdr.bits ((x.1.hdr.time.toNat : Int) - (y.1.hdr.time.toNat : Int)) Q (valB tb) <;> simp [hs]
    · rw [if_pos (.inr hM0)] at hnx
      rw [hnx]
      have htb : (((H : Int) + 1).tmod (E : Int) != 0) = true := by rw [hem]; simp; omega
      simp [htb, o7, xsegBits, St.seg, hs]
end
end Go.Ab
set_option linter.unusedSimpArgs false
set_option linter.unusedVariables false
namespace Go.Ab
open Go Go.RowKit
def easyB : W32 := 545259519#32
def easyR : Rl := ⟨easyB, 0, 10, 50, 0, { hdr0 with bits := easyB }, .sl .nil [] 0⟩
theorem easy_limit : tgt easyB ≠ none := by decide +kernel
end Go.Ab
set_option linter.unusedVariables false
namespace Go.Ab
open Go
end Go.Ab
set_option linter.unusedSimpArgs false
set_option linter.unusedVariables false
set_option maxRecDepth 10000
namespace Go.Ab
open Go Go.RowKit
theorem mineN_some {h : Hdr} {limit : W32} {n : Nat} {x : Hdr} (e : mineN h limit n = some x) : x.ver = h.ver ∧ x.prev = h.prev ∧ x.root = h.root ∧ x.time = h.time ∧ x.bits = h.bits ∧ provedN x limit = 0 := by
  induction n generalizing h with
  | zero => cases e
  | succ n ih =>
    unfold mineN at e
    split at e
    · cases e
      rename_i hp
      exact ⟨rfl, rfl, rfl, rfl, rfl, hp⟩
    · exact ih (h := { h with nonce := h.nonce + 1 }) e
theorem newM_wf (r : Rl) : Wf (newM r) := by
  refine ⟨by simp [newM], fun x h => ?_, fun i x h0 h => ?_, fun i x h0 h => ?_⟩
  · simp [newM] at h; rw [← h]; exact ⟨rfl, rfl⟩
  · have := (List.getElem?_eq_some_iff.1 h).1
    simp [newM] at this; omega
  · have := (List.getElem?_eq_some_iff.1 h).1
    simp [newM] at this; omega
theorem ndOf_wf {l : List Nd} (w : Wf l) {h : Hdr} {p : Nat} (hp : p < l.length) : Wf (l ++ [ndOf l h p]) := w.push hp rfl rfl rfl
theorem addM_cases (r : Rl) (l : List Nd) (h : Hdr) (now : Int) : (addM r l h now).1 = l ∧ (addM r l h now).2.2 ≠ 0 ∨ ∃ p, findM l h.prev = some p ∧ findM l (hId h) = none ∧ fitsM r l h p now = 0 ∧ l.length ≠ 16384 ∧ addM r l h now = (l ++ [ndOf l h p], (l.length : Int), 0) := by
  unfold addM
  cases h1 : findM l (hId h) with
  | some i => exact .inl ⟨rfl, by simp⟩
  | none =>
    cases h2 : findM l h.prev with
    | none => exact .inl ⟨rfl, by simp⟩
    | some p =>
      dsimp only
      by_cases h3 : fitsM r l h p now ≠ 0
      · rw [if_pos h3]; exact .inl ⟨rfl, h3⟩
      · rw [if_neg h3]
        by_cases h4 : l.length = 16384
        · rw [if_pos h4]; exact .inl ⟨rfl, by simp⟩
        · rw [if_neg h4]
          exact .inr ⟨p, rfl, rfl, by simpa using h3, h4, rfl⟩
theorem addM_ok {r : Rl} {l : List Nd} {h : Hdr} {now : Int} {p : Nat} (h1 : findM l (hId h) = none) (h2 : findM l h.prev = some p) (h3 : fitsM r l h p now = 0) (h4 : l.length ≠ 16384) : addM r l h now = (l ++ [ndOf l h p], (l.length : Int), 0) := by
  simp only [addM, h1, h2, h3, h4, if_false, ne_eq, not_true_eq_false]
theorem addM_twice {r : Rl} {l : List Nd} {h : Hdr} {now : Int} {i : Nat} (h1 : findM l (hId h) = some i) : addM r l h now = (l, (i : Int), 5) := by
  simp only [addM, h1]
theorem addM_wf {r : Rl} {l : List Nd} (w : Wf l) (hl : l.length ≤ 16384) (h : Hdr) (now : Int) : Wf (addM r l h now).1 ∧ (addM r l h now).1.length ≤ 16384 := by
  rcases addM_cases r l h now with ⟨e, _⟩ | ⟨p, h1, _, _, h2, e⟩
  · rw [e]; exact ⟨w, hl⟩
  · rw [e]
    exact ⟨ndOf_wf w (findM_lt h1), by simp; omega⟩
theorem easy_check : checkM easyR = 0 := by
  have h := easy_limit
  simp [checkM, easyR, h]
theorem median_one {l : List Nd} {i : Nat} (h : timesM l 11 i = [(nd l i).hdr.time]) : medianM l i = (nd l i).hdr.time := by
  unfold medianM middle32 sorted32
  rw [h]
  simp
theorem hspl_ver (h : Hdr) (x : W32) : spliceV (eHdr h) 0 [w32 x] = eHdr { h with ver := x } := rfl
theorem hspl_prev (h : Hdr) (p : Id) : spliceV (eHdr h) 1 (eId p) = eHdr { h with prev := p } := by
  have e : ∀ g : Hdr, eHdr g = [w32 g.ver] ++ (eId g.prev ++ (eId g.root ++ [w32 g.time, w32 g.bits, w32 g.nonce])) := fun g => rfl
  rw [e, show 1 = 1 + 0 from rfl, splice_right (n := 1) rfl]
  unfold spliceV
  rw [List.take_zero, List.nil_append, Nat.zero_add, show (eId p).length = (eId h.prev).length by rw [eId_len, eId_len], List.drop_left]; rfl
def eHpre65 (h : Hdr) : List V := w32 h.ver :: (eId h.prev ++ eId h.root)
theorem eHpre65_len (h : Hdr) : (eHpre65 h).length = 65 := by simp [eHpre65, eId_len]
theorem eHdr_pre65 (h : Hdr) : eHdr h = eHpre65 h ++ [w32 h.time, w32 h.bits, w32 h.nonce] := by simp [eHdr, eHpre65]
theorem hspl_time (h : Hdr) (x : W32) : spliceV (eHdr h) 65 [w32 x] = eHdr { h with time := x } := by
  rw [eHdr_pre65, show 65 = 65 + 0 from rfl, splice_right (eHpre65_len _), eHdr_pre65]; rfl
theorem hspl_bits (h : Hdr) (x : W32) : spliceV (eHdr h) 66 [w32 x] = eHdr { h with bits := x } := by
  rw [eHdr_pre65, show 66 = 65 + 1 from rfl, splice_right (eHpre65_len _), eHdr_pre65]; rfl
theorem build_h4 (v : W32) (p : Id) (t b : W32) : fillV (eHdr hdr0) [(0, 1, w32 v), (1, 32, .agg (eId p)), (65, 1, w32 t), (66, 1, w32 b)] = some (eHdr { hdr0 with ver := v, prev := p, time := t, bits := b }) := by
  simp [fillV, eHdr_len, eId_len, hspl_ver, hspl_prev, hspl_time, hspl_bits]
section
variable {P : Program} {F : Fn} {tid : Nat} {r : Rl} {l : List Nd} {L : List Asn} {st : St}
theorem tree_add (ok : OkIndex P F) (S : Sep (TreeS tid r l :: L) st) (w : Wf l) (hl : l.length ≤ 16384) (hr : checkM r = 0) (x : Hdr) (now : Int) :
    ACalls P (F 169) [.ptr (some (tid, 0)), .agg (eHdr x), .int .i64 now] st fun v st' => v = .tup [.int .i64 (addM r l x now).2.1, .int .i64 (addM r l x now).2.2] ∧ Sep (TreeS tid r (addM r l x now).1 :: L) st' :=
  (Sep.call S (fun h hh => spec169 ok hh w hl hr x now)).mono fun v s hs => by
    obtain ⟨h', k1, k2, _⟩ := hs.part
    exact ⟨k2, hs.head fun h hh => hh.2⟩
theorem fldV_agg (ag : Bool) (o s : Nat) (cs : List V) : fldV ag o s (.agg cs) = (segOf cs o s).bind (packV ag) := rfl
theorem osegHdr (x : Nd) : segOf (eNd x) 0 68 = some (eHdr x.hdr) := seg_of_take (nsegHdr x) (by rw [eNd_len]; omega)
theorem storeH {st : St} {i : Nat} {h : Hdr} : storeS (st.upd i (.cells (eHdr hdr0))) 68 (.ptr (some (i, 0))) (.agg (eHdr h)) = some (st.upd i (.cells (eHdr h))) := by
  simp [storeS, eHdr_len, splice_hdr]
theorem mineR_get (h : Hdr) (limit : W32) (n : Nat) : mineR h limit n = .tup [.agg (eHdr ((mineN h limit n).getD hdr0)), .bool (mineN h limit n).isSome] := by
  unfold mineR
  cases mineN h limit n <;> rfl
def gen0 : Nd := ⟨easyR.gen, hId easyR.gen, -1, 0, 0, workN ((tgt easyB).getD 0), false⟩
theorem easy_next {l : List Nd} {i : Nat} : nextM easyR l i = (nd l i).hdr.bits := by simp [nextM, easyR]
theorem ndOf_work (l : List Nd) (h : Hdr) (p : Nat) : (ndOf l h p).work = workN ((tgt h.bits).getD 0) + (nd l p).work := by
  unfold ndOf
  generalize workN _ = W
  rfl
end
end Go.Ab

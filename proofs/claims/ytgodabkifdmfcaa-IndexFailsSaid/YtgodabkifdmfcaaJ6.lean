import Derived.Test.YtgodabkifdmfcaaJ5
import Derived.Test.YtgodabkifdmfcaaJ4
/-
  hash.Sum and hash.Twice.
-/
set_option linter.unusedSimpArgs false
set_option linter.unusedVariables false
set_option maxRecDepth 10000
namespace Go.Ab
open Go Go.RowKit
section
variable {P : Program} {F : Fn}

/-- Slices that are read, one after the other. -/
inductive Parts (st : St) : List V → List (List UInt8) → Prop
  | nil : Parts st [] []
  | cons {s : V} {l : List UInt8} {ss : List V} {ls : List (List UInt8)} (h : Rd 1 e8 s l st) (t : Parts st ss ls) : Parts st (s :: ss) (l :: ls)
theorem Parts.sub {st st' : St} {ss : List V} {ls : List (List UInt8)} (h : Parts st ss ls) (hs : St.sub st st') : Parts st' ss ls := by
  induction h with
  | nil => exact .nil
  | cons h t ih => exact .cons (h.sub hs) ih
theorem Parts.len {st : St} {ss : List V} {ls : List (List UInt8)} (h : Parts st ss ls) : ss.length = ls.length := by
  induction h with
  | nil => rfl
  | cons h t ih => simp [ih]
theorem Parts.get {st : St} {ss : List V} {ls : List (List UInt8)} (h : Parts st ss ls) {i : Nat} (hi : i < ls.length) : Rd 1 e8 (ss[i]'(by rw [h.len]; exact hi)) ls[i] st := by
  induction h generalizing i with
  | nil => simp at hi
  | cons h t ih =>
    cases i with
    | zero => exact h
    | succ i => exact ih (by simpa using hi)
def PartsA (ss : List V) (ls : List (List UInt8)) : Asn := fun h => Parts h ss ls
theorem Sep.parts {ss : List V} {ls : List (List UInt8)} {L : List Asn} {st : St} (h : Sep (PartsA ss ls :: L) st) : Parts st ss ls := by
  obtain ⟨h', h1, h2⟩ := h.part
  exact h2.sub h1
theorem cells8_len (v : V8) : (cells8 v).length = 8 := rfl
def s1 (s : V) : List V := [s]
theorem zR32_rep : zR32_w80 = (List.replicate 32 (0 : UInt8)).map w8 := rfl

theorem bytesOf_e8 : ∀ l : List UInt8, bytesOf (rowsOf e8 l) = some l
  | [] => rfl
  | b :: l => by
    have ih := bytesOf_e8 l
    simp [rowsOf_cons, e8, bytesOf, ih]
theorem toStr_rd {s : V} {l : List UInt8} {st : St} (h : Rd 1 e8 s l st) (hs : ∀ x, s ≠ .str x) : toStrV st s = some (.str ⟨l.toArray⟩) := by
  have he := h.elems e8_len
  unfold toStrV
  split
  · rename_i x; exact absurd rfl (hs x)
  · rw [he]
    simp [bytesOf_e8]
theorem set4 {α : Type} (p : List α) (z a b c d : α) (n : Nat) : ((((p ++ List.replicate (n + 4) z).set p.length a).set (p.length + 1) b).set (p.length + 2) c).set (p.length + 3) d = p ++ [a, b, c, d] ++ List.replicate n z := by
  have e : List.replicate (n + 4) z = z :: z :: z :: z :: List.replicate n z := rfl
  rw [e, List.set_append_right _ _ (by omega), List.set_append_right _ _ (by omega), List.set_append_right _ _ (by omega), List.set_append_right _ _ (by omega)]
  simp
theorem str_beq (a b : ByteArray) : (a == b) = (a.data == b.data) := rfl
theorem ext_mk (l : List UInt8) (a b : Nat) : ByteArray.extract ⟨l.toArray⟩ a b = ⟨((l.drop a).take (b - a)).toArray⟩ := by
  apply ByteArray.ext
  simp
theorem str_ne (l : List UInt8) : ((⟨l.toArray⟩ : ByteArray) != ⟨⟨[]⟩⟩) = decide (l ≠ []) := by
  unfold bne
  rw [str_beq]
  cases l <;> rfl
def tailB (n : Nat) (i : Nat) : UInt8 := UInt8.ofBitVec (((BitVec.ofNat 64 n * 8) >>> i).setWidth 8)
def tailL : List Nat := [56, 48, 40, 32, 24, 16, 8, 0]
theorem tail_at : ∀ q : Fin 8, tailL.take (q.val + 1) = tailL.take q.val ++ [56 - 8 * q.val] := by decide

/-- hash.Sum -/
theorem spec103 (ok : OkHash P F) (st : St) {ss : List V} {ls : List (List UInt8)} (hp : Parts st ss ls) (k0 : SK) (hl : ls.flatten.length ≤ 100000000) (hls : ls.length ≤ 1000000) : ACalls P (F 103) [.sl k0 ss ss.length] st fun v st' => v = .agg (eId (sha ls.flatten)) ∧ st' = st := by
  refine shows_call ok.mixed ok.h103 (by simp [k103]) ?_
  simp only [k103]
  simp
  intro rid hrid
  have S := Sep.start st
  have S := S.new hrid (.cells zR32_w80)
  generalize st.upd rid _ = st1 at S ⊢
  have S : Sep [Slx 1 e8 (.sl .nil [] 0) (ls.take 0).flatten, pt rid (.cells zR32_w80), Was st] st1 := Sep.slxNil S
  simp
  refine vc_loopJ (fun k env' st' => ∃ i s, i ≤ ls.length ∧ k = ls.length - i ∧ env' 15 = .int .i64 (i : Nat) ∧ env' 3 = s ∧ Sep [Slx 1 e8 s (ls.take i).flatten, pt rid (.cells zR32_w80), Was st] st') ls.length
    ⟨0, _, by omega, by omega, rfl, rfl, S⟩ ?_
  clear S
  rintro J hJ k env' st2 hsame ⟨i, s, hi, rfl, h15, h3, S⟩
  have g2 : env' 2 = .ptr (some (rid, 0)) := hsame.get 2 rfl
  have g13 : env' 13 = .sl k0 ss ss.length := hsame.get 13 rfl
  have g14 : env' 14 = .int .i64 ss.length := hsame.get 14 rfl
  clear hsame
  have hsl := hp.len
  have w2 : IntKind.i64.wrap ((i : Int) + 1) = (i : Int) + 1 := wrap64 (by omega) (by omega)
  by_cases hlt : i < ls.length
  · have pr := (hp.sub (S.was' (by simp))).get hlt
    have hlt' : i < ss.length := by omega
    have hsg : segOf (ss.drop i) 0 1 = some [ss[i]] := by
      unfold segOf
      rw [if_pos (by simp; omega), List.drop_zero, List.drop_eq_getElem_cons hlt']
      rfl
    have hel := pr.elems e8_len
    simp [g2, g13, g14, h15, h3, hlt', hsg, hel]
    have hfl : (ls.take i).flatten.length + ls[i].length ≤ ls.flatten.length := by
      have e : ls.flatten = (ls.take i).flatten ++ (ls[i] ++ (ls.drop (i + 1)).flatten) := by
        rw [← List.flatten_cons, ← List.drop_eq_getElem_cons hlt, ← List.flatten_append, List.take_append_drop]
      rw [e, List.length_append, List.length_append]
      omega
    refine Sep.appx (b := 1) e8_len (by omega) S (m := ls[i]) (by omega) ?_
    intro s' st3 S3
    simp [h15, w2]
    refine Round.mk (ls.length - (i + 1)) _ (show ls.length - (i + 1) < ls.length - i by omega) (sub_self _) (hJ _ _ _ ⟨i + 1, s', by omega, rfl, by simp, by simp, ?_⟩)
    rw [List.take_succ_eq_append_getElem hlt, List.flatten_append]
    simpa using S3
  · have : i = ls.length := by omega
    subst this
    rw [List.take_length] at S
    obtain ⟨l, hll⟩ : ∃ l, l = ls.flatten := ⟨_, rfl⟩
    rw [← hll] at S hl ⊢
    have hlt' : ¬ ((ls.length : Int) < ss.length) := by omega
    have S : Sep [Sl 1 e8 s l, pt rid (.cells zR32_w80), Was st] st2 := S.head fun h hh => hh.sl
    have hsl2 := (Sep.rd e8_len S).len
    simp [g2, g13, g14, h15, h3, hlt', hsl2, fillV, repV, spliceV, elems]
    refine Sep.app1 e8_len (by omega) S (a := 0x80) rfl (by omega) ?_
    intro s1 st3 S
    simp
    obtain ⟨Z, hZ⟩ : ∃ Z, Z = (119 - l.length % 64) % 64 := ⟨_, rfl⟩
    clear hJ J
    refine vc_loopJ (fun k env' st' => ∃ z s, z ≤ Z ∧ k = Z - z ∧ env' 3 = s ∧ Sep [Sl 1 e8 s (l ++ 0x80 :: List.replicate z 0), pt rid (.cells zR32_w80), Was st] st') Z
      ⟨0, _, by omega, by omega, rfl, S⟩ ?_
    clear S
    rintro J hJ k env2 st4 hsame ⟨z, s2, hz, rfl, h3, S⟩
    have q2 : env2 2 = .ptr (some (rid, 0)) := (hsame.get 2 rfl).trans g2
    have q6 : env2 6 = .int .i64 l.length := hsame.get 6 rfl
    clear hsame
    have hln := (Sep.rd e8_len S).len
    have hle : (l ++ 0x80 :: List.replicate z (0 : UInt8)).length = l.length + 1 + z := by simp; omega
    rw [hle] at hln
    have htm : Int.tmod ((l.length + 1 + z : Nat) : Int) 64 = (((l.length + 1 + z) % 64 : Nat) : Int) := rfl
    obtain ⟨m, hm⟩ : ∃ m, m = l.length + 1 + z := ⟨_, rfl⟩
    rw [← hm] at hln htm
    by_cases h56 : m % 64 = 56
    · have : z = Z := by omega
      subst this
      have h56' : ((m : Int).tmod 64 != 56) = false := by rw [htm, h56]; rfl
      simp [h3, hln, h56']
      obtain ⟨pre, hpre⟩ : ∃ pre, pre = l ++ 0x80 :: List.replicate z (0 : UInt8) := ⟨_, rfl⟩
      rw [← hpre] at S hle
      clear hJ J
      refine vc_loopJ (fun k env' st' => ∃ q s, q ≤ 8 ∧ k = 8 - q ∧ env' 7 = .int .i64 (56 - 8 * (q : Int)) ∧ env' 3 = s ∧ Sep [Sl 1 e8 s (pre ++ (tailL.take q).map (tailB l.length)), pt rid (.cells zR32_w80), Was st] st') 8
        ⟨0, _, by omega, by omega, rfl, h3, by simpa using S⟩ ?_
      clear S
      rintro J hJ k env3 st5 hsame ⟨q, s3, hq, rfl, h7, h3, S⟩
      have r2 : env3 2 = .ptr (some (rid, 0)) := (hsame.get 2 rfl).trans q2
      have r6 : env3 6 = .int .i64 l.length := (hsame.get 6 rfl).trans q6
      clear hsame
      have w8' : IntKind.i64.wrap (56 - 8 * (q : Int) - 8) = 56 - 8 * ((q + 1 : Nat) : Int) := by rw [wrap64 (by omega) (by omega)]; omega
      by_cases hlt8 : q < 8
      · have hge : 8 * (q : Int) ≤ 56 := by omega
        have hsh := bin64_shr (BitVec.ofNat 64 l.length * 8#64) .i64 (56 - 8 * q)
        rw [show ((56 - 8 * q : Nat) : Int) = 56 - 8 * (q : Int) by omega] at hsh
        have hlen : (pre ++ (tailL.take q).map (tailB l.length)).length ≤ 100000200 := by
          rw [List.length_append, hle, List.length_map, List.length_take]
          omega
        simp [r2, r6, h7, h3, hge, hsh, fillV, repV, spliceV, elems]
        refine Sep.app1 (b := 1) e8_len (by omega) S (a := tailB l.length (56 - 8 * q)) ?_ (by omega) ?_
        · rfl
        · intro s4 st6 S
          simp [h7, w8']
          refine Round.mk (8 - (q + 1)) _ (show 8 - (q + 1) < 8 - q by omega) (sub_self _) (hJ _ _ _ ⟨q + 1, s4, by omega, rfl, by simp [w8'], by simp, ?_⟩)
          rw [tail_at ⟨q, hlt8⟩, List.map_append, ← List.append_assoc]
          exact S
      · have : q = 8 := by omega
        subst this
        have hpad : pre ++ (tailL.take 8).map (tailB l.length) = padM l := by
          rw [hpre, padM, ← hZ]
          simp only [List.append_assoc, List.cons_append]
          rfl
        rw [hpad] at S
        have rd := Sep.rd e8_len S
        have hns : ∀ x, s3 ≠ .str x := by
          rintro x rfl
          rcases rd with ⟨k, h⟩ | ⟨_, _, h, _⟩ <;> cases h
        have hts := toStr_rd rd hns
        simp [r2, r6, h7, h3, fillV, spliceV]
        intro vid hvid
        have S := S.new hvid (.cells (cells8 iv))
        simp [storeS, spliceV]
        have hiv : [w32 1779033703#32, w32 3144134277#32, w32 1013904242#32, w32 2773480762#32, w32 1359893119#32, w32 2600822924#32, w32 528734635#32, w32 1541459225#32] = cells8 iv := rfl
        rw [hiv]
        generalize st5.upd vid (.cells (cells8 iv)) = st6 at S ⊢
        have hts := toStr_rd (Sep.rd e8_len S.swap) hns
        have S : Sep [pt vid (.cells (cells8 iv)), pt rid (.cells zR32_w80), Was st] st6 := Sep.tail (fun r hr => hr.drop) S
        simp [h3, hts]
        have hpl : (padM l).length % 64 = 0 := by
          simp [padM]
          omega
        refine vc_loopJ (fun k env' st' => ∃ hc rest, k = rest.length ∧ env' 9 = .str ⟨rest.toArray⟩ ∧ rest.length % 64 = 0 ∧ blocksM (rest.length / 64) hc rest = blocksM ((padM l).length / 64) iv (padM l) ∧ Sep [pt vid (.cells (cells8 hc)), pt rid (.cells zR32_w80), Was st] st') (padM l).length
          ⟨_, _, rfl, rfl, hpl, rfl, S⟩ ?_
        clear S
        rintro J5 hJ5 k env5 st7 hsame ⟨hc, rest, rfl, h9, hr64, hbl, S⟩
        have t2 : env5 2 = .ptr (some (rid, 0)) := (hsame.get 2 rfl).trans r2
        have t8 : env5 8 = .ptr (some (vid, 0)) := hsame.get 8 rfl
        clear hsame
        have hne := str_ne rest
        by_cases hnil : rest = []
        · subst hnil
          have hfin : hc = blocksM ((padM l).length / 64) iv (padM l) := hbl
          have ov := S.get
          have hcc : cells8 hc = [w32 hc.a, w32 hc.b, w32 hc.c, w32 hc.d, w32 hc.e, w32 hc.f, w32 hc.g, w32 hc.h] := rfl
          simp [t2, t8, h9, hne]
          intro oid hoid
          have S := S.new hoid (.cells zR32_w80)
          generalize st7.upd oid (.cells zR32_w80) = st8 at S ⊢
          have ov := S.swap.get
          have sg8 : segOf (cells8 hc) 0 8 = some (cells8 hc) := rfl
          simp [t8, St.seg, ov, sg8]
          rw [zR32_rep] at S
          refine vc_loopJ (fun k env' st' => ∃ i, i ≤ 8 ∧ k = 8 - i ∧ env' 60 = .int .i64 (i : Nat) ∧ Sep [pt oid (.cells (((hc.list.take i).flatMap out4 ++ List.replicate (4 * (8 - i)) (0 : UInt8)).map w8)), pt vid (.cells (cells8 hc)), pt rid (.cells zR32_w80), Was st] st') 8
            ⟨0, by omega, by omega, rfl, S⟩ ?_
          clear S
          rintro J hJ k env6 st9 hsame ⟨i, hi, rfl, h60, S⟩
          have u2 : env6 2 = .ptr (some (rid, 0)) := (hsame.get 2 rfl).trans t2
          have u10 : env6 10 = .ptr (some (oid, 0)) := hsame.get 10 rfl
          have u59 : env6 59 = .agg (cells8 hc) := hsame.get 59 rfl
          clear hsame
          by_cases hlt : i < 8
          · have hlt2 : i < hc.list.length := hlt
            obtain ⟨x, hx⟩ : ∃ x, x = hc.list[i] := ⟨_, rfl⟩
            have hix : idxV 8 false 1 (.agg (cells8 hc)) (.int .i64 (i : Int)) = some (w32 x) := by
              rw [hx]
              have : i = 0 ∨ i = 1 ∨ i = 2 ∨ i = 3 ∨ i = 4 ∨ i = 5 ∨ i = 6 ∨ i = 7 := by omega
              rcases this with rfl | rfl | rfl | rfl | rfl | rfl | rfl | rfl <;> rfl
            obtain ⟨p, hp⟩ : ∃ p, p = (hc.list.take i).flatMap out4 := ⟨_, rfl⟩
            have hpl : p.length = 4 * i := by
              rw [hp]
              have : i = 0 ∨ i = 1 ∨ i = 2 ∨ i = 3 ∨ i = 4 ∨ i = 5 ∨ i = 6 ∨ i = 7 := by omega
              rcases this with rfl | rfl | rfl | rfl | rfl | rfl | rfl | rfl <;> rfl
            have hpn : (hc.list.take (i + 1)).flatMap out4 = p ++ out4 x := by
              rw [List.take_succ_eq_append_getElem hlt2, List.flatMap_append, ← hp, ← hx]
              simp
            obtain ⟨ys, hys⟩ : ∃ ys, ys = p ++ List.replicate (4 * (8 - i)) (0 : UInt8) := ⟨_, rfl⟩
            have hyl : ys.length = 32 := by rw [hys]; simp; omega
            rw [← hp, ← hys] at S
            have hset := set4 p (0 : UInt8) (UInt8.ofBitVec ((x >>> 24).setWidth 8)) (UInt8.ofBitVec ((x >>> 16).setWidth 8)) (UInt8.ofBitVec ((x >>> 8).setWidth 8)) (UInt8.ofBitVec (x.setWidth 8)) (4 * (8 - (i + 1)))
            rw [show 4 * (8 - (i + 1)) + 4 = 4 * (8 - i) by omega, ← hys, hpl] at hset
            have w1 : IntKind.i64.wrap ((i : Int) + 1) = (i : Int) + 1 := wrap64 (by omega) (by omega)
            have b0 : IntKind.i64.wrap (4 * (i : Int)) = 4 * (i : Int) := wrap64 (by omega) (by omega)
            have b1 : IntKind.i64.wrap (4 * (i : Int) + 1) = 4 * (i : Int) + 1 := wrap64 (by omega) (by omega)
            have b2 : IntKind.i64.wrap (4 * (i : Int) + 2) = 4 * (i : Int) + 2 := wrap64 (by omega) (by omega)
            have b3 : IntKind.i64.wrap (4 * (i : Int) + 3) = 4 * (i : Int) + 3 := wrap64 (by omega) (by omega)
            have a0 := idxArr_ptr 32 oid (z := 4 * (i : Int)) (j := 4 * i) (by omega) (by omega)
            have a1 := idxArr_ptr 32 oid (z := 4 * (i : Int) + 1) (j := 4 * i + 1) (by omega) (by omega)
            have a2 := idxArr_ptr 32 oid (z := 4 * (i : Int) + 2) (j := 4 * i + 2) (by omega) (by omega)
            have a3 := idxArr_ptr 32 oid (z := 4 * (i : Int) + 3) (j := 4 * i + 3) (by omega) (by omega)
            have hlt' : (i : Int) < 8 := by omega
            obtain ⟨c0, hc0⟩ : ∃ c, c = UInt8.ofBitVec ((x >>> 24).setWidth 8) := ⟨_, rfl⟩
            obtain ⟨c1, hc1⟩ : ∃ c, c = UInt8.ofBitVec ((x >>> 16).setWidth 8) := ⟨_, rfl⟩
            obtain ⟨c2, hc2⟩ : ∃ c, c = UInt8.ofBitVec ((x >>> 8).setWidth 8) := ⟨_, rfl⟩
            obtain ⟨c3, hc3⟩ : ∃ c, c = UInt8.ofBitVec (x.setWidth 8) := ⟨_, rfl⟩
            have ho : out4 x = [c0, c1, c2, c3] := by rw [hc0, hc1, hc2, hc3]; rfl
            rw [← hc0, ← hc1, ← hc2, ← hc3] at hset
            simp [u2, u10, u59, h60, hlt', hix, b0, b1, b2, b3, a0, a1, a2, a3, ← hc0, ← hc1, ← hc2, ← hc3]
            have k0 := arr_store (f := w8) S.get (i := 4 * i) (by omega) (x := c0) (v := w8 c0) rfl
            have S := S.set (.cells ((ys.set (4 * i) c0).map w8))
            rw [k0]
            have k1 := arr_store (f := w8) S.get (i := 4 * i + 1) (by simp; omega) (x := c1) (v := w8 c1) rfl
            have S := S.set (.cells (((ys.set (4 * i) c0).set (4 * i + 1) c1).map w8))
            generalize st9.upd oid (.cells ((ys.set (4 * i) c0).map w8)) = st10 at k1 S ⊢
            simp [-List.map_set, u10, a1, k1]
            have k2 := arr_store (f := w8) S.get (i := 4 * i + 2) (by simp; omega) (x := c2) (v := w8 c2) rfl
            have S := S.set (.cells ((((ys.set (4 * i) c0).set (4 * i + 1) c1).set (4 * i + 2) c2).map w8))
            generalize st10.upd oid (.cells (((ys.set (4 * i) c0).set (4 * i + 1) c1).map w8)) = st11 at k2 S ⊢
            simp [-List.map_set, u10, a2, k2]
            have k3 := arr_store (f := w8) S.get (i := 4 * i + 3) (by simp; omega) (x := c3) (v := w8 c3) rfl
            have S := S.set (.cells (((((ys.set (4 * i) c0).set (4 * i + 1) c1).set (4 * i + 2) c2).set (4 * i + 3) c3).map w8))
            generalize st11.upd oid (.cells ((((ys.set (4 * i) c0).set (4 * i + 1) c1).set (4 * i + 2) c2).map w8)) = st12 at k3 S ⊢
            simp [-List.map_set, u10, a3, k3, h60, w1]
            refine Round.mk (8 - (i + 1)) _ (show 8 - (i + 1) < 8 - i by omega) (sub_self _) (hJ _ _ _ ⟨i + 1, by omega, rfl, by simp, ?_⟩)
            rw [hpn, ho, ← hset]
            exact S
          · have : i = 8 := by omega
            subst this
            have oo := S.get
            have e : ((hc.list.take 8).flatMap out4 ++ List.replicate (4 * (8 - 8)) (0 : UInt8)).map w8 = eId (sha l) := by
              have : eId (sha l) = (outV (blocksM ((padM l).length / 64) iv (padM l))).map w8 := rfl
              rw [this, ← hfin]
              rfl
            rw [e] at oo
            have orr := S.mem (i := rid) (o := .cells zR32_w80) (by simp)
            have hst : storeS st9 32 (.ptr (some (rid, 0))) (.agg (eId (sha l))) = some (st9.upd rid (.cells (eId (sha l)))) := by
              rw [store_pt (st := st9) (id := rid) (o := 0) (sz := 32) (v := .agg (eId (sha l))) (vs := eId (sha l)) orr rfl (eId_len _) (by rw [zR32_w80_len]; omega)]
              rfl
            have sgi : segOf (eId (sha l)) 0 32 = some (eId (sha l)) := rfl
            simp [u2, u10, h60, St.seg, oo, sgi, hst]
            have T := S.setAt (.cells (eId (sha l))) 2 rfl
            exact T.was' (by simp)
        · have h64 : 64 ≤ rest.length := by
            have : 0 < rest.length := List.length_pos_iff.2 hnil
            omega
          have ov := S.get
          have hcc : cells8 hc = [w32 hc.a, w32 hc.b, w32 hc.c, w32 hc.d, w32 hc.e, w32 hc.f, w32 hc.g, w32 hc.h] := rfl
          have sg8 : segOf (cells8 hc) 0 8 = some (cells8 hc) := rfl
          have hsz : ByteArray.size ⟨rest.toArray⟩ = rest.length := rfl
          have n64 : natOf (.int .i64 64) = some 64 := rfl
          simp [t2, t8, h9, hne, hnil, slStrV, bounds, hsz, h64, St.seg, ov, sg8, ext_mk, opV, n64]
          refine (Sep.call (S.put (A := fun _ => True) trivial) (fun h _ => spec101 ok h hc ⟨(rest.take 64).toArray⟩ (by rw [show strB ⟨(rest.take 64).toArray⟩ = rest.take 64 from rfl]; simp; omega))).mono ?_
          rintro v st8 S8
          obtain ⟨_, _, rfl⟩ := S8.part
          have S := S8.drop
          rw [show strB ⟨(rest.take 64).toArray⟩ = rest.take 64 from rfl] at *
          have ov := S.get
          have hst : storeS st8 8 (.ptr (some (vid, 0))) (.agg (cells8 (blockM hc (rest.take 64)))) = some (st8.upd vid (.cells (cells8 (blockM hc (rest.take 64))))) := by
            rw [store_pt (st := st8) (id := vid) (o := 0) (sz := 8) (v := .agg (cells8 (blockM hc (rest.take 64)))) (vs := cells8 (blockM hc (rest.take 64))) ov rfl rfl (by rw [cells8_len]; omega)]
            rfl
          have htk : (rest.drop 64).take (rest.length - 64) = rest.drop 64 := List.take_of_length_le (by simp)
          simp [t8, h9, hst, slStrV, bounds, hsz, h64, ext_mk, opV, n64, htk]
          refine Round.mk (rest.drop 64).length _ (by simp; omega) (sub_self _) (hJ5 _ _ _ ⟨blockM hc (rest.take 64), rest.drop 64, rfl, by simp, by simp; omega, ?_, S.set _⟩)
          rw [← hbl, show rest.length / 64 = (rest.drop 64).length / 64 + 1 by simp; omega]
          rfl
    · have h56' : ((m : Int).tmod 64 != 56) = true := by
        rw [htm]
        simp; omega
      simp [h3, hln, h56', fillV, repV, spliceV, elems]
      refine Sep.app1 e8_len (by omega) S (a := 0) rfl (by rw [hle]; omega) ?_
      intro s3 st5 S
      simp
      refine Round.mk (Z - (z + 1)) _ (show Z - (z + 1) < Z - z by omega) (sub_self _) (hJ _ _ _ ⟨z + 1, s3, by omega, rfl, by simp, ?_⟩)
      rw [List.replicate_succ']
      simpa using S
end
end Go.Ab
/-
  hash.Twice.
-/
set_option linter.unusedSimpArgs false
set_option linter.unusedVariables false
set_option maxRecDepth 10000
namespace Go.Ab
open Go Go.RowKit
section
variable {P : Program} {F : Fn}

theorem rows_e8 : ∀ l : List UInt8, rowsOf e8 l = l.map w8
  | [] => rfl
  | b :: l => by rw [rowsOf_cons, rows_e8 l]; rfl
theorem eId_rows (x : Id) : eId x = rowsOf e8 x.toList := by rw [rows_e8]; rfl
theorem sha_list (l : List UInt8) : (sha l).toList = shaL l := rfl
theorem store_z32 {st : St} {i : Nat} (h : st i = some (.cells zR32_w80)) (x : Id) : storeS st 32 (.ptr (some (i, 0))) (.agg (eId x)) = some (st.upd i (.cells (eId x))) := by
  rw [store_pt h (vs := eId x) rfl (eId_len x) (by rw [zR32_w80_len]; omega)]
  congr 3
  simp [spliceV, eId_len]
theorem segId0 (x : Id) : segOf (eId x) 0 32 = some (eId x) := by
  rw [segOf, if_pos (by rw [eId_len]; omega), List.drop_zero, List.take_of_length_le (by rw [eId_len]; omega)]
/-- hash.Twice -/
theorem spec104 (ok : OkHash P F) (st : St) {ss : List V} {ls : List (List UInt8)} (hp : Parts st ss ls) (k0 : SK) (hl : ls.flatten.length ≤ 100000000) (hls : ls.length ≤ 1000000) : ACalls P (F 104) [.sl k0 ss ss.length] st fun v st' => v = .agg (eId (sha2 ls.flatten)) ∧ st' = st := by
  refine shows_call ok.mixed ok.h104 (by simp [k104]) ?_
  simp only [k104]
  simp
  intro rid hrid
  have S := (Sep.start st).new hrid (.cells zR32_w80)
  generalize st.upd rid _ = st1 at S ⊢
  have hp1 : Parts st1 ss ls := hp.sub (S.was' (by simp))
  simp
  refine (spec103 ok st1 hp1 k0 hl hls).mono ?_
  rintro v st1 ⟨rfl, rfl⟩
  simp
  intro iid hiid
  have S := S.new hiid (.cells zR32_w80)
  obtain ⟨x, hx⟩ : ∃ x, x = sha ls.flatten := ⟨_, rfl⟩
  rw [← hx]
  have S1 := S.set (.cells (eId x))
  have hst := store_z32 S.get x
  generalize st1.upd iid (.cells zR32_w80) = st2 at S S1 hst ⊢
  simp [hst]
  generalize st2.upd iid (.cells (eId x)) = st3 at S1 ⊢
  have o := S1.get
  have S2 := S1.set (.ro (eId x))
  simp [frzP, frzV, frzOb, o]
  generalize st3.upd iid (.ro (eId x)) = st4 at S2 ⊢
  have hseg := segId0 x
  simp [slArrV, bounds, hseg, fillV, spliceV, repV, eId_len, opV]
  have htk : List.take 32 (eId x) = rowsOf e8 x.toList := by
    rw [← eId_rows, List.take_of_length_le (by rw [eId_len]; omega)]
  have hp2 : Parts st4 [.sl .full (List.take 32 (eId x)) 32] [x.toList] := by
    refine .cons (.inl ⟨.full, ?_⟩) .nil
    rw [htk]
    simp
  have hc := spec103 ok st4 hp2 .full (by simp) (by simp)
  refine hc.mono ?_
  rintro v st4 ⟨rfl, rfl⟩
  have hr : st4 rid = some (.cells zR32_w80) := S2.mem (by simp)
  have hst := store_z32 hr (sha x.toList)
  have T := S2.setAt (.cells (eId (sha x.toList))) 1 rfl
  have hsg := segId0 (sha x.toList)
  simp [hst, St.seg, hsg]
  refine ⟨T.was' (by simp), ?_⟩
  rw [hx, sha2, sha_list]
end
end Go.Ab
/-
  The code of functions of the program in the small language.
-/
set_option linter.unusedVariables false
namespace Go.Ab
open Go
-- regions [0, 1, 2, 3, 4, 5, 6, 7, 8, 9, 10]
/- tallystick/bits.Target -/
def k135 (F : Fn) : PF := PF.mk 47 1 [(PR.cell 2 true 4), (.t 3)] (.seq (.ops [(PO.mk (some 2) (.alloc [(w64 0), (w64 0), (w64 0), (w64 0)]) none), (PO.mk (some 3) (.mv (.k (.bool false))) none)]) (.seq (.ops [(PO.mk (some 7) (.mv (.t 0)) none), (PO.mk (some 8) (.bin .shr (.t 7) (.k (w64 24))) none), (PO.mk (some 9) (.conv .i64 (.t 8)) none), (PO.mk (some 10) (.mv (.t 0)) none), (PO.mk (some 11) (.bin .and (.t 10) (.k (w32 8388607))) none), (PO.mk (some 12) (.conv .u64 (.t 11)) none), (PO.mk (some 4) (.mv (.t 9)) none), (PO.mk (some 5) (.mv (.t 12)) none)]) (.seq (.seq (.ops [(PO.mk (some 13) (.mv (.t 5)) none), (PO.mk (some 14) (.bin .eql (.t 13) (.k (w64 0))) none), (PO.mk (some 15) (.mv (.t 14)) none), (PO.mk (some 16) (.mv (.t 0)) (some (15, false))), (PO.mk (some 17) (.bin .and (.t 16) (.k (w32 8388608))) (some (15, false))), (PO.mk (some 18) (.bin .neq (.t 17) (.k (w32 0))) (some (15, false))), (PO.mk (some 19) (.pick (.t 15) (.k (.bool true)) (.t 18)) none)]) (.cond (.t 19) (.seq (.ops [(PO.mk (some 20) (.build [(w64 0), (w64 0), (w64 0), (w64 0)] []) none), (PO.mk none (.store 4 (.t 2) (.t 20)) none), (PO.mk (some 3) (.mv (.k (.bool false))) none)]) .ret) .skip)) (.seq (.ops [(PO.mk (some 21) (.mv (.t 5)) none), (PO.mk (some 22) (.call (F 105) [(.t 21)]) none), (PO.mk (some 6) (.alloc [(w64 0), (w64 0), (w64 0), (w64 0)]) none), (PO.mk none (.store 4 (.t 6) (.t 22)) none)]) (.seq (.seq (.ops [(PO.mk (some 23) (.mv (.t 4)) none), (PO.mk (some 24) (.bin .leq (.t 23) (.k (.int .i64 3))) none)]) (.cond (.t 24) (.seq (.ops [(PO.mk (some 25) (.load true 4 (.t 6)) none), (PO.mk (some 26) (.mv (.t 4)) none), (PO.mk (some 27) (.bin .sub (.k (.int .i64 3)) (.t 26)) none), (PO.mk (some 28) (.bin .mul (.k (.int .i64 8)) (.t 27)) none), (PO.mk (some 29) (.call (F 113) [(.t 25), (.t 28)]) none), (PO.mk none (.store 4 (.t 6) (.t 29)) none)]) (.seq (.draw [(.s, (PO.mk (some 30) (.load true 4 (.t 6)) none)), (.s, (PO.mk (some 31) (.load true 4 (.t 6)) none)), (.s, (PO.mk (some 32) (.call (F 107) [(.t 31)]) none)), (.e, (PO.mk (some 33) (.not (.t 32)) none)), (.x, (PO.mk none (.store 4 (.t 2) (.t 30)) none)), (.e, (PO.mk (some 3) (.mv (.t 33)) none))]) .ret)) .skip)) (.seq (.seq (.ops [(PO.mk (some 34) (.load true 4 (.t 6)) none), (PO.mk (some 35) (.call (F 114) [(.t 34)]) none), (PO.mk (some 36) (.mv (.t 4)) none), (PO.mk (some 37) (.bin .sub (.t 36) (.k (.int .i64 3))) none), (PO.mk (some 38) (.bin .mul (.k (.int .i64 8)) (.t 37)) none), (PO.mk (some 39) (.bin .add (.t 35) (.t 38)) none), (PO.mk (some 40) (.bin .gtr (.t 39) (.k (.int .i64 256))) none)]) (.cond (.t 40) (.seq (.ops [(PO.mk (some 41) (.build [(w64 0), (w64 0), (w64 0), (w64 0)] []) none), (PO.mk none (.store 4 (.t 2) (.t 41)) none), (PO.mk (some 3) (.mv (.k (.bool false))) none)]) .ret) .skip)) (.seq (.ops [(PO.mk (some 42) (.load true 4 (.t 6)) none), (PO.mk (some 43) (.mv (.t 4)) none), (PO.mk (some 44) (.bin .sub (.t 43) (.k (.int .i64 3))) none), (PO.mk (some 45) (.bin .mul (.k (.int .i64 8)) (.t 44)) none), (PO.mk (some 46) (.call (F 112) [(.t 42), (.t 45)]) none), (PO.mk none (.store 4 (.t 2) (.t 46)) none), (PO.mk (some 3) (.mv (.k (.bool true))) none)]) .ret)))))))
-- regions [0, 1, 2, 3, 4, 5, 6, 7, 8, 9]
/- tallystick/bits.Short -/
def k136 (F : Fn) : PF := PF.mk 37 1 [(.t 2)] (.seq (.ops [(PO.mk (some 1) (.box (.t 0)) none), (PO.mk (some 2) (.mv (.k (w32 0))) none)]) (.seq (.ops [(PO.mk (some 5) (.load true 4 (.t 1)) none), (PO.mk (some 6) (.call (F 114) [(.t 5)]) none), (PO.mk (some 7) (.bin .add (.t 6) (.k (.int .i64 7))) none), (PO.mk (some 8) (.bin .quo (.t 7) (.k (.int .i64 8))) none), (PO.mk (some 3) (.mv (.t 8)) none)]) (.seq (.ops [(PO.mk (some 4) (.mv (.k (w64 0))) none)]) (.seq (.seq (.ops [(PO.mk (some 9) (.mv (.t 3)) none), (PO.mk (some 10) (.bin .leq (.t 9) (.k (.int .i64 3))) none)]) (.cond (.t 10) (.ops [(PO.mk (some 11) (.idxArr 4 1 (.t 1) (.k (.int .i64 0))) none), (PO.mk (some 12) (.load false 1 (.t 11)) none), (PO.mk (some 13) (.mv (.t 3)) none), (PO.mk (some 14) (.bin .sub (.k (.int .i64 3)) (.t 13)) none), (PO.mk (some 15) (.bin .mul (.k (.int .i64 8)) (.t 14)) none), (PO.mk (some 16) (.conv .u64 (.t 15)) none), (PO.mk (some 17) (.bin .shl (.t 12) (.t 16)) none), (PO.mk (some 4) (.mv (.t 17)) none)]) (.ops [(PO.mk (some 18) (.load true 4 (.t 1)) none), (PO.mk (some 19) (.mv (.t 3)) none), (PO.mk (some 20) (.bin .sub (.t 19) (.k (.int .i64 3))) none), (PO.mk (some 21) (.bin .mul (.k (.int .i64 8)) (.t 20)) none), (PO.mk (some 22) (.call (F 113) [(.t 18), (.t 21)]) none), (PO.mk (some 23) (.idx 4 false 1 (.t 22) (.k (.int .i64 0))) none), (PO.mk (some 4) (.mv (.t 23)) none)]))) (.seq (.seq (.ops [(PO.mk (some 24) (.mv (.t 4)) none), (PO.mk (some 25) (.bin .and (.t 24) (.k (w64 8388608))) none), (PO.mk (some 26) (.bin .neq (.t 25) (.k (w64 0))) none)]) (.cond (.t 26) (.seq (.ops [(PO.mk (some 27) (.mv (.t 4)) none), (PO.mk (some 28) (.bin .shr (.t 27) (.k (w64 8))) none), (PO.mk (some 4) (.mv (.t 28)) none)]) (.ops [(PO.mk (some 29) (.mv (.t 3)) none), (PO.mk (some 30) (.bin .add (.t 29) (.k (.int .i64 1))) none), (PO.mk (some 3) (.mv (.t 30)) none)])) .skip)) (.seq (.ops [(PO.mk (some 31) (.mv (.t 3)) none), (PO.mk (some 32) (.conv .u32 (.t 31)) none), (PO.mk (some 33) (.bin .shl (.t 32) (.k (w64 24))) none), (PO.mk (some 34) (.mv (.t 4)) none), (PO.mk (some 35) (.conv .u32 (.t 34)) none), (PO.mk (some 36) (.bin .or (.t 33) (.t 35)) none), (PO.mk (some 2) (.mv (.t 36)) none)]) .ret))))))
-- regions [0, 1, 2, 3, 4, 5, 6]
/- tallystick/bits.Work -/
def k137 (F : Fn) : PF := PF.mk 33 1 [(PR.cell 2 true 4)] (.seq (.ops [(PO.mk (some 1) (.box (.t 0)) none), (PO.mk (some 2) (.alloc [(w64 0), (w64 0), (w64 0), (w64 0)]) none)]) (.seq (.draw [(.s, (PO.mk (some 9) (.load true 4 (.t 1)) none)), (.s, (PO.mk (some 10) (.call (F 105) [(.k (w64 1))]) none)), (.e, (PO.mk (some 11) (.bsl false 4 2 [(w64 0), (w64 0), (w64 0), (w64 0)] [(0, (4, (.t 9))), (4, (4, (.t 10)))]) none)), (.s, (PO.mk (some 12) (.call (F 108) [(.t 11)]) none)), (.e, (PO.mk (some 8) (.mv (.t 12)) none)), (.e, (PO.mk (some 13) (.ext 0 (.t 8)) none)), (.e, (PO.mk (some 14) (.ext 1 (.t 8)) none)), (.a, (PO.mk (some 3) (.alloc [(w64 0), (w64 0), (w64 0), (w64 0)]) none)), (.x, (PO.mk none (.store 4 (.t 3) (.t 13)) none)), (.e, (PO.mk (some 4) (.mv (.t 14)) none))]) (.seq (.seq (.ops [(PO.mk (some 15) (.mv (.t 4)) none)]) (.cond (.t 15) (.seq (.ops [(PO.mk (some 16) (.call (F 105) [(.k (w64 1))]) none), (PO.mk none (.store 4 (.t 2) (.t 16)) none)]) .ret) .skip)) (.seq (.draw [(.s, (PO.mk (some 18) (.load true 4 (.t 1)) none)), (.s, (PO.mk (some 19) (.call (F 111) [(.t 18)]) none)), (.s, (PO.mk (some 20) (.load true 4 (.t 3)) none)), (.s, (PO.mk (some 21) (.call (F 116) [(.t 19), (.t 20)]) none)), (.e, (PO.mk (some 17) (.mv (.t 21)) none)), (.e, (PO.mk (some 22) (.ext 0 (.t 17)) none)), (.e, (PO.mk (some 23) (.ext 1 (.t 17)) none)), (.e, (PO.mk (some 24) (.ext 2 (.t 17)) none)), (.a, (PO.mk (some 5) (.alloc [(w64 0), (w64 0), (w64 0), (w64 0)]) none)), (.a, (PO.mk (some 6) (.alloc [(w64 0), (w64 0), (w64 0), (w64 0)]) none)), (.x, (PO.mk none (.store 4 (.t 5) (.t 22)) none)), (.x, (PO.mk none (.store 4 (.t 6) (.t 23)) none)), (.e, (PO.mk (some 7) (.mv (.t 24)) none))]) (.seq (.draw [(.s, (PO.mk (some 26) (.load true 4 (.t 5)) none)), (.s, (PO.mk (some 27) (.call (F 105) [(.k (w64 1))]) none)), (.e, (PO.mk (some 28) (.bsl false 4 2 [(w64 0), (w64 0), (w64 0), (w64 0)] [(0, (4, (.t 26))), (4, (4, (.t 27)))]) none)), (.s, (PO.mk (some 29) (.call (F 108) [(.t 28)]) none)), (.e, (PO.mk (some 25) (.mv (.t 29)) none)), (.e, (PO.mk (some 30) (.ext 0 (.t 25)) none)), (.e, (PO.mk (some 31) (.ext 1 (.t 25)) none)), (.x, (PO.mk none (.store 4 (.t 5) (.t 30)) none))]) (.seq (.ops [(PO.mk (some 32) (.load true 4 (.t 5)) none), (PO.mk none (.store 4 (.t 2) (.t 32)) none)]) .ret))))))
-- regions [0, 1, 2, 3, 4, 5, 6, 7, 8, 9, 10, 11, 12, 13, 14, 15]
/- tallystick/bits.Next -/
def k138 (F : Fn) : PF := PF.mk 80 4 [(.t 8), (.t 9)] (.seq (.ops [(PO.mk (some 7) (.box (.t 3)) none), (PO.mk (some 8) (.mv (.k (w32 0))) none), (PO.mk (some 9) (.mv (.k (.bool false))) none)]) (.seq (.ops [(PO.mk (some 15) (.mv (.t 0)) none), (PO.mk (some 16) (.call (F 135) [(.t 15)]) none), (PO.mk (some 14) (.mv (.t 16)) none), (PO.mk (some 17) (.ext 0 (.t 14)) none), (PO.mk (some 18) (.ext 1 (.t 14)) none), (PO.mk (some 10) (.alloc [(w64 0), (w64 0), (w64 0), (w64 0)]) none), (PO.mk none (.store 4 (.t 10) (.t 17)) none), (PO.mk (some 11) (.mv (.t 18)) none)]) (.seq (.seq (.ops [(PO.mk (some 19) (.mv (.t 11)) none), (PO.mk (some 20) (.not (.t 19)) none), (PO.mk (some 21) (.mv (.t 20)) none), (PO.mk (some 22) (.mv (.t 2)) (some (21, false))), (PO.mk (some 23) (.bin .lss (.t 22) (.k (.int .i64 1))) (some (21, false))), (PO.mk (some 24) (.pick (.t 21) (.k (.bool true)) (.t 23)) none), (PO.mk (some 25) (.mv (.t 24)) none), (PO.mk (some 26) (.mv (.t 2)) (some (25, false))), (PO.mk (some 27) (.bin .gtr (.t 26) (.k (.int .i64 1099511627776))) (some (25, false))), (PO.mk (some 28) (.pick (.t 25) (.k (.bool true)) (.t 27)) none)]) (.cond (.t 28) (.seq (.ops [(PO.mk (some 8) (.mv (.k (w32 0))) none), (PO.mk (some 9) (.mv (.k (.bool false))) none)]) .ret) .skip)) (.seq (.ops [(PO.mk (some 29) (.mv (.t 2)) none), (PO.mk (some 30) (.bin .quo (.t 29) (.k (.int .i64 4))) none), (PO.mk (some 31) (.mv (.t 1)) none), (PO.mk (some 32) (.mv (.t 2)) none), (PO.mk (some 33) (.bin .mul (.k (.int .i64 4)) (.t 32)) none), (PO.mk (some 34) (.min [(.t 31), (.t 33)]) none), (PO.mk (some 35) (.max [(.t 30), (.t 34)]) none), (PO.mk (some 1) (.mv (.t 35)) none)]) (.seq (.ops [(PO.mk (some 37) (.load true 4 (.t 10)) none), (PO.mk (some 38) (.mv (.t 1)) none), (PO.mk (some 39) (.conv .u64 (.t 38)) none), (PO.mk (some 40) (.call (F 110) [(.t 37), (.t 39)]) none), (PO.mk (some 36) (.mv (.t 40)) none), (PO.mk (some 41) (.ext 0 (.t 36)) none), (PO.mk (some 42) (.ext 1 (.t 36)) none), (PO.mk (some 12) (.alloc [(w64 0), (w64 0), (w64 0), (w64 0)]) none), (PO.mk none (.store 4 (.t 12) (.t 41)) none), (PO.mk (some 13) (.mv (.t 42)) none)]) (.seq (.seq (.ops [(PO.mk (some 43) (.mv (.t 13)) none)]) (.cond (.t 43) (.seq (.draw [(.e, (PO.mk (some 46) (.mv (.t 2)) none)), (.e, (PO.mk (some 47) (.conv .u64 (.t 46)) none)), (.s, (PO.mk (some 45) (.load true 4 (.t 10)) none)), (.s, (PO.mk (some 48) (.call (F 105) [(.t 47)]) none)), (.s, (PO.mk (some 49) (.call (F 116) [(.t 45), (.t 48)]) none)), (.e, (PO.mk (some 44) (.mv (.t 49)) none)), (.e, (PO.mk (some 50) (.ext 0 (.t 44)) none)), (.e, (PO.mk (some 51) (.ext 1 (.t 44)) none)), (.e, (PO.mk (some 52) (.ext 2 (.t 44)) none)), (.x, (PO.mk none (.store 4 (.t 12) (.t 50)) none))]) (.seq (.seq (.ops [(PO.mk (some 54) (.load true 4 (.t 12)) none), (PO.mk (some 55) (.mv (.t 1)) none), (PO.mk (some 56) (.conv .u64 (.t 55)) none), (PO.mk (some 57) (.call (F 110) [(.t 54), (.t 56)]) none), (PO.mk (some 53) (.mv (.t 57)) none), (PO.mk (some 58) (.ext 0 (.t 53)) none), (PO.mk (some 59) (.ext 1 (.t 53)) none), (PO.mk none (.store 4 (.t 12) (.t 58)) none), (PO.mk (some 13) (.mv (.t 59)) none)]) (.seq (.ops [(PO.mk (some 60) (.mv (.t 13)) none)]) (.cond (.t 60) (.seq (.ops [(PO.mk (some 61) (.load true 4 (.t 7)) none), (PO.mk (some 62) (.call (F 136) [(.t 61)]) none), (PO.mk (some 8) (.mv (.t 62)) none), (PO.mk (some 9) (.mv (.k (.bool true))) none)]) .ret) .skip))) (.ops [(PO.mk (some 63) (.load true 4 (.t 12)) none), (PO.mk none (.store 4 (.t 10) (.t 63)) none)]))) (.draw [(.e, (PO.mk (some 66) (.mv (.t 2)) none)), (.e, (PO.mk (some 67) (.conv .u64 (.t 66)) none)), (.s, (PO.mk (some 65) (.load true 4 (.t 12)) none)), (.s, (PO.mk (some 68) (.call (F 105) [(.t 67)]) none)), (.s, (PO.mk (some 69) (.call (F 116) [(.t 65), (.t 68)]) none)), (.e, (PO.mk (some 64) (.mv (.t 69)) none)), (.e, (PO.mk (some 70) (.ext 0 (.t 64)) none)), (.e, (PO.mk (some 71) (.ext 1 (.t 64)) none)), (.e, (PO.mk (some 72) (.ext 2 (.t 64)) none)), (.x, (PO.mk none (.store 4 (.t 10) (.t 70)) none))]))) (.seq (.seq (.ops [(PO.mk (some 73) (.load true 4 (.t 10)) none), (PO.mk (some 74) (.load true 4 (.t 7)) none), (PO.mk (some 75) (.call (F 106) [(.t 73), (.t 74)]) none), (PO.mk (some 76) (.bin .gtr (.t 75) (.k (.int .i64 0))) none)]) (.cond (.t 76) (.ops [(PO.mk (some 77) (.load true 4 (.t 7)) none), (PO.mk none (.store 4 (.t 10) (.t 77)) none)]) .skip)) (.seq (.ops [(PO.mk (some 78) (.load true 4 (.t 10)) none), (PO.mk (some 79) (.call (F 136) [(.t 78)]) none), (PO.mk (some 8) (.mv (.t 79)) none), (PO.mk (some 9) (.mv (.k (.bool true))) none)]) .ret))))))))
-- regions [0, 1]
/- tallystick/head.put4 -/
def k139 (F : Fn) : PF := PF.mk 19 2 [(.t 4)] (.seq (.ops [(PO.mk (some 4) (.mv (.k (.sl .nil [] 0))) none)]) (.seq (.ops [(PO.mk (some 5) (.mv (.t 0)) none), (PO.mk (some 6) (.mv (.t 1)) none), (PO.mk (some 7) (.conv .u8 (.t 6)) none), (PO.mk (some 8) (.mv (.t 1)) none), (PO.mk (some 9) (.bin .shr (.t 8) (.k (w64 8))) none), (PO.mk (some 10) (.conv .u8 (.t 9)) none), (PO.mk (some 11) (.mv (.t 1)) none), (PO.mk (some 12) (.bin .shr (.t 11) (.k (w64 16))) none), (PO.mk (some 13) (.conv .u8 (.t 12)) none), (PO.mk (some 14) (.mv (.t 1)) none), (PO.mk (some 15) (.bin .shr (.t 14) (.k (w64 24))) none), (PO.mk (some 16) (.conv .u8 (.t 15)) none), (PO.mk (some 17) (.bsl false 1 4 [(w8 0)] [(0, (1, (.t 7))), (1, (1, (.t 10))), (2, (1, (.t 13))), (3, (1, (.t 16)))]) none), (PO.mk (some 18) (.app 1 1 (.t 5) (.t 17)) none), (PO.mk (some 4) (.mv (.t 18)) none)]) .ret))
-- regions [0, 1, 2, 3]
/- tallystick/head.Bytes -/
def k140 (F : Fn) : PF := PF.mk 25 1 [(.t 2)] (.seq (.ops [(PO.mk (some 1) (.box (.t 0)) none), (PO.mk (some 2) (.mv (.k (.sl .nil [] 0))) none)]) (.seq (.draw2 [] [(.e, (PO.mk (some 5) (.fldA 0 (.t 1)) none)), (.s, (PO.mk (some 6) (.load false 1 (.t 5)) none)), (.x, (PO.mk (some 4) (.mksl true 1 1 [(w8 0)] (.k (.int .i64 0)) (.k (.int .i64 80))) none)), (.x, (PO.mk (some 7) (.call (F 139) [(.t 4), (.t 6)]) none)), (.e, (PO.mk (some 3) (.mv (.t 7)) none))]) (.seq (.seq (.frz [1]) (.draw2 [] [(.e, (PO.mk (some 8) (.mv (.t 3)) none)), (.e, (PO.mk (some 9) (.fldA 1 (.t 1)) none)), (.e, (PO.mk (some 12) (.fldA 33 (.t 1)) none)), (.s, (PO.mk (some 10) (.slArr false 32 1 (.t 9) none none) none)), (.s, (PO.mk (some 13) (.slArr false 32 1 (.t 12) none none) none)), (.x, (PO.mk (some 11) (.app 1 1 (.t 8) (.t 10)) none)), (.x, (PO.mk (some 14) (.app 1 1 (.t 11) (.t 13)) none)), (.e, (PO.mk (some 3) (.mv (.t 14)) none))])) (.seq (.draw [(.e, (PO.mk (some 15) (.mv (.t 3)) none)), (.e, (PO.mk (some 16) (.fldA 65 (.t 1)) none)), (.e, (PO.mk (some 17) (.loadE false 1 (.t 16)) none)), (.e, (PO.mk (some 19) (.fldA 66 (.t 1)) none)), (.e, (PO.mk (some 20) (.loadE false 1 (.t 19)) none)), (.e, (PO.mk (some 22) (.fldA 67 (.t 1)) none)), (.e, (PO.mk (some 23) (.loadE false 1 (.t 22)) none)), (.x, (PO.mk (some 18) (.call (F 139) [(.t 15), (.t 17)]) none)), (.x, (PO.mk (some 21) (.call (F 139) [(.t 18), (.t 20)]) none)), (.x, (PO.mk (some 24) (.call (F 139) [(.t 21), (.t 23)]) none)), (.e, (PO.mk (some 2) (.mv (.t 24)) none))]) .ret))))
-- regions [0, 1]
/- tallystick/head.ID -/
def k141 (F : Fn) : PF := PF.mk 7 1 [(PR.cell 2 true 32)] (.seq (.ops [(PO.mk (some 1) (.box (.t 0)) none), (PO.mk (some 2) (.alloc zR32_w80) none)]) (.seq (.ops [(PO.mk (some 3) (.load true 68 (.t 1)) none), (PO.mk (some 4) (.call (F 140) [(.t 3)]) none), (PO.mk (some 5) (.bsl false 1 1 [(.sl .nil [] 0)] [(0, (1, (.t 4)))]) none), (PO.mk (some 6) (.call (F 104) [(.t 5)]) none), (PO.mk none (.store 32 (.t 2) (.t 6)) none)]) .ret))
-- regions [0, 1, 2, 3, 4, 5, 6, 7]
/- tallystick/head.Proved -/
def k142 (F : Fn) : PF := PF.mk 40 2 [(.t 4)] (.seq (.ops [(PO.mk (some 2) (.box (.t 0)) none), (PO.mk (some 4) (.mv (.k (.int .i64 0))) none)]) (.seq (.ops [(PO.mk (some 10) (.fldA 66 (.t 2)) none), (PO.mk (some 11) (.load false 1 (.t 10)) none), (PO.mk (some 12) (.call (F 135) [(.t 11)]) none), (PO.mk (some 9) (.mv (.t 12)) none), (PO.mk (some 13) (.ext 0 (.t 9)) none), (PO.mk (some 14) (.ext 1 (.t 9)) none), (PO.mk (some 5) (.alloc [(w64 0), (w64 0), (w64 0), (w64 0)]) none), (PO.mk none (.store 4 (.t 5) (.t 13)) none), (PO.mk (some 6) (.mv (.t 14)) none)]) (.seq (.ops [(PO.mk (some 16) (.mv (.t 1)) none), (PO.mk (some 17) (.call (F 135) [(.t 16)]) none), (PO.mk (some 15) (.mv (.t 17)) none), (PO.mk (some 18) (.ext 0 (.t 15)) none), (PO.mk (some 19) (.ext 1 (.t 15)) none), (PO.mk (some 7) (.alloc [(w64 0), (w64 0), (w64 0), (w64 0)]) none), (PO.mk none (.store 4 (.t 7) (.t 18)) none), (PO.mk (some 8) (.mv (.t 19)) none)]) (.seq (.block 0 (.seq (.ops [(PO.mk (some 21) (.mv (.t 6)) none), (PO.mk (some 22) (.not (.t 21)) none), (PO.mk (some 23) (.mv (.t 22)) none), (PO.mk (some 24) (.mv (.t 8)) (some (23, false))), (PO.mk (some 25) (.not (.t 24)) (some (23, false))), (PO.mk (some 26) (.pick (.t 23) (.k (.bool true)) (.t 25)) none), (PO.mk (some 27) (.mv (.t 26)) none), (PO.mk (some 28) (.load true 4 (.t 5)) (some (27, false))), (PO.mk (some 29) (.load true 4 (.t 7)) (some (27, false))), (PO.mk (some 30) (.call (F 106) [(.t 28), (.t 29)]) (some (27, false))), (PO.mk (some 31) (.bin .gtr (.t 30) (.k (.int .i64 0))) (some (27, false))), (PO.mk (some 32) (.pick (.t 27) (.k (.bool true)) (.t 31)) none), (PO.mk (some 20) (.mv (.t 32)) none)]) (.cond (.t 20) (.seq (.ops [(PO.mk (some 4) (.mv (.k (.int .i64 30))) none)]) .ret) (.seq (.draw [(.s, (PO.mk (some 34) (.load true 68 (.t 2)) none)), (.s, (PO.mk (some 35) (.call (F 141) [(.t 34)]) none)), (.s, (PO.mk (some 36) (.call (F 117) [(.t 35)]) none)), (.s, (PO.mk (some 37) (.load true 4 (.t 5)) none)), (.s, (PO.mk (some 38) (.call (F 106) [(.t 36), (.t 37)]) none)), (.e, (PO.mk (some 39) (.bin .gtr (.t 38) (.k (.int .i64 0))) none)), (.e, (PO.mk (some 33) (.mv (.t 39)) none))]) (.cond (.t 33) (.seq (.ops [(PO.mk (some 4) (.mv (.k (.int .i64 50))) none)]) .ret) .skip))))) (.seq (.ops [(PO.mk (some 4) (.mv (.k (.int .i64 0))) none)]) .ret)))))
-- regions [0, 1, 2, 3, 4, 5, 6, 7]
/- tallystick/head.Mine -/
def k143 (F : Fn) : PF := PF.mk 24 3 [(PR.cell 6 true 68), (.t 7)] (.seq (.ops [(PO.mk (some 3) (.box (.t 0)) none), (PO.mk (some 6) (.alloc z68_39b1) none), (PO.mk (some 7) (.mv (.k (.bool false))) none)]) (.seq (.seq (.ops [(PO.mk (some 8) (.mv (.t 2)) none), (PO.mk (some 9) (.min [(.t 8), (.k (.int .i64 65536))]) none), (PO.mk (some 10) (.max [(.k (.int .i64 0)), (.t 9)]) none), (PO.mk (some 11) (.mv (.k (.int .i64 0))) none)]) (.block 0 (.loop (.seq (.ops [(PO.mk (some 12) (.bin .lss (.t 11) (.t 10)) none)]) (.seq (.cond (.t 12) .skip (.exit 0)) (.seq (.block 1 (.seq (.seq (.ops [(PO.mk (some 13) (.load true 68 (.t 3)) none), (PO.mk (some 14) (.mv (.t 1)) none), (PO.mk (some 15) (.call (F 142) [(.t 13), (.t 14)]) none), (PO.mk (some 16) (.bin .eql (.t 15) (.k (.int .i64 0))) none)]) (.cond (.t 16) (.seq (.ops [(PO.mk (some 17) (.load true 68 (.t 3)) none), (PO.mk none (.store 68 (.t 6) (.t 17)) none), (PO.mk (some 7) (.mv (.k (.bool true))) none)]) .ret) .skip)) (.ops [(PO.mk (some 18) (.fldA 67 (.t 3)) none), (PO.mk (some 19) (.load false 1 (.t 18)) none), (PO.mk (some 20) (.bin .add (.t 19) (.k (w32 1))) none), (PO.mk (some 21) (.fldA 67 (.t 3)) none), (PO.mk none (.store 1 (.t 21) (.t 20)) none)]))) (.ops [(PO.mk (some 22) (.bin .add (.t 11) (.k (.int .i64 1))) none), (PO.mk (some 11) (.mv (.t 22)) none)]))))))) (.seq (.ops [(PO.mk (some 23) (.build z68_39b1 []) none), (PO.mk none (.store 68 (.t 6) (.t 23)) none), (PO.mk (some 7) (.mv (.k (.bool false))) none)]) .ret)))
structure OkHead (P : Program) (F : Fn) : Prop where
  mixed : P.follows .mixedOrders = true
  toOkNum : OkNum P F
  toOkHash : OkHash P F
  h135 : compFn P ⟨[], [], [], [], []⟩ (F 135) = some (k135 F)
  h136 : compFn P ⟨[], [], [], [], []⟩ (F 136) = some (k136 F)
  h137 : compFn P ⟨[], [], [], [], []⟩ (F 137) = some (k137 F)
  h138 : compFn P ⟨[], [], [], [], []⟩ (F 138) = some (k138 F)
  h139 : compFn P ⟨[], [], [], [], []⟩ (F 139) = some (k139 F)
  h140 : compFn P ⟨[4, 17, 20, 23], [], [(2, [1])], [], []⟩ (F 140) = some (k140 F)
  h141 : compFn P ⟨[], [], [], [], []⟩ (F 141) = some (k141 F)
  h142 : compFn P ⟨[], [], [], [], []⟩ (F 142) = some (k142 F)
  h143 : compFn P ⟨[], [], [], [], []⟩ (F 143) = some (k143 F)
end Go.Ab
/-
  bits: targets, short forms, work, and the bits behind so many.
-/
set_option linter.unusedSimpArgs false
set_option linter.unusedVariables false
set_option maxRecDepth 10000
namespace Go.Ab
open Go Go.RowKit
section
variable {P : Program} {F : Fn}

/-- What bits.Target gives. -/
def tgtR (b : W32) : V := match tgt b with | some t => .tup [nU (natU t), .bool true] | none => .tup [nU 0#256, .bool false]
theorem and_word (b : W32) : (b &&& 8388607#32).toNat = b.toNat % 8388608 := by
  rw [BitVec.toNat_and]
  exact Nat.and_two_pow_sub_one_eq_mod b.toNat 23
theorem and_bit (b : W32) : ((b &&& 8388608#32) != 0#32) = decide (8388608 ≤ b.toNat % 16777216) := by
  have h2 : b.getLsbD 23 = decide (8388608 ≤ b.toNat % 16777216) := by
    rw [BitVec.getLsbD, Nat.testBit_eq_decide_div_mod_eq]
    congr 1
    rw [eq_iff_iff]
    show b.toNat / 8388608 % 2 = 1 ↔ _
    omega
  rw [show (8388608#32) = BitVec.twoPow 32 23 from rfl, BitVec.and_twoPow, ← h2]
  cases b.getLsbD 23 <;> rfl
theorem set64_nat (b : W32) (n : Nat) : ((b >>> n).setWidth 64).toNat = b.toNat / 2 ^ n := by
  have hb := b.isLt
  rw [BitVec.toNat_setWidth, BitVec.toNat_ushiftRight, Nat.shiftRight_eq_div_pow]
  apply Nat.mod_eq_of_lt
  exact Nat.lt_of_le_of_lt (Nat.div_le_self _ _) (by omega)

set_option maxHeartbeats 2000000 in
/-- bits.Target -/
theorem spec135 (ok : OkHead P F) (st : St) (b : W32) : ACalls P (F 135) [w32 b] st fun v st' => v = tgtR b ∧ st' = st := by
  have okn := ok.toOkNum
  have hb := b.isLt
  refine shows_call ok.mixed ok.h135 (by simp [k135]) ?_
  simp only [k135, eU_zero0]
  simp
  intro rid hrid
  have S := (Sep.start st).new hrid (.cells (eU 0#256))
  generalize st.upd rid _ = st1 at S ⊢
  have hsp : ∀ x y : U, spliceV (eU x) 0 (eU y) = eU y := fun _ _ => rfl
  have oR := S.get
  have hz : fillV (eU 0#256) [] = some (eU 0#256) := rfl
  have hst : ∀ x : U, storeS st1 4 (.ptr (some (rid, 0))) (nU x) = some (st1.upd rid (.cells (eU x))) := fun x => by
    simp [storeS, oR, nU, eU_len, hsp]
  obtain ⟨size, hsize⟩ : ∃ n, n = b.toNat / 16777216 := ⟨_, rfl⟩
  obtain ⟨word, hword⟩ : ∃ n, n = b.toNat % 16777216 := ⟨_, rfl⟩
  have hsz : (b >>> 24).toNat = size := by rw [BitVec.toNat_ushiftRight, Nat.shiftRight_eq_div_pow, hsize]
  have hw8 : (b &&& 8388607#32).toNat = b.toNat % 8388608 := and_word b
  obtain ⟨X, hX⟩ : ∃ X : W, X = (b &&& 8388607#32).setWidth 64 := ⟨_, rfl⟩
  have hXn : X.toNat = b.toNat % 8388608 := by
    rw [hX, BitVec.toNat_setWidth, hw8]
    exact Nat.mod_eq_of_lt (by omega)
  have hX0 : (X == 0#64) = decide (b.toNat % 8388608 = 0) := by
    rw [Bool.eq_iff_iff, beq_iff_eq, decide_eq_true_eq]
    constructor
    · intro h; rw [← hXn, h]; rfl
    · intro h; apply BitVec.eq_of_toNat_eq; rw [hXn, h]; rfl
  have hbit := and_bit b
  have hcv : convV .i64 (w32 (b >>> 24)) = some (.int .i64 (size : Nat)) := by rw [conv_32_i, hsz]
  have w0 : word % 8388608 = b.toNat % 8388608 := by omega
  simp [-conv_32_i, hcv, ← hX, hX0]
  by_cases h0 : b.toNat % 8388608 = 0
  · have e : tgtR b = .tup [nU 0#256, .bool false] := by
      have : tgt b = none := by
        unfold tgt
        rw [if_pos (by omega)]
      rw [tgtR, this]
    simp [h0, hz, storeS, oR, eU_len, hsp, St.seg, segU, e]
    exact ⟨(S.set (.cells (eU 0#256))).was' (by simp), rfl⟩
  by_cases h1 : 8388608 ≤ b.toNat % 16777216
  · have e : tgtR b = .tup [nU 0#256, .bool false] := by
      have : tgt b = none := by
        unfold tgt
        rw [if_pos (by omega)]
      rw [tgtR, this]
    simp [h0, h1, hbit, hz, storeS, oR, eU_len, hsp, St.seg, segU, e]
    exact ⟨(S.set (.cells (eU 0#256))).was' (by simp), rfl⟩
  have hwX : X.toNat = word := by omega
  have htg : tgt b = if tgtV size word = 0 ∨ 2 ^ 256 ≤ tgtV size word then none else some (tgtV size word) := by
    unfold tgt
    rw [if_neg (by omega), ← hsize, ← hword]
  have hszl : size ≤ 255 := by omega
  simp [h0, h1, hbit]
  refine (spec105 okn st1 X).mono ?_
  rintro v st1 ⟨rfl, rfl⟩
  simp
  intro nid hnid
  obtain ⟨N, hN⟩ : ∃ N : U, N = X.setWidth 256 := ⟨_, rfl⟩
  have hNn : N.toNat = word := by
    rw [hN, BitVec.toNat_setWidth, hwX]
    exact Nat.mod_eq_of_lt (by omega)
  rw [← hN]
  have S := S.new hnid (.cells (eU N))
  have hsn : storeS (st1.upd nid (.cells (eU 0#256))) 4 (.ptr (some (nid, 0))) (nU N) = some (st1.upd nid (.cells (eU N))) := by
    simp [storeS, nU, eU_len, hsp]
  simp [hsn]
  generalize st1.upd nid _ = st2 at S ⊢
  have oN := S.get
  have oR := S.mem (i := rid) (o := .cells (eU 0#256)) (by simp)
  have n12 := S.neq (i := nid) (j := rid) 0 1 rfl rfl (by omega)
  by_cases h3 : size ≤ 3
  · have h3' : (size : Int) ≤ 3 := by omega
    have w1 : IntKind.i64.wrap (3 - (size : Int)) = ((3 - size : Nat) : Int) := by rw [wrap64 (by omega) (by omega)]; omega
    have w2 : IntKind.i64.wrap (8 * ((3 - size : Nat) : Int)) = ((8 * (3 - size) : Nat) : Int) := by rw [wrap64 (by omega) (by omega)]; omega
    obtain ⟨m, hm⟩ : ∃ m, m = 3 - size := ⟨_, rfl⟩
    rw [← hm] at w1 w2
    simp [h3', w1, w2, St.seg, oN, segU]
    refine (spec113 okn st2 N (8 * (m : Int))).mono ?_
    rintro v st2 ⟨rfl, rfl⟩
    obtain ⟨R, hR⟩ : ∃ R, R = shrU N (8 * (m : Int)) := ⟨_, rfl⟩
    have hRn : R.toNat = tgtV size word := by
      rw [hR, shrU, if_neg (by omega), BitVec.toNat_ushiftRight, Nat.shiftRight_eq_div_pow, hNn, tgtV, if_pos h3, show (8 * (m : Int)).toNat = 8 * m by omega, hm]
    rw [← hR]
    have hs2 : storeS st2 4 (.ptr (some (nid, 0))) (nU R) = some (st2.upd nid (.cells (eU R))) := by
      simp [storeS, oN, nU, eU_len, hsp]
    have S := S.set (.cells (eU R))
    simp [hs2]
    generalize st2.upd nid _ = st3 at S ⊢
    have oN := S.get
    have oR := S.mem (i := rid) (o := .cells (eU 0#256)) (by simp)
    simp [St.seg, oN, segU]
    refine ⟨_, spec107 okn st3 R, ?_⟩
    have T := S.setAt (.cells (eU R)) 1 rfl
    simp [St.seg, oN, oR, segU, storeS, eU_len, hsp]
    refine ⟨T.was' (by simp), ?_⟩
    rw [tgtR, htg]
    by_cases hz0 : tgtV size word = 0
    · have : R = 0#256 := BitVec.eq_of_toNat_eq (by rw [hRn, hz0]; rfl)
      rw [if_pos (.inl hz0), this]
      simp [nU]
    · have h1 : R ≠ 0#256 := fun e => hz0 (by rw [← hRn, e]; rfl)
      have h2 : R = natU (tgtV size word) := by rw [← hRn, natU, BitVec.ofNat_toNat, BitVec.setWidth_eq]
      have h3 : ¬ 2 ^ 256 ≤ tgtV size word := by rw [← hRn]; exact Nat.not_le.2 R.isLt
      rw [if_neg (by rintro (h | h); exact hz0 h; exact h3 h)]
      simp only
      rw [← h2]
      simp [nU, h1]
  · have h3' : ¬ (size : Int) ≤ 3 := by omega
    have w1 : IntKind.i64.wrap ((size : Int) - 3) = ((size - 3 : Nat) : Int) := by rw [wrap64 (by omega) (by omega)]; omega
    have w2 : IntKind.i64.wrap (8 * ((size - 3 : Nat) : Int)) = ((8 * (size - 3) : Nat) : Int) := by rw [wrap64 (by omega) (by omega)]; omega
    obtain ⟨m, hm⟩ : ∃ m, m = size - 3 := ⟨_, rfl⟩
    rw [← hm] at w1 w2
    have hbl : bitlen word ≤ 24 := bitlen_le.2 (by show word < 16777216; omega)
    have w3 : IntKind.i64.wrap ((bitlen word : Int) + 8 * (m : Int)) = (bitlen word : Int) + 8 * (m : Int) := wrap64 (by omega) (by omega)
    have hw0 : 0 < word := by omega
    have htv : tgtV size word = word * 2 ^ (8 * m) := by rw [tgtV, if_neg h3, hm]
    have hfit : bitlen word + 8 * m ≤ 256 ↔ tgtV size word < 2 ^ 256 := by
      have : bitlen (tgtV size word) = bitlen word + 8 * m := by
        have := bitlen_add (n := word) (k := 8 * m) (m := 0) (Nat.two_pow_pos _) hw0
        rwa [Nat.add_zero, ← htv] at this
      rw [← this, bitlen_le]
    have hne : tgtV size word ≠ 0 := by
      rw [htv]
      exact Nat.ne_of_gt (Nat.mul_pos hw0 (Nat.two_pow_pos _))
    simp [h3', w1, w2, St.seg, oN, segU]
    refine (spec114 okn st2 N).mono ?_
    rintro v st2 ⟨rfl, rfl⟩
    rw [hNn]
    by_cases hb : (256 : Int) < (bitlen word : Int) + 8 * (m : Int)
    · have hbig : 2 ^ 256 ≤ tgtV size word := by
        have := mt hfit.2 (by omega)
        omega
      have e : tgtR b = .tup [nU 0#256, .bool false] := by
        rw [tgtR, htg, if_pos (.inr hbig)]
      have T := S.setAt (.cells (eU 0#256)) 1 rfl
      simp [w1, w2, w3, hb, hz, storeS, oR, eU_len, hsp, St.seg, segU, e]
      exact ⟨T.was' (by simp), rfl⟩
    · simp [w1, w2, w3, hb, St.seg, oN, segU]
      refine (spec112 okn st2 N (8 * (m : Int))).mono ?_
      rintro v st2 ⟨rfl, rfl⟩
      obtain ⟨R, hR⟩ : ∃ R, R = shlU N (8 * (m : Int)) := ⟨_, rfl⟩
      have hlt := hfit.1 (by omega)
      have hm31 : 8 * m ≤ 255 := by
        have := bitlen_pos.2 hw0
        omega
      have hRn : R = natU (tgtV size word) := by
        apply BitVec.eq_of_toNat_eq
        rw [natU_nat hlt, hR, shlU, if_neg (by omega), BitVec.toNat_shiftLeft, Nat.shiftLeft_eq, hNn, show (8 * (m : Int)).toNat = 8 * m by omega, htv]
        exact Nat.mod_eq_of_lt (by rw [← htv]; exact hlt)
      rw [← hR]
      have T := S.setAt (.cells (eU R)) 1 rfl
      have e : tgtR b = .tup [nU R, .bool true] := by
        rw [tgtR, htg, if_neg (by omega), hRn]
      have hs2 : storeS st2 4 (.ptr (some (rid, 0))) (nU R) = some (st2.upd rid (.cells (eU R))) := by
        simp [storeS, oR, nU, eU_len, hsp]
      simp [hs2, St.seg, segU, e]
      exact ⟨T.was' (by simp), rfl⟩

/-! ### Work -/
theorem rows2U (a b : U) : fillV (repV (eU 0#256) 2) [(0, 4, .agg (eU a)), (4, 4, .agg (eU b))] = some (rowsOf eU [a, b]) := rfl
theorem sumU2 (a b : U) : sumU [a, b] = a.toNat + b.toNat := by simp [sumU]
theorem work_eq {t : Nat} (ht : t + 1 < 2 ^ 256) : (2 ^ 256 - 1 - t) / (t + 1) + 1 = workN t := by
  rw [workN]
  have e : 2 ^ 256 = (2 ^ 256 - 1 - t) + (t + 1) := by omega
  calc (2 ^ 256 - 1 - t) / (t + 1) + 1 = ((2 ^ 256 - 1 - t) + (t + 1)) / (t + 1) := (Nat.add_div_right _ (Nat.succ_pos t)).symm
    _ = 2 ^ 256 / (t + 1) := by rw [← e]
set_option maxHeartbeats 2000000 in
/-- bits.Work -/
theorem spec137 (ok : OkHead P F) (st : St) (x : U) : ACalls P (F 137) [nU x] st fun v st' => v = nU (natU (workN x.toNat)) ∧ st' = st := by
  have okn := ok.toOkNum
  refine shows_call ok.mixed ok.h137 (by simp [k137]) ?_
  have hxl := x.isLt
  simp only [k137, nU]
  simp
  intro i1 h1
  have S := (Sep.start st).new h1 (.cells (eU x))
  generalize st.upd i1 _ = st1 at S ⊢
  simp
  intro i2 h2
  have S := S.new h2 (.cells (eU 0#256))
  rw [eU_zero]
  generalize st1.upd i2 _ = st2 at S ⊢
  have o1 := S.mem (i := i1) (o := .cells (eU x)) (by simp)
  simp [St.seg, o1, segU]
  refine ⟨_, spec105 okn st2 1#64, ?_⟩
  have hone : (BitVec.setWidth 256 1#64 : U) = 1#256 := rfl
  have hsp : ∀ x y : U, spliceV (eU x) 0 (eU y) = eU y := fun _ _ => rfl
  have call : ∀ (st : St) (y : U), ACalls P (F 108) [.sl .full (rowsOf eU [y, 1#256]) 2] st fun v st' => v = .tup [nU (BitVec.ofNat 256 (y.toNat + 1)), .bool (ovU (y.toNat + 1))] ∧ st' = st := fun st y => by
    have := spec108 okn st (l := [y, 1#256]) (.inl ⟨.full, rfl⟩) (by simp)
    rw [sumU2] at this
    exact this
  simp [rows2U, nU, hone]
  refine ⟨_, call st2 x, ?_⟩
  simp
  intro i3 h3
  have S := S.new h3 (.cells (eU (BitVec.ofNat 256 (x.toNat + 1))))
  have hs3 : ∀ y : U, storeS (st2.upd i3 (.cells (eU 0#256))) 4 (.ptr (some (i3, 0))) (nU y) = some (st2.upd i3 (.cells (eU y))) := fun y => by
    simp [storeS, nU, eU_len, hsp]
  simp [hs3]
  generalize st2.upd i3 _ = st3 at S ⊢
  have o2 := S.mem (i := i2) (o := .cells (eU 0#256)) (by simp)
  have o1 := S.mem (i := i1) (o := .cells (eU x)) (by simp)
  have o3 := S.get
  by_cases hov : 2 ^ 256 ≤ x.toNat + 1
  · have e1 : ovU (x.toNat + 1) = true := decide_eq_true hov
    have e2 : natU (workN x.toNat) = 1#256 := by
      have : x.toNat + 1 = 2 ^ 256 := by omega
      rw [natU, workN, this, Nat.div_self (Nat.two_pow_pos _)]
    simp [e1]
    refine (spec105 okn st3 1#64).mono ?_
    rintro v st3 ⟨rfl, rfl⟩
    have T := S.setAt (.cells (eU 1#256)) 1 rfl
    have hs : storeS st3 4 (.ptr (some (i2, 0))) (nU 1#256) = some (st3.upd i2 (.cells (eU 1#256))) := by
      simp [storeS, o2, nU, eU_len, hsp]
    simp [hone, hs, St.seg, segU, e2]
    exact T.was' (by simp)
  · have e1 : ovU (x.toNat + 1) = false := decide_eq_false hov
    have hlt : x.toNat + 1 < 2 ^ 256 := by omega
    obtain ⟨Y, hY⟩ : ∃ Y : U, Y = BitVec.ofNat 256 (x.toNat + 1) := ⟨_, rfl⟩
    have hYn : Y.toNat = x.toNat + 1 := by rw [hY, BitVec.toNat_ofNat]; exact Nat.mod_eq_of_lt hlt
    have hY0 : Y ≠ 0#256 := fun e => by rw [e] at hYn; simp at hYn
    rw [← hY] at S o3 ⊢
    simp [e1, St.seg, o1, segU]
    refine ⟨_, spec111 okn st3 x, ?_⟩
    simp [St.seg, o3, segU]
    refine ⟨_, spec116 okn st3 (~~~x) Y, ?_⟩
    simp [hY0]
    intro i5 h5
    have S := S.new h5 (.cells (eU 0#256))
    generalize st3.upd i5 _ = st4 at S ⊢
    simp
    intro i6 h6
    have S := S.new h6 (.cells (eU 0#256))
    generalize st4.upd i6 _ = st5 at S ⊢
    have o5 := S.mem (i := i5) (o := .cells (eU 0#256)) (by simp)
    have n56 := S.neq (i := i6) (j := i5) 0 1 rfl rfl (by omega)
    have hs5 : ∀ y : U, storeS st5 4 (.ptr (some (i5, 0))) (nU y) = some (st5.upd i5 (.cells (eU y))) := fun y => by
      simp [storeS, nU, eU_len, hsp, o5]
    obtain ⟨Q, hQ⟩ : ∃ Q, Q = divU (~~~x) Y := ⟨_, rfl⟩
    have hQn : Q.toNat + 1 = workN x.toNat := by
      rw [← work_eq hlt, hQ, divU, BitVec.toNat_ofNat, hYn, BitVec.toNat_not, Nat.mod_eq_of_lt]
      exact Nat.lt_of_le_of_lt (Nat.div_le_self _ _) (by omega)
    rw [← hQ]
    have S := S.setAt (.cells (eU Q)) 1 rfl
    have o6 := S.mem (i := i6) (o := .cells (eU 0#256)) (by simp)
    simp [hs5]
    generalize st5.upd i5 _ = st6 at S o6 ⊢
    have hs6 : ∀ y : U, storeS st6 4 (.ptr (some (i6, 0))) (nU y) = some (st6.upd i6 (.cells (eU y))) := fun y => by
      simp [storeS, nU, eU_len, hsp, o6]
    have S := S.setAt (.cells (eU (modU (~~~x) Y))) 0 rfl
    simp [hs6]
    generalize st6.upd i6 _ = st7 at S ⊢
    have o5 := S.mem (i := i5) (o := .cells (eU Q)) (by simp)
    simp [St.seg, o5, segU]
    refine ⟨_, spec105 okn st7 1#64, ?_⟩
    simp [rows2U, nU, hone]
    refine ⟨_, call st7 Q, ?_⟩
    have hs7 : ∀ y : U, storeS st7 4 (.ptr (some (i5, 0))) (nU y) = some (st7.upd i5 (.cells (eU y))) := fun y => by
      simp [storeS, nU, eU_len, hsp, o5]
    have S := S.setAt (.cells (eU (BitVec.ofNat 256 (Q.toNat + 1)))) 1 rfl
    simp [hs7]
    generalize st7.upd i5 _ = st8 at S ⊢
    have o5 := S.mem (i := i5) (o := .cells (eU (BitVec.ofNat 256 (Q.toNat + 1)))) (by simp)
    have o2 := S.mem (i := i2) (o := .cells (eU 0#256)) (by simp)
    have T := S.setAt (.cells (eU (BitVec.ofNat 256 (Q.toNat + 1)))) 3 rfl
    simp [St.seg, o5, o2, segU, storeS, eU_len, hsp]
    refine ⟨T.was' (by simp), ?_⟩
    rw [hQn]
    rfl
end
end Go.Ab
/-
  bits: short forms.
-/
set_option linter.unusedSimpArgs false
set_option linter.unusedVariables false
set_option maxRecDepth 10000
namespace Go.Ab
open Go Go.RowKit
section
variable {P : Program} {F : Fn}

/-- The three highest bytes. -/
def topW (t size : Nat) : Nat := if size ≤ 3 then t * 2 ^ (8 * (3 - size)) else t / 2 ^ (8 * (size - 3))
theorem topW_lt {t size : Nat} (h : bitlen t ≤ 8 * size) : topW t size < 16777216 := by
  have ht := bitlen_le.1 h
  unfold topW
  split
  · rename_i h3
    calc t * 2 ^ (8 * (3 - size)) < 2 ^ (8 * size) * 2 ^ (8 * (3 - size)) := Nat.mul_lt_mul_of_pos_right ht (Nat.two_pow_pos _)
      _ = 2 ^ 24 := by rw [← Nat.pow_add]; congr 1; omega
  · rename_i h3
    rw [Nat.div_lt_iff_lt_mul (Nat.two_pow_pos _)]
    calc t < 2 ^ (8 * size) := ht
      _ = 16777216 * 2 ^ (8 * (size - 3)) := by
        rw [show (16777216 : Nat) = 2 ^ 24 from rfl, ← Nat.pow_add]; congr 1; omega
theorem topW_succ (t size : Nat) : topW t (size + 1) = topW t size / 256 := by
  unfold topW
  by_cases h : size + 1 ≤ 3
  · rw [if_pos h, if_pos (by omega), show 8 * (3 - size) = 8 * (3 - (size + 1)) + 8 by omega, Nat.pow_add, ← Nat.mul_assoc]
    exact (Nat.mul_div_cancel _ (by decide)).symm
  · rw [if_neg h]
    by_cases h3 : size ≤ 3
    · have : size = 3 := by omega
      subst this
      simp
    · rw [if_neg h3, Nat.div_div_eq_div_mul, show 8 * (size + 1 - 3) = 8 * (size - 3) + 8 by omega, Nat.pow_add]
theorem topW_big {t size : Nat} (ht : 0 < t) (h : bitlen t = 8 * size) : 8388608 ≤ topW t size := by
  have hp := bitlen_pos.2 ht
  have hg := bitlen_ge ht
  rw [h] at hg hp
  unfold topW
  split
  · rename_i h3
    calc 8388608 = 2 ^ (8 * size - 1) * 2 ^ (8 * (3 - size)) := by
          rw [← Nat.pow_add, show 8 * size - 1 + 8 * (3 - size) = 23 by omega]
      _ ≤ _ := Nat.mul_le_mul_right _ hg
  · rename_i h3
    rw [Nat.le_div_iff_mul_le (Nat.two_pow_pos _)]
    calc 8388608 * 2 ^ (8 * (size - 3)) = 2 ^ (8 * size - 1) := by
          rw [show (8388608 : Nat) = 2 ^ 23 from rfl, ← Nat.pow_add]; congr 1; omega
      _ ≤ t := hg
theorem topW_small {t size : Nat} (h : bitlen t < 8 * size ∨ t = 0) : topW t size < 8388608 := by
  rcases h with h | rfl
  · have ht : t < 2 ^ (8 * size - 1) := bitlen_le.1 (by omega)
    unfold topW
    split
    · rename_i h3
      calc t * 2 ^ (8 * (3 - size)) < 2 ^ (8 * size - 1) * 2 ^ (8 * (3 - size)) := Nat.mul_lt_mul_of_pos_right ht (Nat.two_pow_pos _)
        _ = 2 ^ 23 := by rw [← Nat.pow_add]; congr 1; omega
    · rename_i h3
      rw [Nat.div_lt_iff_lt_mul (Nat.two_pow_pos _)]
      calc t < 2 ^ (8 * size - 1) := ht
        _ = 8388608 * 2 ^ (8 * (size - 3)) := by
          rw [show (8388608 : Nat) = 2 ^ 23 from rfl, ← Nat.pow_add]; congr 1; omega
  · unfold topW
    simp
/-- The short form, told by the size in bytes. -/
theorem short_eq (t : Nat) : sizeN t = (if 8388608 ≤ topW t ((bitlen t + 7) / 8) then (bitlen t + 7) / 8 + 1 else (bitlen t + 7) / 8) ∧
    wordN t = (if 8388608 ≤ topW t ((bitlen t + 7) / 8) then topW t ((bitlen t + 7) / 8) / 256 else topW t ((bitlen t + 7) / 8)) := by
  have hw : wordN t = topW t (sizeN t) := rfl
  rw [hw]
  by_cases h : 0 < bitlen t ∧ bitlen t % 8 = 0
  · have hs : sizeN t = (bitlen t + 7) / 8 + 1 := by rw [sizeN, if_pos h]
    have hb := topW_big (t := t) (size := (bitlen t + 7) / 8) (bitlen_pos.1 h.1) (by omega)
    rw [if_pos hb, if_pos hb, hs, topW_succ]
    exact ⟨rfl, rfl⟩
  · have hs : sizeN t = (bitlen t + 7) / 8 := by rw [sizeN, if_neg h]; rfl
    have hb := topW_small (t := t) (size := (bitlen t + 7) / 8) (by
      by_cases h0 : t = 0
      · exact .inr h0
      · have := bitlen_pos.2 (Nat.pos_of_ne_zero h0)
        exact .inl (by omega))
    rw [if_neg (by omega), if_neg (by omega), hs]
    exact ⟨rfl, rfl⟩
theorem join32 {s w : Nat} (hs : s < 256) (hw : w < 16777216) {a b : W32} (ha : a.toNat = s) (hb : b.toNat = w) : a <<< 24 ||| b = BitVec.ofNat 32 (s * 16777216 + w) := by
  apply BitVec.eq_of_toNat_eq
  rw [BitVec.toNat_or, BitVec.toNat_shiftLeft, Nat.shiftLeft_eq, ha, hb, BitVec.toNat_ofNat]
  rw [Nat.mod_eq_of_lt (show s * 2 ^ 24 < 2 ^ 32 by show s * 16777216 < 4294967296; omega), Nat.mod_eq_of_lt (show s * 16777216 + w < 2 ^ 32 by show _ < 4294967296; omega)]
  exact or_disj s w 24 hw
theorem and_bit64 (b : W) (hb : b.toNat < 16777216) : ((b &&& 8388608#64) != 0#64) = decide (8388608 ≤ b.toNat) := by
  have h2 : b.getLsbD 23 = decide (8388608 ≤ b.toNat) := by
    rw [BitVec.getLsbD, Nat.testBit_eq_decide_div_mod_eq]
    congr 1
    rw [eq_iff_iff]
    show b.toNat / 8388608 % 2 = 1 ↔ _
    omega
  rw [show (8388608#64) = BitVec.twoPow 64 23 from rfl, BitVec.and_twoPow, ← h2]
  cases b.getLsbD 23 <;> rfl
theorem limb_small {x : U} (h : x.toNat < 18446744073709551616) : (limb x 0).toNat = x.toNat := by
  rw [limb_nat, Nat.pow_zero, Nat.div_one, Nat.mod_eq_of_lt h]

set_option maxHeartbeats 2000000 in
/-- bits.Short -/
theorem spec136 (ok : OkHead P F) (st : St) (x : U) : ACalls P (F 136) [nU x] st fun v st' => v = w32 (shortN x.toNat) ∧ st' = st := by
  have okn := ok.toOkNum
  refine shows_call ok.mixed ok.h136 (by simp [k136]) ?_
  have hxl := x.isLt
  obtain ⟨t, ht⟩ : ∃ t, t = x.toNat := ⟨_, rfl⟩
  rw [← ht]
  obtain ⟨e1, e2⟩ := short_eq t
  have hL : bitlen t ≤ 256 := by rw [ht]; exact bitlen_le.2 hxl
  obtain ⟨size, hsize⟩ : ∃ s, s = (bitlen t + 7) / 8 := ⟨_, rfl⟩
  rw [← hsize] at e1 e2
  have hsz : size ≤ 32 := by omega
  have htop := topW_lt (t := t) (size := size) (by omega)
  have w1 : IntKind.i64.wrap ((bitlen t : Int) + 7) = (bitlen t : Int) + 7 := wrap64 (by omega) (by omega)
  have d1 : Int.tdiv ((bitlen t : Int) + 7) 8 = (size : Int) := by rw [Int.tdiv_eq_ediv_of_nonneg (by omega)]; omega
  have w2 : IntKind.i64.wrap (size : Int) = size := wrap64 (by omega) (by omega)
  have w3 : IntKind.i64.wrap ((size : Int) + 1) = (size : Int) + 1 := wrap64 (by omega) (by omega)
  have fin : ∀ Wd : W, Wd.toNat = topW t size → (8388608 ≤ topW t size → ((Wd &&& 8388608#64) != 0#64) = true ∧ shortN t = BitVec.ofInt 32 ((size : Int) + 1) <<< 24 ||| (Wd >>> 8).setWidth 32) ∧
      (¬ 8388608 ≤ topW t size → ((Wd &&& 8388608#64) != 0#64) = false ∧ shortN t = BitVec.ofInt 32 (size : Int) <<< 24 ||| Wd.setWidth 32) := by
    intro Wd hW
    have hb := and_bit64 Wd (by omega)
    have hs8 : ((BitVec.ofInt 32 (size : Int)) : W32).toNat = size := by
      rw [BitVec.ofInt_natCast, BitVec.toNat_ofNat]; exact Nat.mod_eq_of_lt (by omega)
    have hs9 : ((BitVec.ofInt 32 ((size : Int) + 1)) : W32).toNat = size + 1 := by
      rw [show ((size : Int) + 1) = ((size + 1 : Nat) : Int) by omega, BitVec.ofInt_natCast, BitVec.toNat_ofNat]; exact Nat.mod_eq_of_lt (by omega)
    have hw8 : (Wd.setWidth 32).toNat = topW t size := by
      rw [BitVec.toNat_setWidth, hW]; exact Nat.mod_eq_of_lt (by omega)
    have hw9 : ((Wd >>> 8).setWidth 32).toNat = topW t size / 256 := by
      rw [BitVec.toNat_setWidth, BitVec.toNat_ushiftRight, Nat.shiftRight_eq_div_pow, hW]; exact Nat.mod_eq_of_lt (by omega)
    constructor
    · intro hbig
      rw [if_pos hbig] at e1 e2
      rw [hW, decide_eq_true hbig] at hb
      exact ⟨hb, by rw [shortN, e1, e2]; exact (join32 (by omega) (by omega) hs9 hw9).symm⟩
    · intro hbig
      rw [if_neg hbig] at e1 e2
      rw [hW, decide_eq_false hbig] at hb
      exact ⟨hb, by rw [shortN, e1, e2]; exact (join32 (by omega) (by omega) hs8 hw8).symm⟩
  simp only [k136]
  simp only [nU]
  simp
  intro i1 h1
  have S := (Sep.start st).new h1 (.cells (eU x))
  generalize st.upd i1 _ = st1 at S ⊢
  have o1 := S.get
  simp [St.seg, o1, segU]
  refine (spec114 okn st1 x).mono ?_
  rintro v st1 ⟨rfl, rfl⟩
  rw [← ht]
  simp [w1, d1, w2]
  have sub1 : St.sub st st1 := S.was' (by simp)
  by_cases h3 : size ≤ 3
  · have h3' : (size : Int) ≤ 3 := by omega
    have w4 : IntKind.i64.wrap (3 - (size : Int)) = ((3 - size : Nat) : Int) := by rw [wrap64 (by omega) (by omega)]; omega
    have w5 : IntKind.i64.wrap (8 * ((3 - size : Nat) : Int)) = ((8 * (3 - size) : Nat) : Int) := by rw [wrap64 (by omega) (by omega)]; omega
    obtain ⟨m, hm⟩ : ∃ m, m = 3 - size := ⟨_, rfl⟩
    have w6 : (8 * (m : Int)) = ((8 * m : Nat) : Int) := by omega
    rw [← hm] at w4 w5
    rw [← w6] at w5
    have hR : (BitVec.ofNat 64 (8 * m)).toNat = 8 * m := by rw [BitVec.toNat_ofNat]; exact Nat.mod_eq_of_lt (by omega)
    have hcv : convV .u64 (.int .i64 (8 * (m : Int))) = some (w64 (BitVec.ofNat 64 (8 * m))) := by rw [w6, conv_i_64, BitVec.ofInt_natCast]
    have ht24 : t < 16777216 := by
      have := bitlen_le.1 (show bitlen t ≤ 24 by omega)
      exact this
    have hWd : (limb x 0 <<< (8 * m)).toNat = topW t size := by
      rw [shl_nat, limb_small (by omega), ← ht, topW, if_pos h3, ← hm]
      apply Nat.mod_eq_of_lt
      have : 2 ^ (8 * m) ≤ 2 ^ 24 := Nat.pow_le_pow_right (by omega) (by omega)
      calc t * 2 ^ (8 * m) ≤ 16777216 * 2 ^ 24 := Nat.mul_le_mul (by omega) this
        _ < 18446744073709551616 := by decide
    obtain ⟨f1, f2⟩ := fin _ hWd
    have hsg : segOf (eU x) 0 1 = some [w64 (limb x 0)] := rfl
    by_cases hbig : 8388608 ≤ topW t size
    · obtain ⟨q1, q2⟩ := f1 hbig
      rw [q2]
      simp [h3', w4, w5, w3, idxArrV, St.seg, o1, hsg, hcv, -conv_i_64, hR, q1]
      simp [sub1]
    · obtain ⟨q1, q2⟩ := f2 hbig
      rw [q2]
      simp [h3', w4, w5, w3, idxArrV, St.seg, o1, hsg, hcv, -conv_i_64, hR, q1]
      simp [sub1]
  · have h3' : ¬ (size : Int) ≤ 3 := by omega
    have w4 : IntKind.i64.wrap ((size : Int) - 3) = ((size - 3 : Nat) : Int) := by rw [wrap64 (by omega) (by omega)]; omega
    have w5 : IntKind.i64.wrap (8 * ((size - 3 : Nat) : Int)) = ((8 * (size - 3) : Nat) : Int) := by rw [wrap64 (by omega) (by omega)]; omega
    obtain ⟨m, hm⟩ : ∃ m, m = size - 3 := ⟨_, rfl⟩
    have w6 : (8 * (m : Int)) = ((8 * m : Nat) : Int) := by omega
    rw [← hm] at w4 w5
    rw [← w6] at w5
    simp [h3', w4, w5, St.seg, o1, segU]
    refine (spec113 okn st1 x (8 * (m : Int))).mono ?_
    rintro v st1 ⟨rfl, rfl⟩
    obtain ⟨R, hR⟩ : ∃ R, R = shrU x (8 * (m : Int)) := ⟨_, rfl⟩
    rw [← hR]
    have hRn : R.toNat = topW t size := by
      rw [hR, shrU, if_neg (by omega), BitVec.toNat_ushiftRight, Nat.shiftRight_eq_div_pow, ← ht, topW, if_neg h3, show (8 * (m : Int)).toNat = 8 * m by omega, hm]
    have hWd : (limb R 0).toNat = topW t size := by
      rw [limb_small (by omega), hRn]
    have hix : idxV 4 false 1 (nU R) (.int .i64 0) = some (w64 (limb R 0)) := rfl
    obtain ⟨f1, f2⟩ := fin _ hWd
    by_cases hbig : 8388608 ≤ topW t size
    · obtain ⟨q1, q2⟩ := f1 hbig
      rw [q2]
      simp [hix, q1, w3]
      simp [sub1]
    · obtain ⟨q1, q2⟩ := f2 hbig
      rw [q2]
      simp [hix, q1, w3]
      simp [sub1]
end
end Go.Ab
/-
  bits.Next.
-/
set_option linter.unusedSimpArgs false
set_option linter.unusedVariables false
set_option maxRecDepth 10000
namespace Go.Ab
open Go Go.RowKit
section
variable {P : Program} {F : Fn}

theorem gtr_cmp (a b : U) : decide (0 < cmpU a b) = decide (b.toNat < a.toNat) := by
  congr 1
  rw [eq_iff_iff]
  unfold cmpU
  constructor
  · intro h
    split at h
    · omega
    · split at h
      · omega
      · rename_i h1 h2
        have : a.toNat ≠ b.toNat := fun e => h2 (BitVec.eq_of_toNat_eq e)
        omega
  · intro h
    rw [if_neg (by omega), if_neg (by rintro rfl; omega)]
    omega
def nextR (b : W32) (took should : Int) (limit : Nat) : V := match nextN b took should limit with | some x => .tup [w32 x, .bool true] | none => .tup [w32 0#32, .bool false]
theorem of64 {n : Nat} (h : n < 18446744073709551616) : (BitVec.ofInt 64 (n : Int)).toNat = n := by
  rw [BitVec.ofInt_natCast, BitVec.toNat_ofNat]; exact Nat.mod_eq_of_lt h

set_option maxHeartbeats 4000000 in
/-- bits.Next -/
theorem spec138 (ok : OkHead P F) (st : St) (b : W32) (took should : Int) (limit : U) (hr : -9223372036854775808 ≤ took ∧ took ≤ 9223372036854775807) :
    ACalls P (F 138) [w32 b, .int .i64 took, .int .i64 should, nU limit] st fun v st' => v = nextR b took should limit.toNat ∧ st' = st := by
  have okn := ok.toOkNum
  refine shows_call ok.mixed ok.h138 (by simp [k138]) ?_
  simp only [k138, nU]
  simp
  intro i7 h7
  have S := (Sep.start st).new h7 (.cells (eU limit))
  generalize st.upd i7 _ = st1 at S ⊢
  simp
  refine (spec135 ok st1 b).mono ?_
  rintro v st1 ⟨rfl, rfl⟩
  have hsp : ∀ x y : U, spliceV (eU x) 0 (eU y) = eU y := fun _ _ => rfl
  obtain ⟨T0, t1, hT⟩ : ∃ (T0 : U) (t1 : Bool), tgtR b = .tup [nU T0, .bool t1] ∧ (t1 = false → tgt b = none) ∧ (t1 = true → tgt b = some T0.toNat) := by
    unfold tgtR
    cases h : tgt b with
    | none => exact ⟨0#256, false, rfl, fun _ => rfl, fun h => by cases h⟩
    | some t => exact ⟨natU t, true, rfl, fun h => (by cases h), fun _ => (by rw [natU_nat (tgt_lt h).2])⟩
  obtain ⟨hT1, hT2, hT3⟩ := hT
  rw [hT1, eU_zero]
  simp
  intro i10 h10
  have S := S.new h10 (.cells (eU T0))
  have hs10 : ∀ y : U, storeS (st1.upd i10 (.cells (eU 0#256))) 4 (.ptr (some (i10, 0))) (nU y) = some (st1.upd i10 (.cells (eU y))) := fun y => by
    simp [storeS, nU, eU_len, hsp]
  simp [hs10]
  generalize st1.upd i10 _ = st2 at S ⊢
  cases t1 with
  | false =>
    have : nextR b took should limit.toNat = .tup [w32 0#32, .bool false] := by
      rw [nextR, nextN, hT2 rfl]
    simp [this]
    exact S.was' (by simp)
  | true =>
    have htg := hT3 rfl
    by_cases hs1 : should < 1
    · have : nextR b took should limit.toNat = .tup [w32 0#32, .bool false] := by
        rw [nextR, nextN, htg]; simp [hs1]
      simp [this, hs1]
      exact S.was' (by simp)
    by_cases hs2 : 1099511627776 < should
    · have : nextR b took should limit.toNat = .tup [w32 0#32, .bool false] := by
        rw [nextR, nextN, htg]; simp [hs1, hs2]
      simp [this, hs1, hs2]
      exact S.was' (by simp)
    have e : nextR b took should limit.toNat = .tup [w32 (shortN (nextT T0.toNat (clampT took should) should.toNat limit.toNat)), .bool true] := by
      rw [nextR, nextN, htg]; simp [hs1, hs2]
    rw [e]
    have hcl := clampT_le (took := took) (should := should) (by omega) (by omega)
    obtain ⟨tk, htk⟩ : ∃ tk, tk = clampT took should := ⟨_, rfl⟩
    rw [← htk] at hcl ⊢
    obtain ⟨sh, rfl⟩ := Int.eq_ofNat_of_zero_le (show 0 ≤ should by omega)
    have hsh0 : 0 < sh := by omega
    have hshl : sh ≤ 1099511627776 := by omega
    have w4 : IntKind.i64.wrap (4 * (sh : Int)) = 4 * (sh : Int) := wrap64 (by omega) (by omega)
    have w0 : IntKind.i64.wrap ((sh : Int) / 4) = (sh : Int) / 4 := wrap64 (by omega) (by omega)
    have hmn : foldV min2V (.int .i64 took) [.int .i64 (4 * (sh : Int))] = some (.int .i64 (min took (4 * (sh : Int)))) := by
      simp only [foldV, min2V, if_true, Option.bind_some]
      congr 2
      split <;> omega
    have hmx : foldV max2V (.int .i64 ((sh : Int) / 4)) [.int .i64 (min took (4 * (sh : Int)))] = some (.int .i64 (tk : Int)) := by
      simp only [foldV, max2V, if_true, Option.bind_some]
      congr 2
      rw [htk, clampT, Int.tdiv_eq_ediv_of_nonneg (by omega)]
      split <;> omega
    rw [Int.toNat_natCast]
    obtain ⟨TK, hTK⟩ : ∃ TK : W, TK = BitVec.ofInt 64 (tk : Int) := ⟨_, rfl⟩
    have hTKn : TK.toNat = tk := by rw [hTK]; exact of64 (by omega)
    obtain ⟨SH, hSH⟩ : ∃ SH : W, SH = BitVec.ofInt 64 (sh : Int) := ⟨_, rfl⟩
    have hSHn : SH.toNat = sh := by rw [hSH]; exact of64 (by omega)
    have c1 : convV .u64 (.int .i64 (tk : Int)) = some (w64 TK) := by rw [hTK, conv_i_64]
    have c2 : convV .u64 (.int .i64 (sh : Int)) = some (w64 SH) := by rw [hSH, conv_i_64]
    have o10 := S.get
    have o7 := S.mem (i := i7) (o := .cells (eU limit)) (by simp)
    simp [hs1, hs2, w4, w0, hmn, hmx, c1, -conv_i_64, St.seg, o10, segU]
    refine (spec110 okn st2 T0 TK).mono ?_
    rintro v st2 ⟨rfl, rfl⟩
    rw [hTKn]
    simp
    intro i12 h12
    have hs12 : ∀ (s : St) (x y : U), s i12 = some (.cells (eU x)) → storeS s 4 (.ptr (some (i12, 0))) (nU y) = some (s.upd i12 (.cells (eU y))) := fun s x y h => by
      simp [storeS, nU, eU_len, hsp, h]
    have hs10' : ∀ (s : St) (x y : U), s i10 = some (.cells (eU x)) → storeS s 4 (.ptr (some (i10, 0))) (nU y) = some (s.upd i10 (.cells (eU y))) := fun s x y h => by
      simp [storeS, nU, eU_len, hsp, h]
    have S := S.new h12 (.cells (eU (BitVec.ofNat 256 (T0.toNat * tk))))
    have hst := hs12 (st2.upd i12 (.cells (eU 0#256))) 0#256 (BitVec.ofNat 256 (T0.toNat * tk)) (by simp)
    rw [upd_upd] at hst
    simp [hst]
    generalize st2.upd i12 _ = st3 at S ⊢
    by_cases hov : 2 ^ 256 ≤ T0.toNat * tk
    · have e1 : ovU (T0.toNat * tk) = true := decide_eq_true hov
      have hge : ¬ T0.toNat * tk < 2 ^ 256 := by omega
      have o10 := S.mem (i := i10) (o := .cells (eU T0)) (by simp)
      have o12 := S.get
      simp [e1, c1, c2, -conv_i_64, St.seg, o10, segU]
      refine ⟨_, spec105 okn st3 SH, ?_⟩
      have hShU : (SH.setWidth 256 : U).toNat = sh := by
        rw [BitVec.toNat_setWidth, hSHn]; exact Nat.mod_eq_of_lt (by omega)
      have hSh0 : (SH.setWidth 256 : U) ≠ 0#256 := fun e => by rw [e] at hShU; simp at hShU; omega
      simp
      refine ⟨_, spec116 okn st3 T0 (SH.setWidth 256), ?_⟩
      obtain ⟨D, hD⟩ : ∃ D, D = divU T0 (SH.setWidth 256) := ⟨_, rfl⟩
      have hDn : D.toNat = T0.toNat / sh := by
        rw [hD, divU, hShU]
        exact natU_nat (Nat.lt_of_le_of_lt (Nat.div_le_self _ _) T0.isLt)
      have hst := hs12 st3 _ D o12
      simp [hSh0, ← hD, hst]
      have S := S.setAt (.cells (eU D)) 0 rfl
      generalize st3.upd i12 _ = st4 at S ⊢
      have o12 := S.get
      simp [c1, -conv_i_64, St.seg, o12, segU]
      refine (spec110 okn st4 D TK).mono ?_
      rintro v st4 ⟨rfl, rfl⟩
      rw [hTKn]
      obtain ⟨Q, hQ⟩ : ∃ Q : U, Q = BitVec.ofNat 256 (D.toNat * tk) := ⟨_, rfl⟩
      have hst := hs12 st4 _ Q o12
      rw [← hQ]
      simp [hst]
      have S := S.setAt (.cells (eU Q)) 0 rfl
      generalize st4.upd i12 _ = st5 at S ⊢
      have o12 := S.get
      have o7 := S.mem (i := i7) (o := .cells (eU limit)) (by simp)
      by_cases hov2 : 2 ^ 256 ≤ D.toNat * tk
      · have e2 : ovU (D.toNat * tk) = true := decide_eq_true hov2
        have hres : nextT T0.toNat tk sh limit.toNat = limit.toNat := by
          rw [nextT, if_neg hge, ← hDn, if_pos (.inl hov2)]
        simp [e2, St.seg, o7, segU]
        refine (spec136 ok st5 limit).mono ?_
        rintro v st5 ⟨rfl, rfl⟩
        rw [hres]
        simp
        exact S.was' (by simp)
      have e2 : ovU (D.toNat * tk) = false := decide_eq_false hov2
      have hQn : Q.toNat = D.toNat * tk := by rw [hQ]; exact natU_nat (by omega)
      have hQlt : ¬ 2 ^ 256 ≤ Q.toNat := by rw [hQn]; exact hov2
      have hres : nextT T0.toNat tk sh limit.toNat = if 2 ^ 256 ≤ Q.toNat ∨ limit.toNat < Q.toNat then limit.toNat else Q.toNat := by
        rw [nextT, if_neg hge, ← hDn, ← hQn]
      have hst := hs10' st5 _ Q (S.mem (i := i10) (o := .cells (eU T0)) (by simp))
      simp only [nU] at hst
      have n710 := (S.neq (i := i10) (j := i7) 1 2 rfl rfl (by omega)).symm
      simp [e2, St.seg, o12, segU, hst, o7, n710]
      have S := S.setAt (.cells (eU Q)) 1 rfl
      generalize st5.upd i10 _ = st6 at S ⊢
      have o10 := S.mem (i := i10) (o := .cells (eU Q)) (by simp)
      have o7 := S.mem (i := i7) (o := .cells (eU limit)) (by simp)
      try simp [St.seg, o10, o7, segU]
      refine (spec106 okn st6 Q limit).mono ?_
      rintro v st6 ⟨rfl, rfl⟩
      have hgt := gtr_cmp Q limit
      by_cases hl : limit.toNat < Q.toNat
      · rw [decide_eq_true hl] at hgt
        have hst := hs10' st6 Q limit o10
        simp only [nU] at hst
        simp [hgt, St.seg, o7, segU, hst]
        have S := S.setAt (.cells (eU limit)) 1 rfl
        generalize st6.upd i10 _ = st9 at S ⊢
        have o10 := S.mem (i := i10) (o := .cells (eU limit)) (by simp)
        try simp [St.seg, o10, segU]
        refine (spec136 ok st9 limit).mono ?_
        rintro v st9 ⟨rfl, rfl⟩
        rw [hres, if_pos (.inr hl)]
        simp
        exact S.was' (by simp)
      · rw [decide_eq_false hl] at hgt
        simp [hgt, St.seg, o10, segU]
        refine (spec136 ok st6 Q).mono ?_
        rintro v st6 ⟨rfl, rfl⟩
        rw [hres, if_neg (by rintro (h | h); exact hQlt h; exact hl h)]
        simp
        exact S.was' (by simp)
    · have e1 : ovU (T0.toNat * tk) = false := decide_eq_false hov
      have hlt : T0.toNat * tk < 2 ^ 256 := by omega
      have hn : (BitVec.ofNat 256 (T0.toNat * tk)).toNat = T0.toNat * tk := natU_nat hlt
      have o12 := S.get
      simp [e1, c2, -conv_i_64, St.seg, o12, segU]
      refine ⟨_, spec105 okn st3 SH, ?_⟩
      have hShU : (SH.setWidth 256 : U).toNat = sh := by
        rw [BitVec.toNat_setWidth, hSHn]; exact Nat.mod_eq_of_lt (by omega)
      have hSh0 : (SH.setWidth 256 : U) ≠ 0#256 := fun e => by rw [e] at hShU; simp at hShU; omega
      simp
      refine ⟨_, spec116 okn st3 (BitVec.ofNat 256 (T0.toNat * tk)) (SH.setWidth 256), ?_⟩
      simp [hSh0]
      obtain ⟨Q, hQ⟩ : ∃ Q, Q = divU (BitVec.ofNat 256 (T0.toNat * tk)) (SH.setWidth 256) := ⟨_, rfl⟩
      have hQn : Q.toNat = T0.toNat * tk / sh := by
        rw [hQ, divU, hn, hShU]
        exact natU_nat (Nat.lt_of_le_of_lt (Nat.div_le_self _ _) hlt)
      have hQlt : ¬ 2 ^ 256 ≤ Q.toNat := Nat.not_le.2 Q.isLt
      have hres : nextT T0.toNat tk sh limit.toNat = if 2 ^ 256 ≤ Q.toNat ∨ limit.toNat < Q.toNat then limit.toNat else Q.toNat := by
        rw [nextT, if_pos hlt, ← hQn]
      rw [← hQ]
      have hst := hs10' st3 _ Q (S.mem (i := i10) (o := .cells (eU T0)) (by simp))
      simp [hst]
      have S := S.setAt (.cells (eU Q)) 1 rfl
      generalize st3.upd i10 _ = st6 at S ⊢
      have o10 := S.mem (i := i10) (o := .cells (eU Q)) (by simp)
      have o7 := S.mem (i := i7) (o := .cells (eU limit)) (by simp)
      try simp [St.seg, o10, o7, segU]
      refine (spec106 okn st6 Q limit).mono ?_
      rintro v st6 ⟨rfl, rfl⟩
      have hgt := gtr_cmp Q limit
      by_cases hl : limit.toNat < Q.toNat
      · rw [decide_eq_true hl] at hgt
        have hst := hs10' st6 Q limit o10
        simp only [nU] at hst
        simp [hgt, St.seg, o7, segU, hst]
        have S := S.setAt (.cells (eU limit)) 1 rfl
        generalize st6.upd i10 _ = st9 at S ⊢
        have o10 := S.mem (i := i10) (o := .cells (eU limit)) (by simp)
        try simp [St.seg, o10, segU]
        refine (spec136 ok st9 limit).mono ?_
        rintro v st9 ⟨rfl, rfl⟩
        rw [hres, if_pos (.inr hl)]
        simp
        exact S.was' (by simp)
      · rw [decide_eq_false hl] at hgt
        simp [hgt, St.seg, o10, segU]
        refine (spec136 ok st6 Q).mono ?_
        rintro v st6 ⟨rfl, rfl⟩
        rw [hres, if_neg (by rintro (h | h); exact hQlt h; exact hl h)]
        simp
        exact S.was' (by simp)
end
end Go.Ab
/-
  head: bytes, names, proofs, mining.
-/
set_option linter.unusedSimpArgs false
set_option linter.unusedVariables false
set_option maxRecDepth 10000
namespace Go.Ab
open Go Go.RowKit
section
variable {P : Program} {F : Fn}

theorem hseg0 (h : Hdr) : segOf (eHdr h) 0 1 = some [w32 h.ver] := by
  simp [segOf, eHdr, eId_len]
theorem hdrop1 (h : Hdr) : (eHdr h).drop 1 = eId h.prev ++ (eId h.root ++ [w32 h.time, w32 h.bits, w32 h.nonce]) := rfl
theorem hdrop33 (h : Hdr) : (eHdr h).drop 33 = eId h.root ++ [w32 h.time, w32 h.bits, w32 h.nonce] := by
  rw [show 33 = 1 + 32 from rfl, ← List.drop_drop, hdrop1, List.drop_left' (eId_len _)]
theorem hdrop65 (h : Hdr) : (eHdr h).drop 65 = [w32 h.time, w32 h.bits, w32 h.nonce] := by
  rw [show 65 = 33 + 32 from rfl, ← List.drop_drop, hdrop33, List.drop_left' (eId_len _)]
theorem hdrop66 (h : Hdr) : (eHdr h).drop 66 = [w32 h.bits, w32 h.nonce] := by
  rw [show 66 = 65 + 1 from rfl, ← List.drop_drop, hdrop65]; rfl
theorem hdrop67 (h : Hdr) : (eHdr h).drop 67 = [w32 h.nonce] := by
  rw [show 67 = 65 + 2 from rfl, ← List.drop_drop, hdrop65]; rfl
theorem seg_of_drop {cs : List V} {off sz : Nat} {ys zs : List V} (h : cs.drop off = ys ++ zs) (hl : ys.length = sz) (hp : 0 < sz) : segOf cs off sz = some ys := by
  have hlen := congrArg List.length h
  rw [List.length_drop, List.length_append] at hlen
  rw [segOf, if_pos (by omega), h, ← hl, List.take_left]
theorem hsegPrev (h : Hdr) : segOf (eHdr h) 1 32 = some (eId h.prev) := seg_of_drop (hdrop1 h) (eId_len _) (by omega)
theorem hsegRoot (h : Hdr) : segOf (eHdr h) 33 32 = some (eId h.root) := seg_of_drop (hdrop33 h) (eId_len _) (by omega)
theorem hsegTime (h : Hdr) : segOf (eHdr h) 65 1 = some [w32 h.time] := seg_of_drop (zs := [w32 h.bits, w32 h.nonce]) (hdrop65 h) rfl (by omega)
theorem hsegBits (h : Hdr) : segOf (eHdr h) 66 1 = some [w32 h.bits] := seg_of_drop (zs := [w32 h.nonce]) (hdrop66 h) rfl (by omega)
theorem hsegNonce (h : Hdr) : segOf (eHdr h) 67 1 = some [w32 h.nonce] := seg_of_drop (zs := []) (hdrop67 h) rfl (by omega)
theorem hsegAll (h : Hdr) : segOf (eHdr h) 0 68 = some (eHdr h) := by
  rw [segOf, if_pos (by rw [eHdr_len]; omega), List.drop_zero, List.take_of_length_le (by rw [eHdr_len]; omega)]

/-- put4 -/
theorem spec139 (ok : OkHead P F) {st : St} {s : V} {l : List UInt8} {L : List Asn} (h : Sep (Slx 1 e8 s l :: L) st) (hl : l.length ≤ 1000) (x : W32) :
    ACalls P (F 139) [s, w32 x] st fun v st' => Sep (Slx 1 e8 v (l ++ le4 x) :: L) st' := by
  refine shows_call ok.mixed ok.h139 (by simp [k139]) ?_
  simp only [k139]
  have hr : fillV (repV [w8 0] 4) [(0, 1, w8 (UInt8.ofBitVec (x.setWidth 8))), (1, 1, w8 (UInt8.ofBitVec ((x >>> 8).setWidth 8))), (2, 1, w8 (UInt8.ofBitVec ((x >>> 16).setWidth 8))), (3, 1, w8 (UInt8.ofBitVec ((x >>> 24).setWidth 8)))] = some (rowsOf e8 (le4 x)) := rfl
  simp [hr]
  have he : elems st 1 (.sl .full (rowsOf e8 (le4 x)) 4) = some (rowsOf e8 (le4 x), (le4 x).length) := rfl
  rw [he]
  refine Sep.appx (b := 1) e8_len (by omega) h (m := le4 x) (by simp [le4]; omega) ?_
  intro s' st' S'
  simp
  exact ⟨st', sub_self _, S'⟩

set_option maxHeartbeats 1000000 in
/-- Bytes -/
theorem spec140 (ok : OkHead P F) (st : St) (h : Hdr) : ACalls P (F 140) [.agg (eHdr h)] st fun v st' => Sep [Slx 1 e8 v (hBytes h), Was st] st' := by
  refine shows_call ok.mixed ok.h140 (by simp [k140]) ?_
  simp only [k140]
  simp
  intro i1 h1
  have S := (Sep.start st).new h1 (.cells (eHdr h))
  generalize st.upd i1 _ = st1 at S ⊢
  have o1 := S.get
  simp [Conf, St.seg, o1, hseg0, mkslS, mkNew, repV]
  intro i4 h4
  have S := S.new h4 (.cells [])
  generalize st1.upd i4 _ = st2 at S ⊢
  have S := S.head (A' := Slx 1 e8 (.hsl i4 0 1 0) []) fun g hg => .inr ⟨i4, rfl, hg⟩
  refine (spec139 ok S (by simp) h.ver).mono ?_
  intro v st3 S
  simp
  have o1 := S.mem (i := i1) (o := .cells (eHdr h)) (by
    simp)
  have S := S.setAt (.ro (eHdr h)) 1 rfl
  simp [frzP, frzV, frzOb, o1]
  generalize st3.upd i1 _ = st4 at S ⊢
  have p1 : segOf (eHdr h).tail 0 32 = some (eId h.prev) := seg_of_drop (by rw [List.drop_zero, ← List.drop_one]; exact hdrop1 h) (eId_len _) (by omega)
  have p2 : segOf ((eHdr h).drop 33) 0 32 = some (eId h.root) := seg_of_drop (by rw [List.drop_zero]; exact hdrop33 h) (eId_len _) (by omega)
  have t1 : List.take 32 (eId h.prev) = rowsOf e8 h.prev.toList := by rw [← eId_rows, List.take_of_length_le (by rw [eId_len]; omega)]
  have t2 : List.take 32 (eId h.root) = rowsOf e8 h.root.toList := by rw [← eId_rows, List.take_of_length_le (by rw [eId_len]; omega)]
  have e1 : ∀ (s : St) (x : Id), elems s 1 (.sl .full (rowsOf e8 x.toList) 32) = some (rowsOf e8 x.toList, x.toList.length) := fun s x => by
    have : (rowsOf e8 x.toList).length = 32 := by rw [rowsOf_length e8_len]; simp
    simp [elems, this]
  simp [Conf, slArrV, bounds, opV, p1, p2, t1, t2, e1]
  refine Sep.appx' (b := 1) e8_len (by omega) S h.prev.toList rfl (by simp) (by simp [le4]) ?_
  intro s5 st5 S
  simp [e1]
  refine Sep.appx' (b := 1) e8_len (by omega) S h.root.toList rfl (by simp) (by simp [le4]) ?_
  intro s6 st6 S
  have q1 : segOf ((eHdr h).drop 65) 0 1 = some [w32 h.time] := seg_of_drop (zs := [w32 h.bits, w32 h.nonce]) (by rw [List.drop_zero]; exact hdrop65 h) rfl (by omega)
  have q2 : segOf ((eHdr h).drop 66) 0 1 = some [w32 h.bits] := seg_of_drop (zs := [w32 h.nonce]) (by rw [List.drop_zero]; exact hdrop66 h) rfl (by omega)
  have q3 : segOf ((eHdr h).drop 67) 0 1 = some [w32 h.nonce] := seg_of_drop (zs := []) (by rw [List.drop_zero]; exact hdrop67 h) rfl (by omega)
  simp [q1, q2, q3]
  refine (spec139 ok S (by simp [le4]) h.time).mono ?_
  intro v7 st7 S
  simp
  refine (spec139 ok S (by simp [le4]) h.bits).mono ?_
  intro v8 st8 S
  simp
  refine (spec139 ok S (by simp [le4]) h.nonce).mono ?_
  intro v9 st9 S
  simp
  refine ⟨_, sub_self _, ?_⟩
  have hb : [] ++ le4 h.ver ++ h.prev.toList ++ h.root.toList ++ le4 h.time ++ le4 h.bits ++ le4 h.nonce = hBytes h := by simp [hBytes]
  rw [hb] at S
  exact Sep.tail (fun r hr => hr.drop) S

/-- ID -/
theorem spec141 (ok : OkHead P F) (st : St) (h : Hdr) : ACalls P (F 141) [.agg (eHdr h)] st fun v st' => v = .agg (eId (hId h)) ∧ st' = st := by
  have okh := ok.toOkHash
  refine shows_call ok.mixed ok.h141 (by simp [k141]) ?_
  simp only [k141]
  simp
  intro i1 h1
  have S := (Sep.start st).new h1 (.cells (eHdr h))
  generalize st.upd i1 _ = st1 at S ⊢
  simp
  intro i2 h2
  have S := S.new h2 (.cells zR32_w80)
  generalize st1.upd i2 _ = st2 at S ⊢
  have o1 := S.mem (i := i1) (o := .cells (eHdr h)) (by simp)
  simp [St.seg, o1, hsegAll]
  refine (Sep.call (S.put (A := Was fun _ => none) rfl) (fun g hg => by rw [hg]; exact spec140 ok _ h)).mono ?_
  intro v st3 S3
  have rd : Rd 1 e8 v (hBytes h) st3 := by
    obtain ⟨g, k1, k2⟩ := S3.part
    exact (Sep.rd e8_len (k2.head fun h hh => hh.sl)).sub k1
  have S := S3.drop
  have hp : Parts st3 [v] [hBytes h] := .cons rd .nil
  have hfl : fillV (repV [.sl .nil [] 0] 1) [(0, 1, v)] = some [v] := by
    rcases rd with ⟨k, rfl⟩ | ⟨_, _, rfl, _⟩ <;> rfl
  simp [hfl]
  have hc := spec104 okh st3 hp .full (by simp [hBytes_len]) (by simp)
  refine hc.mono ?_
  rintro w st3 ⟨rfl, rfl⟩
  have o2 := S.mem (i := i2) (o := .cells zR32_w80) (by simp)
  have hst := store_z32 o2 (sha2 ([hBytes h].flatten))
  have T := S.setAt (.cells (eId (sha2 ([hBytes h].flatten)))) 0 rfl
  have hf : [hBytes h].flatten = hBytes h := by simp
  rw [hf] at hst T ⊢
  simp [hst, St.seg, segId0]
  exact ⟨T.was' (by simp), rfl⟩
end
end Go.Ab
/-
  head: proofs and mining.
-/
set_option linter.unusedSimpArgs false
set_option linter.unusedVariables false
set_option maxRecDepth 10000
namespace Go.Ab
open Go Go.RowKit
section
variable {P : Program} {F : Fn}

theorem tgtR_cases (b : W32) : ∃ (T : U) (t : Bool), tgtR b = .tup [nU T, .bool t] ∧ (t = false → tgt b = none) ∧ (t = true → tgt b = some T.toNat) := by
  unfold tgtR
  cases h : tgt b with
  | none => exact ⟨0#256, false, rfl, fun _ => rfl, fun h => by cases h⟩
  | some t => exact ⟨natU t, true, rfl, fun h => (by cases h), fun _ => (by rw [natU_nat (tgt_lt h).2])⟩

set_option maxHeartbeats 2000000 in
/-- Proved -/
theorem spec142 (ok : OkHead P F) (st : St) (h : Hdr) (limit : W32) : ACalls P (F 142) [.agg (eHdr h), w32 limit] st fun v st' => v = .int .i64 (provedN h limit) ∧ st' = st := by
  have okn := ok.toOkNum
  refine shows_call ok.mixed ok.h142 (by simp [k142]) ?_
  have hsp : ∀ x y : U, spliceV (eU x) 0 (eU y) = eU y := fun _ _ => rfl
  simp only [k142]
  simp
  intro i2 h2
  have S := (Sep.start st).new h2 (.cells (eHdr h))
  generalize st.upd i2 _ = st1 at S ⊢
  have o2 := S.get
  simp [St.seg, o2, hsegBits]
  refine (spec135 ok st1 h.bits).mono ?_
  rintro v st1 ⟨rfl, rfl⟩
  obtain ⟨A, a, hA1, hA2, hA3⟩ := tgtR_cases h.bits
  rw [hA1, eU_zero]
  simp
  intro i5 h5
  have S := S.new h5 (.cells (eU A))
  have hs5 : storeS (st1.upd i5 (.cells (eU 0#256))) 4 (.ptr (some (i5, 0))) (nU A) = some (st1.upd i5 (.cells (eU A))) := by
    simp [storeS, nU, eU_len, hsp]
  simp [hs5]
  generalize st1.upd i5 _ = st2 at S ⊢
  refine (spec135 ok st2 limit).mono ?_
  rintro v st2 ⟨rfl, rfl⟩
  obtain ⟨B, b, hB1, hB2, hB3⟩ := tgtR_cases limit
  rw [hB1]
  simp
  intro i7 h7
  have S := S.new h7 (.cells (eU B))
  have hs7 : storeS (st2.upd i7 (.cells (eU 0#256))) 4 (.ptr (some (i7, 0))) (nU B) = some (st2.upd i7 (.cells (eU B))) := by
    simp [storeS, nU, eU_len, hsp]
  simp [hs7]
  generalize st2.upd i7 _ = st3 at S ⊢
  have sub : St.sub st st3 := S.was' (by simp)
  cases a with
  | false =>
    have e : provedN h limit = 30 := by simp [provedN, hA2 rfl]
    simp [e, sub]
  | true =>
    cases b with
    | false =>
      have e : provedN h limit = 30 := by simp [provedN, hB2 rfl, hA3 rfl]
      simp [e, sub]
    | true =>
      have e : provedN h limit = if B.toNat < A.toNat then 30 else if A.toNat < idN (hId h) then 50 else 0 := by
        simp [provedN, hA3 rfl, hB3 rfl]
      have o5 := S.mem (i := i5) (o := .cells (eU A)) (by simp)
      have o7 := S.mem (i := i7) (o := .cells (eU B)) (by simp)
      have o2 := S.mem (i := i2) (o := .cells (eHdr h)) (by simp)
      simp [St.seg, o5, o7, segU]
      refine (spec106 okn st3 A B).mono ?_
      rintro v st3 ⟨rfl, rfl⟩
      have hgt := gtr_cmp A B
      by_cases hl : B.toNat < A.toNat
      · rw [decide_eq_true hl] at hgt
        rw [e, if_pos hl]
        simp [hgt, sub]
      · rw [decide_eq_false hl] at hgt
        rw [e, if_neg hl]
        simp [hgt, St.seg, o2, hsegAll]
        refine ⟨_, spec141 ok st3 h, ?_⟩
        simp
        refine ⟨_, spec117 okn st3 (hId h), ?_⟩
        simp [St.seg, o5, segU]
        refine ⟨_, spec106 okn st3 (BitVec.ofNat 256 (idN (hId h))) A, ?_⟩
        have hgt2 := gtr_cmp (BitVec.ofNat 256 (idN (hId h))) A
        have hid : (BitVec.ofNat 256 (idN (hId h))).toNat = idN (hId h) := natU_nat (idN_lt _)
        rw [hid] at hgt2
        by_cases hl2 : A.toNat < idN (hId h)
        · rw [decide_eq_true hl2] at hgt2
          simp [hgt2, sub, hl2]
        · rw [decide_eq_false hl2] at hgt2
          simp [hgt2, sub, hl2]

/-! ### Mine -/
def id0 : Id := ⟨⟨List.replicate 32 0⟩, rfl⟩
def hdr0 : Hdr := ⟨0, id0, id0, 0, 0, 0⟩
theorem z68_eq : z68_39b1 = eHdr hdr0 := rfl
def mineR (h : Hdr) (limit : W32) (n : Nat) : V := match mineN h limit n with | some x => .tup [.agg (eHdr x), .bool true] | none => .tup [.agg (eHdr hdr0), .bool false]
def eHpre (h : Hdr) : List V := w32 h.ver :: (eId h.prev ++ (eId h.root ++ [w32 h.time, w32 h.bits]))
theorem eHpre_len (h : Hdr) : (eHpre h).length = 67 := by simp [eHpre, eId_len]
theorem eHdr_pre (h : Hdr) : eHdr h = eHpre h ++ [w32 h.nonce] := by simp [eHdr, eHpre]
theorem splice_nonce (h : Hdr) (n : W32) : spliceV (eHdr h) 67 [w32 n] = eHdr { h with nonce := n } := by
  have hl := eHpre_len h
  rw [eHdr_pre, eHdr_pre]
  show spliceV (eHpre h ++ [w32 h.nonce]) 67 [w32 n] = eHpre h ++ [w32 n]
  unfold spliceV
  rw [← hl, List.take_left]
  simp
theorem splice_hdr (a b : Hdr) : spliceV (eHdr a) 0 (eHdr b) = eHdr b := by
  simp [spliceV, eHdr_len]
set_option maxHeartbeats 1000000 in
theorem spec143 (ok : OkHead P F) (st : St) (h : Hdr) (limit : W32) (tries : Int) : ACalls P (F 143) [.agg (eHdr h), w32 limit, .int .i64 tries] st fun v st' => v = mineR h limit (max 0 (min tries 65536)).toNat ∧ st' = st := by
  refine shows_call ok.mixed ok.h143 (by simp [k143]) ?_
  simp only [k143, z68_eq]
  simp
  intro i3 h3
  have S := (Sep.start st).new h3 (.cells (eHdr h))
  generalize st.upd i3 _ = st1 at S ⊢
  simp
  intro i6 h6
  have S := S.new h6 (.cells (eHdr hdr0))
  generalize st1.upd i6 _ = st2 at S ⊢
  obtain ⟨n, hn⟩ : ∃ n, n = (max 0 (min tries 65536)).toNat := ⟨_, rfl⟩
  rw [← hn]
  have hn6 : n ≤ 65536 := by omega
  have hmn : foldV min2V (.int .i64 tries) [.int .i64 65536] = some (.int .i64 (min tries 65536)) := by
    simp only [foldV, min2V, if_true, Option.bind_some]
    congr 2
    split <;> omega
  have hmx : foldV max2V (.int .i64 0) [.int .i64 (min tries 65536)] = some (.int .i64 (n : Int)) := by
    simp only [foldV, max2V, if_true, Option.bind_some]
    congr 2
    split <;> omega
  simp [hmn, hmx]
  refine vc_loopJ (fun k env' st' => ∃ (i : Nat) (g : Hdr), i ≤ n ∧ k = n - i ∧ env' 11 = .int .i64 (i : Nat) ∧ mineN h limit n = mineN g limit (n - i) ∧ Sep [pt i6 (.cells (eHdr hdr0)), pt i3 (.cells (eHdr g)), Was st] st') n
    ⟨0, h, by omega, by omega, rfl, rfl, S⟩ ?_
  clear S
  rintro J hJ k env' st3 hsame ⟨i, g, hi, rfl, h11, hm, S⟩
  have g1 := hsame.get 1 rfl
  have g3 := hsame.get 3 rfl
  have g6 := hsame.get 6 rfl
  have g10 := hsame.get 10 rfl
  simp at g1 g3 g6 g10
  clear hsame
  have o3 := S.mem (i := i3) (o := .cells (eHdr g)) (by simp)
  have o6 := S.get
  have w1 : IntKind.i64.wrap ((i : Int) + 1) = (i : Int) + 1 := wrap64 (by omega) (by omega)
  by_cases hlt : i < n
  · rw [show n - i = (n - (i + 1)) + 1 by omega, mineN] at hm
    simp [g1, g3, g6, g10, h11, hlt, St.seg, o3, hsegAll]
    refine (spec142 ok st3 g limit).mono ?_
    rintro v st3 ⟨rfl, rfl⟩
    by_cases hp : provedN g limit = 0
    · rw [if_pos hp] at hm
      have T := S.setAt (.cells (eHdr g)) 0 rfl
      simp [hp, g3, g6, St.seg, o3, o6, hsegAll, storeS, eHdr_len, splice_hdr, mineR, hm]
      exact T.was' (by simp)
    · have hp' : (provedN g limit == 0) = false := by simpa using hp
      rw [if_neg hp] at hm
      have T := S.setAt (.cells (eHdr { g with nonce := g.nonce + 1 })) 1 rfl
      simp [hp', g3, St.seg, o3, hsegNonce, storeS, eHdr_len, splice_nonce, h11, w1]
      exact Round.mk (n - (i + 1)) _ (by omega) (sub_self _) (hJ _ _ _ ⟨i + 1, _, by omega, rfl, by simp, hm, T⟩)
  · have : i = n := by omega
    subst this
    rw [Nat.sub_self, mineN] at hm
    have hz : fillV (eHdr hdr0) [] = some (eHdr hdr0) := rfl
    have T := S.setAt (.cells (eHdr hdr0)) 0 rfl
    simp [g6, g10, h11, hz, storeS, o6, eHdr_len, splice_hdr, St.seg, hsegAll, mineR, hm]
    exact T.was' (by simp)
end
end Go.Ab
/-
  The code of functions of the program in the small language.
-/
set_option linter.unusedVariables false
namespace Go.Ab
open Go
-- regions [0, 1, 2, 3, 4, 5, 6]
/- tallystick/index.Check -/
def k154 (F : Fn) : PF := PF.mk 60 1 [(.t 2)] (.seq (.ops [(PO.mk (some 1) (.box (.t 0)) none), (PO.mk (some 2) (.mv (.k (.int .i64 0))) none)]) (.seq (.seq (.ops [(PO.mk (some 6) (.fldA 0 (.t 1)) none), (PO.mk (some 7) (.load false 1 (.t 6)) none), (PO.mk (some 8) (.call (F 135) [(.t 7)]) none), (PO.mk (some 5) (.mv (.t 8)) none), (PO.mk (some 9) (.ext 0 (.t 5)) none), (PO.mk (some 10) (.ext 1 (.t 5)) none), (PO.mk (some 3) (.alloc [(w64 0), (w64 0), (w64 0), (w64 0)]) none), (PO.mk none (.store 4 (.t 3) (.t 9)) none), (PO.mk (some 4) (.mv (.t 10)) none)]) (.seq (.ops [(PO.mk (some 11) (.mv (.t 4)) none), (PO.mk (some 12) (.not (.t 11)) none), (PO.mk (some 13) (.mv (.t 12)) none), (PO.mk (some 14) (.fldA 5 (.t 1)) (some (13, false))), (PO.mk (some 15) (.fldA 0 (.t 14)) (some (13, false))), (PO.mk (some 16) (.fldA 66 (.t 15)) (some (13, false))), (PO.mk (some 17) (.load false 1 (.t 16)) (some (13, false))), (PO.mk (some 18) (.fldA 0 (.t 1)) (some (13, false))), (PO.mk (some 19) (.load false 1 (.t 18)) (some (13, false))), (PO.mk (some 20) (.bin .neq (.t 17) (.t 19)) (some (13, false))), (PO.mk (some 21) (.pick (.t 13) (.k (.bool true)) (.t 20)) none)]) (.cond (.t 21) (.seq (.ops [(PO.mk (some 2) (.mv (.k (.int .i64 30))) none)]) .ret) .skip))) (.seq (.seq (.ops [(PO.mk (some 22) (.fldA 1 (.t 1)) none), (PO.mk (some 23) (.load false 1 (.t 22)) none), (PO.mk (some 24) (.bin .lss (.t 23) (.k (.int .i64 0))) none), (PO.mk (some 25) (.mv (.t 24)) none), (PO.mk (some 26) (.fldA 1 (.t 1)) (some (25, false))), (PO.mk (some 27) (.load false 1 (.t 26)) (some (25, false))), (PO.mk (some 28) (.bin .gtr (.t 27) (.k (.int .i64 1000))) (some (25, false))), (PO.mk (some 29) (.pick (.t 25) (.k (.bool true)) (.t 28)) none), (PO.mk (some 30) (.mv (.t 29)) none), (PO.mk (some 31) (.fldA 2 (.t 1)) (some (30, false))), (PO.mk (some 32) (.load false 1 (.t 31)) (some (30, false))), (PO.mk (some 33) (.bin .lss (.t 32) (.k (.int .i64 1))) (some (30, false))), (PO.mk (some 34) (.pick (.t 30) (.k (.bool true)) (.t 33)) none), (PO.mk (some 35) (.mv (.t 34)) none), (PO.mk (some 36) (.fldA 2 (.t 1)) (some (35, false))), (PO.mk (some 37) (.load false 1 (.t 36)) (some (35, false))), (PO.mk (some 38) (.bin .gtr (.t 37) (.k (.int .i64 1048576))) (some (35, false))), (PO.mk (some 39) (.pick (.t 35) (.k (.bool true)) (.t 38)) none), (PO.mk (some 40) (.mv (.t 39)) none), (PO.mk (some 41) (.fldA 3 (.t 1)) (some (40, false))), (PO.mk (some 42) (.load false 1 (.t 41)) (some (40, false))), (PO.mk (some 43) (.bin .lss (.t 42) (.k (.int .i64 0))) (some (40, false))), (PO.mk (some 44) (.pick (.t 40) (.k (.bool true)) (.t 43)) none), (PO.mk (some 45) (.mv (.t 44)) none), (PO.mk (some 46) (.fldA 3 (.t 1)) (some (45, false))), (PO.mk (some 47) (.load false 1 (.t 46)) (some (45, false))), (PO.mk (some 48) (.bin .gtr (.t 47) (.k (.int .i64 1125899906842624))) (some (45, false))), (PO.mk (some 49) (.pick (.t 45) (.k (.bool true)) (.t 48)) none), (PO.mk (some 50) (.mv (.t 49)) none), (PO.mk (some 51) (.fldA 4 (.t 1)) (some (50, false))), (PO.mk (some 52) (.load false 1 (.t 51)) (some (50, false))), (PO.mk (some 53) (.bin .lss (.t 52) (.k (.int .i64 0))) (some (50, false))), (PO.mk (some 54) (.pick (.t 50) (.k (.bool true)) (.t 53)) none), (PO.mk (some 55) (.mv (.t 54)) none), (PO.mk (some 56) (.fldA 4 (.t 1)) (some (55, false))), (PO.mk (some 57) (.load false 1 (.t 56)) (some (55, false))), (PO.mk (some 58) (.bin .gtr (.t 57) (.k (.int .i64 1000))) (some (55, false))), (PO.mk (some 59) (.pick (.t 55) (.k (.bool true)) (.t 58)) none)]) (.cond (.t 59) (.seq (.ops [(PO.mk (some 2) (.mv (.k (.int .i64 1))) none)]) .ret) .skip)) (.seq (.ops [(PO.mk (some 2) (.mv (.k (.int .i64 0))) none)]) .ret))))
-- regions [0, 1, 2, 3, 4, 5, 6]
/- tallystick/index.New -/
def k155 (F : Fn) : PF := PF.mk 21 1 [(.t 2), (.t 3)] (.seq (.ops [(PO.mk (some 1) (.box (.t 0)) none), (PO.mk (some 2) (.mv (.k (.ptr none))) none), (PO.mk (some 3) (.mv (.k (.int .i64 0))) none)]) (.seq (.seq (.ops [(PO.mk (some 6) (.load true 74 (.t 1)) none), (PO.mk (some 7) (.call (F 154) [(.t 6)]) none), (PO.mk (some 4) (.mv (.t 7)) none)]) (.seq (.ops [(PO.mk (some 8) (.mv (.t 4)) none), (PO.mk (some 9) (.bin .neq (.t 8) (.k (.int .i64 0))) none)]) (.cond (.t 9) (.seq (.ops [(PO.mk (some 10) (.mv (.t 4)) none), (PO.mk (some 2) (.mv (.k (.ptr none))) none), (PO.mk (some 3) (.mv (.t 10)) none)]) .ret) .skip))) (.seq (.ops [(PO.mk (some 11) (.load true 74 (.t 1)) none), (PO.mk (some 12) POp.mkmap none), (PO.mk (some 13) (.build z76_2d2c [(0, (74, (.t 11))), (75, (1, (.t 12)))]) none), (PO.mk (some 14) (.box (.t 13)) none), (PO.mk (some 5) (.mv (.t 14)) none)]) (.seq (.ops [(PO.mk (some 15) (.mv (.t 5)) none), (PO.mk (some 16) (.fldA 5 (.t 1)) none), (PO.mk (some 17) (.fldA 0 (.t 16)) none), (PO.mk (some 18) (.load true 68 (.t 17)) none), (PO.mk (some 19) (.call (F 156) [(.t 15), (.t 18), (.k (.int .i64 (-1)))]) none)]) (.seq (.ops [(PO.mk (some 20) (.mv (.t 5)) none), (PO.mk (some 2) (.mv (.t 20)) none), (PO.mk (some 3) (.mv (.k (.int .i64 0))) none)]) .ret)))))
-- regions [0, 1, 2, 3, 4, 5, 6, 7, 8, 9, 10, 11, 12]
/- (*tallystick/index.Tree).put -/
def k156 (F : Fn) : PF := PF.mk 79 3 [(.t 6)] (.seq (.ops [(PO.mk (some 4) (.box (.t 1)) none), (PO.mk (some 6) (.mv (.k (.int .i64 0))) none)]) (.seq (.draw [(.e, (PO.mk (some 15) (.mv (.t 2)) none)), (.s, (PO.mk (some 12) (.load true 68 (.t 4)) none)), (.s, (PO.mk (some 13) (.load true 68 (.t 4)) none)), (.s, (PO.mk (some 14) (.call (F 141) [(.t 13)]) none)), (.e, (PO.mk (some 16) (.build z108_9b14 [(0, (68, (.t 12))), (68, (32, (.t 14))), (100, (1, (.t 15)))]) none)), (.a, (PO.mk (some 7) (.alloc z108_9b14) none)), (.x, (PO.mk none (.store 108 (.t 7) (.t 16)) none))]) (.seq (.ops [(PO.mk (some 18) (.fldA 66 (.t 4)) none), (PO.mk (some 19) (.load false 1 (.t 18)) none), (PO.mk (some 20) (.call (F 135) [(.t 19)]) none), (PO.mk (some 17) (.mv (.t 20)) none), (PO.mk (some 21) (.ext 0 (.t 17)) none), (PO.mk (some 22) (.ext 1 (.t 17)) none), (PO.mk (some 8) (.alloc [(w64 0), (w64 0), (w64 0), (w64 0)]) none), (PO.mk none (.store 4 (.t 8) (.t 21)) none), (PO.mk (some 9) (.mv (.t 22)) none)]) (.seq (.ops [(PO.mk (some 23) (.load true 4 (.t 8)) none), (PO.mk (some 24) (.call (F 137) [(.t 23)]) none), (PO.mk (some 25) (.fldA 103 (.t 7)) none), (PO.mk none (.store 4 (.t 25) (.t 24)) none)]) (.seq (.seq (.ops [(PO.mk (some 26) (.mv (.t 2)) none), (PO.mk (some 27) (.bin .geq (.t 26) (.k (.int .i64 0))) none)]) (.cond (.t 27) (.seq (.ops [(PO.mk (some 28) (.mv (.t 0)) none), (PO.mk (some 29) (.nilck (.t 28)) none), (PO.mk (some 30) (.fldA 74 (.t 29)) none), (PO.mk (some 31) (.load false 1 (.t 30)) none), (PO.mk (some 32) (.mv (.t 2)) none), (PO.mk (some 33) (.idxSl 108 (.t 31) (.t 32)) none), (PO.mk (some 34) (.load true 108 (.t 33)) none), (PO.mk (some 10) (.alloc z108_9b14) none), (PO.mk none (.store 108 (.t 10) (.t 34)) none)]) (.seq (.ops [(PO.mk (some 35) (.fldA 102 (.t 10)) none), (PO.mk (some 36) (.load false 1 (.t 35)) none), (PO.mk (some 37) (.bin .add (.t 36) (.k (.int .i64 1))) none), (PO.mk (some 38) (.fldA 102 (.t 7)) none), (PO.mk none (.store 1 (.t 38) (.t 37)) none)]) (.seq (.ops [(PO.mk (some 40) (.fldA 103 (.t 7)) none), (PO.mk (some 41) (.load true 4 (.t 40)) none), (PO.mk (some 42) (.fldA 103 (.t 10)) none), (PO.mk (some 43) (.load true 4 (.t 42)) none), (PO.mk (some 44) (.bsl false 4 2 [(w64 0), (w64 0), (w64 0), (w64 0)] [(0, (4, (.t 41))), (4, (4, (.t 43)))]) none), (PO.mk (some 45) (.call (F 108) [(.t 44)]) none), (PO.mk (some 39) (.mv (.t 45)) none), (PO.mk (some 46) (.ext 0 (.t 39)) none), (PO.mk (some 47) (.ext 1 (.t 39)) none), (PO.mk (some 48) (.fldA 103 (.t 7)) none), (PO.mk none (.store 4 (.t 48) (.t 46)) none)]) (.ops [(PO.mk (some 49) (.mv (.t 0)) none), (PO.mk (some 50) (.mv (.t 2)) none), (PO.mk (some 51) (.fldA 102 (.t 7)) none), (PO.mk (some 52) (.load false 1 (.t 51)) none), (PO.mk (some 53) (.call (F 157) [(.t 52)]) none), (PO.mk (some 54) (.call (F 158) [(.t 49), (.t 50), (.t 53)]) none), (PO.mk (some 55) (.fldA 101 (.t 7)) none), (PO.mk none (.store 1 (.t 55) (.t 54)) none)])))) .skip)) (.seq (.ops [(PO.mk (some 56) (.mv (.t 0)) none), (PO.mk (some 57) (.nilck (.t 56)) none), (PO.mk (some 58) (.fldA 74 (.t 57)) none), (PO.mk (some 59) (.load false 1 (.t 58)) none), (PO.mk (some 60) (.lenSl (.t 59)) none), (PO.mk (some 11) (.mv (.t 60)) none)]) (.seq (.draw [(.e, (PO.mk (some 61) (.mv (.t 0)) none)), (.e, (PO.mk (some 62) (.mv (.t 0)) none)), (.e, (PO.mk (some 63) (.nilck (.t 62)) none)), (.e, (PO.mk (some 64) (.fldA 74 (.t 63)) none)), (.s, (PO.mk (some 65) (.load false 1 (.t 64)) none)), (.s, (PO.mk (some 66) (.load true 108 (.t 7)) none)), (.e, (PO.mk (some 67) (.bsl false 108 1 z108_9b14 [(0, (108, (.t 66)))]) none)), (.x, (PO.mk (some 68) (.app 108 176 (.t 65) (.t 67)) none)), (.e, (PO.mk (some 69) (.nilck (.t 61)) none)), (.e, (PO.mk (some 70) (.fldA 74 (.t 69)) none)), (.x, (PO.mk none (.store 1 (.t 70) (.t 68)) none))]) (.seq (.draw [(.e, (PO.mk (some 71) (.mv (.t 0)) none)), (.e, (PO.mk (some 72) (.nilck (.t 71)) none)), (.e, (PO.mk (some 73) (.fldA 75 (.t 72)) none)), (.e, (PO.mk (some 75) (.fldA 68 (.t 7)) none)), (.e, (PO.mk (some 77) (.mv (.t 11)) none)), (.s, (PO.mk (some 74) (.load false 1 (.t 73)) none)), (.s, (PO.mk (some 76) (.load true 32 (.t 75)) none)), (.x, (PO.mk none (.mset (.agg 32) (.t 74) (.t 76) (.t 77)) none))]) (.seq (.ops [(PO.mk (some 78) (.mv (.t 11)) none), (PO.mk (some 6) (.mv (.t 78)) none)]) .ret)))))))))
-- regions [0, 1, 2, 3, 4, 5]
/- tallystick/index.skip -/
def k157 (F : Fn) : PF := PF.mk 20 1 [(.t 2)] (.seq (.ops [(PO.mk (some 2) (.mv (.k (.int .i64 0))) none)]) (.seq (.block 0 (.seq (.ops [(PO.mk (some 4) (.mv (.t 0)) none), (PO.mk (some 5) (.bin .lss (.t 4) (.k (.int .i64 2))) none), (PO.mk (some 3) (.mv (.t 5)) none)]) (.cond (.t 3) (.seq (.ops [(PO.mk (some 2) (.mv (.k (.int .i64 0))) none)]) .ret) (.seq (.ops [(PO.mk (some 7) (.mv (.t 0)) none), (PO.mk (some 8) (.bin .rem (.t 7) (.k (.int .i64 2))) none), (PO.mk (some 9) (.bin .eql (.t 8) (.k (.int .i64 1))) none), (PO.mk (some 6) (.mv (.t 9)) none)]) (.cond (.t 6) (.seq (.ops [(PO.mk (some 10) (.mv (.t 0)) none), (PO.mk (some 11) (.bin .sub (.t 10) (.k (.int .i64 1))) none), (PO.mk (some 12) (.mv (.t 0)) none), (PO.mk (some 13) (.bin .sub (.t 12) (.k (.int .i64 2))) none), (PO.mk (some 14) (.bin .and (.t 11) (.t 13)) none), (PO.mk (some 15) (.bin .add (.t 14) (.k (.int .i64 1))) none), (PO.mk (some 2) (.mv (.t 15)) none)]) .ret) .skip))))) (.seq (.ops [(PO.mk (some 16) (.mv (.t 0)) none), (PO.mk (some 17) (.mv (.t 0)) none), (PO.mk (some 18) (.bin .sub (.t 17) (.k (.int .i64 1))) none), (PO.mk (some 19) (.bin .and (.t 16) (.t 18)) none), (PO.mk (some 2) (.mv (.t 19)) none)]) .ret)))
-- regions [0, 1]
/- (*tallystick/index.Tree).Len -/
def k159 (F : Fn) : PF := PF.mk 8 1 [(.t 2)] (.seq (.ops [(PO.mk (some 2) (.mv (.k (.int .i64 0))) none)]) (.seq (.ops [(PO.mk (some 3) (.mv (.t 0)) none), (PO.mk (some 4) (.nilck (.t 3)) none), (PO.mk (some 5) (.fldA 74 (.t 4)) none), (PO.mk (some 6) (.load false 1 (.t 5)) none), (PO.mk (some 7) (.lenSl (.t 6)) none), (PO.mk (some 2) (.mv (.t 7)) none)]) .ret))
-- regions [0, 1, 2, 3]
/- (*tallystick/index.Tree).Get -/
def k161 (F : Fn) : PF := PF.mk 23 2 [(PR.cell 4 true 108)] (.seq (.ops [(PO.mk (some 4) (.alloc z108_9b14) none)]) (.seq (.seq (.ops [(PO.mk (some 5) (.mv (.t 1)) none), (PO.mk (some 6) (.bin .lss (.t 5) (.k (.int .i64 0))) none), (PO.mk (some 7) (.mv (.t 6)) none), (PO.mk (some 8) (.mv (.t 1)) (some (7, false))), (PO.mk (some 9) (.mv (.t 0)) (some (7, false))), (PO.mk (some 10) (.nilck (.t 9)) (some (7, false))), (PO.mk (some 11) (.fldA 74 (.t 10)) (some (7, false))), (PO.mk (some 12) (.load false 1 (.t 11)) (some (7, false))), (PO.mk (some 13) (.lenSl (.t 12)) (some (7, false))), (PO.mk (some 14) (.bin .geq (.t 8) (.t 13)) (some (7, false))), (PO.mk (some 15) (.pick (.t 7) (.k (.bool true)) (.t 14)) none)]) (.cond (.t 15) (.ops [(PO.mk (some 1) (.mv (.k (.int .i64 0))) none)]) .skip)) (.seq (.ops [(PO.mk (some 16) (.mv (.t 0)) none), (PO.mk (some 17) (.nilck (.t 16)) none), (PO.mk (some 18) (.fldA 74 (.t 17)) none), (PO.mk (some 19) (.load false 1 (.t 18)) none), (PO.mk (some 20) (.mv (.t 1)) none), (PO.mk (some 21) (.idxSl 108 (.t 19) (.t 20)) none), (PO.mk (some 22) (.load true 108 (.t 21)) none), (PO.mk none (.store 108 (.t 4) (.t 22)) none)]) .ret)))
-- regions [0, 1, 2, 3, 4, 5, 6, 7, 8]
/- (*tallystick/index.Tree).Ancestor -/
def k158 (F : Fn) : PF := PF.mk 73 3 [(.t 6)] (.seq (.ops [(PO.mk (some 6) (.mv (.k (.int .i64 0))) none)]) (.seq (.seq (.ops [(PO.mk (some 8) (.mv (.t 1)) none), (PO.mk (some 9) (.bin .lss (.t 8) (.k (.int .i64 0))) none), (PO.mk (some 10) (.mv (.t 9)) none), (PO.mk (some 11) (.mv (.t 1)) (some (10, false))), (PO.mk (some 12) (.mv (.t 0)) (some (10, false))), (PO.mk (some 13) (.nilck (.t 12)) (some (10, false))), (PO.mk (some 14) (.fldA 74 (.t 13)) (some (10, false))), (PO.mk (some 15) (.load false 1 (.t 14)) (some (10, false))), (PO.mk (some 16) (.lenSl (.t 15)) (some (10, false))), (PO.mk (some 17) (.bin .geq (.t 11) (.t 16)) (some (10, false))), (PO.mk (some 18) (.pick (.t 10) (.k (.bool true)) (.t 17)) none), (PO.mk (some 19) (.mv (.t 18)) none), (PO.mk (some 20) (.mv (.t 2)) (some (19, false))), (PO.mk (some 21) (.bin .lss (.t 20) (.k (.int .i64 0))) (some (19, false))), (PO.mk (some 22) (.pick (.t 19) (.k (.bool true)) (.t 21)) none), (PO.mk (some 23) (.mv (.t 22)) none), (PO.mk (some 24) (.mv (.t 2)) (some (23, false))), (PO.mk (some 25) (.mv (.t 0)) (some (23, false))), (PO.mk (some 26) (.nilck (.t 25)) (some (23, false))), (PO.mk (some 27) (.fldA 74 (.t 26)) (some (23, false))), (PO.mk (some 28) (.load false 1 (.t 27)) (some (23, false))), (PO.mk (some 29) (.mv (.t 1)) (some (23, false))), (PO.mk (some 30) (.idxSl 108 (.t 28) (.t 29)) (some (23, false))), (PO.mk (some 31) (.fldA 102 (.t 30)) (some (23, false))), (PO.mk (some 32) (.load false 1 (.t 31)) (some (23, false))), (PO.mk (some 33) (.bin .gtr (.t 24) (.t 32)) (some (23, false))), (PO.mk (some 34) (.pick (.t 23) (.k (.bool true)) (.t 33)) none)]) (.cond (.t 34) (.seq (.ops [(PO.mk (some 6) (.mv (.k (.int .i64 (-1)))) none)]) .ret) .skip)) (.seq (.block 0 (.loop (.seq (.seq (.ops [(PO.mk (some 35) (.mv (.t 0)) none), (PO.mk (some 36) (.nilck (.t 35)) none), (PO.mk (some 37) (.fldA 74 (.t 36)) none), (PO.mk (some 38) (.load false 1 (.t 37)) none), (PO.mk (some 39) (.mv (.t 1)) none), (PO.mk (some 40) (.idxSl 108 (.t 38) (.t 39)) none), (PO.mk (some 41) (.fldA 102 (.t 40)) none), (PO.mk (some 42) (.load false 1 (.t 41)) none), (PO.mk (some 43) (.mv (.t 2)) none), (PO.mk (some 44) (.bin .gtr (.t 42) (.t 43)) none)]) (.cond (.t 44) .skip (.exit 0))) (.block 1 (.seq (.ops [(PO.mk (some 45) (.mv (.t 0)) none), (PO.mk (some 46) (.nilck (.t 45)) none), (PO.mk (some 47) (.fldA 74 (.t 46)) none), (PO.mk (some 48) (.load false 1 (.t 47)) none), (PO.mk (some 49) (.mv (.t 1)) none), (PO.mk (some 50) (.idxSl 108 (.t 48) (.t 49)) none), (PO.mk (some 51) (.fldA 101 (.t 50)) none), (PO.mk (some 52) (.load false 1 (.t 51)) none), (PO.mk (some 7) (.mv (.t 52)) none)]) (.seq (.ops [(PO.mk (some 53) (.mv (.t 0)) none), (PO.mk (some 54) (.nilck (.t 53)) none), (PO.mk (some 55) (.fldA 74 (.t 54)) none), (PO.mk (some 56) (.load false 1 (.t 55)) none), (PO.mk (some 57) (.mv (.t 7)) none), (PO.mk (some 58) (.idxSl 108 (.t 56) (.t 57)) none), (PO.mk (some 59) (.fldA 102 (.t 58)) none), (PO.mk (some 60) (.load false 1 (.t 59)) none), (PO.mk (some 61) (.mv (.t 2)) none), (PO.mk (some 62) (.bin .geq (.t 60) (.t 61)) none)]) (.cond (.t 62) (.ops [(PO.mk (some 63) (.mv (.t 7)) none), (PO.mk (some 1) (.mv (.t 63)) none)]) (.ops [(PO.mk (some 64) (.mv (.t 0)) none), (PO.mk (some 65) (.nilck (.t 64)) none), (PO.mk (some 66) (.fldA 74 (.t 65)) none), (PO.mk (some 67) (.load false 1 (.t 66)) none), (PO.mk (some 68) (.mv (.t 1)) none), (PO.mk (some 69) (.idxSl 108 (.t 67) (.t 68)) none), (PO.mk (some 70) (.fldA 100 (.t 69)) none), (PO.mk (some 71) (.load false 1 (.t 70)) none), (PO.mk (some 1) (.mv (.t 71)) none)])))))))) (.seq (.ops [(PO.mk (some 72) (.mv (.t 1)) none), (PO.mk (some 6) (.mv (.t 72)) none)]) .ret))))
-- regions [0, 1]
/- (*tallystick/index.Tree).On -/
def k163 (F : Fn) : PF := PF.mk 33 3 [(.t 6)] (.seq (.ops [(PO.mk (some 6) (.mv (.k (.bool false))) none)]) (.seq (.ops [(PO.mk (some 7) (.mv (.t 1)) none), (PO.mk (some 8) (.bin .geq (.t 7) (.k (.int .i64 0))) none), (PO.mk (some 9) (.mv (.t 8)) none), (PO.mk (some 10) (.mv (.t 1)) (some (9, true))), (PO.mk (some 11) (.mv (.t 0)) (some (9, true))), (PO.mk (some 12) (.nilck (.t 11)) (some (9, true))), (PO.mk (some 13) (.fldA 74 (.t 12)) (some (9, true))), (PO.mk (some 14) (.load false 1 (.t 13)) (some (9, true))), (PO.mk (some 15) (.lenSl (.t 14)) (some (9, true))), (PO.mk (some 16) (.bin .lss (.t 10) (.t 15)) (some (9, true))), (PO.mk (some 17) (.pick (.t 9) (.t 16) (.k (.bool false))) none), (PO.mk (some 18) (.mv (.t 17)) none), (PO.mk (some 19) (.mv (.t 0)) (some (18, true))), (PO.mk (some 20) (.mv (.t 2)) (some (18, true))), (PO.mk (some 21) (.mv (.t 0)) (some (18, true))), (PO.mk (some 22) (.nilck (.t 21)) (some (18, true))), (PO.mk (some 23) (.fldA 74 (.t 22)) (some (18, true))), (PO.mk (some 24) (.load false 1 (.t 23)) (some (18, true))), (PO.mk (some 25) (.mv (.t 1)) (some (18, true))), (PO.mk (some 26) (.idxSl 108 (.t 24) (.t 25)) (some (18, true))), (PO.mk (some 27) (.fldA 102 (.t 26)) (some (18, true))), (PO.mk (some 28) (.load false 1 (.t 27)) (some (18, true))), (PO.mk (some 29) (.call (F 158) [(.t 19), (.t 20), (.t 28)]) (some (18, true))), (PO.mk (some 30) (.mv (.t 1)) (some (18, true))), (PO.mk (some 31) (.bin .eql (.t 29) (.t 30)) (some (18, true))), (PO.mk (some 32) (.pick (.t 18) (.t 31) (.k (.bool false))) none), (PO.mk (some 6) (.mv (.t 32)) none)]) .ret))
-- regions [0, 1, 2]
/- tallystick/index.middle[uint32] -/
def k164 (F : Fn) : PF := PF.mk 11 1 [(.t 2)] (.seq (.ops [(PO.mk (some 2) (.mv (.k (w32 0))) none)]) (.seq (.ops [(PO.mk (some 3) (.mv (.t 0)) none), (PO.mk (some 4) (.call (F 165) [(.t 3)]) none)]) (.seq (.ops [(PO.mk (some 5) (.mv (.t 0)) none), (PO.mk (some 6) (.mv (.t 0)) none), (PO.mk (some 7) (.lenSl (.t 6)) none), (PO.mk (some 8) (.bin .quo (.t 7) (.k (.int .i64 2))) none), (PO.mk (some 9) (.idxSl 1 (.t 5) (.t 8)) none), (PO.mk (some 10) (.load false 1 (.t 9)) none), (PO.mk (some 2) (.mv (.t 10)) none)]) .ret)))
-- regions [0, 1, 2, 3, 5, 4, 6]
/- (*tallystick/index.Tree).Median -/
def k166 (F : Fn) : PF := PF.mk 44 2 [(.t 4)] (.seq (.ops [(PO.mk (some 4) (.mv (.k (w32 0))) none)]) (.seq (.ops [(PO.mk (some 5) (.mv (.k (.sl .nil [] 0))) none)]) (.seq (.seq (.ops [(PO.mk (some 6) (.mv (.t 1)) none), (PO.mk (some 7) (.mv (.t 0)) none), (PO.mk (some 8) (.nilck (.t 7)) none), (PO.mk (some 9) (.fldA 74 (.t 8)) none), (PO.mk (some 10) (.load false 1 (.t 9)) none), (PO.mk (some 11) (.lenSl (.t 10)) none), (PO.mk (some 12) (.bin .sub (.t 11) (.k (.int .i64 1))) none), (PO.mk (some 13) (.min [(.t 6), (.t 12)]) none), (PO.mk (some 14) (.max [(.k (.int .i64 0)), (.t 13)]) none), (PO.mk (some 1) (.mv (.t 14)) none)]) (.block 0 (.loop (.seq (.seq (.ops [(PO.mk (some 15) (.mv (.t 1)) none), (PO.mk (some 16) (.bin .geq (.t 15) (.k (.int .i64 0))) none), (PO.mk (some 17) (.mv (.t 16)) none), (PO.mk (some 18) (.mv (.t 5)) (some (17, true))), (PO.mk (some 19) (.lenSl (.t 18)) (some (17, true))), (PO.mk (some 20) (.bin .lss (.t 19) (.k (.int .i64 11))) (some (17, true))), (PO.mk (some 21) (.pick (.t 17) (.t 20) (.k (.bool false))) none)]) (.cond (.t 21) .skip (.exit 0))) (.seq (.block 1 (.ops [(PO.mk (some 30) (.mv (.t 5)) none), (PO.mk (some 31) (.mv (.t 0)) none), (PO.mk (some 32) (.nilck (.t 31)) none), (PO.mk (some 33) (.fldA 74 (.t 32)) none), (PO.mk (some 34) (.load false 1 (.t 33)) none), (PO.mk (some 35) (.mv (.t 1)) none), (PO.mk (some 36) (.idxSl 108 (.t 34) (.t 35)) none), (PO.mk (some 37) (.fldA 0 (.t 36)) none), (PO.mk (some 38) (.fldA 65 (.t 37)) none), (PO.mk (some 39) (.load false 1 (.t 38)) none), (PO.mk (some 40) (.bsl false 1 1 [(w32 0)] [(0, (1, (.t 39)))]) none), (PO.mk (some 41) (.app 1 4 (.t 30) (.t 40)) none), (PO.mk (some 5) (.mv (.t 41)) none)])) (.ops [(PO.mk (some 22) (.mv (.t 0)) none), (PO.mk (some 23) (.nilck (.t 22)) none), (PO.mk (some 24) (.fldA 74 (.t 23)) none), (PO.mk (some 25) (.load false 1 (.t 24)) none), (PO.mk (some 26) (.mv (.t 1)) none), (PO.mk (some 27) (.idxSl 108 (.t 25) (.t 26)) none), (PO.mk (some 28) (.fldA 100 (.t 27)) none), (PO.mk (some 29) (.load false 1 (.t 28)) none), (PO.mk (some 1) (.mv (.t 29)) none)])))))) (.seq (.ops [(PO.mk (some 42) (.mv (.t 5)) none), (PO.mk (some 43) (.call (F 164) [(.t 42)]) none), (PO.mk (some 4) (.mv (.t 43)) none)]) .ret))))
-- regions [0, 1, 2, 3, 4, 5, 6, 7]
/- (*tallystick/index.Tree).Next -/
def k167 (F : Fn) : PF := PF.mk 100 2 [(.t 4)] (.seq (.ops [(PO.mk (some 4) (.mv (.k (w32 0))) none)]) (.seq (.ops [(PO.mk (some 11) (.mv (.t 0)) none), (PO.mk (some 12) (.mv (.t 1)) none), (PO.mk (some 13) (.call (F 161) [(.t 11), (.t 12)]) none), (PO.mk (some 5) (.alloc z108_9b14) none), (PO.mk none (.store 108 (.t 5) (.t 13)) none)]) (.seq (.seq (.draw [(.e, (PO.mk (some 14) (.mv (.t 0)) none)), (.e, (PO.mk (some 15) (.nilck (.t 14)) none)), (.e, (PO.mk (some 16) (.fldA 0 (.t 15)) none)), (.e, (PO.mk (some 17) (.fldA 1 (.t 16)) none)), (.s, (PO.mk (some 18) (.load false 1 (.t 17)) none)), (.e, (PO.mk (some 19) (.bin .eql (.t 18) (.k (.int .i64 0))) none)), (.e, (PO.mk (some 20) (.mv (.t 19)) none)), (.e, (PO.mk (some 21) (.fldA 102 (.t 5)) (some (20, false)))), (.e, (PO.mk (some 24) (.mv (.t 0)) (some (20, false)))), (.e, (PO.mk (some 25) (.nilck (.t 24)) (some (20, false)))), (.e, (PO.mk (some 26) (.fldA 0 (.t 25)) (some (20, false)))), (.e, (PO.mk (some 27) (.fldA 1 (.t 26)) (some (20, false)))), (.s, (PO.mk (some 22) (.load false 1 (.t 21)) (some (20, false)))), (.e, (PO.mk (some 23) (.bin .add (.t 22) (.k (.int .i64 1))) (some (20, false)))), (.s, (PO.mk (some 28) (.load false 1 (.t 27)) (some (20, false)))), (.e, (PO.mk (some 29) (.bin .rem (.t 23) (.t 28)) (some (20, false)))), (.e, (PO.mk (some 30) (.bin .neq (.t 29) (.k (.int .i64 0))) (some (20, false)))), (.e, (PO.mk (some 31) (.pick (.t 20) (.k (.bool true)) (.t 30)) none))]) (.cond (.t 31) (.seq (.ops [(PO.mk (some 32) (.fldA 0 (.t 5)) none), (PO.mk (some 33) (.fldA 66 (.t 32)) none), (PO.mk (some 34) (.load false 1 (.t 33)) none), (PO.mk (some 4) (.mv (.t 34)) none)]) .ret) .skip)) (.seq (.draw [(.e, (PO.mk (some 35) (.mv (.t 0)) none)), (.e, (PO.mk (some 36) (.nilck (.t 35)) none)), (.e, (PO.mk (some 37) (.fldA 74 (.t 36)) none)), (.e, (PO.mk (some 39) (.mv (.t 0)) none)), (.e, (PO.mk (some 40) (.mv (.t 1)) none)), (.e, (PO.mk (some 41) (.mv (.t 0)) none)), (.e, (PO.mk (some 42) (.nilck (.t 41)) none)), (.e, (PO.mk (some 43) (.fldA 74 (.t 42)) none)), (.e, (PO.mk (some 49) (.fldA 102 (.t 5)) none)), (.e, (PO.mk (some 52) (.mv (.t 0)) none)), (.e, (PO.mk (some 53) (.nilck (.t 52)) none)), (.e, (PO.mk (some 54) (.fldA 0 (.t 53)) none)), (.e, (PO.mk (some 55) (.fldA 1 (.t 54)) none)), (.s, (PO.mk (some 38) (.load false 1 (.t 37)) none)), (.s, (PO.mk (some 44) (.load false 1 (.t 43)) none)), (.e, (PO.mk (some 45) (.lenSl (.t 44)) none)), (.e, (PO.mk (some 46) (.bin .sub (.t 45) (.k (.int .i64 1))) none)), (.e, (PO.mk (some 47) (.min [(.t 40), (.t 46)]) none)), (.e, (PO.mk (some 48) (.max [(.k (.int .i64 0)), (.t 47)]) none)), (.s, (PO.mk (some 50) (.load false 1 (.t 49)) none)), (.e, (PO.mk (some 51) (.bin .add (.t 50) (.k (.int .i64 1))) none)), (.s, (PO.mk (some 56) (.load false 1 (.t 55)) none)), (.e, (PO.mk (some 57) (.bin .sub (.t 51) (.t 56)) none)), (.e, (PO.mk (some 58) (.max [(.k (.int .i64 0)), (.t 57)]) none)), (.s, (PO.mk (some 59) (.call (F 158) [(.t 39), (.t 48), (.t 58)]) none)), (.e, (PO.mk (some 60) (.idxSl 108 (.t 38) (.t 59)) none)), (.s, (PO.mk (some 61) (.load true 108 (.t 60)) none)), (.a, (PO.mk (some 6) (.alloc z108_9b14) none)), (.x, (PO.mk none (.store 108 (.t 6) (.t 61)) none))]) (.seq (.ops [(PO.mk (some 63) (.mv (.t 0)) none), (PO.mk (some 64) (.nilck (.t 63)) none), (PO.mk (some 65) (.fldA 0 (.t 64)) none), (PO.mk (some 66) (.fldA 0 (.t 65)) none), (PO.mk (some 67) (.load false 1 (.t 66)) none), (PO.mk (some 68) (.call (F 135) [(.t 67)]) none), (PO.mk (some 62) (.mv (.t 68)) none), (PO.mk (some 69) (.ext 0 (.t 62)) none), (PO.mk (some 70) (.ext 1 (.t 62)) none), (PO.mk (some 7) (.alloc [(w64 0), (w64 0), (w64 0), (w64 0)]) none), (PO.mk none (.store 4 (.t 7) (.t 69)) none), (PO.mk (some 8) (.mv (.t 70)) none)]) (.seq (.draw [(.e, (PO.mk (some 72) (.fldA 0 (.t 5)) none)), (.e, (PO.mk (some 73) (.fldA 66 (.t 72)) none)), (.e, (PO.mk (some 75) (.fldA 0 (.t 5)) none)), (.e, (PO.mk (some 76) (.fldA 65 (.t 75)) none)), (.e, (PO.mk (some 79) (.fldA 0 (.t 6)) none)), (.e, (PO.mk (some 80) (.fldA 65 (.t 79)) none)), (.e, (PO.mk (some 84) (.mv (.t 0)) none)), (.e, (PO.mk (some 85) (.nilck (.t 84)) none)), (.e, (PO.mk (some 86) (.fldA 0 (.t 85)) none)), (.e, (PO.mk (some 87) (.fldA 1 (.t 86)) none)), (.e, (PO.mk (some 89) (.mv (.t 0)) none)), (.e, (PO.mk (some 90) (.nilck (.t 89)) none)), (.e, (PO.mk (some 91) (.fldA 0 (.t 90)) none)), (.e, (PO.mk (some 92) (.fldA 2 (.t 91)) none)), (.s, (PO.mk (some 74) (.load false 1 (.t 73)) none)), (.s, (PO.mk (some 77) (.load false 1 (.t 76)) none)), (.e, (PO.mk (some 78) (.conv .i64 (.t 77)) none)), (.s, (PO.mk (some 81) (.load false 1 (.t 80)) none)), (.e, (PO.mk (some 82) (.conv .i64 (.t 81)) none)), (.e, (PO.mk (some 83) (.bin .sub (.t 78) (.t 82)) none)), (.s, (PO.mk (some 88) (.load false 1 (.t 87)) none)), (.s, (PO.mk (some 93) (.load false 1 (.t 92)) none)), (.e, (PO.mk (some 94) (.bin .mul (.t 88) (.t 93)) none)), (.s, (PO.mk (some 95) (.load true 4 (.t 7)) none)), (.x, (PO.mk (some 96) (.call (F 138) [(.t 74), (.t 83), (.t 94), (.t 95)]) none)), (.e, (PO.mk (some 71) (.mv (.t 96)) none)), (.e, (PO.mk (some 97) (.ext 0 (.t 71)) none)), (.e, (PO.mk (some 98) (.ext 1 (.t 71)) none)), (.e, (PO.mk (some 9) (.mv (.t 97)) none)), (.e, (PO.mk (some 10) (.mv (.t 98)) none))]) (.seq (.ops [(PO.mk (some 99) (.mv (.t 9)) none), (PO.mk (some 4) (.mv (.t 99)) none)]) .ret)))))))
-- regions [0, 1, 2, 3, 4, 5, 6, 7, 8, 9, 10, 11, 12, 13, 14]
/- (*tallystick/index.Tree).Fits -/
def k168 (F : Fn) : PF := PF.mk 61 4 [(.t 8)] (.seq (.ops [(PO.mk (some 5) (.box (.t 1)) none), (PO.mk (some 8) (.mv (.k (.int .i64 0))) none)]) (.seq (.seq (.ops [(PO.mk (some 10) (.mv (.t 2)) none), (PO.mk (some 11) (.bin .lss (.t 10) (.k (.int .i64 0))) none), (PO.mk (some 12) (.mv (.t 11)) none), (PO.mk (some 13) (.mv (.t 2)) (some (12, false))), (PO.mk (some 14) (.mv (.t 0)) (some (12, false))), (PO.mk (some 15) (.nilck (.t 14)) (some (12, false))), (PO.mk (some 16) (.fldA 74 (.t 15)) (some (12, false))), (PO.mk (some 17) (.load false 1 (.t 16)) (some (12, false))), (PO.mk (some 18) (.lenSl (.t 17)) (some (12, false))), (PO.mk (some 19) (.bin .geq (.t 13) (.t 18)) (some (12, false))), (PO.mk (some 20) (.pick (.t 12) (.k (.bool true)) (.t 19)) none)]) (.cond (.t 20) (.seq (.ops [(PO.mk (some 8) (.mv (.k (.int .i64 100))) none)]) .ret) .skip)) (.seq (.seq (.draw [(.e, (PO.mk (some 22) (.mv (.t 0)) none)), (.e, (PO.mk (some 23) (.nilck (.t 22)) none)), (.e, (PO.mk (some 24) (.fldA 0 (.t 23)) none)), (.e, (PO.mk (some 25) (.fldA 0 (.t 24)) none)), (.s, (PO.mk (some 21) (.load true 68 (.t 5)) none)), (.s, (PO.mk (some 26) (.load false 1 (.t 25)) none)), (.x, (PO.mk (some 27) (.call (F 142) [(.t 21), (.t 26)]) none)), (.e, (PO.mk (some 9) (.mv (.t 27)) none))]) (.seq (.ops [(PO.mk (some 28) (.mv (.t 9)) none), (PO.mk (some 29) (.bin .neq (.t 28) (.k (.int .i64 0))) none)]) (.cond (.t 29) (.seq (.ops [(PO.mk (some 30) (.mv (.t 9)) none), (PO.mk (some 8) (.mv (.t 30)) none)]) .ret) .skip))) (.seq (.block 0 (.seq (.ops [(PO.mk (some 32) (.mv (.t 0)) none), (PO.mk (some 33) (.nilck (.t 32)) none), (PO.mk (some 34) (.fldA 74 (.t 33)) none), (PO.mk (some 35) (.load false 1 (.t 34)) none), (PO.mk (some 36) (.mv (.t 2)) none), (PO.mk (some 37) (.idxSl 108 (.t 35) (.t 36)) none), (PO.mk (some 38) (.fldA 107 (.t 37)) none), (PO.mk (some 39) (.load false 1 (.t 38)) none), (PO.mk (some 31) (.mv (.t 39)) none)]) (.cond (.t 31) (.seq (.ops [(PO.mk (some 8) (.mv (.k (.int .i64 101))) none)]) .ret) (.seq (.draw [(.e, (PO.mk (some 41) (.fldA 66 (.t 5)) none)), (.e, (PO.mk (some 43) (.mv (.t 0)) none)), (.e, (PO.mk (some 44) (.mv (.t 2)) none)), (.s, (PO.mk (some 42) (.load false 1 (.t 41)) none)), (.s, (PO.mk (some 45) (.call (F 167) [(.t 43), (.t 44)]) none)), (.e, (PO.mk (some 46) (.bin .neq (.t 42) (.t 45)) none)), (.e, (PO.mk (some 40) (.mv (.t 46)) none))]) (.cond (.t 40) (.seq (.ops [(PO.mk (some 8) (.mv (.k (.int .i64 30))) none)]) .ret) (.seq (.draw [(.e, (PO.mk (some 48) (.fldA 65 (.t 5)) none)), (.e, (PO.mk (some 50) (.mv (.t 0)) none)), (.e, (PO.mk (some 51) (.mv (.t 2)) none)), (.s, (PO.mk (some 49) (.load false 1 (.t 48)) none)), (.s, (PO.mk (some 52) (.call (F 166) [(.t 50), (.t 51)]) none)), (.e, (PO.mk (some 53) (.bin .leq (.t 49) (.t 52)) none)), (.e, (PO.mk (some 47) (.mv (.t 53)) none))]) (.cond (.t 47) (.seq (.ops [(PO.mk (some 8) (.mv (.k (.int .i64 102))) none)]) .ret) (.seq (.ops [(PO.mk (some 55) (.fldA 65 (.t 5)) none), (PO.mk (some 56) (.load false 1 (.t 55)) none), (PO.mk (some 57) (.conv .i64 (.t 56)) none), (PO.mk (some 58) (.bin .sub (.t 57) (.k (.int .i64 7200))) none), (PO.mk (some 59) (.mv (.t 3)) none), (PO.mk (some 60) (.bin .gtr (.t 58) (.t 59)) none), (PO.mk (some 54) (.mv (.t 60)) none)]) (.cond (.t 54) (.seq (.ops [(PO.mk (some 8) (.mv (.k (.int .i64 103))) none)]) .ret) .skip))))))))) (.seq (.ops [(PO.mk (some 8) (.mv (.k (.int .i64 0))) none)]) .ret)))))
-- regions [0, 1, 2, 3, 4, 5, 6, 7, 8, 9, 10, 11, 12]
/- (*tallystick/index.Tree).Add -/
def k169 (F : Fn) : PF := PF.mk 55 3 [(.t 6), (.t 7)] (.seq (.ops [(PO.mk (some 4) (.box (.t 1)) none), (PO.mk (some 6) (.mv (.k (.int .i64 0))) none), (PO.mk (some 7) (.mv (.k (.int .i64 0))) none)]) (.seq (.seq (.draw [(.e, (PO.mk (some 14) (.mv (.t 0)) none)), (.e, (PO.mk (some 15) (.nilck (.t 14)) none)), (.e, (PO.mk (some 16) (.fldA 75 (.t 15)) none)), (.s, (PO.mk (some 17) (.load false 1 (.t 16)) none)), (.s, (PO.mk (some 18) (.load true 68 (.t 4)) none)), (.s, (PO.mk (some 19) (.call (F 141) [(.t 18)]) none)), (.s, (PO.mk (some 20) (.lookup (.agg 32) (.int .i64 0) true (.t 17) (.t 19)) none)), (.e, (PO.mk (some 13) (.mv (.t 20)) none)), (.e, (PO.mk (some 21) (.ext 0 (.t 13)) none)), (.e, (PO.mk (some 22) (.ext 1 (.t 13)) none)), (.e, (PO.mk (some 8) (.mv (.t 21)) none)), (.e, (PO.mk (some 9) (.mv (.t 22)) none))]) (.seq (.ops [(PO.mk (some 23) (.mv (.t 9)) none)]) (.cond (.t 23) (.seq (.ops [(PO.mk (some 24) (.mv (.t 8)) none), (PO.mk (some 6) (.mv (.t 24)) none), (PO.mk (some 7) (.mv (.k (.int .i64 5))) none)]) .ret) .skip))) (.seq (.draw [(.e, (PO.mk (some 26) (.mv (.t 0)) none)), (.e, (PO.mk (some 27) (.nilck (.t 26)) none)), (.e, (PO.mk (some 28) (.fldA 75 (.t 27)) none)), (.e, (PO.mk (some 30) (.fldA 1 (.t 4)) none)), (.s, (PO.mk (some 29) (.load false 1 (.t 28)) none)), (.s, (PO.mk (some 31) (.load true 32 (.t 30)) none)), (.s, (PO.mk (some 32) (.lookup (.agg 32) (.int .i64 0) true (.t 29) (.t 31)) none)), (.e, (PO.mk (some 25) (.mv (.t 32)) none)), (.e, (PO.mk (some 33) (.ext 0 (.t 25)) none)), (.e, (PO.mk (some 34) (.ext 1 (.t 25)) none)), (.e, (PO.mk (some 10) (.mv (.t 33)) none)), (.e, (PO.mk (some 11) (.mv (.t 34)) none))]) (.seq (.seq (.ops [(PO.mk (some 35) (.mv (.t 11)) none), (PO.mk (some 36) (.not (.t 35)) none)]) (.cond (.t 36) (.seq (.ops [(PO.mk (some 6) (.mv (.k (.int .i64 (-1)))) none), (PO.mk (some 7) (.mv (.k (.int .i64 100))) none)]) .ret) .skip)) (.seq (.seq (.ops [(PO.mk (some 37) (.mv (.t 0)) none), (PO.mk (some 38) (.load true 68 (.t 4)) none), (PO.mk (some 39) (.mv (.t 10)) none), (PO.mk (some 40) (.mv (.t 2)) none), (PO.mk (some 41) (.call (F 168) [(.t 37), (.t 38), (.t 39), (.t 40)]) none), (PO.mk (some 12) (.mv (.t 41)) none)]) (.seq (.ops [(PO.mk (some 42) (.mv (.t 12)) none), (PO.mk (some 43) (.bin .neq (.t 42) (.k (.int .i64 0))) none)]) (.cond (.t 43) (.seq (.ops [(PO.mk (some 44) (.mv (.t 12)) none), (PO.mk (some 6) (.mv (.k (.int .i64 (-1)))) none), (PO.mk (some 7) (.mv (.t 44)) none)]) .ret) .skip))) (.seq (.seq (.ops [(PO.mk (some 45) (.mv (.t 0)) none), (PO.mk (some 46) (.nilck (.t 45)) none), (PO.mk (some 47) (.fldA 74 (.t 46)) none), (PO.mk (some 48) (.load false 1 (.t 47)) none), (PO.mk (some 49) (.lenSl (.t 48)) none), (PO.mk (some 50) (.bin .eql (.t 49) (.k (.int .i64 16384))) none)]) (.cond (.t 50) (.seq (.ops [(PO.mk (some 6) (.mv (.k (.int .i64 (-1)))) none), (PO.mk (some 7) (.mv (.k (.int .i64 3))) none)]) .ret) .skip)) (.seq (.ops [(PO.mk (some 51) (.mv (.t 0)) none), (PO.mk (some 52) (.load true 68 (.t 4)) none), (PO.mk (some 53) (.mv (.t 10)) none), (PO.mk (some 54) (.call (F 156) [(.t 51), (.t 52), (.t 53)]) none), (PO.mk (some 6) (.mv (.t 54)) none), (PO.mk (some 7) (.mv (.k (.int .i64 0))) none)]) .ret)))))))
-- regions [0, 1, 2, 3, 4, 5, 7, 8, 9, 10, 6, 11]
/- (*tallystick/index.Tree).Fail -/
def k170 (F : Fn) : PF := PF.mk 65 2 [(.t 4)] (.seq (.ops [(PO.mk (some 4) (.mv (.k (.int .i64 0))) none)]) (.seq (.seq (.ops [(PO.mk (some 8) (.mv (.t 1)) none), (PO.mk (some 9) (.bin .lss (.t 8) (.k (.int .i64 1))) none), (PO.mk (some 10) (.mv (.t 9)) none), (PO.mk (some 11) (.mv (.t 1)) (some (10, false))), (PO.mk (some 12) (.mv (.t 0)) (some (10, false))), (PO.mk (some 13) (.nilck (.t 12)) (some (10, false))), (PO.mk (some 14) (.fldA 74 (.t 13)) (some (10, false))), (PO.mk (some 15) (.load false 1 (.t 14)) (some (10, false))), (PO.mk (some 16) (.lenSl (.t 15)) (some (10, false))), (PO.mk (some 17) (.bin .geq (.t 11) (.t 16)) (some (10, false))), (PO.mk (some 18) (.pick (.t 10) (.k (.bool true)) (.t 17)) none)]) (.cond (.t 18) (.seq (.ops [(PO.mk (some 4) (.mv (.k (.int .i64 0))) none)]) .ret) .skip)) (.seq (.ops [(PO.mk (some 5) (.mv (.k (.int .i64 0))) none)]) (.seq (.seq (.ops [(PO.mk (some 19) (.mv (.t 1)) none), (PO.mk (some 6) (.mv (.t 19)) none)]) (.block 0 (.loop (.seq (.seq (.ops [(PO.mk (some 20) (.mv (.t 6)) none), (PO.mk (some 21) (.mv (.t 0)) none), (PO.mk (some 22) (.nilck (.t 21)) none), (PO.mk (some 23) (.fldA 74 (.t 22)) none), (PO.mk (some 24) (.load false 1 (.t 23)) none), (PO.mk (some 25) (.lenSl (.t 24)) none), (PO.mk (some 26) (.bin .lss (.t 20) (.t 25)) none)]) (.cond (.t 26) .skip (.exit 0))) (.seq (.block 1 (.seq (.ops [(PO.mk (some 29) (.mv (.t 0)) none), (PO.mk (some 30) (.nilck (.t 29)) none), (PO.mk (some 31) (.fldA 74 (.t 30)) none), (PO.mk (some 32) (.load false 1 (.t 31)) none), (PO.mk (some 33) (.mv (.t 6)) none), (PO.mk (some 34) (.idxSl 108 (.t 32) (.t 33)) none), (PO.mk (some 7) (.mv (.t 34)) none)]) (.seq (.ops [(PO.mk (some 35) (.mv (.t 7)) none), (PO.mk (some 36) (.nilck (.t 35)) none), (PO.mk (some 37) (.fldA 107 (.t 36)) none), (PO.mk (some 38) (.load false 1 (.t 37)) none), (PO.mk (some 39) (.not (.t 38)) none), (PO.mk (some 40) (.mv (.t 39)) none), (PO.mk (some 41) (.mv (.t 6)) (some (40, true))), (PO.mk (some 42) (.mv (.t 1)) (some (40, true))), (PO.mk (some 43) (.bin .eql (.t 41) (.t 42)) (some (40, true))), (PO.mk (some 44) (.mv (.t 43)) (some (40, true))), (PO.mk (some 45) (.mv (.t 7)) (some (44, false))), (PO.mk (some 46) (.nilck (.t 45)) (some (44, false))), (PO.mk (some 47) (.fldA 100 (.t 46)) (some (44, false))), (PO.mk (some 48) (.load false 1 (.t 47)) (some (44, false))), (PO.mk (some 49) (.mv (.t 1)) (some (44, false))), (PO.mk (some 50) (.bin .geq (.t 48) (.t 49)) (some (44, false))), (PO.mk (some 51) (.mv (.t 50)) (some (44, false))), (PO.mk (some 52) (.mv (.t 0)) (some (51, true))), (PO.mk (some 53) (.mv (.t 1)) (some (51, true))), (PO.mk (some 54) (.mv (.t 6)) (some (51, true))), (PO.mk (some 55) (.call (F 163) [(.t 52), (.t 53), (.t 54)]) (some (51, true))), (PO.mk (some 56) (.pick (.t 51) (.t 55) (.k (.bool false))) (some (44, false))), (PO.mk (some 57) (.pick (.t 44) (.k (.bool true)) (.t 56)) (some (40, true))), (PO.mk (some 58) (.pick (.t 40) (.t 57) (.k (.bool false))) none)]) (.cond (.t 58) (.seq (.ops [(PO.mk (some 59) (.mv (.t 7)) none), (PO.mk (some 60) (.nilck (.t 59)) none), (PO.mk (some 61) (.fldA 107 (.t 60)) none), (PO.mk none (.store 1 (.t 61) (.k (.bool true))) none)]) (.ops [(PO.mk (some 62) (.mv (.t 5)) none), (PO.mk (some 63) (.bin .add (.t 62) (.k (.int .i64 1))) none), (PO.mk (some 5) (.mv (.t 63)) none)])) .skip)))) (.ops [(PO.mk (some 27) (.mv (.t 6)) none), (PO.mk (some 28) (.bin .add (.t 27) (.k (.int .i64 1))) none), (PO.mk (some 6) (.mv (.t 28)) none)])))))) (.seq (.ops [(PO.mk (some 64) (.mv (.t 5)) none), (PO.mk (some 4) (.mv (.t 64)) none)]) .ret)))))
-- regions [0, 1]
/- slices.Sort[[]uint32,uint32] -/
def k165 (F : Fn) : PF := PF.mk 11 1 [] (.seq (.ops [(PO.mk (some 3) (.mv (.t 0)) none), (PO.mk (some 4) (.lenSl (.t 3)) none), (PO.mk (some 2) (.mv (.t 4)) none)]) (.ops [(PO.mk (some 5) (.mv (.t 0)) none), (PO.mk (some 6) (.mv (.t 2)) none), (PO.mk (some 7) (.mv (.t 2)) none), (PO.mk (some 8) (.conv .u64 (.t 7)) none), (PO.mk (some 9) (.call (F 171) [(.t 8)]) none), (PO.mk (some 10) (.call (F 172) [(.t 5), (.k (.int .i64 0)), (.t 6), (.t 9)]) none)]))
-- regions [0, 1, 2, 3, 4, 5, 6, 7, 8, 9, 10, 11, 12, 13, 14, 15, 16, 17, 18, 19, 20, 21, 22, 23, 24, 25, 26, 27, 28, 29, 30]
/- slices.pdqsortOrdered[uint32] -/
def k172 (F : Fn) : PF := PF.mk 134 4 [] (.seq (.ops [(PO.mk (some 8) (.mv (.k (.bool true))) none)]) (.seq (.ops [(PO.mk (some 9) (.mv (.k (.bool true))) none)]) (.block 0 (.loop (.block 1 (.seq (.ops [(PO.mk (some 19) (.mv (.t 2)) none), (PO.mk (some 20) (.mv (.t 1)) none), (PO.mk (some 21) (.bin .sub (.t 19) (.t 20)) none), (PO.mk (some 10) (.mv (.t 21)) none)]) (.seq (.seq (.ops [(PO.mk (some 22) (.mv (.t 10)) none), (PO.mk (some 23) (.bin .leq (.t 22) (.k (.int .i64 12))) none)]) (.cond (.t 23) (.seq (.ops [(PO.mk (some 24) (.mv (.t 0)) none), (PO.mk (some 25) (.mv (.t 1)) none), (PO.mk (some 26) (.mv (.t 2)) none), (PO.mk (some 27) (.call (F 173) [(.t 24), (.t 25), (.t 26)]) none)]) .ret) .skip)) (.seq (.seq (.ops [(PO.mk (some 28) (.mv (.t 3)) none), (PO.mk (some 29) (.bin .eql (.t 28) (.k (.int .i64 0))) none)]) (.cond (.t 29) (.seq (.ops [(PO.mk (some 30) (.mv (.t 0)) none), (PO.mk (some 31) (.mv (.t 1)) none), (PO.mk (some 32) (.mv (.t 2)) none), (PO.mk (some 33) (.call (F 174) [(.t 30), (.t 31), (.t 32)]) none)]) .ret) .skip)) (.seq (.seq (.ops [(PO.mk (some 34) (.mv (.t 8)) none), (PO.mk (some 35) (.not (.t 34)) none)]) (.cond (.t 35) (.seq (.ops [(PO.mk (some 36) (.mv (.t 0)) none), (PO.mk (some 37) (.mv (.t 1)) none), (PO.mk (some 38) (.mv (.t 2)) none), (PO.mk (some 39) (.call (F 175) [(.t 36), (.t 37), (.t 38)]) none)]) (.ops [(PO.mk (some 40) (.mv (.t 3)) none), (PO.mk (some 41) (.bin .sub (.t 40) (.k (.int .i64 1))) none), (PO.mk (some 3) (.mv (.t 41)) none)])) .skip)) (.seq (.ops [(PO.mk (some 43) (.mv (.t 0)) none), (PO.mk (some 44) (.mv (.t 1)) none), (PO.mk (some 45) (.mv (.t 2)) none), (PO.mk (some 46) (.call (F 176) [(.t 43), (.t 44), (.t 45)]) none), (PO.mk (some 42) (.mv (.t 46)) none), (PO.mk (some 47) (.ext 0 (.t 42)) none), (PO.mk (some 48) (.ext 1 (.t 42)) none), (PO.mk (some 11) (.mv (.t 47)) none), (PO.mk (some 12) (.mv (.t 48)) none)]) (.seq (.seq (.ops [(PO.mk (some 49) (.mv (.t 12)) none), (PO.mk (some 50) (.bin .eql (.t 49) (.k (.int .i64 2))) none)]) (.cond (.t 50) (.seq (.ops [(PO.mk (some 51) (.mv (.t 0)) none), (PO.mk (some 52) (.mv (.t 1)) none), (PO.mk (some 53) (.mv (.t 2)) none), (PO.mk (some 54) (.call (F 177) [(.t 51), (.t 52), (.t 53)]) none)]) (.seq (.ops [(PO.mk (some 55) (.mv (.t 2)) none), (PO.mk (some 56) (.bin .sub (.t 55) (.k (.int .i64 1))) none), (PO.mk (some 57) (.mv (.t 11)) none), (PO.mk (some 58) (.mv (.t 1)) none), (PO.mk (some 59) (.bin .sub (.t 57) (.t 58)) none), (PO.mk (some 60) (.bin .sub (.t 56) (.t 59)) none), (PO.mk (some 11) (.mv (.t 60)) none)]) (.ops [(PO.mk (some 12) (.mv (.k (.int .i64 1))) none)]))) .skip)) (.seq (.seq (.ops [(PO.mk (some 61) (.mv (.t 8)) none), (PO.mk (some 62) (.mv (.t 61)) none), (PO.mk (some 63) (.mv (.t 9)) (some (62, true))), (PO.mk (some 64) (.pick (.t 62) (.t 63) (.k (.bool false))) none), (PO.mk (some 65) (.mv (.t 64)) none), (PO.mk (some 66) (.mv (.t 12)) (some (65, true))), (PO.mk (some 67) (.bin .eql (.t 66) (.k (.int .i64 1))) (some (65, true))), (PO.mk (some 68) (.pick (.t 65) (.t 67) (.k (.bool false))) none)]) (.cond (.t 68) (.seq (.ops [(PO.mk (some 69) (.mv (.t 0)) none), (PO.mk (some 70) (.mv (.t 1)) none), (PO.mk (some 71) (.mv (.t 2)) none), (PO.mk (some 72) (.call (F 178) [(.t 69), (.t 70), (.t 71)]) none)]) (.cond (.t 72) .ret .skip)) .skip)) (.seq (.seq (.draw [(.e, (PO.mk (some 73) (.mv (.t 1)) none)), (.e, (PO.mk (some 74) (.bin .gtr (.t 73) (.k (.int .i64 0))) none)), (.e, (PO.mk (some 75) (.mv (.t 74)) none)), (.e, (PO.mk (some 76) (.mv (.t 0)) (some (75, true)))), (.e, (PO.mk (some 77) (.mv (.t 1)) (some (75, true)))), (.e, (PO.mk (some 78) (.bin .sub (.t 77) (.k (.int .i64 1))) (some (75, true)))), (.e, (PO.mk (some 79) (.idxSl 1 (.t 76) (.t 78)) (some (75, true)))), (.e, (PO.mk (some 81) (.mv (.t 0)) (some (75, true)))), (.e, (PO.mk (some 82) (.mv (.t 11)) (some (75, true)))), (.e, (PO.mk (some 83) (.idxSl 1 (.t 81) (.t 82)) (some (75, true)))), (.s, (PO.mk (some 80) (.load false 1 (.t 79)) (some (75, true)))), (.s, (PO.mk (some 84) (.load false 1 (.t 83)) (some (75, true)))), (.x, (PO.mk (some 85) (.call (F 179) [(.t 80), (.t 84)]) (some (75, true)))), (.e, (PO.mk (some 86) (.not (.t 85)) (some (75, true)))), (.e, (PO.mk (some 87) (.pick (.t 75) (.t 86) (.k (.bool false))) none))]) (.cond (.t 87) (.seq (.ops [(PO.mk (some 88) (.mv (.t 0)) none), (PO.mk (some 89) (.mv (.t 1)) none), (PO.mk (some 90) (.mv (.t 2)) none), (PO.mk (some 91) (.mv (.t 11)) none), (PO.mk (some 92) (.call (F 180) [(.t 88), (.t 89), (.t 90), (.t 91)]) none), (PO.mk (some 13) (.mv (.t 92)) none)]) (.seq (.ops [(PO.mk (some 93) (.mv (.t 13)) none), (PO.mk (some 1) (.mv (.t 93)) none)]) (.exit 1))) .skip)) (.seq (.ops [(PO.mk (some 95) (.mv (.t 0)) none), (PO.mk (some 96) (.mv (.t 1)) none), (PO.mk (some 97) (.mv (.t 2)) none), (PO.mk (some 98) (.mv (.t 11)) none), (PO.mk (some 99) (.call (F 181) [(.t 95), (.t 96), (.t 97), (.t 98)]) none), (PO.mk (some 94) (.mv (.t 99)) none), (PO.mk (some 100) (.ext 0 (.t 94)) none), (PO.mk (some 101) (.ext 1 (.t 94)) none), (PO.mk (some 14) (.mv (.t 100)) none), (PO.mk (some 15) (.mv (.t 101)) none)]) (.seq (.ops [(PO.mk (some 102) (.mv (.t 15)) none), (PO.mk (some 9) (.mv (.t 102)) none)]) (.seq (.ops [(PO.mk (some 103) (.mv (.t 14)) none), (PO.mk (some 104) (.mv (.t 1)) none), (PO.mk (some 105) (.bin .sub (.t 103) (.t 104)) none), (PO.mk (some 106) (.mv (.t 2)) none), (PO.mk (some 107) (.mv (.t 14)) none), (PO.mk (some 108) (.bin .sub (.t 106) (.t 107)) none), (PO.mk (some 16) (.mv (.t 105)) none), (PO.mk (some 17) (.mv (.t 108)) none)]) (.seq (.ops [(PO.mk (some 109) (.mv (.t 10)) none), (PO.mk (some 110) (.bin .quo (.t 109) (.k (.int .i64 8))) none), (PO.mk (some 18) (.mv (.t 110)) none)]) (.seq (.ops [(PO.mk (some 111) (.mv (.t 16)) none), (PO.mk (some 112) (.mv (.t 17)) none), (PO.mk (some 113) (.bin .lss (.t 111) (.t 112)) none)]) (.cond (.t 113) (.seq (.ops [(PO.mk (some 114) (.mv (.t 16)) none), (PO.mk (some 115) (.mv (.t 18)) none), (PO.mk (some 116) (.bin .geq (.t 114) (.t 115)) none), (PO.mk (some 8) (.mv (.t 116)) none)]) (.seq (.ops [(PO.mk (some 117) (.mv (.t 0)) none), (PO.mk (some 118) (.mv (.t 1)) none), (PO.mk (some 119) (.mv (.t 14)) none), (PO.mk (some 120) (.mv (.t 3)) none), (PO.mk (some 121) (.call (F 172) [(.t 117), (.t 118), (.t 119), (.t 120)]) none)]) (.ops [(PO.mk (some 122) (.mv (.t 14)) none), (PO.mk (some 123) (.bin .add (.t 122) (.k (.int .i64 1))) none), (PO.mk (some 1) (.mv (.t 123)) none)]))) (.seq (.ops [(PO.mk (some 124) (.mv (.t 17)) none), (PO.mk (some 125) (.mv (.t 18)) none), (PO.mk (some 126) (.bin .geq (.t 124) (.t 125)) none), (PO.mk (some 8) (.mv (.t 126)) none)]) (.seq (.ops [(PO.mk (some 127) (.mv (.t 0)) none), (PO.mk (some 128) (.mv (.t 14)) none), (PO.mk (some 129) (.bin .add (.t 128) (.k (.int .i64 1))) none), (PO.mk (some 130) (.mv (.t 2)) none), (PO.mk (some 131) (.mv (.t 3)) none), (PO.mk (some 132) (.call (F 172) [(.t 127), (.t 129), (.t 130), (.t 131)]) none)]) (.ops [(PO.mk (some 133) (.mv (.t 14)) none), (PO.mk (some 2) (.mv (.t 133)) none)]))))))))))))))))))))))
-- regions [0, 1, 3, 4, 6, 5, 2]
/- slices.insertionSortOrdered[uint32] -/
def k173 (F : Fn) : PF := PF.mk 49 3 [] (.seq (.ops [(PO.mk (some 8) (.mv (.t 1)) none), (PO.mk (some 9) (.bin .add (.t 8) (.k (.int .i64 1))) none), (PO.mk (some 6) (.mv (.t 9)) none)]) (.block 0 (.loop (.seq (.seq (.ops [(PO.mk (some 10) (.mv (.t 6)) none), (PO.mk (some 11) (.mv (.t 2)) none), (PO.mk (some 12) (.bin .lss (.t 10) (.t 11)) none)]) (.cond (.t 12) .skip (.exit 0))) (.seq (.block 1 (.seq (.ops [(PO.mk (some 15) (.mv (.t 6)) none), (PO.mk (some 7) (.mv (.t 15)) none)]) (.block 2 (.loop (.seq (.seq (.draw [(.e, (PO.mk (some 16) (.mv (.t 7)) none)), (.e, (PO.mk (some 17) (.mv (.t 1)) none)), (.e, (PO.mk (some 18) (.bin .gtr (.t 16) (.t 17)) none)), (.e, (PO.mk (some 19) (.mv (.t 18)) none)), (.e, (PO.mk (some 20) (.mv (.t 0)) (some (19, true)))), (.e, (PO.mk (some 21) (.mv (.t 7)) (some (19, true)))), (.e, (PO.mk (some 22) (.idxSl 1 (.t 20) (.t 21)) (some (19, true)))), (.e, (PO.mk (some 24) (.mv (.t 0)) (some (19, true)))), (.e, (PO.mk (some 25) (.mv (.t 7)) (some (19, true)))), (.e, (PO.mk (some 26) (.bin .sub (.t 25) (.k (.int .i64 1))) (some (19, true)))), (.e, (PO.mk (some 27) (.idxSl 1 (.t 24) (.t 26)) (some (19, true)))), (.s, (PO.mk (some 23) (.load false 1 (.t 22)) (some (19, true)))), (.s, (PO.mk (some 28) (.load false 1 (.t 27)) (some (19, true)))), (.x, (PO.mk (some 29) (.call (F 179) [(.t 23), (.t 28)]) (some (19, true)))), (.e, (PO.mk (some 30) (.pick (.t 19) (.t 29) (.k (.bool false))) none))]) (.cond (.t 30) .skip (.exit 2))) (.seq (.block 3 (.draw [(.e, (PO.mk (some 33) (.mv (.t 0)) none)), (.e, (PO.mk (some 34) (.mv (.t 7)) none)), (.e, (PO.mk (some 35) (.mv (.t 0)) none)), (.e, (PO.mk (some 36) (.mv (.t 7)) none)), (.e, (PO.mk (some 37) (.bin .sub (.t 36) (.k (.int .i64 1))) none)), (.e, (PO.mk (some 38) (.mv (.t 0)) none)), (.e, (PO.mk (some 39) (.mv (.t 7)) none)), (.e, (PO.mk (some 40) (.bin .sub (.t 39) (.k (.int .i64 1))) none)), (.e, (PO.mk (some 41) (.idxSl 1 (.t 38) (.t 40)) none)), (.e, (PO.mk (some 43) (.mv (.t 0)) none)), (.e, (PO.mk (some 44) (.mv (.t 7)) none)), (.e, (PO.mk (some 45) (.idxSl 1 (.t 43) (.t 44)) none)), (.s, (PO.mk (some 42) (.load false 1 (.t 41)) none)), (.s, (PO.mk (some 46) (.load false 1 (.t 45)) none)), (.e, (PO.mk (some 47) (.idxSl 1 (.t 33) (.t 34)) none)), (.x, (PO.mk none (.store 1 (.t 47) (.t 42)) none)), (.e, (PO.mk (some 48) (.idxSl 1 (.t 35) (.t 37)) none)), (.x, (PO.mk none (.store 1 (.t 48) (.t 46)) none))])) (.ops [(PO.mk (some 31) (.mv (.t 7)) none), (PO.mk (some 32) (.bin .sub (.t 31) (.k (.int .i64 1))) none), (PO.mk (some 7) (.mv (.t 32)) none)]))))))) (.ops [(PO.mk (some 13) (.mv (.t 6)) none), (PO.mk (some 14) (.bin .add (.t 13) (.k (.int .i64 1))) none), (PO.mk (some 6) (.mv (.t 14)) none)]))))))
-- regions [0, 1]
/- cmp.Less[uint32] -/
def k179 (F : Fn) : PF := PF.mk 17 2 [(.t 4)] (.seq (.ops [(PO.mk (some 4) (.mv (.k (.bool false))) none)]) (.seq (.ops [(PO.mk (some 5) (.mv (.t 0)) none), (PO.mk (some 6) (.call (F 182) [(.t 5)]) none), (PO.mk (some 7) (.mv (.t 6)) none), (PO.mk (some 8) (.mv (.t 1)) (some (7, true))), (PO.mk (some 9) (.call (F 182) [(.t 8)]) (some (7, true))), (PO.mk (some 10) (.not (.t 9)) (some (7, true))), (PO.mk (some 11) (.pick (.t 7) (.t 10) (.k (.bool false))) none), (PO.mk (some 12) (.mv (.t 11)) none), (PO.mk (some 13) (.mv (.t 0)) (some (12, false))), (PO.mk (some 14) (.mv (.t 1)) (some (12, false))), (PO.mk (some 15) (.bin .lss (.t 13) (.t 14)) (some (12, false))), (PO.mk (some 16) (.pick (.t 12) (.k (.bool true)) (.t 15)) none), (PO.mk (some 4) (.mv (.t 16)) none)]) .ret))
-- regions [0, 1]
/- cmp.isNaN[uint32] -/
def k182 (F : Fn) : PF := PF.mk 6 1 [(.t 2)] (.seq (.ops [(PO.mk (some 2) (.mv (.k (.bool false))) none)]) (.seq (.ops [(PO.mk (some 3) (.mv (.t 0)) none), (PO.mk (some 4) (.mv (.t 0)) none), (PO.mk (some 5) (.bin .neq (.t 3) (.t 4)) none), (PO.mk (some 2) (.mv (.t 5)) none)]) .ret))
-- regions [0, 1, 2]
/- math/bits.Len -/
def k171 (F : Fn) : PF := PF.mk 8 1 [(.t 2)] (.seq (.ops [(PO.mk (some 2) (.mv (.k (.int .i64 0))) none)]) (.seq (.cond (.k (.bool false)) (.seq (.ops [(PO.mk (some 3) (.mv (.t 0)) none), (PO.mk (some 4) (.conv .u32 (.t 3)) none), (PO.mk (some 5) (.call (F 183) [(.t 4)]) none), (PO.mk (some 2) (.mv (.t 5)) none)]) .ret) .skip) (.seq (.ops [(PO.mk (some 6) (.mv (.t 0)) none), (PO.mk (some 7) (.call (F 115) [(.t 6)]) none), (PO.mk (some 2) (.mv (.t 7)) none)]) .ret)))
structure OkIndex (P : Program) (F : Fn) : Prop where
  mixed : P.follows .mixedOrders = true
  toOkHead : OkHead P F
  h154 : compFn P ⟨[], [], [], [], []⟩ (F 154) = some (k154 F)
  h155 : compFn P ⟨[], [], [], [], []⟩ (F 155) = some (k155 F)
  h156 : compFn P ⟨[], [], [], [], []⟩ (F 156) = some (k156 F)
  h157 : compFn P ⟨[], [], [], [], []⟩ (F 157) = some (k157 F)
  h159 : compFn P ⟨[], [], [], [], []⟩ (F 159) = some (k159 F)
  h161 : compFn P ⟨[], [], [], [], []⟩ (F 161) = some (k161 F)
  h158 : compFn P ⟨[], [], [], [], []⟩ (F 158) = some (k158 F)
  h163 : compFn P ⟨[], [], [], [], []⟩ (F 163) = some (k163 F)
  h164 : compFn P ⟨[], [], [], [], []⟩ (F 164) = some (k164 F)
  h166 : compFn P ⟨[], [], [], [], []⟩ (F 166) = some (k166 F)
  h167 : compFn P ⟨[], [], [], [], []⟩ (F 167) = some (k167 F)
  h168 : compFn P ⟨[], [], [], [], []⟩ (F 168) = some (k168 F)
  h169 : compFn P ⟨[], [], [], [], []⟩ (F 169) = some (k169 F)
  h170 : compFn P ⟨[], [], [], [], []⟩ (F 170) = some (k170 F)
  h165 : compFn P ⟨[], [], [], [], []⟩ (F 165) = some (k165 F)
  h172 : compFn P ⟨[], [], [], [], []⟩ (F 172) = some (k172 F)
  h173 : compFn P ⟨[], [], [], [], []⟩ (F 173) = some (k173 F)
  h179 : compFn P ⟨[], [], [], [], []⟩ (F 179) = some (k179 F)
  h182 : compFn P ⟨[], [], [], [], []⟩ (F 182) = some (k182 F)
  h171 : compFn P ⟨[], [], [], [], []⟩ (F 171) = some (k171 F)
end Go.Ab

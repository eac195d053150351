import Derived.Test.YtigmjhijbdpfkaaG4
set_option linter.unusedSimpArgs false
set_option linter.unusedVariables false
set_option maxRecDepth 10000
namespace Go.Ab
open Go Go.RowKit
section
variable {P : Program} {F : Fn}
inductive Parts (st : St) : List V → List (List UInt8) → Prop
  | nil : Parts st [] []
  | cons {s : V} {l : List UInt8} {ss : List V} {ls : List (List UInt8)} (h : Rd 1 e8 s l st) (t : Parts st ss ls) : Parts st (s :: ss) (l :: ls)
theorem Parts.sub {st st' : St} {ss : List V} {ls : List (List UInt8)} (h : Parts st ss ls) (hs : St.sub st st') : Parts st' ss ls := by
  induction h with
  | nil => exact .nil
  | cons h t ih => exact .cons (h.sub hs) ih
theorem Parts.len {st : St} {ss : List V} {ls : List (List UInt8)} (h : Parts st ss ls) : ss.length = ls.length := by
  induction h with
  | nil => rfl
  | cons h t ih => simp [ih]
theorem Parts.get {st : St} {ss : List V} {ls : List (List UInt8)} (h : Parts st ss ls) {i : Nat} (hi : i < ls.length) : Rd 1 e8 (ss[i]'(by rw [h.len]; exact hi)) ls[i] st := by
  induction h generalizing i with
  | nil => simp at hi
  | cons h t ih =>
    cases i with
    | zero => exact h
    | succ i => exact ih (by simpa using hi)
def PartsA (ss : List V) (ls : List (List UInt8)) : Asn := fun h => Parts h ss ls
theorem Sep.parts {ss : List V} {ls : List (List UInt8)} {L : List Asn} {st : St} (h : Sep (PartsA ss ls :: L) st) : Parts st ss ls := by
  obtain ⟨h', h1, h2⟩ := h.part
  exact h2.sub h1
theorem cells8_len (v : V8) : (cells8 v).length = 8 := rfl
def s1 (s : V) : List V := [s]
theorem zR32_rep : zR32_w80 = (List.replicate 32 (0 : UInt8)).map w8 := rfl
theorem bytesOf_e8 : ∀ l : List UInt8, bytesOf (rowsOf e8 l) = some l
  | [] => rfl
  | b :: l => by
    have ih := bytesOf_e8 l
    simp [rowsOf_cons, e8, bytesOf, ih]
theorem toStr_rd {s : V} {l : List UInt8} {st : St} (h : Rd 1 e8 s l st) (hs : ∀ x, s ≠ .str x) : toStrV st s = some (.str ⟨l.toArray⟩) := by
  have he := h.elems e8_len
  unfold toStrV
  split
  · rename_i x; exact absurd rfl (hs x)
  · rw [he]
    simp [bytesOf_e8]
theorem set4 {α : Type} (p : List α) (z a b c d : α) (n : Nat) : ((((p ++ List.replicate (n + 4) z).set p.length a).set (p.length + 1) b).set (p.length + 2) c).set (p.length + 3) d = p ++ [a, b, c, d] ++ List.replicate n z := by
  have e : List.replicate (n + 4) z = z :: z :: z :: z :: List.replicate n z := rfl
  rw [e, List.set_append_right _ _ (by omega), List.set_append_right _ _ (by omega), List.set_append_right _ _ (by omega), List.set_append_right _ _ (by omega)]
  simp
theorem str_beq (a b : ByteArray) : (a == b) = (a.data == b.data) := rfl
theorem ext_mk (l : List UInt8) (a b : Nat) : ByteArray.extract ⟨l.toArray⟩ a b = ⟨((l.drop a).take (b - a)).toArray⟩ := by
  apply ByteArray.ext
  simp
theorem str_ne (l : List UInt8) : ((⟨l.toArray⟩ : ByteArray) != ⟨⟨[]⟩⟩) = decide (l ≠ []) := by
  unfold bne
  rw [str_beq]
  cases l <;> rfl
def tailB (n : Nat) (i : Nat) : UInt8 := UInt8.ofBitVec (((BitVec.ofNat 64 n * 8) >>> i).setWidth 8)
def tailL : List Nat := [56, 48, 40, 32, 24, 16, 8, 0]
theorem tail_at : ∀ q : Fin 8, tailL.take (q.val + 1) = tailL.take q.val ++ [56 - 8 * q.val] := by decide
theorem spec103 (ok : OkHash P F) (st : St) {ss : List V} {ls : List (List UInt8)} (hp : Parts st ss ls) (k0 : SK) (hl : ls.flatten.length ≤ 100000000) (hls : ls.length ≤ 1000000) : ACalls P (F 103) [.sl k0 ss ss.length] st fun v st' => v = .agg (eId (sha ls.flatten)) ∧ st' = st := by
  refine shows_call ok.mixed ok.h103 (by simp [k103]) ?_
  simp only [k103]
  simp
  intro rid hrid
  have S := Sep.start st
  have S := S.new hrid (.cells zR32_w80)
  generalize st.upd rid _ = st1 at S ⊢
  have S : Sep [Slx 1 e8 (.sl .nil [] 0) (ls.take 0).flatten, pt rid (.cells zR32_w80), Was st] st1 := Sep.slxNil S
  simp
  refine vc_loopJ (fun k env' st' => ∃ i s, i ≤ ls.length ∧ k = ls.length - i ∧ env' 15 = .int .i64 (i : Nat) ∧ env' 3 = s ∧ Sep [Slx 1 e8 s (ls.take i).flatten, pt rid (.cells zR32_w80), Was st] st') ls.length
    ⟨0, _, by omega, by omega, rfl, rfl, S⟩ ?_
  clear S
  rintro J hJ k env' st2 hsame ⟨i, s, hi, rfl, h15, h3, S⟩
  have g2 : env' 2 = .ptr (some (rid, 0)) := hsame.get 2 rfl
  have g13 : env' 13 = .sl k0 ss ss.length := hsame.get 13 rfl
  have g14 : env' 14 = .int .i64 ss.length := hsame.get 14 rfl
  clear hsame
  have hsl := hp.len
  have w2 : IntKind.i64.wrap ((i : Int) + 1) = (i : Int) + 1 := wrap64 (by omega) (by omega)
  by_cases hlt : i < ls.length
  · have pr := (hp.sub (S.was' (by simp))).get hlt
    have hlt' : i < ss.length := by omega
    have hsg : segOf (ss.drop i) 0 1 = some [ss[i]] := by
      unfold segOf
      rw [if_pos (by simp; omega), List.drop_zero, List.drop_eq_getElem_cons hlt']
      rfl
    have hel := pr.elems e8_len
    simp [g2, g13, g14, h15, h3, hlt', hsg, hel]
    have hfl : (ls.take i).flatten.length + ls[i].length ≤ ls.flatten.length := by
      have e : ls.flatten = (ls.take i).flatten ++ (ls[i] ++ (ls.drop (i + 1)).flatten) := by
        rw [← List.flatten_cons, ← List.drop_eq_getElem_cons hlt, ← List.flatten_append, List.take_append_drop]
      rw [e, List.length_append, List.length_append]
      omega
    refine Sep.appx (b := 1) e8_len (by omega) S (m := ls[i]) (by omega) ?_
    intro s' st3 S3
    simp [h15, w2]
    refine Round.mk (ls.length - (i + 1)) _ (show ls.length - (i + 1) < ls.length - i by omega) (sub_self _) (hJ _ _ _ ⟨i + 1, s', by omega, rfl, by simp, by simp, ?_⟩)
    rw [List.take_succ_eq_append_getElem hlt, List.flatten_append]
    simpa using S3
  · have : i = ls.length := by omega
    subst this
    rw [List.take_length] at S
    obtain ⟨l, hll⟩ : ∃ l, l = ls.flatten := ⟨_, rfl⟩
    rw [← hll] at S hl ⊢
    have hlt' : ¬ ((ls.length : Int) < ss.length) := by omega
    have S : Sep [Sl 1 e8 s l, pt rid (.cells zR32_w80), Was st] st2 := S.head fun h hh => hh.sl
    have hsl2 := (Sep.rd e8_len S).len
    simp [g2, g13, g14, h15, h3, hlt', hsl2, fillV, repV, spliceV, elems]
    refine Sep.app1 e8_len (by omega) S (a := 0x80) rfl (by omega) ?_
    intro s1 st3 S
    simp
    obtain ⟨Z, hZ⟩ : ∃ Z, Z = (119 - l.length % 64) % 64 := ⟨_, rfl⟩
    clear hJ J
    refine vc_loopJ (fun k env' st' => ∃ z s, z ≤ Z ∧ k = Z - z ∧ env' 3 = s ∧ Sep [Sl 1 e8 s (l ++ 0x80 :: List.replicate z 0), pt rid (.cells zR32_w80), Was st] st') Z
      ⟨0, _, by omega, by omega, rfl, S⟩ ?_
    clear S
    rintro J hJ k env2 st4 hsame ⟨z, s2, hz, rfl, h3, S⟩
    have q2 : env2 2 = .ptr (some (rid, 0)) := (hsame.get 2 rfl).trans g2
    have q6 : env2 6 = .int .i64 l.length := hsame.get 6 rfl
    clear hsame
    have hln := (Sep.rd e8_len S).len
    have hle : (l ++ 0x80 :: List.replicate z (0 : UInt8)).length = l.length + 1 + z := by simp; omega
    rw [hle] at hln
    have htm : Int.tmod ((l.length + 1 + z : Nat) : Int) 64 = (((l.length + 1 + z) % 64 : Nat) : Int) := rfl
    obtain ⟨m, hm⟩ : ∃ m, m = l.length + 1 + z := ⟨_, rfl⟩
    rw [← hm] at hln htm
    by_cases h56 : m % 64 = 56
    · have : z = Z := by omega
      subst this
      have h56' : ((m : Int).tmod 64 != 56) = false := by rw [htm, h56]; rfl
      simp [h3, hln, h56']
      obtain ⟨pre, hpre⟩ : ∃ pre, pre = l ++ 0x80 :: List.replicate z (0 : UInt8) := ⟨_, rfl⟩
      rw [← hpre] at S hle
      clear hJ J
      refine vc_loopJ (fun k env' st' => ∃ q s, q ≤ 8 ∧ k = 8 - q ∧ env' 7 = .int .i64 (56 - 8 * (q : Int)) ∧ env' 3 = s ∧ Sep [Sl 1 e8 s (pre ++ (tailL.take q).map (tailB l.length)), pt rid (.cells zR32_w80), Was st] st') 8
        ⟨0, _, by omega, by omega, rfl, h3, by simpa using S⟩ ?_
      clear S
      rintro J hJ k env3 st5 hsame ⟨q, s3, hq, rfl, h7, h3, S⟩
      have r2 : env3 2 = .ptr (some (rid, 0)) := (hsame.get 2 rfl).trans q2
      have r6 : env3 6 = .int .i64 l.length := (hsame.get 6 rfl).trans q6
      clear hsame
      have w8' : IntKind.i64.wrap (56 - 8 * (q : Int) - 8) = 56 - 8 * ((q + 1 : Nat) : Int) := by rw [wrap64 (by omega) (by omega)]; omega
      by_cases hlt8 : q < 8
      · have hge : 8 * (q : Int) ≤ 56 := by omega
        have hsh := bin64_shr (BitVec.ofNat 64 l.length * 8#64) .i64 (56 - 8 * q)
        rw [show ((56 - 8 * q : Nat) : Int) = 56 - 8 * (q : Int) by omega] at hsh
        have hlen : (pre ++ (tailL.take q).map (tailB l.length)).length ≤ 100000200 := by
          rw [List.length_append, hle, List.length_map, List.length_take]
          omega
        simp [r2, r6, h7, h3, hge, hsh, fillV, repV, spliceV, elems]
        refine Sep.app1 (b := 1) e8_len (by omega) S (a := tailB l.length (56 - 8 * q)) ?_ (by omega) ?_
        · rfl
        · intro s4 st6 S
          simp [h7, w8']
          refine Round.mk (8 - (q + 1)) _ (show 8 - (q + 1) < 8 - q by omega) (sub_self _) (hJ _ _ _ ⟨q + 1, s4, by omega, rfl, by simp [w8'], by simp, ?_⟩)
          rw [tail_at ⟨q, hlt8⟩, List.map_append, ← List.append_assoc]
          exact S
      · have : q = 8 := by omega
        subst this
        have hpad : pre ++ (tailL.take 8).map (tailB l.length) = padM l := by
          rw [hpre, padM, ← hZ]
          simp only [List.append_assoc, List.cons_append]
          rfl
        rw [hpad] at S
        have rd := Sep.rd e8_len S
        have hns : ∀ x, s3 ≠ .str x := by
          rintro x rfl
          rcases rd with ⟨k, h⟩ | ⟨_, _, h, _⟩ <;> cases h
        have hts := toStr_rd rd hns
        simp [r2, r6, h7, h3, fillV, spliceV]
        intro vid hvid
        have S := S.new hvid (.cells (cells8 iv))
        simp [storeS, spliceV]
        have hiv : [w32 1779033703#32, w32 3144134277#32, w32 1013904242#32, w32 2773480762#32, w32 1359893119#32, w32 2600822924#32, w32 528734635#32, w32 1541459225#32] = cells8 iv := rfl
        rw [hiv]
        generalize st5.upd vid (.cells (cells8 iv)) = st6 at S ⊢
        have hts := toStr_rd (Sep.rd e8_len S.swap) hns
        have S : Sep [pt vid (.cells (cells8 iv)), pt rid (.cells zR32_w80), Was st] st6 := Sep.tail (fun r hr => hr.drop) S
        simp [h3, hts]
        have hpl : (padM l).length % 64 = 0 := by
          simp [padM]
          omega
        refine vc_loopJ (fun k env' st' => ∃ hc rest, k = rest.length ∧ env' 9 = .str ⟨rest.toArray⟩ ∧ rest.length % 64 = 0 ∧ blocksM (rest.length / 64) hc rest = blocksM ((padM l).length / 64) iv (padM l) ∧ Sep [pt vid (.cells (cells8 hc)), pt rid (.cells zR32_w80), Was st] st') (padM l).length
          ⟨_, _, rfl, rfl, hpl, rfl, S⟩ ?_
        clear S
        rintro J5 hJ5 k env5 st7 hsame ⟨hc, rest, rfl, h9, hr64, hbl, S⟩
        have t2 : env5 2 = .ptr (some (rid, 0)) := (hsame.get 2 rfl).trans r2
        have t8 : env5 8 = .ptr (some (vid, 0)) := hsame.get 8 rfl
        clear hsame
        have hne := str_ne rest
        by_cases hnil : rest = []
        · subst hnil
          have hfin : hc = blocksM ((padM l).length / 64) iv (padM l) := hbl
          have ov := S.get
          have hcc : cells8 hc = [w32 hc.a, w32 hc.b, w32 hc.c, w32 hc.d, w32 hc.e, w32 hc.f, w32 hc.g, w32 hc.h] := rfl
          simp [t2, t8, h9, hne]
          intro oid hoid
          have S := S.new hoid (.cells zR32_w80)
          generalize st7.upd oid (.cells zR32_w80) = st8 at S ⊢
          have ov := S.swap.get
          have sg8 : segOf (cells8 hc) 0 8 = some (cells8 hc) := rfl
          simp [t8, St.seg, ov, sg8]
          rw [zR32_rep] at S
          refine vc_loopJ (fun k env' st' => ∃ i, i ≤ 8 ∧ k = 8 - i ∧ env' 60 = .int .i64 (i : Nat) ∧ Sep [pt oid (.cells (((hc.list.take i).flatMap out4 ++ List.replicate (4 * (8 - i)) (0 : UInt8)).map w8)), pt vid (.cells (cells8 hc)), pt rid (.cells zR32_w80), Was st] st') 8
            ⟨0, by omega, by omega, rfl, S⟩ ?_
          clear S
          rintro J hJ k env6 st9 hsame ⟨i, hi, rfl, h60, S⟩
          have u2 : env6 2 = .ptr (some (rid, 0)) := (hsame.get 2 rfl).trans t2
          have u10 : env6 10 = .ptr (some (oid, 0)) := hsame.get 10 rfl
          have u59 : env6 59 = .agg (cells8 hc) := hsame.get 59 rfl
          clear hsame
          by_cases hlt : i < 8
          · have hlt2 : i < hc.list.length := hlt
            obtain ⟨x, hx⟩ : ∃ x, x = hc.list[i] := ⟨_, rfl⟩
            have hix : idxV 8 false 1 (.agg (cells8 hc)) (.int .i64 (i : Int)) = some (w32 x) := by
              rw [hx]
              have : i = 0 ∨ i = 1 ∨ i = 2 ∨ i = 3 ∨ i = 4 ∨ i = 5 ∨ i = 6 ∨ i = 7 := by omega
              rcases this with rfl | rfl | rfl | rfl | rfl | rfl | rfl | rfl <;> rfl
            obtain ⟨p, hp⟩ : ∃ p, p = (hc.list.take i).flatMap out4 := ⟨_, rfl⟩
            have hpl : p.length = 4 * i := by
              rw [hp]
              have : i = 0 ∨ i = 1 ∨ i = 2 ∨ i = 3 ∨ i = 4 ∨ i = 5 ∨ i = 6 ∨ i = 7 := by omega
              rcases this with rfl | rfl | rfl | rfl | rfl | rfl | rfl | rfl <;> rfl
            have hpn : (hc.list.take (i + 1)).flatMap out4 = p ++ out4 x := by
              rw [List.take_succ_eq_append_getElem hlt2, List.flatMap_append, ← hp, ← hx]
              simp
            obtain ⟨ys, hys⟩ : ∃ ys, ys = p ++ List.replicate (4 * (8 - i)) (0 : UInt8) := ⟨_, rfl⟩
            have hyl : ys.length = 32 := by rw [hys]; simp; omega
            rw [← hp, ← hys] at S
            have hset := set4 p (0 : UInt8) (UInt8.ofBitVec ((x >>> 24).setWidth 8)) (UInt8.ofBitVec ((x >>> 16).setWidth 8)) (UInt8.ofBitVec ((x >>> 8).setWidth 8)) (UInt8.ofBitVec (x.setWidth 8)) (4 * (8 - (i + 1)))
            rw [show 4 * (8 - (i + 1)) + 4 = 4 * (8 - i) by omega, ← hys, hpl] at hset
            have w1 : IntKind.i64.wrap ((i : Int) + 1) = (i : Int) + 1 := wrap64 (by omega) (by omega)
            have b0 : IntKind.i64.wrap (4 * (i : Int)) = 4 * (i : Int) := wrap64 (by omega) (by omega)
            have b1 : IntKind.i64.wrap (4 * (i : Int) + 1) = 4 * (i : Int) + 1 := wrap64 (by omega) (by omega)
            have b2 : IntKind.i64.wrap (4 * (i : Int) + 2) = 4 * (i : Int) + 2 := wrap64 (by omega) (by omega)
            have b3 : IntKind.i64.wrap (4 * (i : Int) + 3) = 4 * (i : Int) + 3 := wrap64 (by omega) (by omega)
            have a0 := idxArr_ptr 32 oid (z := 4 * (i : Int)) (j := 4 * i) (by omega) (by omega)
            have a1 := idxArr_ptr 32 oid (z := 4 * (i : Int) + 1) (j := 4 * i + 1) (by omega) (by omega)
            have a2 := idxArr_ptr 32 oid (z := 4 * (i : Int) + 2) (j := 4 * i + 2) (by omega) (by omega)
            have a3 := idxArr_ptr 32 oid (z := 4 * (i : Int) + 3) (j := 4 * i + 3) (by omega) (by omega)
            have hlt' : (i : Int) < 8 := by omega
            obtain ⟨c0, hc0⟩ : ∃ c, c = UInt8.ofBitVec ((x >>> 24).setWidth 8) := ⟨_, rfl⟩
            obtain ⟨c1, hc1⟩ : ∃ c, c = UInt8.ofBitVec ((x >>> 16).setWidth 8) := ⟨_, rfl⟩
            obtain ⟨c2, hc2⟩ : ∃ c, c = UInt8.ofBitVec ((x >>> 8).setWidth 8) := ⟨_, rfl⟩
            obtain ⟨c3, hc3⟩ : ∃ c, c = UInt8.ofBitVec (x.setWidth 8) := ⟨_, rfl⟩
            have ho : out4 x = [c0, c1, c2, c3] := by rw [hc0, hc1, hc2, hc3]; rfl
            rw [← hc0, ← hc1, ← hc2, ← hc3] at hset
            simp [u2, u10, u59, h60, hlt', hix, b0, b1, b2, b3, a0, a1, a2, a3, ← hc0, ← hc1, ← hc2, ← hc3]
            have k0 := arr_store (f := w8) S.get (i := 4 * i) (by omega) (x := c0) (v := w8 c0) rfl
            have S := S.set (.cells ((ys.set (4 * i) c0).map w8))
            rw [k0]
            have k1 := arr_store (f := w8) S.get (i := 4 * i + 1) (by simp; omega) (x := c1) (v := w8 c1) rfl
            have S := S.set (.cells (((ys.set (4 * i) c0).set (4 * i + 1) c1).map w8))
            generalize st9.upd oid (.cells ((ys.set (4 * i) c0).map w8)) = st10 at k1 S ⊢
            simp [-List.map_set, u10, a1, k1]
            have k2 := arr_store (f := w8) S.get (i := 4 * i + 2) (by simp; omega) (x := c2) (v := w8 c2) rfl
            have S := S.set (.cells ((((ys.set (4 * i) c0).set (4 * i + 1) c1).set (4 * i + 2) c2).map w8))
            generalize st10.upd oid (.cells (((ys.set (4 * i) c0).set (4 * i + 1) c1).map w8)) = st11 at k2 S ⊢
            simp [-List.map_set, u10, a2, k2]
            have k3 := arr_store (f := w8) S.get (i := 4 * i + 3) (by simp; omega) (x := c3) (v := w8 c3) rfl
            have S := S.set (.cells (((((ys.set (4 * i) c0).set (4 * i + 1) c1).set (4 * i + 2) c2).set (4 * i + 3) c3).map w8))
            generalize st11.upd oid (.cells ((((ys.set (4 * i) c0).set (4 * i + 1) c1).set (4 * i + 2) c2).map w8)) = st12 at k3 S ⊢
            simp [-List.map_set, u10, a3, k3, h60, w1]
            refine Round.mk (8 - (i + 1)) _ (show 8 - (i + 1) < 8 - i by omega) (sub_self _) (hJ _ _ _ ⟨i + 1, by omega, rfl, by simp, ?_⟩)
            rw [hpn, ho, ← hset]
            exact S
          · have : i = 8 := by omega
            subst this
            have oo := S.get
            have e : ((hc.list.take 8).flatMap out4 ++ List.replicate (4 * (8 - 8)) (0 : UInt8)).map w8 = eId (sha l) := by
              have : eId (sha l) = (outV (blocksM ((padM l).length / 64) iv (padM l))).map w8 := rfl
              rw [this, ← hfin]
              rfl
            rw [e] at oo
            have orr := S.mem (i := rid) (o := .cells zR32_w80) (by simp)
            have hst : storeS st9 32 (.ptr (some (rid, 0))) (.agg (eId (sha l))) = some (st9.upd rid (.cells (eId (sha l)))) := by
              rw [store_pt (st := st9) (id := rid) (o := 0) (sz := 32) (v := .agg (eId (sha l))) (vs := eId (sha l)) orr rfl (eId_len _) (by rw [zR32_w80_len]; omega)]
              rfl
            have sgi : segOf (eId (sha l)) 0 32 = some (eId (sha l)) := rfl
            simp [u2, u10, h60, St.seg, oo, sgi, hst]
            have T := S.setAt (.cells (eId (sha l))) 2 rfl
            exact T.was' (by simp)
        · have h64 : 64 ≤ rest.length := by
            have : 0 < rest.length := List.length_pos_iff.2 hnil
            omega
          have ov := S.get
          have hcc : cells8 hc = [w32 hc.a, w32 hc.b, w32 hc.c, w32 hc.d, w32 hc.e, w32 hc.f, w32 hc.g, w32 hc.h] := rfl
          have sg8 : segOf (cells8 hc) 0 8 = some (cells8 hc) := rfl
          have hsz : ByteArray.size ⟨rest.toArray⟩ = rest.length := rfl
          have n64 : natOf (.int .i64 64) = some 64 := rfl
          simp [t2, t8, h9, hne, hnil, slStrV, bounds, hsz, h64, St.seg, ov, sg8, ext_mk, opV, n64]
          refine (Sep.call (S.put (A := fun _ => True) trivial) (fun h _ => spec101 ok h hc ⟨(rest.take 64).toArray⟩ (by rw [show strB ⟨(rest.take 64).toArray⟩ = rest.take 64 from rfl]; simp; omega))).mono ?_
          rintro v st8 S8
          obtain ⟨_, _, rfl⟩ := S8.part
          have S := S8.drop
          rw [show strB ⟨(rest.take 64).toArray⟩ = rest.take 64 from rfl] at *
          have ov := S.get
          have hst : storeS st8 8 (.ptr (some (vid, 0))) (.agg (cells8 (blockM hc (rest.take 64)))) = some (st8.upd vid (.cells (cells8 (blockM hc (rest.take 64))))) := by
            rw [store_pt (st := st8) (id := vid) (o := 0) (sz := 8) (v := .agg (cells8 (blockM hc (rest.take 64)))) (vs := cells8 (blockM hc (rest.take 64))) ov rfl rfl (by rw [cells8_len]; omega)]
            rfl
          have htk : (rest.drop 64).take (rest.length - 64) = rest.drop 64 := List.take_of_length_le (by simp)
          simp [t8, h9, hst, slStrV, bounds, hsz, h64, ext_mk, opV, n64, htk]
          refine Round.mk (rest.drop 64).length _ (by simp; omega) (sub_self _) (hJ5 _ _ _ ⟨blockM hc (rest.take 64), rest.drop 64, rfl, by simp, by simp; omega, ?_, S.set _⟩)
          rw [← hbl, show rest.length / 64 = (rest.drop 64).length / 64 + 1 by simp; omega]
          rfl
    · have h56' : ((m : Int).tmod 64 != 56) = true := by
        rw [htm]
        simp; omega
      simp [h3, hln, h56', fillV, repV, spliceV, elems]
      refine Sep.app1 e8_len (by omega) S (a := 0) rfl (by rw [hle]; omega) ?_
      intro s3 st5 S
      simp
      refine Round.mk (Z - (z + 1)) _ (show Z - (z + 1) < Z - z by omega) (sub_self _) (hJ _ _ _ ⟨z + 1, s3, by omega, rfl, by simp, ?_⟩)
      rw [List.replicate_succ']
      simpa using S
end
end Go.Ab
set_option linter.unusedSimpArgs false
set_option linter.unusedVariables false
set_option maxRecDepth 10000
namespace Go.Ab
open Go Go.RowKit
section
variable {P : Program} {F : Fn}
theorem rows_e8 : ∀ l : List UInt8, rowsOf e8 l = l.map w8
  | [] => rfl
  | b :: l => by rw [rowsOf_cons, rows_e8 l]; rfl
theorem eId_rows (x : Id) : eId x = rowsOf e8 x.toList := by rw [rows_e8]; rfl
theorem sha_list (l : List UInt8) : (sha l).toList = shaL l := rfl
theorem store_z32 {st : St} {i : Nat} (h : st i = some (.cells zR32_w80)) (x : Id) : storeS st 32 (.ptr (some (i, 0))) (.agg (eId x)) = some (st.upd i (.cells (eId x))) := by
  rw [store_pt h (vs := eId x) rfl (eId_len x) (by rw [zR32_w80_len]; omega)]
  congr 3
  simp [spliceV, eId_len]
theorem segId0 (x : Id) : segOf (eId x) 0 32 = some (eId x) := by
  rw [segOf, if_pos (by rw [eId_len]; omega), List.drop_zero, List.take_of_length_le (by rw [eId_len]; omega)]
theorem spec104 (ok : OkHash P F) (st : St) {ss : List V} {ls : List (List UInt8)} (hp : Parts st ss ls) (k0 : SK) (hl : ls.flatten.length ≤ 100000000) (hls : ls.length ≤ 1000000) : ACalls P (F 104) [.sl k0 ss ss.length] st fun v st' => v = .agg (eId (sha2 ls.flatten)) ∧ st' = st := by
  refine shows_call ok.mixed ok.h104 (by simp [k104]) ?_
  simp only [k104]
  simp
  intro rid hrid
  have S := (Sep.start st).new hrid (.cells zR32_w80)
  generalize st.upd rid _ = st1 at S ⊢
  have hp1 : Parts st1 ss ls := hp.sub (S.was' (by simp))
  simp
  refine (spec103 ok st1 hp1 k0 hl hls).mono ?_
  rintro v st1 ⟨rfl, rfl⟩
  simp
  intro iid hiid
  have S := S.new hiid (.cells zR32_w80)
  obtain ⟨x, hx⟩ : ∃ x, x = sha ls.flatten := ⟨_, rfl⟩
  rw [← hx]
  have S1 := S.set (.cells (eId x))
  have hst := store_z32 S.get x
  generalize st1.upd iid (.cells zR32_w80) = st2 at S S1 hst ⊢
  simp [hst]
  generalize st2.upd iid (.cells (eId x)) = st3 at S1 ⊢
  have o := S1.get
  have S2 := S1.set (.ro (eId x))
  simp [frzP, frzV, frzOb, o]
  generalize st3.upd iid (.ro (eId x)) = st4 at S2 ⊢
  have hseg := segId0 x
  simp [slArrV, bounds, hseg, fillV, spliceV, repV, eId_len, opV]
  have htk : List.take 32 (eId x) = rowsOf e8 x.toList := by
    rw [← eId_rows, List.take_of_length_le (by rw [eId_len]; omega)]
  have hp2 : Parts st4 [.sl .full (List.take 32 (eId x)) 32] [x.toList] := by
    refine .cons (.inl ⟨.full, ?_⟩) .nil
    rw [htk]
    simp
  have hc := spec103 ok st4 hp2 .full (by simp) (by simp)
  refine hc.mono ?_
  rintro v st4 ⟨rfl, rfl⟩
  have hr : st4 rid = some (.cells zR32_w80) := S2.mem (by simp)
  have hst := store_z32 hr (sha x.toList)
  have T := S2.setAt (.cells (eId (sha x.toList))) 1 rfl
  have hsg := segId0 (sha x.toList)
  simp [hst, St.seg, hsg]
  refine ⟨T.was' (by simp), ?_⟩
  rw [hx, sha2, sha_list]
end
end Go.Ab
set_option linter.unusedSimpArgs false
set_option linter.unusedVariables false
namespace Go.Ab
open Go Go.RowKit
abbrev W := BitVec 64
abbrev U := BitVec 256
def u4 (a b c d : W) : U := BitVec.ofNat 256 (a.toNat + b.toNat * 18446744073709551616 + c.toNat * 340282366920938463463374607431768211456 + d.toNat * 6277101735386680763835789423207666416102355444464034512896)
theorem u4_nat (a b c d : W) : (u4 a b c d).toNat = a.toNat + b.toNat * 18446744073709551616 + c.toNat * 340282366920938463463374607431768211456 + d.toNat * 6277101735386680763835789423207666416102355444464034512896 := by
  have := a.isLt; have := b.isLt; have := c.isLt; have := d.isLt
  rw [u4, BitVec.toNat_ofNat]
  exact Nat.mod_eq_of_lt (by omega)
def limb (x : U) (i : Nat) : W := BitVec.ofNat 64 (x.toNat / 18446744073709551616 ^ i)
theorem limb_nat (x : U) (i : Nat) : (limb x i).toNat = x.toNat / 18446744073709551616 ^ i % 18446744073709551616 := by
  rw [limb, BitVec.toNat_ofNat]
theorem u4_limb (x : U) : u4 (limb x 0) (limb x 1) (limb x 2) (limb x 3) = x := by
  apply BitVec.eq_of_toNat_eq
  have := x.isLt
  rw [u4_nat, limb_nat, limb_nat, limb_nat, limb_nat]
  omega
theorem exists_u4 (x : U) : ∃ a b c d, x = u4 a b c d := ⟨_, _, _, _, (u4_limb x).symm⟩
theorem limb0 (a b c d : W) : limb (u4 a b c d) 0 = a := by
  apply BitVec.eq_of_toNat_eq
  have := a.isLt; have := b.isLt; have := c.isLt; have := d.isLt
  rw [limb_nat, u4_nat]; omega
theorem limb1 (a b c d : W) : limb (u4 a b c d) 1 = b := by
  apply BitVec.eq_of_toNat_eq
  have := a.isLt; have := b.isLt; have := c.isLt; have := d.isLt
  rw [limb_nat, u4_nat]; omega
theorem limb2 (a b c d : W) : limb (u4 a b c d) 2 = c := by
  apply BitVec.eq_of_toNat_eq
  have := a.isLt; have := b.isLt; have := c.isLt; have := d.isLt
  rw [limb_nat, u4_nat]; omega
theorem limb3 (a b c d : W) : limb (u4 a b c d) 3 = d := by
  apply BitVec.eq_of_toNat_eq
  have := a.isLt; have := b.isLt; have := c.isLt; have := d.isLt
  rw [limb_nat, u4_nat]; omega
theorem u4_inj {a b c d a' b' c' d' : W} (h : u4 a b c d = u4 a' b' c' d') : a = a' ∧ b = b' ∧ c = c' ∧ d = d' := by
  refine ⟨?_, ?_, ?_, ?_⟩
  · have := congrArg (limb · 0) h; simpa [limb0] using this
  · have := congrArg (limb · 1) h; simpa [limb1] using this
  · have := congrArg (limb · 2) h; simpa [limb2] using this
  · have := congrArg (limb · 3) h; simpa [limb3] using this
def eU (x : U) : List V := [w64 (limb x 0), w64 (limb x 1), w64 (limb x 2), w64 (limb x 3)]
theorem eU_len (x : U) : (eU x).length = 4 := rfl
theorem eU_u4 (a b c d : W) : eU (u4 a b c d) = [w64 a, w64 b, w64 c, w64 d] := by simp [eU, limb0, limb1, limb2, limb3]
def nU (x : U) : V := .agg (eU x)
def natU (n : Nat) : U := BitVec.ofNat 256 n
theorem natU_nat {n : Nat} (h : n < 2 ^ 256) : (natU n).toNat = n := by
  rw [natU, BitVec.toNat_ofNat]; exact Nat.mod_eq_of_lt h
end Go.Ab
set_option linter.unusedSimpArgs false
set_option linter.unusedVariables false
namespace Go.Ab
open Go Go.RowKit
def bitlen (n : Nat) : Nat := if n = 0 then 0 else n.log2 + 1
theorem bitlen_le {n k : Nat} : bitlen n ≤ k ↔ n < 2 ^ k := by
  unfold bitlen
  split
  · rename_i h; subst h
    simp [Nat.two_pow_pos]
  · rename_i h
    rw [← Nat.log2_lt h]
    omega
theorem bitlen_lt {n k : Nat} : k < bitlen n ↔ 2 ^ k ≤ n := by
  have := @bitlen_le n k
  omega
theorem bitlen_pos {n : Nat} : 0 < bitlen n ↔ 0 < n := by
  rw [bitlen_lt]; simp; omega
end Go.Ab
set_option linter.unusedVariables false
namespace Go.Ab
open Go
def k105 (F : Fn) : PF := PF.mk 5 1 [(PR.cell 2 true 4)] (.seq (.ops [(PO.mk (some 2) (.alloc [(w64 0), (w64 0), (w64 0), (w64 0)]) none)]) (.seq (.ops [(PO.mk (some 3) (.mv (.t 0)) none), (PO.mk (some 4) (.build [(w64 0), (w64 0), (w64 0), (w64 0)] [(0, (1, (.t 3)))]) none), (PO.mk none (.store 4 (.t 2) (.t 4)) none)]) .ret))
def k106 (F : Fn) : PF := PF.mk 24 2 [(.t 4)] (.seq (.ops [(PO.mk (some 2) (.box (.t 0)) none), (PO.mk (some 3) (.box (.t 1)) none), (PO.mk (some 4) (.mv (.k (.int .i64 0))) none)]) (.seq (.seq (.ops [(PO.mk (some 5) (.mv (.k (.int .i64 3))) none)]) (.block 0 (.loop (.seq (.seq (.ops [(PO.mk (some 6) (.mv (.t 5)) none), (PO.mk (some 7) (.bin .geq (.t 6) (.k (.int .i64 0))) none)]) (.cond (.t 7) .skip (.exit 0))) (.seq (.block 1 (.seq (.draw [(.e, (PO.mk (some 10) (.mv (.t 5)) none)), (.e, (PO.mk (some 11) (.idxArr 4 1 (.t 2) (.t 10)) none)), (.e, (PO.mk (some 13) (.mv (.t 5)) none)), (.e, (PO.mk (some 14) (.idxArr 4 1 (.t 3) (.t 13)) none)), (.s, (PO.mk (some 12) (.load false 1 (.t 11)) none)), (.s, (PO.mk (some 15) (.load false 1 (.t 14)) none)), (.e, (PO.mk (some 16) (.bin .neq (.t 12) (.t 15)) none))]) (.cond (.t 16) (.seq (.seq (.draw [(.e, (PO.mk (some 17) (.mv (.t 5)) none)), (.e, (PO.mk (some 18) (.idxArr 4 1 (.t 2) (.t 17)) none)), (.e, (PO.mk (some 20) (.mv (.t 5)) none)), (.e, (PO.mk (some 21) (.idxArr 4 1 (.t 3) (.t 20)) none)), (.s, (PO.mk (some 19) (.load false 1 (.t 18)) none)), (.s, (PO.mk (some 22) (.load false 1 (.t 21)) none)), (.e, (PO.mk (some 23) (.bin .lss (.t 19) (.t 22)) none))]) (.cond (.t 23) (.seq (.ops [(PO.mk (some 4) (.mv (.k (.int .i64 (-1)))) none)]) .ret) .skip)) (.seq (.ops [(PO.mk (some 4) (.mv (.k (.int .i64 1))) none)]) .ret)) .skip))) (.ops [(PO.mk (some 8) (.mv (.t 5)) none), (PO.mk (some 9) (.bin .sub (.t 8) (.k (.int .i64 1))) none), (PO.mk (some 5) (.mv (.t 9)) none)])))))) (.seq (.ops [(PO.mk (some 4) (.mv (.k (.int .i64 0))) none)]) .ret)))
def k107 (F : Fn) : PF := PF.mk 6 1 [(.t 2)] (.seq (.ops [(PO.mk (some 1) (.box (.t 0)) none), (PO.mk (some 2) (.mv (.k (.bool false))) none)]) (.seq (.ops [(PO.mk (some 3) (.load true 4 (.t 1)) none), (PO.mk (some 4) (.build [(w64 0), (w64 0), (w64 0), (w64 0)] []) none), (PO.mk (some 5) (.eqa (.agg 4) false (.t 3) (.t 4)) none), (PO.mk (some 2) (.mv (.t 5)) none)]) .ret))
def k108 (F : Fn) : PF := PF.mk 41 1 [(PR.cell 2 true 4), (.t 3)] (.seq (.ops [(PO.mk (some 2) (.alloc [(w64 0), (w64 0), (w64 0), (w64 0)]) none), (PO.mk (some 3) (.mv (.k (.bool false))) none)]) (.seq (.ops [(PO.mk (some 4) (.alloc [(w64 0), (w64 0), (w64 0), (w64 0)]) none)]) (.seq (.ops [(PO.mk (some 5) (.mv (.k (.bool false))) none)]) (.seq (.seq (.ops [(PO.mk (some 10) (.mv (.t 0)) none), (PO.mk (some 11) (.lenSl (.t 10)) none), (PO.mk (some 12) (.mv (.k (.int .i64 0))) none)]) (.block 0 (.loop (.seq (.ops [(PO.mk (some 13) (.bin .lss (.t 12) (.t 11)) none)]) (.seq (.cond (.t 13) .skip (.exit 0)) (.seq (.block 1 (.seq (.ops [(PO.mk (some 14) (.idxSl 4 (.t 10) (.t 12)) none), (PO.mk (some 15) (.load true 4 (.t 14)) none), (PO.mk (some 7) (.alloc [(w64 0), (w64 0), (w64 0), (w64 0)]) none), (PO.mk none (.store 4 (.t 7) (.t 15)) none)]) (.seq (.ops [(PO.mk (some 8) (.mv (.k (w64 0))) none)]) (.seq (.seq (.ops [(PO.mk (some 16) (.mv (.k (.int .i64 0))) none)]) (.block 2 (.loop (.seq (.ops [(PO.mk (some 17) (.bin .lss (.t 16) (.k (.int .i64 4))) none)]) (.seq (.cond (.t 17) .skip (.exit 2)) (.seq (.block 3 (.seq (.ops [(PO.mk (some 18) (.mv (.t 16)) none), (PO.mk (some 9) (.mv (.t 18)) none)]) (.draw [(.e, (PO.mk (some 20) (.mv (.t 9)) none)), (.e, (PO.mk (some 21) (.mv (.t 9)) none)), (.e, (PO.mk (some 22) (.idxArr 4 1 (.t 4) (.t 21)) none)), (.e, (PO.mk (some 24) (.mv (.t 9)) none)), (.e, (PO.mk (some 25) (.idxArr 4 1 (.t 7) (.t 24)) none)), (.e, (PO.mk (some 27) (.mv (.t 8)) none)), (.s, (PO.mk (some 23) (.load false 1 (.t 22)) none)), (.s, (PO.mk (some 26) (.load false 1 (.t 25)) none)), (.e, (PO.mk (some 28) (.carry false (.t 23) (.t 26) (.t 27)) none)), (.e, (PO.mk (some 19) (.mv (.t 28)) none)), (.e, (PO.mk (some 29) (.ext 0 (.t 19)) none)), (.e, (PO.mk (some 30) (.ext 1 (.t 19)) none)), (.e, (PO.mk (some 31) (.idxArr 4 1 (.t 4) (.t 20)) none)), (.x, (PO.mk none (.store 1 (.t 31) (.t 29)) none)), (.e, (PO.mk (some 8) (.mv (.t 30)) none))]))) (.ops [(PO.mk (some 32) (.bin .add (.t 16) (.k (.int .i64 1))) none), (PO.mk (some 16) (.mv (.t 32)) none)]))))))) (.ops [(PO.mk (some 33) (.mv (.t 5)) none), (PO.mk (some 34) (.mv (.t 33)) none), (PO.mk (some 35) (.mv (.t 8)) (some (34, false))), (PO.mk (some 36) (.bin .neq (.t 35) (.k (w64 0))) (some (34, false))), (PO.mk (some 37) (.pick (.t 34) (.k (.bool true)) (.t 36)) none), (PO.mk (some 5) (.mv (.t 37)) none)]))))) (.ops [(PO.mk (some 38) (.bin .add (.t 12) (.k (.int .i64 1))) none), (PO.mk (some 12) (.mv (.t 38)) none)]))))))) (.seq (.ops [(PO.mk (some 39) (.load true 4 (.t 4)) none), (PO.mk (some 40) (.mv (.t 5)) none), (PO.mk none (.store 4 (.t 2) (.t 39)) none), (PO.mk (some 3) (.mv (.t 40)) none)]) .ret)))))
def k109 (F : Fn) : PF := PF.mk 28 2 [(PR.cell 4 true 4), (.t 5)] (.seq (.ops [(PO.mk (some 2) (.box (.t 0)) none), (PO.mk (some 3) (.box (.t 1)) none), (PO.mk (some 4) (.alloc [(w64 0), (w64 0), (w64 0), (w64 0)]) none), (PO.mk (some 5) (.mv (.k (.bool false))) none)]) (.seq (.ops [(PO.mk (some 6) (.mv (.k (w64 0))) none)]) (.seq (.seq (.ops [(PO.mk (some 8) (.mv (.k (.int .i64 0))) none)]) (.block 0 (.loop (.seq (.ops [(PO.mk (some 9) (.bin .lss (.t 8) (.k (.int .i64 4))) none)]) (.seq (.cond (.t 9) .skip (.exit 0)) (.seq (.block 1 (.seq (.ops [(PO.mk (some 10) (.mv (.t 8)) none), (PO.mk (some 7) (.mv (.t 10)) none)]) (.draw [(.e, (PO.mk (some 12) (.mv (.t 7)) none)), (.e, (PO.mk (some 13) (.mv (.t 7)) none)), (.e, (PO.mk (some 14) (.idxArr 4 1 (.t 2) (.t 13)) none)), (.e, (PO.mk (some 16) (.mv (.t 7)) none)), (.e, (PO.mk (some 17) (.idxArr 4 1 (.t 3) (.t 16)) none)), (.e, (PO.mk (some 19) (.mv (.t 6)) none)), (.s, (PO.mk (some 15) (.load false 1 (.t 14)) none)), (.s, (PO.mk (some 18) (.load false 1 (.t 17)) none)), (.e, (PO.mk (some 20) (.carry true (.t 15) (.t 18) (.t 19)) none)), (.e, (PO.mk (some 11) (.mv (.t 20)) none)), (.e, (PO.mk (some 21) (.ext 0 (.t 11)) none)), (.e, (PO.mk (some 22) (.ext 1 (.t 11)) none)), (.e, (PO.mk (some 23) (.idxArr 4 1 (.t 2) (.t 12)) none)), (.x, (PO.mk none (.store 1 (.t 23) (.t 21)) none)), (.e, (PO.mk (some 6) (.mv (.t 22)) none))]))) (.ops [(PO.mk (some 24) (.bin .add (.t 8) (.k (.int .i64 1))) none), (PO.mk (some 8) (.mv (.t 24)) none)]))))))) (.seq (.ops [(PO.mk (some 25) (.load true 4 (.t 2)) none), (PO.mk (some 26) (.mv (.t 6)) none), (PO.mk (some 27) (.bin .neq (.t 26) (.k (w64 0))) none), (PO.mk none (.store 4 (.t 4) (.t 25)) none), (PO.mk (some 5) (.mv (.t 27)) none)]) .ret))))
def k110 (F : Fn) : PF := PF.mk 39 2 [(PR.cell 4 true 4), (.t 5)] (.seq (.ops [(PO.mk (some 2) (.box (.t 0)) none), (PO.mk (some 4) (.alloc [(w64 0), (w64 0), (w64 0), (w64 0)]) none), (PO.mk (some 5) (.mv (.k (.bool false))) none)]) (.seq (.ops [(PO.mk (some 6) (.mv (.k (w64 0))) none)]) (.seq (.seq (.ops [(PO.mk (some 12) (.load true 4 (.t 2)) none), (PO.mk (some 13) (.mv (.k (.int .i64 0))) none)]) (.block 0 (.loop (.seq (.ops [(PO.mk (some 14) (.bin .lss (.t 13) (.k (.int .i64 4))) none)]) (.seq (.cond (.t 14) .skip (.exit 0)) (.seq (.block 1 (.seq (.ops [(PO.mk (some 15) (.mv (.t 13)) none), (PO.mk (some 16) (.idx 4 false 1 (.t 12) (.t 13)) none), (PO.mk (some 7) (.mv (.t 15)) none), (PO.mk (some 8) (.mv (.t 16)) none)]) (.seq (.ops [(PO.mk (some 18) (.mv (.t 8)) none), (PO.mk (some 19) (.mv (.t 1)) none), (PO.mk (some 20) (.call (F 118) [(.t 18), (.t 19)]) none), (PO.mk (some 17) (.mv (.t 20)) none), (PO.mk (some 21) (.ext 0 (.t 17)) none), (PO.mk (some 22) (.ext 1 (.t 17)) none), (PO.mk (some 9) (.mv (.t 21)) none), (PO.mk (some 10) (.mv (.t 22)) none)]) (.seq (.ops [(PO.mk (some 24) (.mv (.t 10)) none), (PO.mk (some 25) (.mv (.t 6)) none), (PO.mk (some 26) (.carry false (.t 24) (.t 25) (.k (w64 0))) none), (PO.mk (some 23) (.mv (.t 26)) none), (PO.mk (some 27) (.ext 0 (.t 23)) none), (PO.mk (some 28) (.ext 1 (.t 23)) none), (PO.mk (some 10) (.mv (.t 27)) none), (PO.mk (some 11) (.mv (.t 28)) none)]) (.ops [(PO.mk (some 29) (.mv (.t 7)) none), (PO.mk (some 30) (.mv (.t 10)) none), (PO.mk (some 31) (.mv (.t 9)) none), (PO.mk (some 32) (.mv (.t 11)) none), (PO.mk (some 33) (.bin .add (.t 31) (.t 32)) none), (PO.mk (some 34) (.idxArr 4 1 (.t 2) (.t 29)) none), (PO.mk none (.store 1 (.t 34) (.t 30)) none), (PO.mk (some 6) (.mv (.t 33)) none)]))))) (.ops [(PO.mk (some 35) (.bin .add (.t 13) (.k (.int .i64 1))) none), (PO.mk (some 13) (.mv (.t 35)) none)]))))))) (.seq (.ops [(PO.mk (some 36) (.load true 4 (.t 2)) none), (PO.mk (some 37) (.mv (.t 6)) none), (PO.mk (some 38) (.bin .neq (.t 37) (.k (w64 0))) none), (PO.mk none (.store 4 (.t 4) (.t 36)) none), (PO.mk (some 5) (.mv (.t 38)) none)]) .ret))))
def k111 (F : Fn) : PF := PF.mk 16 1 [(PR.cell 2 true 4)] (.seq (.ops [(PO.mk (some 1) (.box (.t 0)) none), (PO.mk (some 2) (.alloc [(w64 0), (w64 0), (w64 0), (w64 0)]) none)]) (.seq (.ops [(PO.mk (some 3) (.idxArr 4 1 (.t 1) (.k (.int .i64 0))) none), (PO.mk (some 4) (.load false 1 (.t 3)) none), (PO.mk (some 5) (.inv (.t 4)) none), (PO.mk (some 6) (.idxArr 4 1 (.t 1) (.k (.int .i64 1))) none), (PO.mk (some 7) (.load false 1 (.t 6)) none), (PO.mk (some 8) (.inv (.t 7)) none), (PO.mk (some 9) (.idxArr 4 1 (.t 1) (.k (.int .i64 2))) none), (PO.mk (some 10) (.load false 1 (.t 9)) none), (PO.mk (some 11) (.inv (.t 10)) none), (PO.mk (some 12) (.idxArr 4 1 (.t 1) (.k (.int .i64 3))) none), (PO.mk (some 13) (.load false 1 (.t 12)) none), (PO.mk (some 14) (.inv (.t 13)) none), (PO.mk (some 15) (.build [(w64 0), (w64 0), (w64 0), (w64 0)] [(0, (1, (.t 5))), (1, (1, (.t 8))), (2, (1, (.t 11))), (3, (1, (.t 14)))]) none), (PO.mk none (.store 4 (.t 2) (.t 15)) none)]) .ret))
def k112 (F : Fn) : PF := PF.mk 57 2 [(PR.cell 4 true 4)] (.seq (.ops [(PO.mk (some 2) (.box (.t 0)) none), (PO.mk (some 4) (.alloc [(w64 0), (w64 0), (w64 0), (w64 0)]) none)]) (.seq (.seq (.ops [(PO.mk (some 9) (.mv (.t 1)) none), (PO.mk (some 10) (.bin .lss (.t 9) (.k (.int .i64 0))) none), (PO.mk (some 11) (.mv (.t 10)) none), (PO.mk (some 12) (.mv (.t 1)) (some (11, false))), (PO.mk (some 13) (.bin .gtr (.t 12) (.k (.int .i64 255))) (some (11, false))), (PO.mk (some 14) (.pick (.t 11) (.k (.bool true)) (.t 13)) none)]) (.cond (.t 14) (.seq (.ops [(PO.mk (some 15) (.build [(w64 0), (w64 0), (w64 0), (w64 0)] []) none), (PO.mk none (.store 4 (.t 4) (.t 15)) none)]) .ret) .skip)) (.seq (.ops [(PO.mk (some 5) (.alloc [(w64 0), (w64 0), (w64 0), (w64 0)]) none)]) (.seq (.ops [(PO.mk (some 16) (.mv (.t 1)) none), (PO.mk (some 17) (.bin .quo (.t 16) (.k (.int .i64 64))) none), (PO.mk (some 18) (.mv (.t 1)) none), (PO.mk (some 19) (.bin .rem (.t 18) (.k (.int .i64 64))) none), (PO.mk (some 20) (.conv .u64 (.t 19)) none), (PO.mk (some 6) (.mv (.t 17)) none), (PO.mk (some 7) (.mv (.t 20)) none)]) (.seq (.seq (.ops [(PO.mk (some 8) (.mv (.k (.int .i64 3))) none)]) (.block 0 (.loop (.seq (.seq (.ops [(PO.mk (some 21) (.mv (.t 8)) none), (PO.mk (some 22) (.mv (.t 6)) none), (PO.mk (some 23) (.bin .geq (.t 21) (.t 22)) none)]) (.cond (.t 23) .skip (.exit 0))) (.seq (.block 1 (.seq (.ops [(PO.mk (some 26) (.mv (.t 8)) none), (PO.mk (some 27) (.mv (.t 8)) none), (PO.mk (some 28) (.mv (.t 6)) none), (PO.mk (some 29) (.bin .sub (.t 27) (.t 28)) none), (PO.mk (some 30) (.idxArr 4 1 (.t 2) (.t 29)) none), (PO.mk (some 31) (.load false 1 (.t 30)) none), (PO.mk (some 32) (.mv (.t 7)) none), (PO.mk (some 33) (.bin .shl (.t 31) (.t 32)) none), (PO.mk (some 34) (.idxArr 4 1 (.t 5) (.t 26)) none), (PO.mk none (.store 1 (.t 34) (.t 33)) none)]) (.seq (.ops [(PO.mk (some 35) (.mv (.t 8)) none), (PO.mk (some 36) (.mv (.t 6)) none), (PO.mk (some 37) (.bin .gtr (.t 35) (.t 36)) none), (PO.mk (some 38) (.mv (.t 37)) none), (PO.mk (some 39) (.mv (.t 7)) (some (38, true))), (PO.mk (some 40) (.bin .gtr (.t 39) (.k (w64 0))) (some (38, true))), (PO.mk (some 41) (.pick (.t 38) (.t 40) (.k (.bool false))) none)]) (.cond (.t 41) (.draw [(.e, (PO.mk (some 42) (.mv (.t 8)) none)), (.e, (PO.mk (some 43) (.idxArr 4 1 (.t 5) (.t 42)) none)), (.e, (PO.mk (some 45) (.mv (.t 8)) none)), (.e, (PO.mk (some 46) (.mv (.t 6)) none)), (.e, (PO.mk (some 47) (.bin .sub (.t 45) (.t 46)) none)), (.e, (PO.mk (some 48) (.bin .sub (.t 47) (.k (.int .i64 1))) none)), (.e, (PO.mk (some 49) (.idxArr 4 1 (.t 2) (.t 48)) none)), (.e, (PO.mk (some 51) (.mv (.t 7)) none)), (.e, (PO.mk (some 52) (.bin .sub (.k (w64 64)) (.t 51)) none)), (.s, (PO.mk (some 44) (.load false 1 (.t 43)) none)), (.s, (PO.mk (some 50) (.load false 1 (.t 49)) none)), (.e, (PO.mk (some 53) (.bin .shr (.t 50) (.t 52)) none)), (.e, (PO.mk (some 54) (.bin .or (.t 44) (.t 53)) none)), (.e, (PO.mk (some 55) (.idxArr 4 1 (.t 5) (.t 42)) none)), (.x, (PO.mk none (.store 1 (.t 55) (.t 54)) none))]) .skip)))) (.ops [(PO.mk (some 24) (.mv (.t 8)) none), (PO.mk (some 25) (.bin .sub (.t 24) (.k (.int .i64 1))) none), (PO.mk (some 8) (.mv (.t 25)) none)])))))) (.seq (.ops [(PO.mk (some 56) (.load true 4 (.t 5)) none), (PO.mk none (.store 4 (.t 4) (.t 56)) none)]) .ret))))))
def k113 (F : Fn) : PF := PF.mk 59 2 [(PR.cell 4 true 4)] (.seq (.ops [(PO.mk (some 2) (.box (.t 0)) none), (PO.mk (some 4) (.alloc [(w64 0), (w64 0), (w64 0), (w64 0)]) none)]) (.seq (.seq (.ops [(PO.mk (some 9) (.mv (.t 1)) none), (PO.mk (some 10) (.bin .lss (.t 9) (.k (.int .i64 0))) none), (PO.mk (some 11) (.mv (.t 10)) none), (PO.mk (some 12) (.mv (.t 1)) (some (11, false))), (PO.mk (some 13) (.bin .gtr (.t 12) (.k (.int .i64 255))) (some (11, false))), (PO.mk (some 14) (.pick (.t 11) (.k (.bool true)) (.t 13)) none)]) (.cond (.t 14) (.seq (.ops [(PO.mk (some 15) (.build [(w64 0), (w64 0), (w64 0), (w64 0)] []) none), (PO.mk none (.store 4 (.t 4) (.t 15)) none)]) .ret) .skip)) (.seq (.ops [(PO.mk (some 5) (.alloc [(w64 0), (w64 0), (w64 0), (w64 0)]) none)]) (.seq (.ops [(PO.mk (some 16) (.mv (.t 1)) none), (PO.mk (some 17) (.bin .quo (.t 16) (.k (.int .i64 64))) none), (PO.mk (some 18) (.mv (.t 1)) none), (PO.mk (some 19) (.bin .rem (.t 18) (.k (.int .i64 64))) none), (PO.mk (some 20) (.conv .u64 (.t 19)) none), (PO.mk (some 6) (.mv (.t 17)) none), (PO.mk (some 7) (.mv (.t 20)) none)]) (.seq (.seq (.ops [(PO.mk (some 8) (.mv (.k (.int .i64 0))) none)]) (.block 0 (.loop (.seq (.seq (.ops [(PO.mk (some 21) (.mv (.t 8)) none), (PO.mk (some 22) (.mv (.t 6)) none), (PO.mk (some 23) (.bin .sub (.k (.int .i64 4)) (.t 22)) none), (PO.mk (some 24) (.bin .lss (.t 21) (.t 23)) none)]) (.cond (.t 24) .skip (.exit 0))) (.seq (.block 1 (.seq (.ops [(PO.mk (some 27) (.mv (.t 8)) none), (PO.mk (some 28) (.mv (.t 8)) none), (PO.mk (some 29) (.mv (.t 6)) none), (PO.mk (some 30) (.bin .add (.t 28) (.t 29)) none), (PO.mk (some 31) (.idxArr 4 1 (.t 2) (.t 30)) none), (PO.mk (some 32) (.load false 1 (.t 31)) none), (PO.mk (some 33) (.mv (.t 7)) none), (PO.mk (some 34) (.bin .shr (.t 32) (.t 33)) none), (PO.mk (some 35) (.idxArr 4 1 (.t 5) (.t 27)) none), (PO.mk none (.store 1 (.t 35) (.t 34)) none)]) (.seq (.ops [(PO.mk (some 36) (.mv (.t 8)) none), (PO.mk (some 37) (.mv (.t 6)) none), (PO.mk (some 38) (.bin .add (.t 36) (.t 37)) none), (PO.mk (some 39) (.bin .lss (.t 38) (.k (.int .i64 3))) none), (PO.mk (some 40) (.mv (.t 39)) none), (PO.mk (some 41) (.mv (.t 7)) (some (40, true))), (PO.mk (some 42) (.bin .gtr (.t 41) (.k (w64 0))) (some (40, true))), (PO.mk (some 43) (.pick (.t 40) (.t 42) (.k (.bool false))) none)]) (.cond (.t 43) (.draw [(.e, (PO.mk (some 44) (.mv (.t 8)) none)), (.e, (PO.mk (some 45) (.idxArr 4 1 (.t 5) (.t 44)) none)), (.e, (PO.mk (some 47) (.mv (.t 8)) none)), (.e, (PO.mk (some 48) (.mv (.t 6)) none)), (.e, (PO.mk (some 49) (.bin .add (.t 47) (.t 48)) none)), (.e, (PO.mk (some 50) (.bin .add (.t 49) (.k (.int .i64 1))) none)), (.e, (PO.mk (some 51) (.idxArr 4 1 (.t 2) (.t 50)) none)), (.e, (PO.mk (some 53) (.mv (.t 7)) none)), (.e, (PO.mk (some 54) (.bin .sub (.k (w64 64)) (.t 53)) none)), (.s, (PO.mk (some 46) (.load false 1 (.t 45)) none)), (.s, (PO.mk (some 52) (.load false 1 (.t 51)) none)), (.e, (PO.mk (some 55) (.bin .shl (.t 52) (.t 54)) none)), (.e, (PO.mk (some 56) (.bin .or (.t 46) (.t 55)) none)), (.e, (PO.mk (some 57) (.idxArr 4 1 (.t 5) (.t 44)) none)), (.x, (PO.mk none (.store 1 (.t 57) (.t 56)) none))]) .skip)))) (.ops [(PO.mk (some 25) (.mv (.t 8)) none), (PO.mk (some 26) (.bin .add (.t 25) (.k (.int .i64 1))) none), (PO.mk (some 8) (.mv (.t 26)) none)])))))) (.seq (.ops [(PO.mk (some 58) (.load true 4 (.t 5)) none), (PO.mk none (.store 4 (.t 4) (.t 58)) none)]) .ret))))))
def k114 (F : Fn) : PF := PF.mk 19 1 [(.t 2)] (.seq (.ops [(PO.mk (some 1) (.box (.t 0)) none), (PO.mk (some 2) (.mv (.k (.int .i64 0))) none)]) (.seq (.seq (.ops [(PO.mk (some 3) (.mv (.k (.int .i64 3))) none)]) (.block 0 (.loop (.seq (.seq (.ops [(PO.mk (some 4) (.mv (.t 3)) none), (PO.mk (some 5) (.bin .geq (.t 4) (.k (.int .i64 0))) none)]) (.cond (.t 5) .skip (.exit 0))) (.seq (.block 1 (.seq (.ops [(PO.mk (some 8) (.mv (.t 3)) none), (PO.mk (some 9) (.idxArr 4 1 (.t 1) (.t 8)) none), (PO.mk (some 10) (.load false 1 (.t 9)) none), (PO.mk (some 11) (.bin .neq (.t 10) (.k (w64 0))) none)]) (.cond (.t 11) (.seq (.ops [(PO.mk (some 12) (.mv (.t 3)) none), (PO.mk (some 13) (.bin .mul (.k (.int .i64 64)) (.t 12)) none), (PO.mk (some 14) (.mv (.t 3)) none), (PO.mk (some 15) (.idxArr 4 1 (.t 1) (.t 14)) none), (PO.mk (some 16) (.load false 1 (.t 15)) none), (PO.mk (some 17) (.call (F 115) [(.t 16)]) none), (PO.mk (some 18) (.bin .add (.t 13) (.t 17)) none), (PO.mk (some 2) (.mv (.t 18)) none)]) .ret) .skip))) (.ops [(PO.mk (some 6) (.mv (.t 3)) none), (PO.mk (some 7) (.bin .sub (.t 6) (.k (.int .i64 1))) none), (PO.mk (some 3) (.mv (.t 7)) none)])))))) (.seq (.ops [(PO.mk (some 2) (.mv (.k (.int .i64 0))) none)]) .ret)))
def k116 (F : Fn) : PF := PF.mk 48 2 [(PR.cell 4 true 4), (PR.cell 5 true 4), (.t 6)] (.seq (.ops [(PO.mk (some 2) (.box (.t 0)) none), (PO.mk (some 3) (.box (.t 1)) none), (PO.mk (some 4) (.alloc [(w64 0), (w64 0), (w64 0), (w64 0)]) none), (PO.mk (some 5) (.alloc [(w64 0), (w64 0), (w64 0), (w64 0)]) none), (PO.mk (some 6) (.mv (.k (.int .i64 0))) none)]) (.seq (.seq (.ops [(PO.mk (some 10) (.load true 4 (.t 3)) none), (PO.mk (some 11) (.call (F 107) [(.t 10)]) none)]) (.cond (.t 11) (.seq (.ops [(PO.mk (some 12) (.build [(w64 0), (w64 0), (w64 0), (w64 0)] []) none), (PO.mk (some 13) (.build [(w64 0), (w64 0), (w64 0), (w64 0)] []) none), (PO.mk none (.store 4 (.t 4) (.t 12)) none), (PO.mk none (.store 4 (.t 5) (.t 13)) none), (PO.mk (some 6) (.mv (.k (.int .i64 1))) none)]) .ret) .skip)) (.seq (.ops [(PO.mk (some 7) (.alloc [(w64 0), (w64 0), (w64 0), (w64 0)]) none)]) (.seq (.seq (.draw [(.s, (PO.mk (some 14) (.load true 4 (.t 2)) none)), (.s, (PO.mk (some 15) (.call (F 114) [(.t 14)]) none)), (.s, (PO.mk (some 16) (.load true 4 (.t 3)) none)), (.s, (PO.mk (some 17) (.call (F 114) [(.t 16)]) none)), (.e, (PO.mk (some 18) (.bin .sub (.t 15) (.t 17)) none)), (.e, (PO.mk (some 8) (.mv (.t 18)) none))]) (.block 0 (.loop (.seq (.seq (.ops [(PO.mk (some 19) (.mv (.t 8)) none), (PO.mk (some 20) (.bin .geq (.t 19) (.k (.int .i64 0))) none)]) (.cond (.t 20) .skip (.exit 0))) (.seq (.block 1 (.seq (.ops [(PO.mk (some 23) (.load true 4 (.t 3)) none), (PO.mk (some 24) (.mv (.t 8)) none), (PO.mk (some 25) (.call (F 112) [(.t 23), (.t 24)]) none), (PO.mk (some 9) (.alloc [(w64 0), (w64 0), (w64 0), (w64 0)]) none), (PO.mk none (.store 4 (.t 9) (.t 25)) none)]) (.seq (.ops [(PO.mk (some 26) (.load true 4 (.t 9)) none), (PO.mk (some 27) (.load true 4 (.t 2)) none), (PO.mk (some 28) (.call (F 106) [(.t 26), (.t 27)]) none), (PO.mk (some 29) (.bin .leq (.t 28) (.k (.int .i64 0))) none)]) (.cond (.t 29) (.seq (.ops [(PO.mk (some 31) (.load true 4 (.t 2)) none), (PO.mk (some 32) (.load true 4 (.t 9)) none), (PO.mk (some 33) (.call (F 109) [(.t 31), (.t 32)]) none), (PO.mk (some 30) (.mv (.t 33)) none), (PO.mk (some 34) (.ext 0 (.t 30)) none), (PO.mk (some 35) (.ext 1 (.t 30)) none), (PO.mk none (.store 4 (.t 2) (.t 34)) none)]) (.ops [(PO.mk (some 36) (.mv (.t 8)) none), (PO.mk (some 37) (.bin .quo (.t 36) (.k (.int .i64 64))) none), (PO.mk (some 38) (.idxArr 4 1 (.t 7) (.t 37)) none), (PO.mk (some 39) (.load false 1 (.t 38)) none), (PO.mk (some 40) (.mv (.t 8)) none), (PO.mk (some 41) (.bin .rem (.t 40) (.k (.int .i64 64))) none), (PO.mk (some 42) (.conv .u64 (.t 41)) none), (PO.mk (some 43) (.bin .shl (.k (w64 1)) (.t 42)) none), (PO.mk (some 44) (.bin .or (.t 39) (.t 43)) none), (PO.mk (some 45) (.idxArr 4 1 (.t 7) (.t 37)) none), (PO.mk none (.store 1 (.t 45) (.t 44)) none)])) .skip)))) (.ops [(PO.mk (some 21) (.mv (.t 8)) none), (PO.mk (some 22) (.bin .sub (.t 21) (.k (.int .i64 1))) none), (PO.mk (some 8) (.mv (.t 22)) none)])))))) (.seq (.draw2 [(7, 4), (7, 5), (2, 4), (2, 5)] [(.s, (PO.mk (some 46) (.load true 4 (.t 7)) none)), (.s, (PO.mk (some 47) (.load true 4 (.t 2)) none)), (.x, (PO.mk none (.store 4 (.t 4) (.t 46)) none)), (.x, (PO.mk none (.store 4 (.t 5) (.t 47)) none)), (.e, (PO.mk (some 6) (.mv (.k (.int .i64 0))) none))]) .ret)))))
def k117 (F : Fn) : PF := PF.mk 26 1 [(PR.cell 2 true 4)] (.seq (.ops [(PO.mk (some 1) (.box (.t 0)) none), (PO.mk (some 2) (.alloc [(w64 0), (w64 0), (w64 0), (w64 0)]) none)]) (.seq (.ops [(PO.mk (some 3) (.alloc [(w64 0), (w64 0), (w64 0), (w64 0)]) none)]) (.seq (.seq (.ops [(PO.mk (some 6) (.load true 32 (.t 1)) none), (PO.mk (some 7) (.mv (.k (.int .i64 0))) none)]) (.block 0 (.loop (.seq (.ops [(PO.mk (some 8) (.bin .lss (.t 7) (.k (.int .i64 32))) none)]) (.seq (.cond (.t 8) .skip (.exit 0)) (.seq (.block 1 (.seq (.ops [(PO.mk (some 9) (.mv (.t 7)) none), (PO.mk (some 10) (.idx 32 false 1 (.t 6) (.t 7)) none), (PO.mk (some 4) (.mv (.t 9)) none), (PO.mk (some 5) (.mv (.t 10)) none)]) (.ops [(PO.mk (some 11) (.mv (.t 4)) none), (PO.mk (some 12) (.bin .quo (.t 11) (.k (.int .i64 8))) none), (PO.mk (some 13) (.idxArr 4 1 (.t 3) (.t 12)) none), (PO.mk (some 14) (.load false 1 (.t 13)) none), (PO.mk (some 15) (.mv (.t 5)) none), (PO.mk (some 16) (.conv .u64 (.t 15)) none), (PO.mk (some 17) (.mv (.t 4)) none), (PO.mk (some 18) (.bin .rem (.t 17) (.k (.int .i64 8))) none), (PO.mk (some 19) (.bin .mul (.k (.int .i64 8)) (.t 18)) none), (PO.mk (some 20) (.conv .u64 (.t 19)) none), (PO.mk (some 21) (.bin .shl (.t 16) (.t 20)) none), (PO.mk (some 22) (.bin .or (.t 14) (.t 21)) none), (PO.mk (some 23) (.idxArr 4 1 (.t 3) (.t 12)) none), (PO.mk none (.store 1 (.t 23) (.t 22)) none)]))) (.ops [(PO.mk (some 24) (.bin .add (.t 7) (.k (.int .i64 1))) none), (PO.mk (some 7) (.mv (.t 24)) none)]))))))) (.seq (.ops [(PO.mk (some 25) (.load true 4 (.t 3)) none), (PO.mk none (.store 4 (.t 2) (.t 25)) none)]) .ret))))
def k115 (F : Fn) : PF := PF.mk 25 1 [(.t 2)] (.seq (.ops [(PO.mk (some 2) (.mv (.k (.int .i64 0))) none)]) (.seq (.seq (.ops [(PO.mk (some 3) (.mv (.t 0)) none), (PO.mk (some 4) (.bin .geq (.t 3) (.k (w64 4294967296))) none)]) (.cond (.t 4) (.seq (.ops [(PO.mk (some 5) (.mv (.t 0)) none), (PO.mk (some 6) (.bin .shr (.t 5) (.k (w64 32))) none), (PO.mk (some 0) (.mv (.t 6)) none)]) (.ops [(PO.mk (some 2) (.mv (.k (.int .i64 32))) none)])) .skip)) (.seq (.seq (.ops [(PO.mk (some 7) (.mv (.t 0)) none), (PO.mk (some 8) (.bin .geq (.t 7) (.k (w64 65536))) none)]) (.cond (.t 8) (.seq (.ops [(PO.mk (some 9) (.mv (.t 0)) none), (PO.mk (some 10) (.bin .shr (.t 9) (.k (w64 16))) none), (PO.mk (some 0) (.mv (.t 10)) none)]) (.ops [(PO.mk (some 11) (.mv (.t 2)) none), (PO.mk (some 12) (.bin .add (.t 11) (.k (.int .i64 16))) none), (PO.mk (some 2) (.mv (.t 12)) none)])) .skip)) (.seq (.seq (.ops [(PO.mk (some 13) (.mv (.t 0)) none), (PO.mk (some 14) (.bin .geq (.t 13) (.k (w64 256))) none)]) (.cond (.t 14) (.seq (.ops [(PO.mk (some 15) (.mv (.t 0)) none), (PO.mk (some 16) (.bin .shr (.t 15) (.k (w64 8))) none), (PO.mk (some 0) (.mv (.t 16)) none)]) (.ops [(PO.mk (some 17) (.mv (.t 2)) none), (PO.mk (some 18) (.bin .add (.t 17) (.k (.int .i64 8))) none), (PO.mk (some 2) (.mv (.t 18)) none)])) .skip)) (.seq (.ops [(PO.mk (some 19) (.mv (.t 2)) none), (PO.mk (some 20) (.mv (.t 0)) none), (PO.mk (some 21) (.conv .u8 (.t 20)) none), (PO.mk (some 22) (.idxStr (.k (.str (ByteArray.mk ⟨[0, 1, 2, 2, 3, 3, 3, 3, 4, 4, 4, 4, 4, 4, 4, 4, 5, 5, 5, 5, 5, 5, 5, 5, 5, 5, 5, 5, 5, 5, 5, 5, 6, 6, 6, 6, 6, 6, 6, 6, 6, 6, 6, 6, 6, 6, 6, 6, 6, 6, 6, 6, 6, 6, 6, 6, 6, 6, 6, 6, 6, 6, 6, 6, 7, 7, 7, 7, 7, 7, 7, 7, 7, 7, 7, 7, 7, 7, 7, 7, 7, 7, 7, 7, 7, 7, 7, 7, 7, 7, 7, 7, 7, 7, 7, 7, 7, 7, 7, 7, 7, 7, 7, 7, 7, 7, 7, 7, 7, 7, 7, 7, 7, 7, 7, 7, 7, 7, 7, 7, 7, 7, 7, 7, 7, 7, 7, 7, 8, 8, 8, 8, 8, 8, 8, 8, 8, 8, 8, 8, 8, 8, 8, 8, 8, 8, 8, 8, 8, 8, 8, 8, 8, 8, 8, 8, 8, 8, 8, 8, 8, 8, 8, 8, 8, 8, 8, 8, 8, 8, 8, 8, 8, 8, 8, 8, 8, 8, 8, 8, 8, 8, 8, 8, 8, 8, 8, 8, 8, 8, 8, 8, 8, 8, 8, 8, 8, 8, 8, 8, 8, 8, 8, 8, 8, 8, 8, 8, 8, 8, 8, 8, 8, 8, 8, 8, 8, 8, 8, 8, 8, 8, 8, 8, 8, 8, 8, 8, 8, 8, 8, 8, 8, 8, 8, 8, 8, 8, 8, 8, 8, 8, 8, 8, 8, 8, 8, 8, 8, 8, 8, 8, 8, 8, 8, 8]⟩))) (.t 21)) none), (PO.mk (some 23) (.conv .i64 (.t 22)) none), (PO.mk (some 24) (.bin .add (.t 19) (.t 23)) none), (PO.mk (some 2) (.mv (.t 24)) none)]) .ret)))))
def k118 (F : Fn) : PF := PF.mk 51 2 [(.t 4), (.t 5)] (.seq (.ops [(PO.mk (some 4) (.mv (.k (w64 0))) none), (PO.mk (some 5) (.mv (.k (w64 0))) none)]) (.seq (.ops [(PO.mk (some 14) (.mv (.t 0)) none), (PO.mk (some 15) (.bin .and (.t 14) (.k (w64 4294967295))) none), (PO.mk (some 6) (.mv (.t 15)) none)]) (.seq (.ops [(PO.mk (some 16) (.mv (.t 0)) none), (PO.mk (some 17) (.bin .shr (.t 16) (.k (w64 32))) none), (PO.mk (some 7) (.mv (.t 17)) none)]) (.seq (.ops [(PO.mk (some 18) (.mv (.t 1)) none), (PO.mk (some 19) (.bin .and (.t 18) (.k (w64 4294967295))) none), (PO.mk (some 8) (.mv (.t 19)) none)]) (.seq (.ops [(PO.mk (some 20) (.mv (.t 1)) none), (PO.mk (some 21) (.bin .shr (.t 20) (.k (w64 32))) none), (PO.mk (some 9) (.mv (.t 21)) none)]) (.seq (.ops [(PO.mk (some 22) (.mv (.t 6)) none), (PO.mk (some 23) (.mv (.t 8)) none), (PO.mk (some 24) (.bin .mul (.t 22) (.t 23)) none), (PO.mk (some 10) (.mv (.t 24)) none)]) (.seq (.ops [(PO.mk (some 25) (.mv (.t 7)) none), (PO.mk (some 26) (.mv (.t 8)) none), (PO.mk (some 27) (.bin .mul (.t 25) (.t 26)) none), (PO.mk (some 28) (.mv (.t 10)) none), (PO.mk (some 29) (.bin .shr (.t 28) (.k (w64 32))) none), (PO.mk (some 30) (.bin .add (.t 27) (.t 29)) none), (PO.mk (some 11) (.mv (.t 30)) none)]) (.seq (.ops [(PO.mk (some 31) (.mv (.t 11)) none), (PO.mk (some 32) (.bin .and (.t 31) (.k (w64 4294967295))) none), (PO.mk (some 12) (.mv (.t 32)) none)]) (.seq (.ops [(PO.mk (some 33) (.mv (.t 11)) none), (PO.mk (some 34) (.bin .shr (.t 33) (.k (w64 32))) none), (PO.mk (some 13) (.mv (.t 34)) none)]) (.seq (.ops [(PO.mk (some 35) (.mv (.t 12)) none), (PO.mk (some 36) (.mv (.t 6)) none), (PO.mk (some 37) (.mv (.t 9)) none), (PO.mk (some 38) (.bin .mul (.t 36) (.t 37)) none), (PO.mk (some 39) (.bin .add (.t 35) (.t 38)) none), (PO.mk (some 12) (.mv (.t 39)) none)]) (.seq (.ops [(PO.mk (some 40) (.mv (.t 7)) none), (PO.mk (some 41) (.mv (.t 9)) none), (PO.mk (some 42) (.bin .mul (.t 40) (.t 41)) none), (PO.mk (some 43) (.mv (.t 13)) none), (PO.mk (some 44) (.bin .add (.t 42) (.t 43)) none), (PO.mk (some 45) (.mv (.t 12)) none), (PO.mk (some 46) (.bin .shr (.t 45) (.k (w64 32))) none), (PO.mk (some 47) (.bin .add (.t 44) (.t 46)) none), (PO.mk (some 4) (.mv (.t 47)) none)]) (.seq (.ops [(PO.mk (some 48) (.mv (.t 0)) none), (PO.mk (some 49) (.mv (.t 1)) none), (PO.mk (some 50) (.bin .mul (.t 48) (.t 49)) none), (PO.mk (some 5) (.mv (.t 50)) none)]) .ret))))))))))))
structure OkNum (P : Program) (F : Fn) : Prop where
  mixed : P.follows .mixedOrders = true
  h105 : compFn P ⟨[], [], [], [], []⟩ (F 105) = some (k105 F)
  h106 : compFn P ⟨[], [], [], [], []⟩ (F 106) = some (k106 F)
  h107 : compFn P ⟨[], [], [], [], []⟩ (F 107) = some (k107 F)
  h108 : compFn P ⟨[], [], [], [], []⟩ (F 108) = some (k108 F)
  h109 : compFn P ⟨[], [], [], [], []⟩ (F 109) = some (k109 F)
  h110 : compFn P ⟨[], [], [], [], []⟩ (F 110) = some (k110 F)
  h111 : compFn P ⟨[], [], [], [], []⟩ (F 111) = some (k111 F)
  h112 : compFn P ⟨[], [], [], [], []⟩ (F 112) = some (k112 F)
  h113 : compFn P ⟨[], [], [], [], []⟩ (F 113) = some (k113 F)
  h114 : compFn P ⟨[], [], [], [], []⟩ (F 114) = some (k114 F)
  h116 : compFn P ⟨[], [], [], [], []⟩ (F 116) = some (k116 F)
  h117 : compFn P ⟨[], [], [], [], []⟩ (F 117) = some (k117 F)
  h115 : compFn P ⟨[], [], [], [], []⟩ (F 115) = some (k115 F)
  h118 : compFn P ⟨[], [], [], [], []⟩ (F 118) = some (k118 F)
end Go.Ab
set_option linter.unusedSimpArgs false
set_option linter.unusedVariables false
set_option maxRecDepth 10000
namespace Go.Ab
open Go Go.RowKit
section
variable {P : Program} {F : Fn}
theorem spec105 (ok : OkNum P F) (st : St) (x : W) : ACalls P (F 105) [w64 x] st fun v st' => v = nU (x.setWidth 256) ∧ st' = st := by
  refine shows_call ok.mixed ok.h105 (by simp [k105]) ?_
  have e : eU (x.setWidth 256) = [w64 x, w64 0, w64 0, w64 0] := by
    have : x.setWidth 256 = u4 x 0 0 0 := by
      apply BitVec.eq_of_toNat_eq
      have := x.isLt
      rw [u4_nat, BitVec.toNat_setWidth, Nat.mod_eq_of_lt (by omega)]
      simp
    rw [this, eU_u4]
  simp [k105, fillV, spliceV, nU, e]
  intro id hid
  simp [fillV, storeS, spliceV, St.seg, segOf]
  exact sub_upd hid
def cmpU (a b : U) : Int := if a.toNat < b.toNat then -1 else if a = b then 0 else 1
theorem cmpU_d {a b c d a' b' c' d' : W} (h : d ≠ d') : cmpU (u4 a b c d) (u4 a' b' c' d') = if d < d' then -1 else 1 := by
  have := a.isLt; have := b.isLt; have := c.isLt; have := a'.isLt; have := b'.isLt; have := c'.isLt
  have hne : u4 a b c d ≠ u4 a' b' c' d' := fun e => h (u4_inj e).2.2.2
  have hn : d.toNat ≠ d'.toNat := fun e => h (BitVec.eq_of_toNat_eq e)
  simp only [cmpU, hne, if_false, u4_nat, BitVec.lt_def]
  split <;> split <;> first | rfl | omega
theorem cmpU_c {a b c d a' b' c' : W} (h : c ≠ c') : cmpU (u4 a b c d) (u4 a' b' c' d) = if c < c' then -1 else 1 := by
  have := a.isLt; have := b.isLt; have := a'.isLt; have := b'.isLt
  have hne : u4 a b c d ≠ u4 a' b' c' d := fun e => h (u4_inj e).2.2.1
  have hn : c.toNat ≠ c'.toNat := fun e => h (BitVec.eq_of_toNat_eq e)
  simp only [cmpU, hne, if_false, u4_nat, BitVec.lt_def]
  split <;> split <;> first | rfl | omega
theorem cmpU_b {a b c d a' b' : W} (h : b ≠ b') : cmpU (u4 a b c d) (u4 a' b' c d) = if b < b' then -1 else 1 := by
  have := a.isLt; have := a'.isLt
  have hne : u4 a b c d ≠ u4 a' b' c d := fun e => h (u4_inj e).2.1
  have hn : b.toNat ≠ b'.toNat := fun e => h (BitVec.eq_of_toNat_eq e)
  simp only [cmpU, hne, if_false, u4_nat, BitVec.lt_def]
  split <;> split <;> first | rfl | omega
theorem cmpU_a {a b c d a' : W} (h : a ≠ a') : cmpU (u4 a b c d) (u4 a' b c d) = if a < a' then -1 else 1 := by
  have hne : u4 a b c d ≠ u4 a' b c d := fun e => h (u4_inj e).1
  have hn : a.toNat ≠ a'.toNat := fun e => h (BitVec.eq_of_toNat_eq e)
  simp only [cmpU, hne, if_false, u4_nat, BitVec.lt_def]
  split <;> split <;> first | rfl | omega
theorem sub_upd2 {st : St} {i j : Nat} {o p : AObj} (hi : st i = none) (hj : (st.upd i o) j = none) : St.sub st ((st.upd i o).upd j p) := sub_trans (sub_upd hi) (sub_upd hj)
theorem ne_upd {st : St} {i j : Nat} {o : AObj} (hj : (st.upd i o) j = none) : i ≠ j := by
  rintro rfl
  simp at hj
theorem upd_none {st : St} {i k : Nat} {o : AObj} (h : (st.upd i o) k = none) : i ≠ k ∧ st k = none := by
  by_cases e : k = i
  · subst e; simp at h
  · exact ⟨fun h => e h.symm, by simpa [e] using h⟩
theorem spec106 (ok : OkNum P F) (st : St) (x y : U) : ACalls P (F 106) [nU x, nU y] st fun v st' => v = .int .i64 (cmpU x y) ∧ st' = st := by
  refine shows_call ok.mixed ok.h106 (by simp [k106]) ?_
  obtain ⟨a, b, c, d, rfl⟩ := exists_u4 x
  obtain ⟨a', b', c', d', rfl⟩ := exists_u4 y
  simp only [k106, nU, eU_u4]
  simp
  intro i hi j hj
  have hij := ne_upd hj
  have hsub := sub_upd2 (p := .cells [w64 a', w64 b', w64 c', w64 d']) hi hj
  refine vc_unroll 5 ?_
  simp [unr_succ, hij, idxArrV, St.seg, segOf]
  by_cases h : d = d'
  · subst h
    simp [unr_succ, hij, idxArrV, St.seg, segOf]
    by_cases h : c = c'
    · subst h
      simp [unr_succ, hij, idxArrV, St.seg, segOf]
      by_cases h : b = b'
      · subst h
        simp [unr_succ, hij, idxArrV, St.seg, segOf]
        by_cases h : a = a'
        · subst h
          simp [unr_succ, hij, idxArrV, St.seg, segOf, cmpU, hsub]
        · have hb : (a != a') = true := by simp [h]
          by_cases hlt : a < a' <;> simp [unr_succ, hij, idxArrV, St.seg, segOf, hb, cmpU_a h, hlt, hsub]
      · have hb : (b != b') = true := by simp [h]
        by_cases hlt : b < b' <;> simp [unr_succ, hij, idxArrV, St.seg, segOf, hb, cmpU_b h, hlt, hsub]
    · have hb : (c != c') = true := by simp [h]
      by_cases hlt : c < c' <;> simp [unr_succ, hij, idxArrV, St.seg, segOf, hb, cmpU_c h, hlt, hsub]
  · have hb : (d != d') = true := by simp [h]
    by_cases hlt : d < d' <;> simp [unr_succ, hij, idxArrV, St.seg, segOf, hb, cmpU_d h, hlt, hsub]
theorem eqL_u (x y : U) : eqL (eU x) (eU y) = some (decide (x = y)) := by
  obtain ⟨a, b, c, d, rfl⟩ := exists_u4 x
  obtain ⟨a', b', c', d', rfl⟩ := exists_u4 y
  have key : ∀ p q : W, ((p.toNat : Int) == (q.toNat : Int)) = decide (p = q) := fun p q => by
    rw [Bool.eq_iff_iff]
    simp only [beq_iff_eq, decide_eq_true_eq]
    exact ⟨fun h => BitVec.eq_of_toNat_eq (by omega), fun h => by rw [h]⟩
  simp only [eU_u4, w64, eqL, if_true, Option.map_some, key, Option.some.injEq]
  rw [Bool.eq_iff_iff]
  simp only [Bool.and_eq_true, decide_eq_true_eq]
  constructor
  · rintro ⟨h1, h2, h3, h4, _⟩
    rw [h1, h2, h3, h4]
  · intro h
    obtain ⟨h1, h2, h3, h4⟩ := u4_inj h
    exact ⟨h1, h2, h3, h4, trivial⟩
theorem eU_zero : [w64 0#64, w64 0#64, w64 0#64, w64 0#64] = eU 0#256 := by
  rw [show (0#256 : U) = u4 0#64 0#64 0#64 0#64 from rfl, eU_u4]
theorem segU (x : U) : segOf (eU x) 0 4 = some (eU x) := rfl
theorem spec107 (ok : OkNum P F) (st : St) (x : U) : ACalls P (F 107) [nU x] st fun v st' => v = .bool (decide (x = 0)) ∧ st' = st := by
  refine shows_call ok.mixed ok.h107 (by simp [k107]) ?_
  simp only [k107, nU, eU_zero]
  simp
  intro i hi
  have hl := eU_len x
  simp [St.seg, segU, fillV, eqK, hl, eU_zero, eqL_u]
  exact sub_upd hi
theorem sub_ups {st s : St} {i : Nat} {o : AObj} (h : St.sub st s) (hi : st i = none) : St.sub st (s.upd i o) := fun j x hj => by
  have : j ≠ i := fun e => by rw [e, hi] at hj; cases hj
  simp [this, h j x hj]
end
end Go.Ab
set_option linter.unusedVariables false
namespace Go.Ab
open Go
def k135 (F : Fn) : PF := PF.mk 47 1 [(PR.cell 2 true 4), (.t 3)] (.seq (.ops [(PO.mk (some 2) (.alloc [(w64 0), (w64 0), (w64 0), (w64 0)]) none), (PO.mk (some 3) (.mv (.k (.bool false))) none)]) (.seq (.ops [(PO.mk (some 7) (.mv (.t 0)) none), (PO.mk (some 8) (.bin .shr (.t 7) (.k (w64 24))) none), (PO.mk (some 9) (.conv .i64 (.t 8)) none), (PO.mk (some 10) (.mv (.t 0)) none), (PO.mk (some 11) (.bin .and (.t 10) (.k (w32 8388607))) none), (PO.mk (some 12) (.conv .u64 (.t 11)) none), (PO.mk (some 4) (.mv (.t 9)) none), (PO.mk (some 5) (.mv (.t 12)) none)]) (.seq (.seq (.ops [(PO.mk (some 13) (.mv (.t 5)) none), (PO.mk (some 14) (.bin .eql (.t 13) (.k (w64 0))) none), (PO.mk (some 15) (.mv (.t 14)) none), (PO.mk (some 16) (.mv (.t 0)) (some (15, false))), (PO.mk (some 17) (.bin .and (.t 16) (.k (w32 8388608))) (some (15, false))), (PO.mk (some 18) (.bin .neq (.t 17) (.k (w32 0))) (some (15, false))), (PO.mk (some 19) (.pick (.t 15) (.k (.bool true)) (.t 18)) none)]) (.cond (.t 19) (.seq (.ops [(PO.mk (some 20) (.build [(w64 0), (w64 0), (w64 0), (w64 0)] []) none), (PO.mk none (.store 4 (.t 2) (.t 20)) none), (PO.mk (some 3) (.mv (.k (.bool false))) none)]) .ret) .skip)) (.seq (.ops [(PO.mk (some 21) (.mv (.t 5)) none), (PO.mk (some 22) (.call (F 105) [(.t 21)]) none), (PO.mk (some 6) (.alloc [(w64 0), (w64 0), (w64 0), (w64 0)]) none), (PO.mk none (.store 4 (.t 6) (.t 22)) none)]) (.seq (.seq (.ops [(PO.mk (some 23) (.mv (.t 4)) none), (PO.mk (some 24) (.bin .leq (.t 23) (.k (.int .i64 3))) none)]) (.cond (.t 24) (.seq (.ops [(PO.mk (some 25) (.load true 4 (.t 6)) none), (PO.mk (some 26) (.mv (.t 4)) none), (PO.mk (some 27) (.bin .sub (.k (.int .i64 3)) (.t 26)) none), (PO.mk (some 28) (.bin .mul (.k (.int .i64 8)) (.t 27)) none), (PO.mk (some 29) (.call (F 113) [(.t 25), (.t 28)]) none), (PO.mk none (.store 4 (.t 6) (.t 29)) none)]) (.seq (.draw [(.s, (PO.mk (some 30) (.load true 4 (.t 6)) none)), (.s, (PO.mk (some 31) (.load true 4 (.t 6)) none)), (.s, (PO.mk (some 32) (.call (F 107) [(.t 31)]) none)), (.e, (PO.mk (some 33) (.not (.t 32)) none)), (.x, (PO.mk none (.store 4 (.t 2) (.t 30)) none)), (.e, (PO.mk (some 3) (.mv (.t 33)) none))]) .ret)) .skip)) (.seq (.seq (.ops [(PO.mk (some 34) (.load true 4 (.t 6)) none), (PO.mk (some 35) (.call (F 114) [(.t 34)]) none), (PO.mk (some 36) (.mv (.t 4)) none), (PO.mk (some 37) (.bin .sub (.t 36) (.k (.int .i64 3))) none), (PO.mk (some 38) (.bin .mul (.k (.int .i64 8)) (.t 37)) none), (PO.mk (some 39) (.bin .add (.t 35) (.t 38)) none), (PO.mk (some 40) (.bin .gtr (.t 39) (.k (.int .i64 256))) none)]) (.cond (.t 40) (.seq (.ops [(PO.mk (some 41) (.build [(w64 0), (w64 0), (w64 0), (w64 0)] []) none), (PO.mk none (.store 4 (.t 2) (.t 41)) none), (PO.mk (some 3) (.mv (.k (.bool false))) none)]) .ret) .skip)) (.seq (.ops [(PO.mk (some 42) (.load true 4 (.t 6)) none), (PO.mk (some 43) (.mv (.t 4)) none), (PO.mk (some 44) (.bin .sub (.t 43) (.k (.int .i64 3))) none), (PO.mk (some 45) (.bin .mul (.k (.int .i64 8)) (.t 44)) none), (PO.mk (some 46) (.call (F 112) [(.t 42), (.t 45)]) none), (PO.mk none (.store 4 (.t 2) (.t 46)) none), (PO.mk (some 3) (.mv (.k (.bool true))) none)]) .ret)))))))
def k136 (F : Fn) : PF := PF.mk 37 1 [(.t 2)] (.seq (.ops [(PO.mk (some 1) (.box (.t 0)) none), (PO.mk (some 2) (.mv (.k (w32 0))) none)]) (.seq (.ops [(PO.mk (some 5) (.load true 4 (.t 1)) none), (PO.mk (some 6) (.call (F 114) [(.t 5)]) none), (PO.mk (some 7) (.bin .add (.t 6) (.k (.int .i64 7))) none), (PO.mk (some 8) (.bin .quo (.t 7) (.k (.int .i64 8))) none), (PO.mk (some 3) (.mv (.t 8)) none)]) (.seq (.ops [(PO.mk (some 4) (.mv (.k (w64 0))) none)]) (.seq (.seq (.ops [(PO.mk (some 9) (.mv (.t 3)) none), (PO.mk (some 10) (.bin .leq (.t 9) (.k (.int .i64 3))) none)]) (.cond (.t 10) (.ops [(PO.mk (some 11) (.idxArr 4 1 (.t 1) (.k (.int .i64 0))) none), (PO.mk (some 12) (.load false 1 (.t 11)) none), (PO.mk (some 13) (.mv (.t 3)) none), (PO.mk (some 14) (.bin .sub (.k (.int .i64 3)) (.t 13)) none), (PO.mk (some 15) (.bin .mul (.k (.int .i64 8)) (.t 14)) none), (PO.mk (some 16) (.conv .u64 (.t 15)) none), (PO.mk (some 17) (.bin .shl (.t 12) (.t 16)) none), (PO.mk (some 4) (.mv (.t 17)) none)]) (.ops [(PO.mk (some 18) (.load true 4 (.t 1)) none), (PO.mk (some 19) (.mv (.t 3)) none), (PO.mk (some 20) (.bin .sub (.t 19) (.k (.int .i64 3))) none), (PO.mk (some 21) (.bin .mul (.k (.int .i64 8)) (.t 20)) none), (PO.mk (some 22) (.call (F 113) [(.t 18), (.t 21)]) none), (PO.mk (some 23) (.idx 4 false 1 (.t 22) (.k (.int .i64 0))) none), (PO.mk (some 4) (.mv (.t 23)) none)]))) (.seq (.seq (.ops [(PO.mk (some 24) (.mv (.t 4)) none), (PO.mk (some 25) (.bin .and (.t 24) (.k (w64 8388608))) none), (PO.mk (some 26) (.bin .neq (.t 25) (.k (w64 0))) none)]) (.cond (.t 26) (.seq (.ops [(PO.mk (some 27) (.mv (.t 4)) none), (PO.mk (some 28) (.bin .shr (.t 27) (.k (w64 8))) none), (PO.mk (some 4) (.mv (.t 28)) none)]) (.ops [(PO.mk (some 29) (.mv (.t 3)) none), (PO.mk (some 30) (.bin .add (.t 29) (.k (.int .i64 1))) none), (PO.mk (some 3) (.mv (.t 30)) none)])) .skip)) (.seq (.ops [(PO.mk (some 31) (.mv (.t 3)) none), (PO.mk (some 32) (.conv .u32 (.t 31)) none), (PO.mk (some 33) (.bin .shl (.t 32) (.k (w64 24))) none), (PO.mk (some 34) (.mv (.t 4)) none), (PO.mk (some 35) (.conv .u32 (.t 34)) none), (PO.mk (some 36) (.bin .or (.t 33) (.t 35)) none), (PO.mk (some 2) (.mv (.t 36)) none)]) .ret))))))
def k137 (F : Fn) : PF := PF.mk 33 1 [(PR.cell 2 true 4)] (.seq (.ops [(PO.mk (some 1) (.box (.t 0)) none), (PO.mk (some 2) (.alloc [(w64 0), (w64 0), (w64 0), (w64 0)]) none)]) (.seq (.draw [(.s, (PO.mk (some 9) (.load true 4 (.t 1)) none)), (.s, (PO.mk (some 10) (.call (F 105) [(.k (w64 1))]) none)), (.e, (PO.mk (some 11) (.bsl false 4 2 [(w64 0), (w64 0), (w64 0), (w64 0)] [(0, (4, (.t 9))), (4, (4, (.t 10)))]) none)), (.s, (PO.mk (some 12) (.call (F 108) [(.t 11)]) none)), (.e, (PO.mk (some 8) (.mv (.t 12)) none)), (.e, (PO.mk (some 13) (.ext 0 (.t 8)) none)), (.e, (PO.mk (some 14) (.ext 1 (.t 8)) none)), (.a, (PO.mk (some 3) (.alloc [(w64 0), (w64 0), (w64 0), (w64 0)]) none)), (.x, (PO.mk none (.store 4 (.t 3) (.t 13)) none)), (.e, (PO.mk (some 4) (.mv (.t 14)) none))]) (.seq (.seq (.ops [(PO.mk (some 15) (.mv (.t 4)) none)]) (.cond (.t 15) (.seq (.ops [(PO.mk (some 16) (.call (F 105) [(.k (w64 1))]) none), (PO.mk none (.store 4 (.t 2) (.t 16)) none)]) .ret) .skip)) (.seq (.draw [(.s, (PO.mk (some 18) (.load true 4 (.t 1)) none)), (.s, (PO.mk (some 19) (.call (F 111) [(.t 18)]) none)), (.s, (PO.mk (some 20) (.load true 4 (.t 3)) none)), (.s, (PO.mk (some 21) (.call (F 116) [(.t 19), (.t 20)]) none)), (.e, (PO.mk (some 17) (.mv (.t 21)) none)), (.e, (PO.mk (some 22) (.ext 0 (.t 17)) none)), (.e, (PO.mk (some 23) (.ext 1 (.t 17)) none)), (.e, (PO.mk (some 24) (.ext 2 (.t 17)) none)), (.a, (PO.mk (some 5) (.alloc [(w64 0), (w64 0), (w64 0), (w64 0)]) none)), (.a, (PO.mk (some 6) (.alloc [(w64 0), (w64 0), (w64 0), (w64 0)]) none)), (.x, (PO.mk none (.store 4 (.t 5) (.t 22)) none)), (.x, (PO.mk none (.store 4 (.t 6) (.t 23)) none)), (.e, (PO.mk (some 7) (.mv (.t 24)) none))]) (.seq (.draw [(.s, (PO.mk (some 26) (.load true 4 (.t 5)) none)), (.s, (PO.mk (some 27) (.call (F 105) [(.k (w64 1))]) none)), (.e, (PO.mk (some 28) (.bsl false 4 2 [(w64 0), (w64 0), (w64 0), (w64 0)] [(0, (4, (.t 26))), (4, (4, (.t 27)))]) none)), (.s, (PO.mk (some 29) (.call (F 108) [(.t 28)]) none)), (.e, (PO.mk (some 25) (.mv (.t 29)) none)), (.e, (PO.mk (some 30) (.ext 0 (.t 25)) none)), (.e, (PO.mk (some 31) (.ext 1 (.t 25)) none)), (.x, (PO.mk none (.store 4 (.t 5) (.t 30)) none))]) (.seq (.ops [(PO.mk (some 32) (.load true 4 (.t 5)) none), (PO.mk none (.store 4 (.t 2) (.t 32)) none)]) .ret))))))
def k138 (F : Fn) : PF := PF.mk 80 4 [(.t 8), (.t 9)] (.seq (.ops [(PO.mk (some 7) (.box (.t 3)) none), (PO.mk (some 8) (.mv (.k (w32 0))) none), (PO.mk (some 9) (.mv (.k (.bool false))) none)]) (.seq (.ops [(PO.mk (some 15) (.mv (.t 0)) none), (PO.mk (some 16) (.call (F 135) [(.t 15)]) none), (PO.mk (some 14) (.mv (.t 16)) none), (PO.mk (some 17) (.ext 0 (.t 14)) none), (PO.mk (some 18) (.ext 1 (.t 14)) none), (PO.mk (some 10) (.alloc [(w64 0), (w64 0), (w64 0), (w64 0)]) none), (PO.mk none (.store 4 (.t 10) (.t 17)) none), (PO.mk (some 11) (.mv (.t 18)) none)]) (.seq (.seq (.ops [(PO.mk (some 19) (.mv (.t 11)) none), (PO.mk (some 20) (.not (.t 19)) none), (PO.mk (some 21) (.mv (.t 20)) none), (PO.mk (some 22) (.mv (.t 2)) (some (21, false))), (PO.mk (some 23) (.bin .lss (.t 22) (.k (.int .i64 1))) (some (21, false))), (PO.mk (some 24) (.pick (.t 21) (.k (.bool true)) (.t 23)) none), (PO.mk (some 25) (.mv (.t 24)) none), (PO.mk (some 26) (.mv (.t 2)) (some (25, false))), (PO.mk (some 27) (.bin .gtr (.t 26) (.k (.int .i64 1099511627776))) (some (25, false))), (PO.mk (some 28) (.pick (.t 25) (.k (.bool true)) (.t 27)) none)]) (.cond (.t 28) (.seq (.ops [(PO.mk (some 8) (.mv (.k (w32 0))) none), (PO.mk (some 9) (.mv (.k (.bool false))) none)]) .ret) .skip)) (.seq (.ops [(PO.mk (some 29) (.mv (.t 2)) none), (PO.mk (some 30) (.bin .quo (.t 29) (.k (.int .i64 4))) none), (PO.mk (some 31) (.mv (.t 1)) none), (PO.mk (some 32) (.mv (.t 2)) none), (PO.mk (some 33) (.bin .mul (.k (.int .i64 4)) (.t 32)) none), (PO.mk (some 34) (.min [(.t 31), (.t 33)]) none), (PO.mk (some 35) (.max [(.t 30), (.t 34)]) none), (PO.mk (some 1) (.mv (.t 35)) none)]) (.seq (.ops [(PO.mk (some 37) (.load true 4 (.t 10)) none), (PO.mk (some 38) (.mv (.t 1)) none), (PO.mk (some 39) (.conv .u64 (.t 38)) none), (PO.mk (some 40) (.call (F 110) [(.t 37), (.t 39)]) none), (PO.mk (some 36) (.mv (.t 40)) none), (PO.mk (some 41) (.ext 0 (.t 36)) none), (PO.mk (some 42) (.ext 1 (.t 36)) none), (PO.mk (some 12) (.alloc [(w64 0), (w64 0), (w64 0), (w64 0)]) none), (PO.mk none (.store 4 (.t 12) (.t 41)) none), (PO.mk (some 13) (.mv (.t 42)) none)]) (.seq (.seq (.ops [(PO.mk (some 43) (.mv (.t 13)) none)]) (.cond (.t 43) (.seq (.draw [(.e, (PO.mk (some 46) (.mv (.t 2)) none)), (.e, (PO.mk (some 47) (.conv .u64 (.t 46)) none)), (.s, (PO.mk (some 45) (.load true 4 (.t 10)) none)), (.s, (PO.mk (some 48) (.call (F 105) [(.t 47)]) none)), (.s, (PO.mk (some 49) (.call (F 116) [(.t 45), (.t 48)]) none)), (.e, (PO.mk (some 44) (.mv (.t 49)) none)), (.e, (PO.mk (some 50) (.ext 0 (.t 44)) none)), (.e, (PO.mk (some 51) (.ext 1 (.t 44)) none)), (.e, (PO.mk (some 52) (.ext 2 (.t 44)) none)), (.x, (PO.mk none (.store 4 (.t 12) (.t 50)) none))]) (.seq (.seq (.ops [(PO.mk (some 54) (.load true 4 (.t 12)) none), (PO.mk (some 55) (.mv (.t 1)) none), (PO.mk (some 56) (.conv .u64 (.t 55)) none), (PO.mk (some 57) (.call (F 110) [(.t 54), (.t 56)]) none), (PO.mk (some 53) (.mv (.t 57)) none), (PO.mk (some 58) (.ext 0 (.t 53)) none), (PO.mk (some 59) (.ext 1 (.t 53)) none), (PO.mk none (.store 4 (.t 12) (.t 58)) none), (PO.mk (some 13) (.mv (.t 59)) none)]) (.seq (.ops [(PO.mk (some 60) (.mv (.t 13)) none)]) (.cond (.t 60) (.seq (.ops [(PO.mk (some 61) (.load true 4 (.t 7)) none), (PO.mk (some 62) (.call (F 136) [(.t 61)]) none), (PO.mk (some 8) (.mv (.t 62)) none), (PO.mk (some 9) (.mv (.k (.bool true))) none)]) .ret) .skip))) (.ops [(PO.mk (some 63) (.load true 4 (.t 12)) none), (PO.mk none (.store 4 (.t 10) (.t 63)) none)]))) (.draw [(.e, (PO.mk (some 66) (.mv (.t 2)) none)), (.e, (PO.mk (some 67) (.conv .u64 (.t 66)) none)), (.s, (PO.mk (some 65) (.load true 4 (.t 12)) none)), (.s, (PO.mk (some 68) (.call (F 105) [(.t 67)]) none)), (.s, (PO.mk (some 69) (.call (F 116) [(.t 65), (.t 68)]) none)), (.e, (PO.mk (some 64) (.mv (.t 69)) none)), (.e, (PO.mk (some 70) (.ext 0 (.t 64)) none)), (.e, (PO.mk (some 71) (.ext 1 (.t 64)) none)), (.e, (PO.mk (some 72) (.ext 2 (.t 64)) none)), (.x, (PO.mk none (.store 4 (.t 10) (.t 70)) none))]))) (.seq (.seq (.ops [(PO.mk (some 73) (.load true 4 (.t 10)) none), (PO.mk (some 74) (.load true 4 (.t 7)) none), (PO.mk (some 75) (.call (F 106) [(.t 73), (.t 74)]) none), (PO.mk (some 76) (.bin .gtr (.t 75) (.k (.int .i64 0))) none)]) (.cond (.t 76) (.ops [(PO.mk (some 77) (.load true 4 (.t 7)) none), (PO.mk none (.store 4 (.t 10) (.t 77)) none)]) .skip)) (.seq (.ops [(PO.mk (some 78) (.load true 4 (.t 10)) none), (PO.mk (some 79) (.call (F 136) [(.t 78)]) none), (PO.mk (some 8) (.mv (.t 79)) none), (PO.mk (some 9) (.mv (.k (.bool true))) none)]) .ret))))))))
def k139 (F : Fn) : PF := PF.mk 19 2 [(.t 4)] (.seq (.ops [(PO.mk (some 4) (.mv (.k (.sl .nil [] 0))) none)]) (.seq (.ops [(PO.mk (some 5) (.mv (.t 0)) none), (PO.mk (some 6) (.mv (.t 1)) none), (PO.mk (some 7) (.conv .u8 (.t 6)) none), (PO.mk (some 8) (.mv (.t 1)) none), (PO.mk (some 9) (.bin .shr (.t 8) (.k (w64 8))) none), (PO.mk (some 10) (.conv .u8 (.t 9)) none), (PO.mk (some 11) (.mv (.t 1)) none), (PO.mk (some 12) (.bin .shr (.t 11) (.k (w64 16))) none), (PO.mk (some 13) (.conv .u8 (.t 12)) none), (PO.mk (some 14) (.mv (.t 1)) none), (PO.mk (some 15) (.bin .shr (.t 14) (.k (w64 24))) none), (PO.mk (some 16) (.conv .u8 (.t 15)) none), (PO.mk (some 17) (.bsl false 1 4 [(w8 0)] [(0, (1, (.t 7))), (1, (1, (.t 10))), (2, (1, (.t 13))), (3, (1, (.t 16)))]) none), (PO.mk (some 18) (.app 1 1 (.t 5) (.t 17)) none), (PO.mk (some 4) (.mv (.t 18)) none)]) .ret))
def k140 (F : Fn) : PF := PF.mk 25 1 [(.t 2)] (.seq (.ops [(PO.mk (some 1) (.box (.t 0)) none), (PO.mk (some 2) (.mv (.k (.sl .nil [] 0))) none)]) (.seq (.draw2 [] [(.e, (PO.mk (some 5) (.fldA 0 (.t 1)) none)), (.s, (PO.mk (some 6) (.load false 1 (.t 5)) none)), (.x, (PO.mk (some 4) (.mksl true 1 1 [(w8 0)] (.k (.int .i64 0)) (.k (.int .i64 80))) none)), (.x, (PO.mk (some 7) (.call (F 139) [(.t 4), (.t 6)]) none)), (.e, (PO.mk (some 3) (.mv (.t 7)) none))]) (.seq (.seq (.frz [1]) (.draw2 [] [(.e, (PO.mk (some 8) (.mv (.t 3)) none)), (.e, (PO.mk (some 9) (.fldA 1 (.t 1)) none)), (.e, (PO.mk (some 12) (.fldA 33 (.t 1)) none)), (.s, (PO.mk (some 10) (.slArr false 32 1 (.t 9) none none) none)), (.s, (PO.mk (some 13) (.slArr false 32 1 (.t 12) none none) none)), (.x, (PO.mk (some 11) (.app 1 1 (.t 8) (.t 10)) none)), (.x, (PO.mk (some 14) (.app 1 1 (.t 11) (.t 13)) none)), (.e, (PO.mk (some 3) (.mv (.t 14)) none))])) (.seq (.draw [(.e, (PO.mk (some 15) (.mv (.t 3)) none)), (.e, (PO.mk (some 16) (.fldA 65 (.t 1)) none)), (.e, (PO.mk (some 17) (.loadE false 1 (.t 16)) none)), (.e, (PO.mk (some 19) (.fldA 66 (.t 1)) none)), (.e, (PO.mk (some 20) (.loadE false 1 (.t 19)) none)), (.e, (PO.mk (some 22) (.fldA 67 (.t 1)) none)), (.e, (PO.mk (some 23) (.loadE false 1 (.t 22)) none)), (.x, (PO.mk (some 18) (.call (F 139) [(.t 15), (.t 17)]) none)), (.x, (PO.mk (some 21) (.call (F 139) [(.t 18), (.t 20)]) none)), (.x, (PO.mk (some 24) (.call (F 139) [(.t 21), (.t 23)]) none)), (.e, (PO.mk (some 2) (.mv (.t 24)) none))]) .ret))))
def k141 (F : Fn) : PF := PF.mk 7 1 [(PR.cell 2 true 32)] (.seq (.ops [(PO.mk (some 1) (.box (.t 0)) none), (PO.mk (some 2) (.alloc zR32_w80) none)]) (.seq (.ops [(PO.mk (some 3) (.load true 68 (.t 1)) none), (PO.mk (some 4) (.call (F 140) [(.t 3)]) none), (PO.mk (some 5) (.bsl false 1 1 [(.sl .nil [] 0)] [(0, (1, (.t 4)))]) none), (PO.mk (some 6) (.call (F 104) [(.t 5)]) none), (PO.mk none (.store 32 (.t 2) (.t 6)) none)]) .ret))
def k142 (F : Fn) : PF := PF.mk 40 2 [(.t 4)] (.seq (.ops [(PO.mk (some 2) (.box (.t 0)) none), (PO.mk (some 4) (.mv (.k (.int .i64 0))) none)]) (.seq (.ops [(PO.mk (some 10) (.fldA 66 (.t 2)) none), (PO.mk (some 11) (.load false 1 (.t 10)) none), (PO.mk (some 12) (.call (F 135) [(.t 11)]) none), (PO.mk (some 9) (.mv (.t 12)) none), (PO.mk (some 13) (.ext 0 (.t 9)) none), (PO.mk (some 14) (.ext 1 (.t 9)) none), (PO.mk (some 5) (.alloc [(w64 0), (w64 0), (w64 0), (w64 0)]) none), (PO.mk none (.store 4 (.t 5) (.t 13)) none), (PO.mk (some 6) (.mv (.t 14)) none)]) (.seq (.ops [(PO.mk (some 16) (.mv (.t 1)) none), (PO.mk (some 17) (.call (F 135) [(.t 16)]) none), (PO.mk (some 15) (.mv (.t 17)) none), (PO.mk (some 18) (.ext 0 (.t 15)) none), (PO.mk (some 19) (.ext 1 (.t 15)) none), (PO.mk (some 7) (.alloc [(w64 0), (w64 0), (w64 0), (w64 0)]) none), (PO.mk none (.store 4 (.t 7) (.t 18)) none), (PO.mk (some 8) (.mv (.t 19)) none)]) (.seq (.block 0 (.seq (.ops [(PO.mk (some 21) (.mv (.t 6)) none), (PO.mk (some 22) (.not (.t 21)) none), (PO.mk (some 23) (.mv (.t 22)) none), (PO.mk (some 24) (.mv (.t 8)) (some (23, false))), (PO.mk (some 25) (.not (.t 24)) (some (23, false))), (PO.mk (some 26) (.pick (.t 23) (.k (.bool true)) (.t 25)) none), (PO.mk (some 27) (.mv (.t 26)) none), (PO.mk (some 28) (.load true 4 (.t 5)) (some (27, false))), (PO.mk (some 29) (.load true 4 (.t 7)) (some (27, false))), (PO.mk (some 30) (.call (F 106) [(.t 28), (.t 29)]) (some (27, false))), (PO.mk (some 31) (.bin .gtr (.t 30) (.k (.int .i64 0))) (some (27, false))), (PO.mk (some 32) (.pick (.t 27) (.k (.bool true)) (.t 31)) none), (PO.mk (some 20) (.mv (.t 32)) none)]) (.cond (.t 20) (.seq (.ops [(PO.mk (some 4) (.mv (.k (.int .i64 30))) none)]) .ret) (.seq (.draw [(.s, (PO.mk (some 34) (.load true 68 (.t 2)) none)), (.s, (PO.mk (some 35) (.call (F 141) [(.t 34)]) none)), (.s, (PO.mk (some 36) (.call (F 117) [(.t 35)]) none)), (.s, (PO.mk (some 37) (.load true 4 (.t 5)) none)), (.s, (PO.mk (some 38) (.call (F 106) [(.t 36), (.t 37)]) none)), (.e, (PO.mk (some 39) (.bin .gtr (.t 38) (.k (.int .i64 0))) none)), (.e, (PO.mk (some 33) (.mv (.t 39)) none))]) (.cond (.t 33) (.seq (.ops [(PO.mk (some 4) (.mv (.k (.int .i64 50))) none)]) .ret) .skip))))) (.seq (.ops [(PO.mk (some 4) (.mv (.k (.int .i64 0))) none)]) .ret)))))
def k143 (F : Fn) : PF := PF.mk 24 3 [(PR.cell 6 true 68), (.t 7)] (.seq (.ops [(PO.mk (some 3) (.box (.t 0)) none), (PO.mk (some 6) (.alloc z68_39b1) none), (PO.mk (some 7) (.mv (.k (.bool false))) none)]) (.seq (.seq (.ops [(PO.mk (some 8) (.mv (.t 2)) none), (PO.mk (some 9) (.min [(.t 8), (.k (.int .i64 65536))]) none), (PO.mk (some 10) (.max [(.k (.int .i64 0)), (.t 9)]) none), (PO.mk (some 11) (.mv (.k (.int .i64 0))) none)]) (.block 0 (.loop (.seq (.ops [(PO.mk (some 12) (.bin .lss (.t 11) (.t 10)) none)]) (.seq (.cond (.t 12) .skip (.exit 0)) (.seq (.block 1 (.seq (.seq (.ops [(PO.mk (some 13) (.load true 68 (.t 3)) none), (PO.mk (some 14) (.mv (.t 1)) none), (PO.mk (some 15) (.call (F 142) [(.t 13), (.t 14)]) none), (PO.mk (some 16) (.bin .eql (.t 15) (.k (.int .i64 0))) none)]) (.cond (.t 16) (.seq (.ops [(PO.mk (some 17) (.load true 68 (.t 3)) none), (PO.mk none (.store 68 (.t 6) (.t 17)) none), (PO.mk (some 7) (.mv (.k (.bool true))) none)]) .ret) .skip)) (.ops [(PO.mk (some 18) (.fldA 67 (.t 3)) none), (PO.mk (some 19) (.load false 1 (.t 18)) none), (PO.mk (some 20) (.bin .add (.t 19) (.k (w32 1))) none), (PO.mk (some 21) (.fldA 67 (.t 3)) none), (PO.mk none (.store 1 (.t 21) (.t 20)) none)]))) (.ops [(PO.mk (some 22) (.bin .add (.t 11) (.k (.int .i64 1))) none), (PO.mk (some 11) (.mv (.t 22)) none)]))))))) (.seq (.ops [(PO.mk (some 23) (.build z68_39b1 []) none), (PO.mk none (.store 68 (.t 6) (.t 23)) none), (PO.mk (some 7) (.mv (.k (.bool false))) none)]) .ret)))
structure OkHead (P : Program) (F : Fn) : Prop where
  mixed : P.follows .mixedOrders = true
  toOkNum : OkNum P F
  toOkHash : OkHash P F
  h135 : compFn P ⟨[], [], [], [], []⟩ (F 135) = some (k135 F)
  h136 : compFn P ⟨[], [], [], [], []⟩ (F 136) = some (k136 F)
  h137 : compFn P ⟨[], [], [], [], []⟩ (F 137) = some (k137 F)
  h138 : compFn P ⟨[], [], [], [], []⟩ (F 138) = some (k138 F)
  h139 : compFn P ⟨[], [], [], [], []⟩ (F 139) = some (k139 F)
  h140 : compFn P ⟨[4, 17, 20, 23], [], [(2, [1])], [], []⟩ (F 140) = some (k140 F)
  h141 : compFn P ⟨[], [], [], [], []⟩ (F 141) = some (k141 F)
  h142 : compFn P ⟨[], [], [], [], []⟩ (F 142) = some (k142 F)
  h143 : compFn P ⟨[], [], [], [], []⟩ (F 143) = some (k143 F)
end Go.Ab
set_option linter.unusedVariables false
namespace Go.Ab
open Go
def k192 (F : Fn) : PF := PF.mk 23 1 [(PR.cell 2 true 32), (.t 3)] (.seq (.ops [(PO.mk (some 2) (.alloc zR32_w80) none), (PO.mk (some 3) (.mv (.k (.bool false))) none)]) (.seq (.ops [(PO.mk (some 4) (.mv (.k (.sl .nil [] 0))) none)]) (.seq (.seq (.ops [(PO.mk (some 7) (.mv (.t 0)) none), (PO.mk (some 8) (.lenSl (.t 7)) none), (PO.mk (some 9) (.mv (.k (.int .i64 0))) none)]) (.block 0 (.loop (.seq (.ops [(PO.mk (some 10) (.bin .lss (.t 9) (.t 8)) none)]) (.seq (.cond (.t 10) .skip (.exit 0)) (.seq (.block 1 (.seq (.ops [(PO.mk (some 11) (.idxSl 2 (.t 7) (.t 9)) none), (PO.mk (some 12) (.load true 2 (.t 11)) none), (PO.mk (some 6) (.alloc [(.sl .nil [] 0), (.sl .nil [] 0)]) none), (PO.mk none (.store 2 (.t 6) (.t 12)) none)]) (.ops [(PO.mk (some 13) (.mv (.t 4)) none), (PO.mk (some 14) (.load true 2 (.t 6)) none), (PO.mk (some 15) (.call (F 198) [(.t 14)]) none), (PO.mk (some 16) (.bsl false 32 1 zR32_w80 [(0, (32, (.t 15)))]) none), (PO.mk (some 17) (.app 32 32 (.t 13) (.t 16)) none), (PO.mk (some 4) (.mv (.t 17)) none)]))) (.ops [(PO.mk (some 18) (.bin .add (.t 9) (.k (.int .i64 1))) none), (PO.mk (some 9) (.mv (.t 18)) none)]))))))) (.seq (.ops [(PO.mk (some 19) (.mv (.t 4)) none), (PO.mk (some 20) (.call (F 199) [(.t 19)]) none), (PO.mk (some 21) (.ext 0 (.t 20)) none), (PO.mk (some 22) (.ext 1 (.t 20)) none), (PO.mk none (.store 32 (.t 2) (.t 21)) none), (PO.mk (some 3) (.mv (.t 22)) none)]) .ret))))
def k198 (F : Fn) : PF := PF.mk 7 1 [(PR.cell 2 true 32)] (.seq (.ops [(PO.mk (some 1) (.box (.t 0)) none), (PO.mk (some 2) (.alloc zR32_w80) none)]) (.seq (.ops [(PO.mk (some 3) (.load true 2 (.t 1)) none), (PO.mk (some 4) (.call (F 200) [(.t 3)]) none), (PO.mk (some 5) (.bsl false 1 1 [(.sl .nil [] 0)] [(0, (1, (.t 4)))]) none), (PO.mk (some 6) (.call (F 104) [(.t 5)]) none), (PO.mk none (.store 32 (.t 2) (.t 6)) none)]) .ret))
def k200 (F : Fn) : PF := PF.mk 7 1 [(.t 2)] (.seq (.ops [(PO.mk (some 1) (.box (.t 0)) none), (PO.mk (some 2) (.mv (.k (.sl .nil [] 0))) none)]) (.seq (.ops [(PO.mk (some 3) (.alloc [(.sl .nil [] 0)]) none)]) (.seq (.ops [(PO.mk (some 4) (.load true 2 (.t 1)) none), (PO.mk (some 5) (.call (F 201) [(.t 3), (.t 4)]) none)]) (.seq (.ops [(PO.mk (some 6) (.call (F 202) [(.t 3)]) none), (PO.mk (some 2) (.mv (.t 6)) none)]) .ret))))
def k201 (F : Fn) : PF := PF.mk 64 2 [] (.seq (.ops [(PO.mk (some 3) (.box (.t 1)) none)]) (.seq (.ops [(PO.mk (some 8) (.mv (.t 0)) none), (PO.mk (some 9) (.fldA 0 (.t 3)) none), (PO.mk (some 10) (.load false 1 (.t 9)) none), (PO.mk (some 11) (.lenSl (.t 10)) none), (PO.mk (some 12) (.conv .u64 (.t 11)) none), (PO.mk (some 13) (.call (F 203) [(.t 8), (.t 12)]) none)]) (.seq (.seq (.ops [(PO.mk (some 14) (.fldA 0 (.t 3)) none), (PO.mk (some 15) (.load false 1 (.t 14)) none), (PO.mk (some 16) (.lenSl (.t 15)) none), (PO.mk (some 17) (.mv (.k (.int .i64 0))) none)]) (.block 0 (.loop (.seq (.ops [(PO.mk (some 18) (.bin .lss (.t 17) (.t 16)) none)]) (.seq (.cond (.t 18) .skip (.exit 0)) (.seq (.block 1 (.seq (.ops [(PO.mk (some 19) (.idxSl 34 (.t 15) (.t 17)) none), (PO.mk (some 20) (.load true 34 (.t 19)) none), (PO.mk (some 5) (.alloc z34_1838) none), (PO.mk none (.store 34 (.t 5) (.t 20)) none)]) (.seq (.seq (.frz [5]) (.ops [(PO.mk (some 21) (.mv (.t 0)) none), (PO.mk (some 22) (.fldA 0 (.t 5)) none), (PO.mk (some 23) (.fldA 0 (.t 22)) none), (PO.mk (some 24) (.slArr false 32 1 (.t 23) none none) none), (PO.mk (some 25) (.bsl false 1 1 [(.sl .nil [] 0)] [(0, (1, (.t 24)))]) none), (PO.mk (some 26) (.call (F 204) [(.t 21), (.t 25)]) none)])) (.seq (.ops [(PO.mk (some 27) (.mv (.t 0)) none), (PO.mk (some 28) (.fldA 0 (.t 5)) none), (PO.mk (some 29) (.fldA 32 (.t 28)) none), (PO.mk (some 30) (.load false 1 (.t 29)) none), (PO.mk (some 31) (.conv .u64 (.t 30)) none), (PO.mk (some 32) (.bsl false 1 1 [(w64 0)] [(0, (1, (.t 31)))]) none), (PO.mk (some 33) (.call (F 205) [(.t 27), (.k (.int .i64 4)), (.t 32)]) none)]) (.ops [(PO.mk (some 34) (.mv (.t 0)) none), (PO.mk (some 35) (.fldA 33 (.t 5)) none), (PO.mk (some 36) (.load false 1 (.t 35)) none), (PO.mk (some 37) (.call (F 206) [(.t 34), (.t 36)]) none)]))))) (.ops [(PO.mk (some 38) (.bin .add (.t 17) (.k (.int .i64 1))) none), (PO.mk (some 17) (.mv (.t 38)) none)]))))))) (.seq (.ops [(PO.mk (some 39) (.mv (.t 0)) none), (PO.mk (some 40) (.fldA 1 (.t 3)) none), (PO.mk (some 41) (.load false 1 (.t 40)) none), (PO.mk (some 42) (.lenSl (.t 41)) none), (PO.mk (some 43) (.conv .u64 (.t 42)) none), (PO.mk (some 44) (.call (F 203) [(.t 39), (.t 43)]) none)]) (.seq (.ops [(PO.mk (some 45) (.fldA 1 (.t 3)) none), (PO.mk (some 46) (.load false 1 (.t 45)) none), (PO.mk (some 47) (.lenSl (.t 46)) none), (PO.mk (some 48) (.mv (.k (.int .i64 0))) none)]) (.block 2 (.loop (.seq (.ops [(PO.mk (some 49) (.bin .lss (.t 48) (.t 47)) none)]) (.seq (.cond (.t 49) .skip (.exit 2)) (.seq (.block 3 (.seq (.ops [(PO.mk (some 50) (.idxSl 33 (.t 46) (.t 48)) none), (PO.mk (some 51) (.load true 33 (.t 50)) none), (PO.mk (some 7) (.alloc z33_0be4) none), (PO.mk none (.store 33 (.t 7) (.t 51)) none)]) (.seq (.ops [(PO.mk (some 52) (.mv (.t 0)) none), (PO.mk (some 53) (.fldA 0 (.t 7)) none), (PO.mk (some 54) (.load false 1 (.t 53)) none), (PO.mk (some 55) (.conv .u64 (.t 54)) none), (PO.mk (some 56) (.bsl false 1 1 [(w64 0)] [(0, (1, (.t 55)))]) none), (PO.mk (some 57) (.call (F 205) [(.t 52), (.k (.int .i64 8)), (.t 56)]) none)]) (.seq (.frz [7]) (.ops [(PO.mk (some 58) (.mv (.t 0)) none), (PO.mk (some 59) (.fldA 1 (.t 7)) none), (PO.mk (some 60) (.slArr false 32 1 (.t 59) none none) none), (PO.mk (some 61) (.bsl false 1 1 [(.sl .nil [] 0)] [(0, (1, (.t 60)))]) none), (PO.mk (some 62) (.call (F 204) [(.t 58), (.t 61)]) none)]))))) (.ops [(PO.mk (some 63) (.bin .add (.t 48) (.k (.int .i64 1))) none), (PO.mk (some 48) (.mv (.t 63)) none)])))))))))))
def k199 (F : Fn) : PF := PF.mk 72 1 [(PR.cell 2 true 32), (.t 3)] (.seq (.ops [(PO.mk (some 2) (.alloc zR32_w80) none), (PO.mk (some 3) (.mv (.k (.bool false))) none)]) (.seq (.seq (.ops [(PO.mk (some 8) (.mv (.t 0)) none), (PO.mk (some 9) (.lenSl (.t 8)) none), (PO.mk (some 10) (.bin .eql (.t 9) (.k (.int .i64 0))) none)]) (.cond (.t 10) (.seq (.ops [(PO.mk (some 11) (.build zR32_w80 []) none), (PO.mk none (.store 32 (.t 2) (.t 11)) none), (PO.mk (some 3) (.mv (.k (.bool false))) none)]) .ret) .skip)) (.seq (.ops [(PO.mk (some 4) (.mv (.k (.bool false))) none)]) (.seq (.ops [(PO.mk (some 12) (.bsl false 32 0 zR32_w80 []) none), (PO.mk (some 13) (.mv (.t 0)) none), (PO.mk (some 14) (.app 32 32 (.t 12) (.t 13)) none), (PO.mk (some 5) (.mv (.t 14)) none)]) (.seq (.block 0 (.loop (.seq (.seq (.ops [(PO.mk (some 15) (.mv (.t 5)) none), (PO.mk (some 16) (.lenSl (.t 15)) none), (PO.mk (some 17) (.bin .gtr (.t 16) (.k (.int .i64 1))) none)]) (.cond (.t 17) .skip (.exit 0))) (.block 1 (.seq (.ops [(PO.mk (some 6) (.mv (.k (.sl .nil [] 0))) none)]) (.seq (.seq (.ops [(PO.mk (some 7) (.mv (.k (.int .i64 0))) none)]) (.block 2 (.loop (.seq (.seq (.ops [(PO.mk (some 18) (.mv (.t 7)) none), (PO.mk (some 19) (.mv (.t 5)) none), (PO.mk (some 20) (.lenSl (.t 19)) none), (PO.mk (some 21) (.bin .lss (.t 18) (.t 20)) none)]) (.cond (.t 21) .skip (.exit 2))) (.seq (.block 3 (.seq (.seq (.ops [(PO.mk (some 24) (.mv (.t 7)) none), (PO.mk (some 25) (.bin .add (.t 24) (.k (.int .i64 1))) none), (PO.mk (some 26) (.mv (.t 5)) none), (PO.mk (some 27) (.lenSl (.t 26)) none), (PO.mk (some 28) (.bin .eql (.t 25) (.t 27)) none)]) (.cond (.t 28) (.seq (.draw [(.e, (PO.mk (some 29) (.mv (.t 6)) none)), (.e, (PO.mk (some 30) (.mv (.t 5)) none)), (.e, (PO.mk (some 31) (.mv (.t 7)) none)), (.e, (PO.mk (some 32) (.idxSl 32 (.t 30) (.t 31)) none)), (.e, (PO.mk (some 34) (.mv (.t 5)) none)), (.e, (PO.mk (some 35) (.mv (.t 7)) none)), (.e, (PO.mk (some 36) (.idxSl 32 (.t 34) (.t 35)) none)), (.s, (PO.mk (some 33) (.load true 32 (.t 32)) none)), (.s, (PO.mk (some 37) (.load true 32 (.t 36)) none)), (.x, (PO.mk (some 38) (.call (F 207) [(.t 33), (.t 37)]) none)), (.e, (PO.mk (some 39) (.bsl false 32 1 zR32_w80 [(0, (32, (.t 38)))]) none)), (.x, (PO.mk (some 40) (.app 32 32 (.t 29) (.t 39)) none)), (.e, (PO.mk (some 6) (.mv (.t 40)) none))]) (.exit 2)) .skip)) (.seq (.draw [(.e, (PO.mk (some 41) (.mv (.t 4)) none)), (.e, (PO.mk (some 42) (.mv (.t 41)) none)), (.e, (PO.mk (some 43) (.mv (.t 5)) (some (42, false)))), (.e, (PO.mk (some 44) (.mv (.t 7)) (some (42, false)))), (.e, (PO.mk (some 45) (.idxSl 32 (.t 43) (.t 44)) (some (42, false)))), (.e, (PO.mk (some 47) (.mv (.t 5)) (some (42, false)))), (.e, (PO.mk (some 48) (.mv (.t 7)) (some (42, false)))), (.e, (PO.mk (some 49) (.bin .add (.t 48) (.k (.int .i64 1))) (some (42, false)))), (.e, (PO.mk (some 50) (.idxSl 32 (.t 47) (.t 49)) (some (42, false)))), (.s, (PO.mk (some 46) (.load true 32 (.t 45)) (some (42, false)))), (.s, (PO.mk (some 51) (.load true 32 (.t 50)) (some (42, false)))), (.e, (PO.mk (some 52) (.eqa (.agg 32) false (.t 46) (.t 51)) (some (42, false)))), (.e, (PO.mk (some 53) (.pick (.t 42) (.k (.bool true)) (.t 52)) none)), (.e, (PO.mk (some 4) (.mv (.t 53)) none))]) (.draw [(.e, (PO.mk (some 54) (.mv (.t 6)) none)), (.e, (PO.mk (some 55) (.mv (.t 5)) none)), (.e, (PO.mk (some 56) (.mv (.t 7)) none)), (.e, (PO.mk (some 57) (.idxSl 32 (.t 55) (.t 56)) none)), (.e, (PO.mk (some 59) (.mv (.t 5)) none)), (.e, (PO.mk (some 60) (.mv (.t 7)) none)), (.e, (PO.mk (some 61) (.bin .add (.t 60) (.k (.int .i64 1))) none)), (.e, (PO.mk (some 62) (.idxSl 32 (.t 59) (.t 61)) none)), (.s, (PO.mk (some 58) (.load true 32 (.t 57)) none)), (.s, (PO.mk (some 63) (.load true 32 (.t 62)) none)), (.x, (PO.mk (some 64) (.call (F 207) [(.t 58), (.t 63)]) none)), (.e, (PO.mk (some 65) (.bsl false 32 1 zR32_w80 [(0, (32, (.t 64)))]) none)), (.x, (PO.mk (some 66) (.app 32 32 (.t 54) (.t 65)) none)), (.e, (PO.mk (some 6) (.mv (.t 66)) none))])))) (.ops [(PO.mk (some 22) (.mv (.t 7)) none), (PO.mk (some 23) (.bin .add (.t 22) (.k (.int .i64 2))) none), (PO.mk (some 7) (.mv (.t 23)) none)])))))) (.ops [(PO.mk (some 67) (.mv (.t 6)) none), (PO.mk (some 5) (.mv (.t 67)) none)]))))))) (.seq (.ops [(PO.mk (some 68) (.mv (.t 5)) none), (PO.mk (some 69) (.idxSl 32 (.t 68) (.k (.int .i64 0))) none), (PO.mk (some 70) (.load true 32 (.t 69)) none), (PO.mk (some 71) (.mv (.t 4)) none), (PO.mk none (.store 32 (.t 2) (.t 70)) none), (PO.mk (some 3) (.mv (.t 71)) none)]) .ret))))))
def k207 (F : Fn) : PF := PF.mk 9 2 [(PR.cell 4 true 32)] (.seq (.ops [(PO.mk (some 2) (.box (.t 0)) none), (PO.mk (some 3) (.box (.t 1)) none), (PO.mk (some 4) (.alloc zR32_w80) none)]) (.seq (.seq (.frz [2, 3]) (.draw [(.s, (PO.mk (some 5) (.slArr false 32 1 (.t 2) none none) none)), (.s, (PO.mk (some 6) (.slArr false 32 1 (.t 3) none none) none)), (.e, (PO.mk (some 7) (.bsl false 1 2 [(.sl .nil [] 0)] [(0, (1, (.t 5))), (1, (1, (.t 6)))]) none)), (.x, (PO.mk (some 8) (.call (F 104) [(.t 7)]) none)), (.x, (PO.mk none (.store 32 (.t 4) (.t 8)) none))])) .ret))
def k202 (F : Fn) : PF := PF.mk 9 1 [(.t 2)] (.seq (.ops [(PO.mk (some 2) (.mv (.k (.sl .nil [] 0))) none)]) (.seq (.ops [(PO.mk (some 3) (.bsl false 1 0 [(w8 0)] []) none), (PO.mk (some 4) (.mv (.t 0)) none), (PO.mk (some 5) (.nilck (.t 4)) none), (PO.mk (some 6) (.fldA 0 (.t 5)) none), (PO.mk (some 7) (.load false 1 (.t 6)) none), (PO.mk (some 8) (.app 1 1 (.t 3) (.t 7)) none), (PO.mk (some 2) (.mv (.t 8)) none)]) .ret))
def k203 (F : Fn) : PF := PF.mk 38 2 [] (.block 0 (.seq (.ops [(PO.mk (some 12) (.mv (.t 1)) none), (PO.mk (some 13) (.bin .lss (.t 12) (.k (w64 253))) none), (PO.mk (some 11) (.mv (.t 13)) none)]) (.cond (.t 11) (.ops [(PO.mk (some 14) (.mv (.t 0)) none), (PO.mk (some 15) (.mv (.t 1)) none), (PO.mk (some 16) (.bsl false 1 1 [(w64 0)] [(0, (1, (.t 15)))]) none), (PO.mk (some 17) (.call (F 205) [(.t 14), (.k (.int .i64 1)), (.t 16)]) none)]) (.seq (.ops [(PO.mk (some 19) (.mv (.t 1)) none), (PO.mk (some 20) (.bin .lss (.t 19) (.k (w64 65536))) none), (PO.mk (some 18) (.mv (.t 20)) none)]) (.cond (.t 18) (.seq (.ops [(PO.mk (some 21) (.mv (.t 0)) none), (PO.mk (some 22) (.bsl false 1 1 [(w64 0)] [(0, (1, (.k (w64 253))))]) none), (PO.mk (some 23) (.call (F 205) [(.t 21), (.k (.int .i64 1)), (.t 22)]) none)]) (.ops [(PO.mk (some 24) (.mv (.t 0)) none), (PO.mk (some 25) (.mv (.t 1)) none), (PO.mk (some 26) (.bsl false 1 1 [(w64 0)] [(0, (1, (.t 25)))]) none), (PO.mk (some 27) (.call (F 205) [(.t 24), (.k (.int .i64 2)), (.t 26)]) none)])) (.seq (.ops [(PO.mk (some 29) (.mv (.t 1)) none), (PO.mk (some 30) (.bin .lss (.t 29) (.k (w64 4294967296))) none), (PO.mk (some 28) (.mv (.t 30)) none)]) (.cond (.t 28) (.seq (.ops [(PO.mk (some 31) (.mv (.t 0)) none), (PO.mk (some 32) (.bsl false 1 1 [(w64 0)] [(0, (1, (.k (w64 254))))]) none), (PO.mk (some 33) (.call (F 205) [(.t 31), (.k (.int .i64 1)), (.t 32)]) none)]) (.ops [(PO.mk (some 34) (.mv (.t 0)) none), (PO.mk (some 35) (.mv (.t 1)) none), (PO.mk (some 36) (.bsl false 1 1 [(w64 0)] [(0, (1, (.t 35)))]) none), (PO.mk (some 37) (.call (F 205) [(.t 34), (.k (.int .i64 4)), (.t 36)]) none)])) (.seq (.ops [(PO.mk (some 4) (.mv (.t 0)) none), (PO.mk (some 5) (.bsl false 1 1 [(w64 0)] [(0, (1, (.k (w64 255))))]) none), (PO.mk (some 6) (.call (F 205) [(.t 4), (.k (.int .i64 1)), (.t 5)]) none)]) (.ops [(PO.mk (some 7) (.mv (.t 0)) none), (PO.mk (some 8) (.mv (.t 1)) none), (PO.mk (some 9) (.bsl false 1 1 [(w64 0)] [(0, (1, (.t 8)))]) none), (PO.mk (some 10) (.call (F 205) [(.t 7), (.k (.int .i64 8)), (.t 9)]) none)])))))))))
def k204 (F : Fn) : PF := PF.mk 22 2 [] (.seq (.ops [(PO.mk (some 6) (.mv (.t 1)) none), (PO.mk (some 7) (.lenSl (.t 6)) none), (PO.mk (some 8) (.mv (.k (.int .i64 0))) none)]) (.block 0 (.loop (.seq (.ops [(PO.mk (some 9) (.bin .lss (.t 8) (.t 7)) none)]) (.seq (.cond (.t 9) .skip (.exit 0)) (.seq (.block 1 (.seq (.ops [(PO.mk (some 10) (.idxSl 1 (.t 6) (.t 8)) none), (PO.mk (some 11) (.load false 1 (.t 10)) none), (PO.mk (some 5) (.mv (.t 11)) none)]) (.ops [(PO.mk (some 12) (.mv (.t 0)) none), (PO.mk (some 13) (.mv (.t 0)) none), (PO.mk (some 14) (.nilck (.t 13)) none), (PO.mk (some 15) (.fldA 0 (.t 14)) none), (PO.mk (some 16) (.load false 1 (.t 15)) none), (PO.mk (some 17) (.mv (.t 5)) none), (PO.mk (some 18) (.app 1 1 (.t 16) (.t 17)) none), (PO.mk (some 19) (.nilck (.t 12)) none), (PO.mk (some 20) (.fldA 0 (.t 19)) none), (PO.mk none (.store 1 (.t 20) (.t 18)) none)]))) (.ops [(PO.mk (some 21) (.bin .add (.t 8) (.k (.int .i64 1))) none), (PO.mk (some 8) (.mv (.t 21)) none)])))))))
def k205 (F : Fn) : PF := PF.mk 40 3 [] (.seq (.ops [(PO.mk (some 9) (.mv (.t 2)) none), (PO.mk (some 10) (.lenSl (.t 9)) none), (PO.mk (some 11) (.mv (.k (.int .i64 0))) none)]) (.block 0 (.loop (.seq (.ops [(PO.mk (some 12) (.bin .lss (.t 11) (.t 10)) none)]) (.seq (.cond (.t 12) .skip (.exit 0)) (.seq (.block 1 (.seq (.ops [(PO.mk (some 13) (.idxSl 1 (.t 9) (.t 11)) none), (PO.mk (some 14) (.load false 1 (.t 13)) none), (PO.mk (some 7) (.mv (.t 14)) none)]) (.seq (.ops [(PO.mk (some 8) (.mv (.k (.int .i64 0))) none)]) (.block 2 (.loop (.seq (.seq (.ops [(PO.mk (some 15) (.mv (.t 8)) none), (PO.mk (some 16) (.mv (.t 1)) none), (PO.mk (some 17) (.bin .lss (.t 15) (.t 16)) none), (PO.mk (some 18) (.mv (.t 17)) none), (PO.mk (some 19) (.mv (.t 8)) (some (18, true))), (PO.mk (some 20) (.bin .lss (.t 19) (.k (.int .i64 8))) (some (18, true))), (PO.mk (some 21) (.pick (.t 18) (.t 20) (.k (.bool false))) none)]) (.cond (.t 21) .skip (.exit 2))) (.seq (.block 3 (.ops [(PO.mk (some 24) (.mv (.t 0)) none), (PO.mk (some 25) (.mv (.t 0)) none), (PO.mk (some 26) (.nilck (.t 25)) none), (PO.mk (some 27) (.fldA 0 (.t 26)) none), (PO.mk (some 28) (.load false 1 (.t 27)) none), (PO.mk (some 29) (.mv (.t 7)) none), (PO.mk (some 30) (.mv (.t 8)) none), (PO.mk (some 31) (.bin .mul (.k (.int .i64 8)) (.t 30)) none), (PO.mk (some 32) (.conv .u64 (.t 31)) none), (PO.mk (some 33) (.bin .shr (.t 29) (.t 32)) none), (PO.mk (some 34) (.conv .u8 (.t 33)) none), (PO.mk (some 35) (.bsl false 1 1 [(w8 0)] [(0, (1, (.t 34)))]) none), (PO.mk (some 36) (.app 1 1 (.t 28) (.t 35)) none), (PO.mk (some 37) (.nilck (.t 24)) none), (PO.mk (some 38) (.fldA 0 (.t 37)) none), (PO.mk none (.store 1 (.t 38) (.t 36)) none)])) (.ops [(PO.mk (some 22) (.mv (.t 8)) none), (PO.mk (some 23) (.bin .add (.t 22) (.k (.int .i64 1))) none), (PO.mk (some 8) (.mv (.t 23)) none)])))))))) (.ops [(PO.mk (some 39) (.bin .add (.t 11) (.k (.int .i64 1))) none), (PO.mk (some 11) (.mv (.t 39)) none)])))))))
def k206 (F : Fn) : PF := PF.mk 13 2 [] (.seq (.ops [(PO.mk (some 4) (.mv (.t 0)) none), (PO.mk (some 5) (.mv (.t 1)) none), (PO.mk (some 6) (.lenSl (.t 5)) none), (PO.mk (some 7) (.conv .u64 (.t 6)) none), (PO.mk (some 8) (.call (F 203) [(.t 4), (.t 7)]) none)]) (.ops [(PO.mk (some 9) (.mv (.t 0)) none), (PO.mk (some 10) (.mv (.t 1)) none), (PO.mk (some 11) (.bsl false 1 1 [(.sl .nil [] 0)] [(0, (1, (.t 10)))]) none), (PO.mk (some 12) (.call (F 204) [(.t 9), (.t 11)]) none)]))
def k197 (F : Fn) : PF := PF.mk 2 0 [(PR.cell 0 true 33)] (.seq (.ops [(PO.mk (some 0) (.alloc z33_1371) none)]) (.seq (.ops [(PO.mk (some 1) (.build z33_1371 [(32, (1, (.k (w32 4294967295))))]) none), (PO.mk none (.store 33 (.t 0) (.t 1)) none)]) .ret))
structure OkTx (P : Program) (F : Fn) : Prop where
  mixed : P.follows .mixedOrders = true
  toOkHead : OkHead P F
  h192 : compFn P ⟨[], [], [], [], []⟩ (F 192) = some (k192 F)
  h198 : compFn P ⟨[], [], [], [], []⟩ (F 198) = some (k198 F)
  h200 : compFn P ⟨[], [], [], [], []⟩ (F 200) = some (k200 F)
  h201 : compFn P ⟨[], [], [(5, [5]), (14, [7])], [], []⟩ (F 201) = some (k201 F)
  h199 : compFn P ⟨[], [], [], [], []⟩ (F 199) = some (k199 F)
  h207 : compFn P ⟨[], [], [(1, [2, 3])], [], []⟩ (F 207) = some (k207 F)
  h202 : compFn P ⟨[], [], [], [], []⟩ (F 202) = some (k202 F)
  h203 : compFn P ⟨[], [], [], [], []⟩ (F 203) = some (k203 F)
  h204 : compFn P ⟨[], [], [], [], []⟩ (F 204) = some (k204 F)
  h205 : compFn P ⟨[], [], [], [], []⟩ (F 205) = some (k205 F)
  h206 : compFn P ⟨[], [], [], [], []⟩ (F 206) = some (k206 F)
  h197 : compFn P ⟨[], [], [], [], []⟩ (F 197) = some (k197 F)
end Go.Ab
set_option linter.unusedSimpArgs false
set_option linter.unusedVariables false
set_option maxRecDepth 10000
namespace Go.Ab
open Go Go.RowKit
def byteAt (x : BitVec 64) (i : Nat) : UInt8 := UInt8.ofBitVec ((x >>> (8 * i)).setWidth 8)
def putB (size : Nat) (x : BitVec 64) : List UInt8 := (List.range (min size 8)).map (byteAt x)
theorem putB_len (size : Nat) (x : BitVec 64) : (putB size x).length = min size 8 := by simp [putB]
def countB (x : BitVec 64) : List UInt8 :=
  if x < 253#64 then putB 1 x else if x < 65536#64 then putB 1 253#64 ++ putB 2 x else if x < 4294967296#64 then putB 1 254#64 ++ putB 4 x else putB 1 255#64 ++ putB 8 x
theorem countB_len (x : BitVec 64) : (countB x).length ≤ 9 := by
  unfold countB
  split
  · rw [putB_len]; omega
  · split
    · rw [List.length_append, putB_len, putB_len]; omega
    · split <;> rw [List.length_append, putB_len, putB_len] <;> omega
def textB (l : List UInt8) : List UInt8 := countB (BitVec.ofNat 64 l.length) ++ l
theorem of64_nat {n : Nat} (h : n < 18446744073709551616) : (BitVec.ofInt 64 (n : Int)).toNat = n := by
  rw [BitVec.ofInt_natCast, BitVec.toNat_ofNat]
  exact Nat.mod_eq_of_lt h
abbrev Wr (wid : Nat) (s : V) (l : List UInt8) (L : List Asn) (st : St) : Prop := Sep (pt wid (.cells [s]) :: Slx 1 e8 s l :: L) st
def WrR (wid : Nat) (l : List UInt8) (L : List Asn) (st : St) : Prop := ∃ s, Wr wid s l L st
theorem WrR.imp {wid : Nat} {l l' : List UInt8} {L : List Asn} {st : St} (h : WrR wid l L st) (e : l = l') : WrR wid l' L st := e ▸ h
theorem slx_cells {s : V} {l : List UInt8} {h : St} (hs : Slx 1 e8 s l h) : s.cells? = some [s] := by
  rcases hs with ⟨hs | hs, _⟩ | ⟨sid, rfl, _⟩
  · rw [hs]; rfl
  · rw [hs]; rfl
  · rfl
theorem Sep.cells {s : V} {l : List UInt8} {L : List Asn} {st : St} (h : Sep (Slx 1 e8 s l :: L) st) : s.cells? = some [s] := by
  obtain ⟨h', h1, h2⟩ := h.part
  exact slx_cells h2
theorem Wr.app {wid : Nat} {s : V} {l : List UInt8} {L : List Asn} {st : St} (S : Wr wid s l L st) (m : List UInt8) {ys : List V} {n : Nat} (hys : ys = rowsOf e8 m) (hn : n = m.length) (hb : l.length + n ≤ 1000000) {K : V → St → Prop}
    (hK : ∀ s' st' st2, s'.cells? = some [s'] → storeS st' 1 (.ptr (some (wid, 0))) s' = some st2 → WrR wid (l ++ m) L st2 → K s' st') : appS 1 1 s (some (ys, n)) st K := by
  refine Sep.appx' (b := 1) e8_len (by omega) S.swap m hys hn (by omega) ?_
  intro s' st' S'
  have hc := S'.cells
  have o := S'.swap.get
  refine hK s' st' (st'.upd wid (.cells [s'])) hc ?_ ⟨s', S'.swap.set _⟩
  simp [storeS, o, hc, spliceV]
section
variable {P : Program} {F : Fn}
set_option maxHeartbeats 1000000 in
theorem spec205 (ok : OkTx P F) {st : St} {wid : Nat} {l : List UInt8} {L : List Asn} (S : WrR wid l L st) (hl : l.length ≤ 900000) (size : Nat) (hs : size ≤ 100) (x : BitVec 64) :
    ACalls P (F 205) [.ptr (some (wid, 0)), .int .i64 (size : Int), .sl .full [w64 x] 1] st fun v st' => v = .tup [] ∧ WrR wid (l ++ putB size x) L st' := by
  refine shows_call ok.mixed ok.h205 (by simp [k205]) ?_
  simp only [k205]
  have hsg : segOf [w64 x] 0 1 = some [w64 x] := rfl
  simp
  refine vc_unroll 2 ?_
  simp [unr_succ, hsg]
  refine vc_loopJ (fun c env' st' => ∃ i, i ≤ min size 8 ∧ c = min size 8 - i ∧ env' 8 = .int .i64 (i : Nat) ∧ WrR wid (l ++ (List.range i).map (byteAt x)) L st') (min size 8)
    ⟨0, by omega, by omega, by simp, S.imp (by simp)⟩ ?_
  rintro J hJ c env' st1 hsame ⟨i, hi, rfl, h8, s, S⟩
  have g0 := (hsame.get 0 rfl).trans (by simp : _ = V.ptr (some (wid, 0)))
  have g1 := (hsame.get 1 rfl).trans (by simp : _ = V.int .i64 (size : Int))
  have g7 := (hsame.get 7 rfl).trans (by simp : _ = w64 x)
  have g10 := (hsame.get 10 rfl).trans (by simp : _ = V.int .i64 1)
  have g11 := (hsame.get 11 rfl).trans (by simp : _ = V.int .i64 0)
  clear hsame
  by_cases hlt : i < min size 8
  · have h1 : (i : Int) < (size : Int) := by omega
    have h2 : (i : Int) < 8 := by omega
    have h1' : i < size := by omega
    have w1 : IntKind.i64.wrap ((i : Int) + 1) = (i : Int) + 1 := wrap64 (by omega) (by omega)
    have w2 : IntKind.i64.wrap (8 * (i : Int)) = ((8 * i : Nat) : Int) := by rw [wrap64 (by omega) (by omega)]; omega
    have w3 : (BitVec.ofInt 64 ((8 * i : Nat) : Int)).toNat = 8 * i := of64_nat (by omega)
    have o := S.get
    have hc := S.drop.cells
    have hsg0 : segOf [s] 0 1 = some [s] := rfl
    obtain ⟨Z, hZ⟩ : ∃ Z : Int, Z = ((8 * i : Nat) : Int) := ⟨_, rfl⟩
    rw [← hZ] at w2 w3
    have hby : UInt8.ofBitVec ((x >>> (8 * i)).setWidth 8) = byteAt x i := rfl
    have hf8 : fillV (repV [w8 0] 1) [(0, 1, w8 (byteAt x i))] = some (rowsOf e8 [byteAt x i]) := rfl
    have hel : elems st1 1 (.sl .full (e8 (byteAt x i)) 1) = some (e8 (byteAt x i), 1) := rfl
    simp [unr_succ, g0, g1, g7, h8, h1', h2, St.seg, o, hsg0, w2, w3, hby, hf8, hel]
    refine Wr.app S [byteAt x i] (by simp) rfl (by simp; omega) ?_
    intro s' st2 st3 hc' hst S'
    simp [g0, hst, h8, w1]
    refine Round.mk (min size 8 - (i + 1)) _ (by omega) (sub_self _) (hJ _ _ _ ⟨i + 1, by omega, rfl, by simp, S'.imp ?_⟩)
    rw [List.range_succ, List.map_append, List.append_assoc]; rfl
  · have : i = min size 8 := by omega
    subst this
    have fin : WrR wid (l ++ putB size x) L st1 := ⟨s, S⟩
    by_cases h1 : (size : Int) ≤ 8
    · have e : min size 8 = size := by omega
      have h8' : env' 8 = .int .i64 (size : Int) := by rw [h8, e]
      simp [unr_succ, g1, h8', g10, g11]
      exact ⟨st1, sub_self _, fin⟩
    · have e : min size 8 = 8 := by omega
      have h8' : env' 8 = .int .i64 8 := by rw [h8, e]; rfl
      have h3 : (8 : Int) < (size : Int) := by omega
      have h3' : 8 < size := by omega
      simp [unr_succ, g1, h8', h3, h3', g10, g11]
      exact ⟨st1, sub_self _, fin⟩
theorem w64_fill (x : BitVec 64) : fillV (repV [w64 0#64] 1) [(0, 1, w64 x)] = some [w64 x] := rfl
theorem spec203 (ok : OkTx P F) {st : St} {wid : Nat} {l : List UInt8} {L : List Asn} (S : WrR wid l L st) (hl : l.length ≤ 800000) (x : BitVec 64) :
    ACalls P (F 203) [.ptr (some (wid, 0)), w64 x] st fun v st' => v = .tup [] ∧ WrR wid (l ++ countB x) L st' := by
  refine shows_call ok.mixed ok.h203 (by simp [k203]) ?_
  simp only [k203]
  by_cases c1 : x < 253#64
  · have e : countB x = putB 1 x := by rw [countB, if_pos c1]
    rw [e]
    simp [c1, w64_fill]
    refine (spec205 ok S (by omega) 1 (by omega) x).mono ?_
    rintro v st1 ⟨rfl, S⟩
    simp
    exact ⟨st1, sub_self _, S⟩
  · have two : ∀ (a : BitVec 64) (n : Nat), n ≤ 8 → countB x = putB 1 a ++ putB n x → ACalls P (F 205) [.ptr (some (wid, 0)), .int .i64 1, .sl .full [w64 a] 1] st fun v st' => v = .tup [] ∧ ACalls P (F 205) [.ptr (some (wid, 0)), .int .i64 (n : Int), .sl .full [w64 x] 1] st' fun v st' => v = .tup [] ∧ WrR wid (l ++ countB x) L st' := fun a n hn e =>
      (spec205 ok S (by omega) 1 (by omega) a).mono fun v st1 hv => ⟨hv.1, (spec205 ok hv.2 (by rw [List.length_append, putB_len]; omega) n (by omega) x).mono fun v st2 hv2 =>
        ⟨hv2.1, hv2.2.imp (by rw [e, List.append_assoc])⟩⟩
    by_cases c2 : x < 65536#64
    · have e : countB x = putB 1 253#64 ++ putB 2 x := by rw [countB, if_neg c1, if_pos c2]
      simp [c1, c2, w64_fill]
      refine (two 253#64 2 (by omega) e).mono ?_
      rintro v st1 ⟨rfl, h⟩
      simp [w64_fill]
      refine h.mono ?_
      rintro v st2 ⟨rfl, h⟩
      simp
      exact ⟨st2, sub_self _, h⟩
    · by_cases c3 : x < 4294967296#64
      · have e : countB x = putB 1 254#64 ++ putB 4 x := by rw [countB, if_neg c1, if_neg c2, if_pos c3]
        simp [c1, c2, c3, w64_fill]
        refine (two 254#64 4 (by omega) e).mono ?_
        rintro v st1 ⟨rfl, h⟩
        simp [w64_fill]
        refine h.mono ?_
        rintro v st2 ⟨rfl, h⟩
        simp
        exact ⟨st2, sub_self _, h⟩
      · have e : countB x = putB 1 255#64 ++ putB 8 x := by rw [countB, if_neg c1, if_neg c2, if_neg c3]
        simp [c1, c2, c3, w64_fill]
        refine (two 255#64 8 (by omega) e).mono ?_
        rintro v st1 ⟨rfl, h⟩
        simp [w64_fill]
        refine h.mono ?_
        rintro v st2 ⟨rfl, h⟩
        simp
        exact ⟨st2, sub_self _, h⟩
end
end Go.Ab
set_option linter.unusedSimpArgs false
set_option linter.unusedVariables false
set_option maxRecDepth 10000
namespace Go.Ab
open Go Go.RowKit
def keyV (k : SK) (m : List UInt8) : V := .sl k (rowsOf e8 m) m.length
section
variable {P : Program} {F : Fn}
set_option maxHeartbeats 1000000 in
theorem spec204 (ok : OkTx P F) {st : St} {wid : Nat} {l : List UInt8} {L : List Asn} (S : WrR wid l L st) (k : SK) (m : List UInt8) (hl : l.length + m.length ≤ 900000) :
    ACalls P (F 204) [.ptr (some (wid, 0)), .sl .full [keyV k m] 1] st fun v st' => v = .tup [] ∧ WrR wid (l ++ m) L st' := by
  refine shows_call ok.mixed ok.h204 (by simp [k204]) ?_
  simp only [k204]
  simp
  obtain ⟨s, S⟩ := S
  have o := S.get
  have hsg : segOf [keyV k m] 0 1 = some [keyV k m] := rfl
  have hsg0 : segOf [s] 0 1 = some [s] := rfl
  have hel : elems st 1 (keyV k m) = some (rowsOf e8 m, m.length) := by simp [keyV, elems, rowsOf_length e8_len]
  refine vc_unroll 2 ?_
  simp [unr_succ, hsg, St.seg, o, hsg0, hel]
  refine Wr.app S m rfl rfl (by omega) ?_
  intro s' st2 st3 hc' hst S'
  simp [hst, unr_succ]
  exact ⟨st3, sub_self _, S'⟩
set_option maxHeartbeats 1000000 in
theorem spec206 (ok : OkTx P F) {st : St} {wid : Nat} {l : List UInt8} {L : List Asn} (S : WrR wid l L st) (k : SK) (m : List UInt8) (hl : l.length + m.length ≤ 700000) :
    ACalls P (F 206) [.ptr (some (wid, 0)), keyV k m] st fun v st' => v = .tup [] ∧ WrR wid (l ++ textB m) L st' := by
  refine shows_call ok.mixed ok.h206 (by simp [k206]) ?_
  simp only [k206]
  have hln : lenSlV (keyV k m) = some (.int .i64 m.length) := rfl
  simp [hln]
  refine (spec203 ok S (by omega) (BitVec.ofNat 64 m.length)).mono ?_
  rintro v st1 ⟨rfl, S⟩
  have hf : fillV (repV [V.sl .nil [] 0] 1) [(0, 1, keyV k m)] = some [keyV k m] := rfl
  simp [hf]
  refine (spec204 ok S k m (by have := countB_len (BitVec.ofNat 64 m.length); rw [List.length_append]; omega)).mono ?_
  rintro v st2 ⟨rfl, S⟩
  simp
  exact ⟨st2, sub_self _, S.imp (by rw [textB, List.append_assoc])⟩
set_option maxHeartbeats 1000000 in
theorem spec202 (ok : OkTx P F) {st : St} {wid : Nat} {l : List UInt8} {L : List Asn} (S : WrR wid l L st) (hl : l.length ≤ 900000) :
    ACalls P (F 202) [.ptr (some (wid, 0))] st fun v st' => ∃ s, Sep (Slx 1 e8 v l :: pt wid (.cells [s]) :: Slx 1 e8 s l :: L) st' := by
  refine shows_call ok.mixed ok.h202 (by simp [k202]) ?_
  simp only [k202]
  obtain ⟨s, S⟩ := S
  have o := S.get
  have hsg0 : segOf [s] 0 1 = some [s] := rfl
  have hel := (Sep.rd e8_len (S.drop.head fun h hh => hh.sl)).elems e8_len
  have hf : fillV (repV [w8 0] 0) [] = some [] := rfl
  simp [St.seg, o, hsg0, hel, hf]
  refine Sep.appx' (b := 1) e8_len (by omega) S.slxFull l rfl rfl (by simp; omega) ?_
  intro s' st2 S
  simp
  exact ⟨st2, sub_self _, s, by simpa using S⟩
end
end Go.Ab
set_option linter.unusedVariables false
namespace Go.Ab
open Go
end Go.Ab
set_option linter.unusedSimpArgs false
set_option linter.unusedVariables false
namespace Go.Ab
open Go Go.RowKit
abbrev W32 := BitVec 32
def tgtV (size word : Nat) : Nat := if size ≤ 3 then word / 2 ^ (8 * (3 - size)) else word * 2 ^ (8 * (size - 3))
def tgt (b : W32) : Option Nat :=
  if b.toNat % 16777216 = 0 ∨ 8388608 ≤ b.toNat % 16777216 then none
  else if tgtV (b.toNat / 16777216) (b.toNat % 16777216) = 0 ∨ 2 ^ 256 ≤ tgtV (b.toNat / 16777216) (b.toNat % 16777216) then none
  else some (tgtV (b.toNat / 16777216) (b.toNat % 16777216))
theorem tgt_lt {b : W32} {t : Nat} (h : tgt b = some t) : 0 < t ∧ t < 2 ^ 256 := by
  unfold tgt at h
  split at h
  · cases h
  · split at h
    · cases h
    · rename_i h1
      cases h
      omega
theorem lt_bitlen (t : Nat) : t < 2 ^ bitlen t := bitlen_le.1 (Nat.le_refl _)
structure Hdr where
  ver : W32
  prev : Id
  root : Id
  time : W32
  bits : W32
  nonce : W32
  deriving DecidableEq
def eHdr (h : Hdr) : List V := w32 h.ver :: (eId h.prev ++ (eId h.root ++ [w32 h.time, w32 h.bits, w32 h.nonce]))
theorem eHdr_len (h : Hdr) : (eHdr h).length = 68 := by simp [eHdr, eId_len]
def le4 (x : W32) : List UInt8 := [UInt8.ofBitVec (x.setWidth 8), UInt8.ofBitVec ((x >>> 8).setWidth 8), UInt8.ofBitVec ((x >>> 16).setWidth 8), UInt8.ofBitVec ((x >>> 24).setWidth 8)]
def hBytes (h : Hdr) : List UInt8 := le4 h.ver ++ (h.prev.toList ++ (h.root.toList ++ (le4 h.time ++ (le4 h.bits ++ le4 h.nonce))))
theorem hBytes_len (h : Hdr) : (hBytes h).length = 80 := by simp [hBytes, le4]
def hId (h : Hdr) : Id := sha2 (hBytes h)
def leN : List UInt8 → Nat
  | [] => 0
  | b :: l => b.toNat + 256 * leN l
def idN (x : Id) : Nat := leN x.toList
theorem leN_lt : ∀ l : List UInt8, leN l < 256 ^ l.length
  | [] => by simp [leN]
  | b :: l => by
    have := leN_lt l
    have := b.toNat_lt
    simp only [leN, List.length_cons, Nat.pow_succ]
    omega
theorem idN_lt (x : Id) : idN x < 2 ^ 256 := by
  have := leN_lt x.toList
  rw [Vector.length_toList] at this
  exact this
def provedN (h : Hdr) (limit : W32) : Int :=
  match tgt h.bits, tgt limit with
  | some a, some b => if b < a then 30 else if a < idN (hId h) then 50 else 0
  | _, _ => 30
def mineN (h : Hdr) (limit : W32) : Nat → Option Hdr
  | 0 => none
  | n + 1 => if provedN h limit = 0 then some h else mineN { h with nonce := h.nonce + 1 } limit n
end Go.Ab
set_option linter.unusedSimpArgs false
set_option linter.unusedVariables false
set_option maxRecDepth 10000
namespace Go.Ab
open Go Go.RowKit
section
variable {P : Program} {F : Fn}
def len8L : List UInt8 := [0, 1] ++ List.replicate 2 2 ++ List.replicate 4 3 ++ List.replicate 8 4 ++ List.replicate 16 5 ++ List.replicate 32 6 ++ List.replicate 64 7 ++ List.replicate 128 8
theorem len8_at : ∀ i : Fin 256, (len8L.getD i.val 0).toNat = bitlen i.val := by decide +kernel
theorem bitlen_shift {n k : Nat} (h : 2 ^ k ≤ n) : bitlen n = bitlen (n / 2 ^ k) + k := by
  have hp := Nat.two_pow_pos k
  have h1 : 0 < n / 2 ^ k := Nat.div_pos h hp
  apply Nat.le_antisymm
  · rw [bitlen_le, Nat.pow_add]
    have := lt_bitlen (n / 2 ^ k)
    exact (Nat.div_lt_iff_lt_mul hp).1 this
  · have h2 : 0 < bitlen (n / 2 ^ k) := bitlen_pos.2 h1
    have h3 : 2 ^ (bitlen (n / 2 ^ k) - 1) ≤ n / 2 ^ k := bitlen_lt.1 (by omega)
    have h4 : 2 ^ (bitlen (n / 2 ^ k) - 1 + k) ≤ n := by
      rw [Nat.pow_add]
      exact (Nat.le_div_iff_mul_le hp).1 h3
    have := bitlen_lt.2 h4
    omega
theorem spec115 (ok : OkNum P F) (st : St) (x : W) : ACalls P (F 115) [w64 x] st fun v st' => v = .int .i64 (bitlen x.toNat) ∧ st' = st := by
  refine shows_call ok.mixed ok.h115 (by simp [k115]) ?_
  simp only [k115]
  generalize hs : ByteArray.mk _ = tab
  have htab : strB tab = len8L := by rw [← hs]; rfl
  clear hs
  have at_ : ∀ y : W, y.toNat < 256 → idxStrV (.str tab) (w8 (UInt8.ofBitVec (y.setWidth 8))) = some (w8 (len8L.getD y.toNat 0)) := fun y hy => by
    have e : (UInt8.ofBitVec (y.setWidth 8)).toNat = y.toNat := by
      show (y.setWidth 8).toNat = _
      rw [BitVec.toNat_setWidth]
      exact Nat.mod_eq_of_lt hy
    have hl : y.toNat < (strB tab).length := by rw [htab]; exact hy
    have := idxStr_w tab .u8 hl
    rw [w8, e, this]
    congr 2
    simp only [htab]
    rw [List.getD_eq_getElem?_getD, List.getElem?_eq_getElem (show y.toNat < len8L.length from hy), Option.getD_some]
  have last : ∀ (y : W) (k : Nat), y.toNat < 256 → k ≤ 100 → idxStrV (.str tab) (w8 (UInt8.ofBitVec (y.setWidth 8))) = some (w8 (len8L.getD y.toNat 0)) ∧ IntKind.i64.wrap ((k : Int) + ((len8L.getD y.toNat 0).toNat : Int)) = ((bitlen y.toNat + k : Nat) : Int) := fun y k hy hk => by
    have h := len8_at ⟨y.toNat, hy⟩
    simp only at h
    have h2 : bitlen y.toNat ≤ 8 := bitlen_le.2 hy
    refine ⟨at_ y hy, ?_⟩
    rw [h, wrap64 (by omega) (by omega)]
    omega
  have hshr : ∀ (z : W) (k : Nat), (z >>> k).toNat = z.toNat / 2 ^ k := fun z k => by
    rw [BitVec.toNat_ushiftRight, Nat.shiftRight_eq_div_pow]
  have c32 : (4294967296#64).toNat = 2 ^ 32 := rfl
  have c16 : (65536#64).toNat = 2 ^ 16 := rfl
  have c8 : (256#64).toNat = 2 ^ 8 := rfl
  have hx := x.isLt
  -- one step: a number with at least so many bits
  have step : ∀ (z : W) (k : Nat), 2 ^ k ≤ z.toNat → bitlen z.toNat = bitlen (z >>> k).toNat + k := fun z k h => by
    rw [hshr]; exact bitlen_shift h
  simp
  by_cases h1 : 4294967296#64 ≤ x
  · have b1 := step x 32 (by rw [← c32]; exact BitVec.le_def.1 h1)
    have l1 : (x >>> 32).toNat < 2 ^ 32 := by rw [hshr]; omega
    simp [h1]
    generalize x >>> 32 = y at *
    by_cases h2 : 65536#64 ≤ y
    · have b2 := step y 16 (by rw [← c16]; exact BitVec.le_def.1 h2)
      have l2 : (y >>> 16).toNat < 2 ^ 16 := by rw [hshr]; omega
      simp [h2]
      generalize y >>> 16 = z at *
      by_cases h3 : 256#64 ≤ z
      · have b3 := step z 8 (by rw [← c8]; exact BitVec.le_def.1 h3)
        have l3 : (z >>> 8).toNat < 2 ^ 8 := by rw [hshr]; omega
        simp [h3]
        generalize z >>> 8 = t at *
        obtain ⟨q1, q2⟩ := last t 56 (by omega) (by omega)
        have q3 : bitlen x.toNat = bitlen t.toNat + 56 := by omega
        simp [q1, q3] at q2 ⊢
        exact q2
      · have l3 : z.toNat < 2 ^ 8 := by
          have := mt BitVec.le_def.2 h3
          rw [c8] at this
          omega
        simp [h3]
        obtain ⟨q1, q2⟩ := last z 48 (by omega) (by omega)
        have q3 : bitlen x.toNat = bitlen z.toNat + 48 := by omega
        simp [q1, q3] at q2 ⊢
        exact q2
    · have l2 : y.toNat < 2 ^ 16 := by
        have := mt BitVec.le_def.2 h2
        rw [c16] at this
        omega
      simp [h2]
      by_cases h3 : 256#64 ≤ y
      · have b3 := step y 8 (by rw [← c8]; exact BitVec.le_def.1 h3)
        have l3 : (y >>> 8).toNat < 2 ^ 8 := by rw [hshr]; omega
        simp [h3]
        generalize y >>> 8 = t at *
        obtain ⟨q1, q2⟩ := last t 40 (by omega) (by omega)
        have q3 : bitlen x.toNat = bitlen t.toNat + 40 := by omega
        simp [q1, q3] at q2 ⊢
        exact q2
      · have l3 : y.toNat < 2 ^ 8 := by
          have := mt BitVec.le_def.2 h3
          rw [c8] at this
          omega
        simp [h3]
        obtain ⟨q1, q2⟩ := last y 32 (by omega) (by omega)
        have q3 : bitlen x.toNat = bitlen y.toNat + 32 := by omega
        simp [q1, q3] at q2 ⊢
        exact q2
  · have l1 : x.toNat < 2 ^ 32 := by
      have := mt BitVec.le_def.2 h1
      rw [c32] at this
      omega
    simp [h1]
    by_cases h2 : 65536#64 ≤ x
    · have b2 := step x 16 (by rw [← c16]; exact BitVec.le_def.1 h2)
      have l2 : (x >>> 16).toNat < 2 ^ 16 := by rw [hshr]; omega
      simp [h2]
      generalize x >>> 16 = z at *
      by_cases h3 : 256#64 ≤ z
      · have b3 := step z 8 (by rw [← c8]; exact BitVec.le_def.1 h3)
        have l3 : (z >>> 8).toNat < 2 ^ 8 := by rw [hshr]; omega
        simp [h3]
        generalize z >>> 8 = t at *
        obtain ⟨q1, q2⟩ := last t 24 (by omega) (by omega)
        have q3 : bitlen x.toNat = bitlen t.toNat + 24 := by omega
        simp [q1, q3] at q2 ⊢
        exact q2
      · have l3 : z.toNat < 2 ^ 8 := by
          have := mt BitVec.le_def.2 h3
          rw [c8] at this
          omega
        simp [h3]
        obtain ⟨q1, q2⟩ := last z 16 (by omega) (by omega)
        have q3 : bitlen x.toNat = bitlen z.toNat + 16 := by omega
        simp [q1, q3] at q2 ⊢
        exact q2
    · have l2 : x.toNat < 2 ^ 16 := by
        have := mt BitVec.le_def.2 h2
        rw [c16] at this
        omega
      simp [h2]
      by_cases h3 : 256#64 ≤ x
      · have b3 := step x 8 (by rw [← c8]; exact BitVec.le_def.1 h3)
        have l3 : (x >>> 8).toNat < 2 ^ 8 := by rw [hshr]; omega
        simp [h3]
        generalize x >>> 8 = t at *
        obtain ⟨q1, q2⟩ := last t 8 (by omega) (by omega)
        have q3 : bitlen x.toNat = bitlen t.toNat + 8 := by omega
        simp [q1, q3] at q2 ⊢
        exact q2
      · have l3 : x.toNat < 2 ^ 8 := by
          have := mt BitVec.le_def.2 h3
          rw [c8] at this
          omega
        simp [h3]
        obtain ⟨q1, q2⟩ := last x 0 (by omega) (by omega)
        simp at q2
        simp [q1, q2]
end
end Go.Ab
set_option linter.unusedSimpArgs false
set_option linter.unusedVariables false
set_option maxRecDepth 10000
namespace Go.Ab
open Go Go.RowKit
section
variable {P : Program} {F : Fn}
theorem bitlen_add {n k m : Nat} (hm : m < 2 ^ k) (hn : 0 < n) : bitlen (n * 2 ^ k + m) = bitlen n + k := by
  have h1 : 2 ^ k ≤ n * 2 ^ k + m := Nat.le_add_right_of_le (Nat.le_mul_of_pos_left _ hn)
  have h2 := bitlen_shift h1
  rw [h2, Nat.add_comm (n * 2 ^ k), Nat.add_mul_div_right _ _ (Nat.two_pow_pos k), Nat.div_eq_of_lt hm, Nat.zero_add]
theorem u4_lo2 (a b : W) : (u4 a b 0#64 0#64).toNat = b.toNat * 2 ^ 64 + a.toNat := by
  have h : ∀ c d : W, c.toNat = 0 → d.toNat = 0 → (u4 a b c d).toNat = b.toNat * 18446744073709551616 + a.toNat := fun c d hc hd => by
    rw [u4_nat]; omega
  exact h _ _ rfl rfl
theorem u4_lo3 (a b c : W) : (u4 a b c 0#64).toNat = c.toNat * 2 ^ 128 + (a.toNat + b.toNat * 18446744073709551616) := by
  have h : ∀ d : W, d.toNat = 0 → (u4 a b c d).toNat = c.toNat * 340282366920938463463374607431768211456 + (a.toNat + b.toNat * 18446744073709551616) := fun d hd => by
    rw [u4_nat]; omega
  exact h _ rfl
theorem u4_hi (a b c d : W) : (u4 a b c d).toNat = d.toNat * 2 ^ 192 + (a.toNat + b.toNat * 18446744073709551616 + c.toNat * 340282366920938463463374607431768211456) := by
  rw [u4_nat, Nat.add_comm]
theorem w_pos {x : W} (h : x ≠ 0#64) : 0 < x.toNat := by
  have : x.toNat ≠ 0 := fun e => h (BitVec.eq_of_toNat_eq e)
  omega
theorem spec114 (ok : OkNum P F) (st : St) (x : U) : ACalls P (F 114) [nU x] st fun v st' => v = .int .i64 (bitlen x.toNat) ∧ st' = st := by
  refine shows_call ok.mixed ok.h114 (by simp [k114]) ?_
  obtain ⟨a, b, c, d, rfl⟩ := exists_u4 x
  have ha := a.isLt; have hb := b.isLt; have hc := c.isLt; have hd := d.isLt
  have e := u4_nat a b c d
  have bl : ∀ y : W, bitlen y.toNat ≤ 64 := fun y => bitlen_le.2 y.isLt
  simp only [k114, nU, eU_u4]
  simp
  intro i hi
  have call : ∀ (st : St) (y : W), ACalls P (F 115) [w64 y] st fun v st' => v = .int .i64 (bitlen y.toNat) ∧ st' = st := fun st y => spec115 ok st y
  refine vc_unroll 5 ?_
  simp [unr_succ, idxArrV, St.seg, segOf]
  by_cases h : d = 0#64
  · subst h
    simp [unr_succ, idxArrV, St.seg, segOf]
    by_cases h : c = 0#64
    · subst h
      simp [unr_succ, idxArrV, St.seg, segOf]
      by_cases h : b = 0#64
      · subst h
        simp [unr_succ, idxArrV, St.seg, segOf]
        by_cases h : a = 0#64
        · subst h
          simp [unr_succ, idxArrV, St.seg, segOf, e, bitlen]
          exact sub_upd hi
        · have hne : (a != 0#64) = true := by simp [h]
          simp [unr_succ, idxArrV, St.seg, segOf, hne]
          refine (call _ a).mono ?_
          rintro v s ⟨rfl, rfl⟩
          have := bl a
          have w : IntKind.i64.wrap (bitlen a.toNat : Int) = bitlen a.toNat := wrap64 (by omega) (by omega)
          simp [w, e]
          exact sub_upd hi
      · have hne : (b != 0#64) = true := by simp [h]
        simp [unr_succ, idxArrV, St.seg, segOf, hne]
        refine (call _ b).mono ?_
        rintro v s ⟨rfl, rfl⟩
        have := bl b
        have w : IntKind.i64.wrap (64 + (bitlen b.toNat : Int)) = 64 + bitlen b.toNat := wrap64 (by omega) (by omega)
        have q := bitlen_add (k := 64) ha (w_pos h)
        rw [u4_lo2, q]
        simp [w]
        exact ⟨sub_upd hi, by omega⟩
    · have hne : (c != 0#64) = true := by simp [h]
      simp [unr_succ, idxArrV, St.seg, segOf, hne]
      refine (call _ c).mono ?_
      rintro v s ⟨rfl, rfl⟩
      have := bl c
      have w : IntKind.i64.wrap (128 + (bitlen c.toNat : Int)) = 128 + bitlen c.toNat := wrap64 (by omega) (by omega)
      have q := bitlen_add (k := 128) (m := a.toNat + b.toNat * 18446744073709551616) (by show _ < 340282366920938463463374607431768211456; omega) (w_pos h)
      rw [u4_lo3, q]
      simp [w]
      exact ⟨sub_upd hi, by omega⟩
  · have hne : (d != 0#64) = true := by simp [h]
    simp [unr_succ, idxArrV, St.seg, segOf, hne]
    refine (call _ d).mono ?_
    rintro v s ⟨rfl, rfl⟩
    have := bl d
    have w : IntKind.i64.wrap (192 + (bitlen d.toNat : Int)) = 192 + bitlen d.toNat := wrap64 (by omega) (by omega)
    have q := bitlen_add (k := 192) (m := a.toNat + b.toNat * 18446744073709551616 + c.toNat * 340282366920938463463374607431768211456) (by show _ < 6277101735386680763835789423207666416102355444464034512896; omega) (w_pos h)
    rw [u4_hi, q]
    simp [w]
    exact ⟨sub_upd hi, by omega⟩
end
end Go.Ab
set_option linter.unusedSimpArgs false
set_option linter.unusedVariables false
set_option maxRecDepth 10000
namespace Go.Ab
open Go Go.RowKit
section
variable {P : Program} {F : Fn}
def hl (x y : W) (s : Nat) : W := x <<< s ||| y >>> (64 - s)
def hr (x y : W) (s : Nat) : W := x >>> s ||| y <<< (64 - s)
theorem pow64 {s : Nat} (hs : s ≤ 64) : 2 ^ s * 2 ^ (64 - s) = 18446744073709551616 := by
  rw [← Nat.pow_add, show s + (64 - s) = 64 by omega]
theorem shl_nat (x : W) (s : Nat) : (x <<< s).toNat = x.toNat * 2 ^ s % 18446744073709551616 := by
  rw [BitVec.toNat_shiftLeft, Nat.shiftLeft_eq]
theorem shr_nat64 (x : W) (s : Nat) : (x >>> s).toNat = x.toNat / 2 ^ s := by
  rw [BitVec.toNat_ushiftRight, Nat.shiftRight_eq_div_pow]
theorem or_disj (x y : Nat) (s : Nat) (hy : y < 2 ^ s) : (x * 2 ^ s ||| y) = x * 2 ^ s + y := by
  rw [← Nat.shiftLeft_eq, ← Nat.shiftLeft_add_eq_or_of_lt hy, Nat.shiftLeft_eq]
theorem mul_mod_pow (x s : Nat) (hs : s ≤ 64) : x * 2 ^ s % 18446744073709551616 = x % 2 ^ (64 - s) * 2 ^ s := by
  rw [← pow64 hs, Nat.mul_comm (2 ^ s), Nat.mul_mod_mul_right]
theorem mul_div_pow (x s : Nat) (hs : s ≤ 64) : x * 2 ^ s / 18446744073709551616 = x / 2 ^ (64 - s) := by
  rw [← pow64 hs, Nat.mul_comm (2 ^ s), Nat.mul_div_mul_right _ _ (Nat.two_pow_pos s)]
theorem hl_nat (x y : W) (s : Nat) (hs : s ≤ 64) : (hl x y s).toNat = x.toNat * 2 ^ s % 18446744073709551616 + y.toNat * 2 ^ s / 18446744073709551616 := by
  have hy := y.isLt
  rw [hl, BitVec.toNat_or, shl_nat, shr_nat64, mul_mod_pow _ _ hs, mul_div_pow _ _ hs]
  refine or_disj _ _ _ ?_
  rw [Nat.div_lt_iff_lt_mul (Nat.two_pow_pos _), pow64 hs]
  exact hy
theorem hr_nat (x y : W) (s : Nat) (hs : s ≤ 64) : (hr x y s).toNat = y.toNat * 2 ^ (64 - s) % 18446744073709551616 + x.toNat * 2 ^ (64 - s) / 18446744073709551616 := by
  have hx := x.isLt
  have e : 64 - (64 - s) = s := by omega
  rw [hr, BitVec.or_comm, BitVec.toNat_or, shl_nat, shr_nat64, mul_mod_pow _ _ (by omega), mul_div_pow _ _ (by omega), e]
  refine or_disj _ _ _ ?_
  rw [Nat.div_lt_iff_lt_mul (Nat.two_pow_pos _), Nat.mul_comm, pow64 hs]
  exact hx
theorem shl_u4 (a b c d : W) (s : Nat) (hs : s ≤ 64) : u4 a b c d <<< s = u4 (a <<< s) (hl b a s) (hl c b s) (hl d c s) := by
  apply BitVec.eq_of_toNat_eq
  have b1 := (hl b a s).isLt
  have b2 := (hl c b s).isLt
  have b3 := (hl d c s).isLt
  rw [hl_nat _ _ _ hs] at b1 b2 b3
  rw [BitVec.toNat_shiftLeft, Nat.shiftLeft_eq, u4_nat, u4_nat, shl_nat, hl_nat _ _ _ hs, hl_nat _ _ _ hs, hl_nat _ _ _ hs, Nat.add_mul, Nat.add_mul, Nat.add_mul, Nat.mul_right_comm b.toNat, Nat.mul_right_comm c.toNat, Nat.mul_right_comm d.toNat]
  generalize a.toNat * 2 ^ s = A at *
  generalize b.toNat * 2 ^ s = B at *
  generalize c.toNat * 2 ^ s = C at *
  generalize d.toNat * 2 ^ s = D at *
  show _ % 115792089237316195423570985008687907853269984665640564039457584007913129639936 = _
  omega
theorem shr_u4 (a b c d : W) (s : Nat) (hs : s ≤ 64) : u4 a b c d >>> s = u4 (hr a b s) (hr b c s) (hr c d s) (d >>> s) := by
  apply BitVec.eq_of_toNat_eq
  have hp := Nat.two_pow_pos (64 - s)
  have e : 64 - (64 - s) = s := by omega
  have hd : (d >>> s).toNat = d.toNat * 2 ^ (64 - s) / 18446744073709551616 := by
    rw [shr_nat64, mul_div_pow _ _ (by omega), e]
  rw [BitVec.toNat_ushiftRight, Nat.shiftRight_eq_div_pow, u4_nat, u4_nat, hd, hr_nat _ _ _ hs, hr_nat _ _ _ hs, hr_nat _ _ _ hs]
  rw [← Nat.mul_div_mul_right _ _ hp, pow64 hs, Nat.add_mul, Nat.add_mul, Nat.add_mul, Nat.mul_right_comm b.toNat, Nat.mul_right_comm c.toNat, Nat.mul_right_comm d.toNat]
  generalize a.toNat * 2 ^ (64 - s) = A
  generalize b.toNat * 2 ^ (64 - s) = B
  generalize c.toNat * 2 ^ (64 - s) = C
  generalize d.toNat * 2 ^ (64 - s) = D
  omega
theorem shl_word (a b c d : W) : u4 a b c d <<< 64 = u4 0#64 a b c := by
  have h : ∀ z : W, z.toNat = 0 → u4 a b c d <<< 64 = u4 z a b c := fun z hz => by
    have := a.isLt; have := b.isLt; have := c.isLt; have := d.isLt
    apply BitVec.eq_of_toNat_eq
    rw [BitVec.toNat_shiftLeft, Nat.shiftLeft_eq, u4_nat, u4_nat]
    show _ * 18446744073709551616 % 115792089237316195423570985008687907853269984665640564039457584007913129639936 = _
    omega
  exact h _ rfl
theorem shr_word (a b c d : W) : u4 a b c d >>> 64 = u4 b c d 0#64 := by
  have h : ∀ z : W, z.toNat = 0 → u4 a b c d >>> 64 = u4 b c d z := fun z hz => by
    have := a.isLt; have := b.isLt; have := c.isLt; have := d.isLt
    apply BitVec.eq_of_toNat_eq
    rw [BitVec.toNat_ushiftRight, Nat.shiftRight_eq_div_pow, u4_nat, u4_nat]
    show _ / 18446744073709551616 = _
    omega
  exact h _ rfl
def shlU (x : U) (n : Int) : U := if n < 0 ∨ 255 < n then 0#256 else x <<< n.toNat
def shrU (x : U) (n : Int) : U := if n < 0 ∨ 255 < n then 0#256 else x >>> n.toNat
theorem hl0 (x y : W) : hl x y 0 = x := by
  unfold hl
  rw [BitVec.shiftLeft_zero]
  have : y >>> (64 - 0) = 0#64 := by
    apply BitVec.eq_of_toNat_eq
    rw [shr_nat64, Nat.div_eq_of_lt y.isLt]; rfl
  rw [this, BitVec.or_zero]
theorem hr0 (x y : W) : hr x y 0 = x := by
  unfold hr
  rw [BitVec.ushiftRight_zero]
  have : y <<< (64 - 0) = 0#64 := by
    apply BitVec.eq_of_toNat_eq
    rw [shl_nat]
    exact Nat.mul_mod_left _ _
  rw [this, BitVec.or_zero]
set_option maxHeartbeats 2000000 in
theorem spec112 (ok : OkNum P F) (st : St) (x : U) (n : Int) : ACalls P (F 112) [nU x, .int .i64 n] st fun v st' => v = nU (shlU x n) ∧ st' = st := by
  refine shows_call ok.mixed ok.h112 (by simp [k112]) ?_
  obtain ⟨a, b, c, d, rfl⟩ := exists_u4 x
  simp only [k112, nU, eU_u4]
  simp
  intro i hi
  simp
  intro j hj
  obtain ⟨hij, hj⟩ := upd_none hj
  have hji := hij.symm
  by_cases h0 : n < 0
  · have e : shlU (u4 a b c d) n = u4 0#64 0#64 0#64 0#64 := by simp [shlU, h0]; rfl
    rw [e, eU_u4]
    simp [h0, fillV, storeS, spliceV, St.seg, segOf]
    repeat refine sub_ups ?_ (by assumption)
    exact St.sub_refl _
  by_cases h1 : 255 < n
  · have e : shlU (u4 a b c d) n = u4 0#64 0#64 0#64 0#64 := by simp [shlU, h1]; rfl
    rw [e, eU_u4]
    simp [h0, h1, fillV, storeS, spliceV, St.seg, segOf]
    repeat refine sub_ups ?_ (by assumption)
    exact St.sub_refl _
  obtain ⟨m, rfl⟩ := Int.eq_ofNat_of_zero_le (show 0 ≤ n by omega)
  have hm : m ≤ 255 := by omega
  obtain ⟨w, s, hs, rfl⟩ : ∃ w s, s < 64 ∧ m = 64 * w + s := ⟨m / 64, m % 64, Nat.mod_lt _ (by omega), by omega⟩
  have hq : Int.tdiv ((64 * w + s : Nat) : Int) 64 = (w : Int) := by
    rw [Int.tdiv_eq_ediv_of_nonneg (by omega)]; omega
  have hr' : Int.tmod ((64 * w + s : Nat) : Int) 64 = (s : Int) := by
    rw [Int.tmod_eq_emod_of_nonneg (by omega)]; omega
  have e : shlU (u4 a b c d) ((64 * w + s : Nat) : Int) = u4 a b c d <<< (64 * w + s) := by
    rw [shlU, if_neg (by omega), Int.toNat_natCast]
  rw [e]
  obtain ⟨S, hS⟩ : ∃ S : W, S = BitVec.ofInt 64 (s : Int) := ⟨_, rfl⟩
  have hSn : S.toNat = s := by
    rw [hS, BitVec.ofInt_natCast, BitVec.toNat_ofNat]
    exact Nat.mod_eq_of_lt (by omega)
  have hS2 : (64#64 - S).toNat = 64 - s := by
    rw [BitVec.toNat_sub, hSn]
    show (18446744073709551616 - s + 64) % 18446744073709551616 = 64 - s
    omega
  have hpos : decide (0#64 < S) = decide (0 < s) := by
    congr 1
    rw [BitVec.lt_def, hSn]
    rfl
  have hw : w ≤ 3 := by omega
  have ww : IntKind.i64.wrap (w : Int) = w := wrap64 (by omega) (by omega)
  have hcast : ((64 * w + s : Nat) : Int) = 64 * (w : Int) + s := by omega
  rw [hcast] at h0 h1 hq hr' ⊢
  simp [h0, h1]
  intro k hk
  obtain ⟨hjk, hk⟩ := upd_none hk
  obtain ⟨hik, hk⟩ := upd_none hk
  have hkj := hjk.symm
  have hki := hik.symm
  have fin : ∀ cs : List V, st.sub (((((st.upd i (AObj.cells [w64 a, w64 b, w64 c, w64 d])).upd j (AObj.cells [w64 0#64, w64 0#64, w64 0#64, w64 0#64])).upd k (AObj.cells [w64 0#64, w64 0#64, w64 0#64, w64 0#64])).upd k (AObj.cells cs)).upd j (AObj.cells cs)) := fun cs => sub_ups (sub_ups (sub_ups (sub_ups (sub_ups (sub_self _) hi) hj) hk) hk) hj
  have hconv : convV .u64 (.int .i64 (s : Int)) = some (w64 S) := by rw [hS, conv_i_64]
  simp [-conv_i_64, hq, hr', ww, hconv]
  clear hconv hS hq hr' hcast h0 h1 e ww
  refine vc_unroll 5 ?_
  have hw4 : w = 0 ∨ w = 1 ∨ w = 2 ∨ w = 3 := by omega
  by_cases hs0 : s = 0
  · have hpos' : decide (0#64 < S) = false := by rw [hpos]; simp [hs0]
    rcases hw4 with rfl | rfl | rfl | rfl
    · have r : u4 a b c d <<< (64 * 0 + s) = u4 a b c d := by simp [hs0]
      rw [r, eU_u4]
      simp [unr_succ, idxArrV, St.seg, segOf, hij, hji, hik, hki, hjk, hkj, storeS, spliceV, hSn, hpos', hs0]
      repeat refine sub_ups ?_ (by assumption)
      exact St.sub_refl _
    · have r : u4 a b c d <<< (64 * 1 + s) = u4 0#64 a b c := by rw [hs0]; exact shl_word a b c d
      rw [r, eU_u4]
      simp [unr_succ, idxArrV, St.seg, segOf, hij, hji, hik, hki, hjk, hkj, storeS, spliceV, hSn, hpos', hs0]
      repeat refine sub_ups ?_ (by assumption)
      exact St.sub_refl _
    · have r : u4 a b c d <<< (64 * 2 + s) = u4 0#64 0#64 a b := by rw [hs0, show 64 * 2 + 0 = 64 + 64 from rfl, BitVec.shiftLeft_add, shl_word, shl_word]
      rw [r, eU_u4]
      simp [unr_succ, idxArrV, St.seg, segOf, hij, hji, hik, hki, hjk, hkj, storeS, spliceV, hSn, hpos', hs0]
      repeat refine sub_ups ?_ (by assumption)
      exact St.sub_refl _
    · have r : u4 a b c d <<< (64 * 3 + s) = u4 0#64 0#64 0#64 a := by rw [hs0, show 64 * 3 + 0 = 64 + 64 + 64 from rfl, BitVec.shiftLeft_add, BitVec.shiftLeft_add, shl_word, shl_word, shl_word]
      rw [r, eU_u4]
      simp [unr_succ, idxArrV, St.seg, segOf, hij, hji, hik, hki, hjk, hkj, storeS, spliceV, hSn, hpos', hs0]
      repeat refine sub_ups ?_ (by assumption)
      exact St.sub_refl _
  · have hpos' : decide (0#64 < S) = true := by rw [hpos]; simp; omega
    rcases hw4 with rfl | rfl | rfl | rfl
    · have r : u4 a b c d <<< (64 * 0 + s) = u4 (a <<< s) (hl b a s) (hl c b s) (hl d c s) := by
        rw [show 64 * 0 + s = s by omega]; exact shl_u4 a b c d s (by omega)
      rw [r, eU_u4]
      simp [unr_succ, idxArrV, St.seg, segOf, hij, hji, hik, hki, hjk, hkj, storeS, spliceV, hSn, hpos', hS2, hl, -BitVec.toNat_sub]
      repeat refine sub_ups ?_ (by assumption)
      exact St.sub_refl _
    · have r : u4 a b c d <<< (64 * 1 + s) = u4 0#64 (a <<< s) (hl b a s) (hl c b s) := by
        rw [show 64 * 1 + s = s + 64 by omega, BitVec.shiftLeft_add, shl_u4 a b c d s (by omega), shl_word]
      rw [r, eU_u4]
      simp [unr_succ, idxArrV, St.seg, segOf, hij, hji, hik, hki, hjk, hkj, storeS, spliceV, hSn, hpos', hS2, hl, -BitVec.toNat_sub]
      repeat refine sub_ups ?_ (by assumption)
      exact St.sub_refl _
    · have r : u4 a b c d <<< (64 * 2 + s) = u4 0#64 0#64 (a <<< s) (hl b a s) := by
        rw [show 64 * 2 + s = s + 64 + 64 by omega, BitVec.shiftLeft_add, BitVec.shiftLeft_add, shl_u4 a b c d s (by omega), shl_word, shl_word]
      rw [r, eU_u4]
      simp [unr_succ, idxArrV, St.seg, segOf, hij, hji, hik, hki, hjk, hkj, storeS, spliceV, hSn, hpos', hS2, hl, -BitVec.toNat_sub]
      repeat refine sub_ups ?_ (by assumption)
      exact St.sub_refl _
    · have r : u4 a b c d <<< (64 * 3 + s) = u4 0#64 0#64 0#64 (a <<< s) := by
        rw [show 64 * 3 + s = s + 64 + 64 + 64 by omega, BitVec.shiftLeft_add, BitVec.shiftLeft_add, BitVec.shiftLeft_add, shl_u4 a b c d s (by omega), shl_word, shl_word, shl_word]
      rw [r, eU_u4]
      simp [unr_succ, idxArrV, St.seg, segOf, hij, hji, hik, hki, hjk, hkj, storeS, spliceV, hSn, hpos', hS2, hl, -BitVec.toNat_sub]
      repeat refine sub_ups ?_ (by assumption)
      exact St.sub_refl _
set_option maxHeartbeats 2000000 in
theorem spec113 (ok : OkNum P F) (st : St) (x : U) (n : Int) : ACalls P (F 113) [nU x, .int .i64 n] st fun v st' => v = nU (shrU x n) ∧ st' = st := by
  refine shows_call ok.mixed ok.h113 (by simp [k113]) ?_
  obtain ⟨a, b, c, d, rfl⟩ := exists_u4 x
  simp only [k113, nU, eU_u4]
  simp
  intro i hi
  simp
  intro j hj
  obtain ⟨hij, hj⟩ := upd_none hj
  have hji := hij.symm
  by_cases h0 : n < 0
  · have e : shrU (u4 a b c d) n = u4 0#64 0#64 0#64 0#64 := by simp [shrU, h0]; rfl
    rw [e, eU_u4]
    simp [h0, fillV, storeS, spliceV, St.seg, segOf]
    repeat refine sub_ups ?_ (by assumption)
    exact St.sub_refl _
  by_cases h1 : 255 < n
  · have e : shrU (u4 a b c d) n = u4 0#64 0#64 0#64 0#64 := by simp [shrU, h1]; rfl
    rw [e, eU_u4]
    simp [h0, h1, fillV, storeS, spliceV, St.seg, segOf]
    repeat refine sub_ups ?_ (by assumption)
    exact St.sub_refl _
  obtain ⟨m, rfl⟩ := Int.eq_ofNat_of_zero_le (show 0 ≤ n by omega)
  have hm : m ≤ 255 := by omega
  obtain ⟨w, s, hs, rfl⟩ : ∃ w s, s < 64 ∧ m = 64 * w + s := ⟨m / 64, m % 64, Nat.mod_lt _ (by omega), by omega⟩
  have hq : Int.tdiv ((64 * w + s : Nat) : Int) 64 = (w : Int) := by
    rw [Int.tdiv_eq_ediv_of_nonneg (by omega)]; omega
  have hr' : Int.tmod ((64 * w + s : Nat) : Int) 64 = (s : Int) := by
    rw [Int.tmod_eq_emod_of_nonneg (by omega)]; omega
  have e : shrU (u4 a b c d) ((64 * w + s : Nat) : Int) = u4 a b c d >>> (64 * w + s) := by
    rw [shrU, if_neg (by omega), Int.toNat_natCast]
  rw [e]
  obtain ⟨S, hS⟩ : ∃ S : W, S = BitVec.ofInt 64 (s : Int) := ⟨_, rfl⟩
  have hSn : S.toNat = s := by
    rw [hS, BitVec.ofInt_natCast, BitVec.toNat_ofNat]
    exact Nat.mod_eq_of_lt (by omega)
  have hS2 : (64#64 - S).toNat = 64 - s := by
    rw [BitVec.toNat_sub, hSn]
    show (18446744073709551616 - s + 64) % 18446744073709551616 = 64 - s
    omega
  have hpos : decide (0#64 < S) = decide (0 < s) := by
    congr 1
    rw [BitVec.lt_def, hSn]
    rfl
  have hw : w ≤ 3 := by omega
  have ww4 : IntKind.i64.wrap (4 - (w : Int)) = 4 - w := wrap64 (by omega) (by omega)
  have ww : IntKind.i64.wrap (w : Int) = w := wrap64 (by omega) (by omega)
  have hcast : ((64 * w + s : Nat) : Int) = 64 * (w : Int) + s := by omega
  rw [hcast] at h0 h1 hq hr' ⊢
  simp [h0, h1]
  intro k hk
  obtain ⟨hjk, hk⟩ := upd_none hk
  obtain ⟨hik, hk⟩ := upd_none hk
  have hkj := hjk.symm
  have hki := hik.symm
  have fin : ∀ cs : List V, st.sub (((((st.upd i (AObj.cells [w64 a, w64 b, w64 c, w64 d])).upd j (AObj.cells [w64 0#64, w64 0#64, w64 0#64, w64 0#64])).upd k (AObj.cells [w64 0#64, w64 0#64, w64 0#64, w64 0#64])).upd k (AObj.cells cs)).upd j (AObj.cells cs)) := fun cs => sub_ups (sub_ups (sub_ups (sub_ups (sub_ups (sub_self _) hi) hj) hk) hk) hj
  have hconv : convV .u64 (.int .i64 (s : Int)) = some (w64 S) := by rw [hS, conv_i_64]
  simp [-conv_i_64, hq, hr', ww, hconv]
  clear hconv hS hq hr' hcast h0 h1 e ww
  refine vc_unroll 5 ?_
  have hw4 : w = 0 ∨ w = 1 ∨ w = 2 ∨ w = 3 := by omega
  by_cases hs0 : s = 0
  · have hpos' : decide (0#64 < S) = false := by rw [hpos]; simp [hs0]
    rcases hw4 with rfl | rfl | rfl | rfl
    · have r : u4 a b c d >>> (64 * 0 + s) = u4 a b c d := by simp [hs0]
      rw [r, eU_u4]
      simp [unr_succ, idxArrV, St.seg, segOf, hij, hji, hik, hki, hjk, hkj, storeS, spliceV, hSn, hpos', hs0]
      repeat refine sub_ups ?_ (by assumption)
      exact St.sub_refl _
    · have r : u4 a b c d >>> (64 * 1 + s) = u4 b c d 0#64 := by rw [hs0, show 64 * 1 + 0 = 64 from rfl, shr_word]
      rw [r, eU_u4]
      simp [unr_succ, idxArrV, St.seg, segOf, hij, hji, hik, hki, hjk, hkj, storeS, spliceV, hSn, hpos', hs0]
      repeat refine sub_ups ?_ (by assumption)
      exact St.sub_refl _
    · have r : u4 a b c d >>> (64 * 2 + s) = u4 c d 0#64 0#64 := by rw [hs0, show 64 * 2 + 0 = 64 + 64 from rfl, BitVec.shiftRight_add, shr_word, shr_word]
      rw [r, eU_u4]
      simp [unr_succ, idxArrV, St.seg, segOf, hij, hji, hik, hki, hjk, hkj, storeS, spliceV, hSn, hpos', hs0]
      repeat refine sub_ups ?_ (by assumption)
      exact St.sub_refl _
    · have r : u4 a b c d >>> (64 * 3 + s) = u4 d 0#64 0#64 0#64 := by rw [hs0, show 64 * 3 + 0 = 64 + 64 + 64 from rfl, BitVec.shiftRight_add, BitVec.shiftRight_add, shr_word, shr_word, shr_word]
      rw [r, eU_u4]
      simp [unr_succ, idxArrV, St.seg, segOf, hij, hji, hik, hki, hjk, hkj, storeS, spliceV, hSn, hpos', hs0]
      repeat refine sub_ups ?_ (by assumption)
      exact St.sub_refl _
  · have hpos' : decide (0#64 < S) = true := by rw [hpos]; simp; omega
    rcases hw4 with rfl | rfl | rfl | rfl
    · have r : u4 a b c d >>> (64 * 0 + s) = u4 (hr a b s) (hr b c s) (hr c d s) (d >>> s) := by
        rw [show 64 * 0 + s = s by omega, shr_u4 a b c d s (by omega)]
      rw [r, eU_u4]
      simp [unr_succ, idxArrV, St.seg, segOf, hij, hji, hik, hki, hjk, hkj, storeS, spliceV, hSn, hpos', hS2, hr, -BitVec.toNat_sub]
      repeat refine sub_ups ?_ (by assumption)
      exact St.sub_refl _
    · have r : u4 a b c d >>> (64 * 1 + s) = u4 (hr b c s) (hr c d s) (d >>> s) 0#64 := by
        rw [show 64 * 1 + s = s + 64 by omega, BitVec.shiftRight_add, shr_u4 a b c d s (by omega), shr_word]
      rw [r, eU_u4]
      simp [unr_succ, idxArrV, St.seg, segOf, hij, hji, hik, hki, hjk, hkj, storeS, spliceV, hSn, hpos', hS2, hr, -BitVec.toNat_sub]
      repeat refine sub_ups ?_ (by assumption)
      exact St.sub_refl _
    · have r : u4 a b c d >>> (64 * 2 + s) = u4 (hr c d s) (d >>> s) 0#64 0#64 := by
        rw [show 64 * 2 + s = s + 64 + 64 by omega, BitVec.shiftRight_add, BitVec.shiftRight_add, shr_u4 a b c d s (by omega), shr_word, shr_word]
      rw [r, eU_u4]
      simp [unr_succ, idxArrV, St.seg, segOf, hij, hji, hik, hki, hjk, hkj, storeS, spliceV, hSn, hpos', hS2, hr, -BitVec.toNat_sub]
      repeat refine sub_ups ?_ (by assumption)
      exact St.sub_refl _
    · have r : u4 a b c d >>> (64 * 3 + s) = u4 (d >>> s) 0#64 0#64 0#64 := by
        rw [show 64 * 3 + s = s + 64 + 64 + 64 by omega, BitVec.shiftRight_add, BitVec.shiftRight_add, BitVec.shiftRight_add, shr_u4 a b c d s (by omega), shr_word, shr_word, shr_word]
      rw [r, eU_u4]
      simp [unr_succ, idxArrV, St.seg, segOf, hij, hji, hik, hki, hjk, hkj, storeS, spliceV, hSn, hpos', hS2, hr, -BitVec.toNat_sub]
      repeat refine sub_ups ?_ (by assumption)
      exact St.sub_refl _
end
end Go.Ab
set_option linter.unusedSimpArgs false
set_option linter.unusedVariables false
set_option maxRecDepth 10000
namespace Go.Ab
open Go Go.RowKit
section
variable {P : Program} {F : Fn}
theorem limb_bit (x : U) (j i : Nat) (hi : i < 64) : (limb x j).getLsbD i = x.getLsbD (64 * j + i) := by
  have e : (18446744073709551616 : Nat) ^ j = 2 ^ (64 * j) := by
    rw [Nat.pow_mul]
  rw [limb, e, BitVec.getLsbD_ofNat, decide_eq_true hi, Bool.true_and, Nat.testBit_div_two_pow, BitVec.getLsbD, Nat.add_comm]
theorem limb_or (x y : U) (j : Nat) : limb (x ||| y) j = limb x j ||| limb y j := by
  apply BitVec.eq_of_getLsbD_eq
  intro i hi
  rw [BitVec.getLsbD_or, limb_bit _ _ _ hi, limb_bit _ _ _ hi, limb_bit _ _ _ hi, BitVec.getLsbD_or]
theorem splice_or (x y : U) {j : Nat} (hj : j < 4) (hy : ∀ k, k < 4 → k ≠ j → limb y k = 0#64) : spliceV (eU x) j [w64 (limb x j ||| limb y j)] = eU (x ||| y) := by
  have e : ∀ k, k < 4 → limb (x ||| y) k = if k = j then limb x j ||| limb y j else limb x k := fun k hk => by
    rw [limb_or]
    split
    · rename_i h; rw [h]
    · rename_i h; rw [hy k hk h, BitVec.or_zero]
  simp only [eU, e 0 (by omega), e 1 (by omega), e 2 (by omega), e 3 (by omega)]
  have : j = 0 ∨ j = 1 ∨ j = 2 ∨ j = 3 := by omega
  rcases this with rfl | rfl | rfl | rfl <;> rfl
theorem seg_limb (x : U) {j : Nat} (hj : j < 4) : segOf (eU x) j 1 = some [w64 (limb x j)] := by
  have : j = 0 ∨ j = 1 ∨ j = 2 ∨ j = 3 := by omega
  rcases this with rfl | rfl | rfl | rfl <;> rfl
def putU (v : W) (i : Nat) : U := v.setWidth 256 <<< i
theorem limb_put (v : W) (q r k : Nat) (hr : r < 64) (hk : k < 4) (hv : v.toNat < 2 ^ (64 - r)) : limb (putU v (64 * q + r)) k = if k = q then v <<< r else 0#64 := by
  have zero : ∀ t, 64 - r ≤ t → v.getLsbD t = false := fun t ht => by
    rw [BitVec.getLsbD]
    exact Nat.testBit_lt_two_pow (Nat.lt_of_lt_of_le hv (Nat.pow_le_pow_right (by omega) ht))
  apply BitVec.eq_of_getLsbD_eq
  intro t ht
  rw [limb_bit _ _ _ ht, putU, BitVec.getLsbD_shiftLeft, BitVec.getLsbD_setWidth]
  rw [decide_eq_true (show 64 * k + t < 256 by omega), Bool.true_and]
  split
  · rename_i h
    subst h
    rw [BitVec.getLsbD_shiftLeft, decide_eq_true ht, Bool.true_and]
    by_cases h2 : t < r
    · simp [h2]
    · rw [decide_eq_false (show ¬ 64 * k + t < 64 * k + r by omega), decide_eq_false h2, decide_eq_true (show 64 * k + t - (64 * k + r) < 256 by omega), show 64 * k + t - (64 * k + r) = t - r by omega]
      simp
  · rename_i h
    rcases Nat.lt_or_gt_of_ne h with h2 | h2
    · rw [decide_eq_true (show 64 * k + t < 64 * q + r by omega)]
      simp
    · rw [zero _ (show 64 - r ≤ 64 * k + t - (64 * q + r) by omega)]
      simp
theorem put_nat (v : W) (i : Nat) : (putU v i).toNat = v.toNat * 2 ^ i % 2 ^ 256 := by
  have := v.isLt
  rw [putU, BitVec.toNat_shiftLeft, Nat.shiftLeft_eq, BitVec.toNat_setWidth, Nat.mod_eq_of_lt (show v.toNat < 2 ^ 256 from Nat.lt_of_lt_of_le this (Nat.pow_le_pow_right (by omega) (by omega)))]
theorem eU_zero0 : [w64 0, w64 0, w64 0, w64 0] = eU 0#256 := eU_zero
theorem or_put {x : U} {v : W} {i : Nat} (hx : x.toNat < 2 ^ i) (hs : v.toNat * 2 ^ i < 2 ^ 256) : (x ||| putU v i).toNat = v.toNat * 2 ^ i + x.toNat := by
  rw [BitVec.toNat_or, put_nat, Nat.mod_eq_of_lt hs, Nat.or_comm]
  exact or_disj _ _ _ hx
theorem leN_append : ∀ a b : List UInt8, leN (a ++ b) = leN a + 256 ^ a.length * leN b
  | [], b => by simp [leN]
  | x :: a, b => by
    have ih := leN_append a b
    simp only [List.cons_append, leN, ih, List.length_cons, Nat.pow_succ]
    rw [Nat.mul_add, ← Nat.mul_assoc, Nat.mul_comm 256 (256 ^ a.length)]
    omega
theorem idx_id (x : Id) (k : IntKind) {i : Nat} (hi : i < 32) : idxV 32 false 1 (.agg (eId x)) (.int k (i : Int)) = some (w8 (x.toList[i]'(by simpa using hi))) := by
  simp only [idxV]
  rw [if_pos (by omega), Int.toNat_natCast, Nat.mul_one, segOf, if_pos (by rw [eId_len]; omega), List.drop_eq_getElem_cons (by rw [eId_len]; exact hi)]
  simp [packV, eId, w8]
theorem segId (x : Id) : segOf (eId x) 0 32 = some (eId x) := by
  rw [segOf, if_pos (by rw [eId_len]; omega), List.drop_zero, List.take_of_length_le (by rw [eId_len]; omega)]
set_option maxHeartbeats 1000000 in
theorem spec117 (ok : OkNum P F) (st : St) (x : Id) : ACalls P (F 117) [.agg (eId x)] st fun v st' => v = nU (BitVec.ofNat 256 (idN x)) ∧ st' = st := by
  refine shows_call ok.mixed ok.h117 (by simp [k117]) ?_
  simp only [k117, nU, eU_zero0]
  simp
  intro i1 h1
  have S := (Sep.start st).new h1 (.cells (eId x))
  generalize st.upd i1 _ = st1 at S ⊢
  simp
  intro i2 h2
  have S := S.new h2 (.cells (eU 0#256))
  generalize st1.upd i2 _ = st2 at S ⊢
  simp
  intro i3 h3
  have S := S.new h3 (.cells (eU 0#256))
  generalize st2.upd i3 _ = st3 at S ⊢
  have o1 := S.mem (i := i1) (o := .cells (eId x)) (by simp)
  simp [St.seg, o1, segId]
  refine vc_loopJ (fun k env' st' => ∃ i, i ≤ 32 ∧ k = 32 - i ∧ env' 7 = .int .i64 (i : Nat) ∧ Sep [pt i3 (.cells (eU (BitVec.ofNat 256 (leN (x.toList.take i))))), pt i2 (.cells (eU 0#256)), pt i1 (.cells (eId x)), Was st] st') 32
    ⟨0, by omega, by omega, rfl, S⟩ ?_
  clear S
  rintro J hJ k env' st4 hsame ⟨i, hi, rfl, h7, S⟩
  have g2 := hsame.get 2 rfl
  have g3 := hsame.get 3 rfl
  have g6 := hsame.get 6 rfl
  simp at g2 g3 g6
  clear hsame
  have hsp : ∀ x y : U, spliceV (eU x) 0 (eU y) = eU y := fun _ _ => rfl
  have hxl : x.toList.length = 32 := by simp
  have n32 := S.neq (i := i3) (j := i2) 0 1 rfl rfl (by omega)
  by_cases hlt : i < 32
  · have hlt' : (i : Int) < 32 := by omega
    have hix := idx_id x .i64 hlt
    obtain ⟨b, hb⟩ : ∃ b, b = x.toList[i] := ⟨_, rfl⟩
    rw [← hb] at hix
    obtain ⟨m, hm⟩ : ∃ m, m = leN (x.toList.take i) := ⟨_, rfl⟩
    have hml : m < 2 ^ (8 * i) := by
      have := leN_lt (x.toList.take i)
      rw [List.length_take, hxl, Nat.min_eq_left hi, ← hm] at this
      rwa [Nat.pow_mul]
    have hnx : leN (x.toList.take (i + 1)) = b.toNat * 2 ^ (8 * i) + m := by
      rw [List.take_succ_eq_append_getElem (by omega), leN_append, ← hm, ← hb, List.length_take, hxl, Nat.min_eq_left hi, leN, leN, Nat.pow_mul, Nat.mul_zero, Nat.add_zero, Nat.mul_comm, Nat.add_comm]
    rw [← hm] at S
    have o3 := S.get
    have hp256 : 2 ^ (8 * i) ≤ 2 ^ 248 := Nat.pow_le_pow_right (by omega) (by omega)
    have hbl := b.toNat_lt
    obtain ⟨q, hqq⟩ : ∃ q, q = i / 8 := ⟨_, rfl⟩
    obtain ⟨p, hpp⟩ : ∃ p, p = i % 8 := ⟨_, rfl⟩
    obtain ⟨r, hr⟩ : ∃ r, r = 8 * p := ⟨_, rfl⟩
    have e1 : Int.tdiv (i : Int) 8 = (q : Int) := by rw [Int.tdiv_eq_ediv_of_nonneg (by omega)]; omega
    have e2 : Int.tmod (i : Int) 8 = (p : Int) := by rw [Int.tmod_eq_emod_of_nonneg (by omega)]; omega
    have w1 : IntKind.i64.wrap (q : Int) = (q : Int) := wrap64 (by omega) (by omega)
    have w2 : IntKind.i64.wrap (8 * (p : Int)) = (r : Int) := by rw [wrap64 (by omega) (by omega)]; omega
    have w3 : IntKind.i64.wrap ((i : Int) + 1) = (i : Int) + 1 := wrap64 (by omega) (by omega)
    have hR : (BitVec.ofNat 64 r).toNat = r := by rw [BitVec.toNat_ofNat]; exact Nat.mod_eq_of_lt (by omega)
    have hconv : convV .u64 (.int .i64 ((r : Nat) : Int)) = some (w64 (BitVec.ofNat 64 r)) := by rw [conv_i_64, BitVec.ofInt_natCast]
    have hidx := idxArr_ptr 4 i3 (z := ((q : Nat) : Int)) (j := q) rfl (by omega)
    have hv : (b.toBitVec.setWidth 64).toNat = b.toNat := by
      rw [BitVec.toNat_setWidth]
      exact Nat.mod_eq_of_lt (Nat.lt_of_lt_of_le hbl (by decide))
    have hv2 : (b.toBitVec.setWidth 64).toNat < 2 ^ (64 - r) := by
      rw [hv]
      calc b.toNat < 2 ^ 8 := hbl
        _ ≤ 2 ^ (64 - r) := Nat.pow_le_pow_right (by omega) (by omega)
    have hi8 : 8 * i = 64 * q + r := by omega
    have hput : ∀ k, k < 4 → limb (putU (b.toBitVec.setWidth 64) (8 * i)) k = if k = q then b.toBitVec.setWidth 64 <<< r else 0#64 := fun k hk => by
      rw [hi8]; exact limb_put _ q r k (by omega) hk hv2
    have hspl : spliceV (eU (BitVec.ofNat 256 m)) q [w64 (limb (BitVec.ofNat 256 m) q ||| b.toBitVec.setWidth 64 <<< r)] = eU (BitVec.ofNat 256 m ||| putU (b.toBitVec.setWidth 64) (8 * i)) := by
      have := splice_or (BitVec.ofNat 256 m) (putU (b.toBitVec.setWidth 64) (8 * i)) (j := q) (by omega) (fun k hk hne => by rw [hput k hk, if_neg hne])
      rwa [hput q (by omega), if_pos rfl] at this
    have hM : (BitVec.ofNat 256 m).toNat = m := by
      rw [BitVec.toNat_ofNat]
      exact Nat.mod_eq_of_lt (Nat.lt_of_lt_of_le hml (Nat.le_trans hp256 (Nat.pow_le_pow_right (by omega) (by omega))))
    have hnew : BitVec.ofNat 256 m ||| putU (b.toBitVec.setWidth 64) (8 * i) = BitVec.ofNat 256 (leN (x.toList.take (i + 1))) := by
      have hfit : b.toNat * 2 ^ (8 * i) < 2 ^ 256 := by
        calc b.toNat * 2 ^ (8 * i) < 2 ^ 8 * 2 ^ (8 * i) := Nat.mul_lt_mul_of_pos_right hbl (Nat.two_pow_pos _)
          _ = 2 ^ (8 + 8 * i) := (Nat.pow_add _ _ _).symm
          _ ≤ 2 ^ 256 := Nat.pow_le_pow_right (by omega) (by omega)
      have h := or_put (x := BitVec.ofNat 256 m) (v := b.toBitVec.setWidth 64) (i := 8 * i) (by rw [hM]; exact hml) (by rw [hv]; exact hfit)
      rw [hv, hM, ← hnx] at h
      rw [← h, BitVec.ofNat_toNat, BitVec.setWidth_eq]
    have hst : storeS st4 1 (.ptr (some (i3, q))) (w64 (limb (BitVec.ofNat 256 m) q ||| b.toBitVec.setWidth 64 <<< r)) = some (st4.upd i3 (.cells (eU (BitVec.ofNat 256 (leN (x.toList.take (i + 1))))))) := by
      have : q + 1 ≤ 4 := by omega
      simp only [storeS, o3, w64_cells, hspl, hnew]
      rw [if_pos ⟨rfl, by rw [eU_len]; omega⟩]
    simp [-conv_i_64, h7, hlt', g3, g6, hix, e1, e2, w1, w2, w3, hconv, hR, hidx, St.seg, o3, seg_limb _ (show q < 4 by omega), hst]
    refine Round.mk (32 - (i + 1)) _ (by omega) (sub_self _) (hJ _ _ _ ⟨i + 1, by omega, rfl, by simp, S.set _⟩)
  · have : i = 32 := by omega
    subst this
    rw [List.take_of_length_le (by omega)] at S
    have o3 := S.get
    have o2 := S.mem (i := i2) (o := .cells (eU 0#256)) (by simp)
    have T := S.setAt (.cells (eU (BitVec.ofNat 256 (leN x.toList)))) 1 rfl
    simp [h7, g2, g3, St.seg, o3, o2, segU, storeS, eU_len, hsp, n32, n32.symm]
    exact ⟨T.was' (by simp), rfl⟩
end
end Go.Ab
set_option linter.unusedSimpArgs false
set_option linter.unusedVariables false
set_option maxRecDepth 10000
namespace Go.Ab
open Go Go.RowKit
section
variable {P : Program} {F : Fn}
def wF (V i j : Nat) : Nat := if 64 * (j + 1) ≤ i then 0 else V / 2 ^ (max i (64 * j)) % 2 ^ (64 * (j + 1) - max i (64 * j))
end
end Go.Ab
set_option linter.unusedSimpArgs false
set_option linter.unusedVariables false
set_option maxRecDepth 10000
namespace Go.Ab
open Go Go.RowKit
section
variable {P : Program} {F : Fn}
end
end Go.Ab
set_option linter.unusedSimpArgs false
set_option linter.unusedVariables false
set_option maxRecDepth 10000
namespace Go.Ab
open Go Go.RowKit
section
variable {P : Program} {F : Fn}
end
end Go.Ab

import Derived.Test.YtjcpdljfkhbbkaaGreatV5
import Derived.Test.YtjcpdljfkhbbkaaGreatV8
import Derived.Test.YtjcpdljfkhbbkaaGreatV6
import Derived.Test.YtjcpdljfkhbbkaaGreatV1
import Derived.Test.YtjcpdljfkhbbkaaGreatV3
import Derived.Test.YtjcpdljfkhbbkaaGreatV4
import Derived.Sort.Grow
set_option linter.unusedSimpArgs false
set_option linter.unusedVariables false
set_option maxRecDepth 10000
namespace Go.Ab
open Go Go.RowKit
def sumGo : Int → List Out1 → Int × Bool
  | n, [] => (n, true)
  | n, o :: l => if o.amt < 0 ∨ 1125899906842624 < o.amt then (0, false) else if 1125899906842624 < n + o.amt then (0, false) else sumGo (n + o.amt) l
def sumM (l : List Out1) : Int × Bool := sumGo 0 l
theorem sumGo_range : ∀ (l : List Out1) (n : Int), 0 ≤ n → n ≤ 1125899906842624 → 0 ≤ (sumGo n l).1 ∧ (sumGo n l).1 ≤ 1125899906842624
  | [], n, h1, h2 => ⟨h1, h2⟩
  | o :: l, n, h1, h2 => by
    rw [sumGo]
    split
    · exact ⟨Int.le_refl _, by decide⟩
    · split
      · exact ⟨Int.le_refl _, by decide⟩
      · exact sumGo_range l _ (by omega) (by omega)
theorem sumM_range (l : List Out1) : 0 ≤ (sumM l).1 ∧ (sumM l).1 ≤ 1125899906842624 := sumGo_range l 0 (by decide) (by decide)
abbrev Pt := Id × W32
def ePt (p : Pt) : List V := eId p.1 ++ [w32 p.2]
theorem ePt_len (p : Pt) : (ePt p).length = 33 := by simp [ePt, eId_len]
def kPt (p : Pt) : V := .agg (ePt p)
theorem eqL_app : ∀ (a b c d : List V) (r s : Bool), eqL a b = some r → eqL c d = some s → eqL (a ++ c) (b ++ d) = some (r && s)
  | [], [], c, d, r, s, h1, h2 => by
    cases h1
    simpa using h2
  | [], b :: bs, c, d, r, s, h1, h2 => by cases h1
  | a :: as, [], c, d, r, s, h1, h2 => by cases a <;> cases h1
  | .int k a :: as, .int k' b :: bs, c, d, r, s, h1, h2 => by
    simp only [eqL, List.cons_append] at h1 ⊢
    split at h1
    · rename_i hk
      rw [if_pos hk]
      obtain ⟨t, h3, h4⟩ := Option.map_eq_some_iff.1 h1
      rw [eqL_app as bs c d t s h3 h2]
      subst h4
      simp [Bool.and_assoc]
    · cases h1
  | .bool _ :: _, _ :: _, _, _, _, _, h1, _ => by simp [eqL] at h1
  | .str _ :: _, _ :: _, _, _, _, _, h1, _ => by simp [eqL] at h1
  | .ptr _ :: _, _ :: _, _, _, _, _, h1, _ => by simp [eqL] at h1
  | .eptr _ :: _, _ :: _, _, _, _, _, h1, _ => by simp [eqL] at h1
  | .sl _ _ _ :: _, _ :: _, _, _, _, _, h1, _ => by simp [eqL] at h1
  | .hsl _ _ _ _ :: _, _ :: _, _, _, _, _, h1, _ => by simp [eqL] at h1
  | .map _ :: _, _ :: _, _, _, _, _, h1, _ => by simp [eqL] at h1
  | .func _ _ :: _, _ :: _, _, _, _, _, h1, _ => by simp [eqL] at h1
  | .nilf :: _, _ :: _, _, _, _, _, h1, _ => by simp [eqL] at h1
  | .agg _ :: _, _ :: _, _, _, _, _, h1, _ => by simp [eqL] at h1
  | .tup _ :: _, _ :: _, _, _, _, _, h1, _ => by simp [eqL] at h1
  | .junk :: _, _ :: _, _, _, _, _, h1, _ => by simp [eqL] at h1
  | .int _ _ :: _, .bool _ :: _, _, _, _, _, h1, _ => by simp [eqL] at h1
  | .int _ _ :: _, .str _ :: _, _, _, _, _, h1, _ => by simp [eqL] at h1
  | .int _ _ :: _, .ptr _ :: _, _, _, _, _, h1, _ => by simp [eqL] at h1
  | .int _ _ :: _, .eptr _ :: _, _, _, _, _, h1, _ => by simp [eqL] at h1
  | .int _ _ :: _, .sl _ _ _ :: _, _, _, _, _, h1, _ => by simp [eqL] at h1
  | .int _ _ :: _, .hsl _ _ _ _ :: _, _, _, _, _, h1, _ => by simp [eqL] at h1
  | .int _ _ :: _, .map _ :: _, _, _, _, _, h1, _ => by simp [eqL] at h1
  | .int _ _ :: _, .func _ _ :: _, _, _, _, _, h1, _ => by simp [eqL] at h1
  | .int _ _ :: _, .nilf :: _, _, _, _, _, h1, _ => by simp [eqL] at h1
  | .int _ _ :: _, .agg _ :: _, _, _, _, _, h1, _ => by simp [eqL] at h1
  | .int _ _ :: _, .tup _ :: _, _, _, _, _, h1, _ => by simp [eqL] at h1
  | .int _ _ :: _, .junk :: _, _, _, _, _, h1, _ => by simp [eqL] at h1
theorem eqL_w32 (x y : W32) : eqL [w32 x] [w32 y] = some (decide (x = y)) := by
  show eqL [.int .u32 (x.toNat : Int)] [.int .u32 (y.toNat : Int)] = _
  simp only [eqL, if_true, Option.map_some, Bool.and_true, Option.some.injEq]
  rw [Bool.eq_iff_iff]
  simp only [beq_iff_eq, decide_eq_true_eq]
  constructor
  · intro h
    exact BitVec.eq_of_toNat_eq (by omega)
  · intro h
    rw [h]
theorem eqL_pt (a b : Pt) : eqL (ePt a) (ePt b) = some (decide (a = b)) := by
  rw [ePt, ePt, eqL_app _ _ _ _ _ _ (eqL_id a.1 b.1) (eqL_w32 a.2 b.2)]
  congr 1
  rw [Bool.eq_iff_iff]
  simp only [Bool.and_eq_true, decide_eq_true_eq, Prod.ext_iff]
theorem keyed_pt : Keyed kPt (.agg 33) := ⟨fun k => by simp [isKey, kPt, ePt_len], fun a b => by
  simp only [keyEq, kPt]
  rw [if_pos (ePt_len a), eqL_pt]⟩
theorem lookup_lk0 {K A : Type} [DecidableEq K] {ek : K → V} {ev : A → V} {kk : KK} (hk : Keyed ek kk) {st : St} {id : Nat} {l : List (K × A)} (h : st id = some (.mp (encM ek ev l))) (z : V) (k : K) :
    lookupV st kk z false (.map (some id)) (ek k) = some (((lk k l).map ev).getD z) := by
  rw [lookup_enc hk h, if_neg (by simp)]; rfl
def In1.pt (x : In1) : Pt := (x.tx, x.ix)
def makerP : Pt := (id0, 4294967295#32)
theorem insegPt (x : In1) : segOf (eIn x) 0 33 = some (ePt x.pt) := seg_of_drop (zs := [keyV x.kk x.key]) (by rw [List.drop_zero]; simp [eIn, ePt, In1.pt]) (ePt_len _) (by omega)
def insGo (first : Bool) : List Pt → List In1 → Option Int
  | _, [] => none
  | seen, x :: l => if 100 < x.key.length then some 2 else if decide (x.pt = makerP) ≠ first then some 120 else if x.pt ∈ seen then some 5 else insGo first (x.pt :: seen) l
def txM (t : Tx1) (first : Bool) : Int :=
  if t.ins.length = 0 ∨ t.outs.length = 0 ∨ 32 < t.ins.length ∨ 32 < t.outs.length then 120 else
  match insGo first [] t.ins with
  | some e => e
  | none => if (sumM t.outs).2 = true then 0 else 121
theorem insV_len (t : Tx1) : lenSlV (insV t) = some (.int .i64 t.ins.length) := rfl
theorem outsV_len (t : Tx1) : lenSlV (outsV t) = some (.int .i64 t.outs.length) := rfl
theorem tsegIns (t : Tx1) : segOf (eTx t) 0 1 = some [insV t] := rfl
theorem tsegOuts (t : Tx1) : segOf (eTx t) 1 1 = some [outsV t] := rfl
theorem tsegAll (t : Tx1) : segOf (eTx t) 0 2 = some (eTx t) := rfl
section
variable {P : Program} {F : Fn}
set_option maxHeartbeats 2000000 in
theorem spec250 (ok : OkCheck P F) (st : St) {s : V} {l : List Out1} (hr : Rd 33 eOut s l st) (hl : l.length ≤ 100000) : ACalls P (F 250) [s] st fun v st' => v = .tup [.int .i64 (sumM l).1, .bool (sumM l).2] ∧ st' = st := by
  refine shows_call ok.mixed ok.h250 (by simp [k250]) ?_
  simp only [k250]
  have hlen := hr.len
  simp [hlen]
  refine vc_loopJ (fun c env' st' => ∃ (i : Nat) (n : Int), i ≤ l.length ∧ c = l.length - i ∧ env' 9 = .int .i64 (i : Nat) ∧ env' 4 = .int .i64 n ∧ 0 ≤ n ∧ n ≤ 1125899906842624 ∧ sumGo n (l.drop i) = sumM l ∧ Sep [Was st] st') l.length
    ⟨0, 0, by omega, by omega, by simp, by simp, by omega, by omega, by simp [sumM], Sep.start st⟩ ?_
  rintro J hJ c env' st2 hsame ⟨i, n, hi, rfl, h9, h4, hn0, hn1, hgo, S⟩
  have g7 := (hsame.get 7 rfl).trans (by simp : _ = s)
  have g8 := (hsame.get 8 rfl).trans (by simp : _ = V.int .i64 (l.length : Int))
  clear hsame
  have hsub : St.sub st st2 := S.was' (st0 := st) (by simp)
  by_cases hlt : i < l.length
  · obtain ⟨r1, r2, r3, r4⟩ := (hr.sub hsub).row eOut_len hlt
    rw [List.drop_eq_getElem_cons hlt, sumGo] at hgo
    obtain ⟨o, ho⟩ : ∃ o, o = l[i] := ⟨_, rfl⟩
    rw [← ho] at r3 hgo
    have w1 : IntKind.i64.wrap ((i : Int) + 1) = (i : Int) + 1 := wrap64 (by omega) (by omega)
    simp [g7, g8, h9, hlt, r1, r3]
    intro i6 h6
    have S := S.new h6 (.cells z33_0be4)
    have hst := store_pt (sz := 33) (o := 0) S.get (v := .agg (eOut o)) (vs := eOut o) rfl (eOut_len _) (by simp)
    rw [show spliceV z33_0be4 0 (eOut o) = eOut o by simp [spliceV, eOut_len]] at hst
    have S := S.set (.cells (eOut o))
    simp [hst] at S ⊢
    generalize st2.upd i6 (.cells (eOut o)) = st3 at S ⊢
    have o6 := S.get
    have hsa := ousegAmt o
    by_cases h1 : o.amt < 0
    · rw [if_pos (.inl h1)] at hgo
      simp [St.seg, o6, hsa, h1, ← hgo]
      exact S.was' (st0 := st) (by simp)
    · by_cases h2 : 1125899906842624 < o.amt
      · rw [if_pos (.inr h2)] at hgo
        simp [St.seg, o6, hsa, h1, h2, ← hgo]
        exact S.was' (st0 := st) (by simp)
      · rw [if_neg (by omega)] at hgo
        have w2 : IntKind.i64.wrap (n + o.amt) = n + o.amt := wrap64 (by omega) (by omega)
        by_cases h3 : 1125899906842624 < n + o.amt
        · rw [if_pos h3] at hgo
          simp [St.seg, o6, hsa, h1, h2, h3, h4, w2, ← hgo]
          exact S.was' (st0 := st) (by simp)
        · rw [if_neg h3] at hgo
          simp [St.seg, o6, hsa, h1, h2, h3, h4, h9, w1, w2]
          exact Round.mk (l.length - (i + 1)) _ (by omega) (sub_self _) (hJ _ _ _ ⟨i + 1, n + o.amt, by omega, rfl, by simp, by simp, by omega, by omega, hgo, S.drop⟩)
  · have : i = l.length := by omega
    subst this
    rw [List.drop_length, sumGo] at hgo
    simp [g7, g8, h9, h4, ← hgo]
    exact hsub
set_option maxHeartbeats 4000000 in
theorem spec249 (ok : OkCheck P F) (st : St) (t : Tx1) (first : Bool) (h1 : t.ins.length ≤ 100000) (h2 : t.outs.length ≤ 100000) (h3 : ∀ x ∈ t.ins, x.key.length ≤ 1000000) :
    ACalls P (F 249) [.agg (eTx t), .bool first] st fun v st' => v = .int .i64 (txM t first) ∧ st' = st := by
  have okt := ok.toOkTx
  refine shows_call ok.mixed ok.h249 (by simp [k249]) ?_
  simp only [k249]
  simp
  intro i2 hi2
  have S := (Sep.start st).new hi2 (.cells (eTx t))
  generalize st.upd i2 _ = st1 at S ⊢
  have o2 := S.get
  have li := insV_len t
  have lo := outsV_len t
  have si := tsegIns t
  have so := tsegOuts t
  by_cases c1 : t.ins.length = 0
  · have e : txM t first = 120 := by rw [txM, if_pos (.inl c1)]
    simp [St.seg, o2, si, so, li, lo, c1, e]
    exact S.was' (st0 := st) (by simp)
  have b1 : ((t.ins.length : Int) == 0) = false := by simpa using c1
  by_cases c2 : t.outs.length = 0
  · have e : txM t first = 120 := by rw [txM, if_pos (.inr (.inl c2))]
    simp [St.seg, o2, si, so, li, lo, b1, c2, e]
    exact S.was' (st0 := st) (by simp)
  have b2 : ((t.outs.length : Int) == 0) = false := by simpa using c2
  by_cases c3 : 32 < t.ins.length
  · have e : txM t first = 120 := by rw [txM, if_pos (.inr (.inr (.inl c3)))]
    have c3' : 32 < (t.ins.length : Int) := by omega
    simp [St.seg, o2, si, so, li, lo, b1, b2, c3', e]
    exact S.was' (st0 := st) (by simp)
  by_cases c4 : 32 < t.outs.length
  · have e : txM t first = 120 := by rw [txM, if_pos (.inr (.inr (.inr c4)))]
    have c3' : ¬ 32 < (t.ins.length : Int) := by omega
    have c4' : 32 < (t.outs.length : Int) := by omega
    simp [St.seg, o2, si, so, li, lo, b1, b2, c3', c4', e]
    exact S.was' (st0 := st) (by simp)
  have e0 : txM t first = match insGo first [] t.ins with | some e => e | none => if (sumM t.outs).2 = true then 0 else 121 := by rw [txM, if_neg (by omega)]
  have c3' : ¬ 32 < (t.ins.length : Int) := by omega
  have c4' : ¬ 32 < (t.outs.length : Int) := by omega
  simp [St.seg, o2, si, so, li, lo, b1, b2, c3', c4']
  intro i5 hi5
  have S := S.new hi5 (.mp [])
  generalize st1.upd i5 _ = st2 at S ⊢
  have o2 := S.mem (i := i2) (o := .cells (eTx t)) (by simp)
  simp [St.seg, o2, si, so, li, lo]
  refine vc_joinB (M := fun env' st' => insGo first [] t.ins = none ∧ Sep [pt i2 (.cells (eTx t)), Was st] st') ?_ ?_
  · refine vc_loopJ (fun c env' st' => ∃ (i : Nat) (seen : List Pt) (es : List (Pt × Bool)), i ≤ t.ins.length ∧ c = t.ins.length - i ∧ env' 36 = .int .i64 (i : Nat) ∧ insGo first seen (t.ins.drop i) = insGo first [] t.ins ∧ (∀ p, (lk p es).getD false = decide (p ∈ seen)) ∧
        Sep [pt i5 (.mp (encM kPt V.bool es)), pt i2 (.cells (eTx t)), Was st] st') t.ins.length
      ⟨0, [], [], by omega, by omega, by simp, by simp, by simp [lk], S⟩ ?_
    rintro J hJ c env' st3 hsame ⟨i, seen, es, hi, rfl, h36, hgo, hes, S⟩
    have g1 := (hsame.get 1 rfl).trans (by simp : _ = V.bool first)
    have g5 := (hsame.get 5 rfl).trans (by simp : _ = V.map (some i5))
    have g34 := (hsame.get 34 rfl).trans (by simp : _ = insV t)
    have g35 := (hsame.get 35 rfl).trans (by simp : _ = V.int .i64 (t.ins.length : Int))
    clear hsame
    by_cases hlt : i < t.ins.length
    · obtain ⟨r1, r2, r3, r4⟩ := (rd_ins t st3).row eIn_len hlt
      rw [List.drop_eq_getElem_cons hlt, insGo] at hgo
      have hkl := h3 t.ins[i] (List.getElem_mem hlt)
      obtain ⟨x, hx⟩ : ∃ x, x = t.ins[i] := ⟨_, rfl⟩
      rw [← hx] at r3 hgo hkl
      have w1 : IntKind.i64.wrap ((i : Int) + 1) = (i : Int) + 1 := wrap64 (by omega) (by omega)
      simp [g34, g35, h36, hlt, r1, r3]
      intro i7 hi7
      have S := S.new hi7 (.cells z34_1838)
      have hst := store_pt (sz := 34) (o := 0) S.get (v := .agg (eIn x)) (vs := eIn x) rfl (eIn_len _) (by simp)
      rw [show spliceV z34_1838 0 (eIn x) = eIn x by simp [spliceV, eIn_len]] at hst
      have S := S.set (.cells (eIn x))
      simp [hst] at S ⊢
      generalize st3.upd i7 (.cells (eIn x)) = st4 at S ⊢
      have o7 := S.get
      have o5 := S.mem (i := i5) (o := .mp (encM kPt V.bool es)) (by simp)
      have hsk := insegKey x
      have hsp := insegPt x
      have hlk : lenSlV (keyV x.kk x.key) = some (.int .i64 x.key.length) := rfl
      by_cases k1 : 100 < x.key.length
      · have k1' : 100 < (x.key.length : Int) := by omega
        rw [if_pos k1] at hgo
        rw [← hgo] at e0
        simp [St.seg, o7, hsk, hlk, k1', e0]
        exact S.was' (st0 := st) (by simp)
      · have k1' : ¬ 100 < (x.key.length : Int) := by omega
        rw [if_neg k1] at hgo
        have hm : eqK (.agg 33) (.agg (ePt x.pt)) (.agg (eId id0 ++ [w32 4294967295#32])) = some (decide (x.pt = makerP)) := by
          show eqK (.agg 33) (.agg (ePt x.pt)) (.agg (ePt makerP)) = _
          rw [eqK, if_pos (ePt_len _), eqL_pt]
        simp [St.seg, o7, hsk, hlk, k1', hsp, g1]
        refine ⟨_, spec197 okt st4, ?_⟩
        by_cases k2 : decide (x.pt = makerP) = first
        · rw [if_neg (by simpa using k2)] at hgo
          have hlu := lookup_lk0 keyed_pt (ev := V.bool) o5 (.bool false) x.pt
          have hge : ((lk x.pt es).map V.bool).getD (.bool false) = .bool (decide (x.pt ∈ seen)) := by
            rw [← hes x.pt]
            cases lk x.pt es <;> rfl
          simp only [hge, kPt] at hlu
          rw [k2] at hm
          have hb : eqK .bool (.bool first) (.bool first) = some true := by simp [eqK]
          simp [St.seg, o7, hsp, hm, hb, g1, g5, hlu]
          by_cases k3 : x.pt ∈ seen
          · rw [if_pos k3] at hgo
            rw [← hgo] at e0
            simp [k3, e0]
            exact S.was' (st0 := st) (by simp)
          · rw [if_neg k3] at hgo
            have hms := mset_enc keyed_pt (ev := V.bool) o5 x.pt true
            simp only [kPt] at hms
            simp [k3, St.seg, o7, hsp, g5, hms]
            have S := S.setAt (.mp (encM kPt V.bool (aSet x.pt true es))) 1 rfl
            simp at S
            simp [h36, w1]
            refine Round.mk (t.ins.length - (i + 1)) _ (by omega) (sub_self _) (hJ _ _ _ ⟨i + 1, x.pt :: seen, _, by omega, rfl, by simp, hgo, ?_, S.drop⟩)
            intro p
            rw [lk_aSet]
            by_cases hp : p = x.pt
            · simp [hp]
            · rw [if_neg hp, hes p]
              simp [hp]
        · rw [if_pos k2] at hgo
          rw [← hgo] at e0
          have hb : eqK .bool (.bool (decide (x.pt = makerP))) (.bool first) = some false := by
            show some (decide (x.pt = makerP) == first) = some false
            rw [beq_eq_false_iff_ne.2 k2]
          simp [St.seg, o7, hsp, hm, g1, hb, e0]
          exact S.was' (st0 := st) (by simp)
    · have : i = t.ins.length := by omega
      subst this
      rw [List.drop_length, insGo] at hgo
      simp [g35, h36]
      exact ⟨hgo.symm, S.drop⟩
  · rintro env' st3 hsame ⟨hno, S⟩
    have g2 := (hsame.get 2 rfl).trans (by simp : _ = V.ptr (some (i2, 0)))
    clear hsame
    rw [hno] at e0
    have o2 := S.get
    simp [g2, St.seg, o2, so]
    refine (spec250 ok st3 (rd_outs t st3) h2).mono ?_
    rintro v st3 ⟨rfl, rfl⟩
    cases hs : (sumM t.outs).2 with
    | true =>
      rw [hs] at e0
      simp [hs, e0]
      exact S.was' (st0 := st) (by simp)
    | false =>
      rw [hs] at e0
      simp [hs, e0]
      exact S.was' (st0 := st) (by simp)
end
end Go.Ab
set_option linter.unusedSimpArgs false
set_option linter.unusedVariables false
namespace Go.Ab
open Go Go.RowKit
section
variable {α : Type}
def flg (l : List (α × Bool)) : List α := (l.filter (·.2)).map (·.1)
theorem flg_set {l : List (α × Bool)} {i : Nat} (hi : i < l.length) (hf : l[i].2 = false) : (flg (l.set i (l[i].1, true))).Perm (flg l ++ [l[i].1]) := by
  have e : l = l.take i ++ l[i] :: l.drop (i + 1) := by rw [← List.drop_eq_getElem_cons hi, List.take_append_drop]
  have e2 : l.set i (l[i].1, true) = l.take i ++ (l[i].1, true) :: l.drop (i + 1) := List.set_eq_take_append_cons_drop.trans (if_pos hi)
  have h1 : flg (l.set i (l[i].1, true)) = flg (l.take i) ++ l[i].1 :: flg (l.drop (i + 1)) := by rw [e2]; simp [flg]
  have h2 : flg l = flg (l.take i) ++ flg (l.drop (i + 1)) := by
    refine (congrArg flg e).trans ?_
    simp only [flg, List.filter_append, List.filter_cons, hf, Bool.false_eq_true, if_false, List.map_append]
  rw [h1, h2, List.append_assoc]
  exact List.Perm.append_left _ (List.perm_append_comm (l₁ := [l[i].1]))
theorem flg_all {l : List (α × Bool)} (h : ∀ x ∈ l, x.2 = true) : flg l = l.map (·.1) := by
  unfold flg
  rw [List.filter_eq_self.2 h]
theorem flg_none (l : List α) : flg (l.map fun x => (x, false)) = [] := by simp [flg]
theorem fst_set {l : List (α × Bool)} {i : Nat} (hi : i < l.length) : (l.set i (l[i].1, true)).map (·.1) = l.map (·.1) := by
  apply List.ext_getElem
  · simp
  · intro j q1 q2
    simp only [List.getElem_map, List.getElem_set]
    split
    · rename_i e; subst e; rfl
    · rfl
end
section
variable {K A : Type} (ek : K → V) (ev : A → V)
def encG (fl : List ((K × A) × Bool)) : List ((V × V) × Bool) := fl.map fun p => ((ek p.1.1, ev p.1.2), p.2)
theorem encG_len (fl : List ((K × A) × Bool)) : (encG ek ev fl).length = fl.length := by simp [encG]
theorem encG_start (es : List (K × A)) : (encM ek ev es).map (fun e => (e, false)) = encG ek ev (es.map fun x => (x, false)) := by simp [encG, encM, Function.comp_def]
theorem encG_map (fl : List ((K × A) × Bool)) : (encG ek ev fl).map (·.1) = encM ek ev (fl.map (·.1)) := by simp [encG, encM, Function.comp_def]
theorem encG_set (fl : List ((K × A) × Bool)) {i : Nat} (hi : i < fl.length) (h : i < (encG ek ev fl).length) : (encG ek ev fl).set i ((encG ek ev fl)[i].1, true) = encG ek ev (fl.set i (fl[i].1, true)) := by
  simp [encG, List.map_set]
theorem encG_all {fl : List ((K × A) × Bool)} (h : ∀ x ∈ encG ek ev fl, x.2 = true) : ∀ x ∈ fl, x.2 = true := fun x hx => h ((ek x.1.1, ev x.1.2), x.2) (List.mem_map.2 ⟨x, hx, rfl⟩)
end
end Go.Ab
set_option linter.unusedSimpArgs false
set_option linter.unusedVariables false
set_option maxRecDepth 10000
namespace Go.Ab
open Go Go.RowKit
abbrev Fl := Int × Int
def eFl (x : Fl) : List V := [.int .i64 x.1, .int .i64 x.2]
def vFl (x : Fl) : V := .agg (eFl x)
abbrev Fls := List (Int × Fl)
def WinL (t : Nat) (es : Fls) (sl : Int) : Option Nat → List Asn
  | none => [pt t (.cells [.map none, .int .i64 sl])]
  | some m => [pt t (.cells [.map (some m), .int .i64 sl]), pt m (.mp (encM kInt vFl es))]
def WinS (t : Nat) (es : Fls) (sl : Int) (L : List Asn) (st : St) : Prop := ∃ mo, (mo = none → es = []) ∧ Sep (WinL t es sl mo ++ L) st
theorem WinS.at {t : Nat} {es : Fls} {sl : Int} {L : List Asn} {st : St} (h : WinS t es sl L st) : ∃ mv, st t = some (.cells [mv, .int .i64 sl]) := by
  obtain ⟨mo, h0, S⟩ := h
  cases mo with
  | none => exact ⟨_, S.get⟩
  | some m => exact ⟨_, S.get⟩
theorem WinS.sub {t : Nat} {es : Fls} {sl : Int} {L : List Asn} {st st' : St} (h : WinS t es sl L st) (hs : St.sub st st') : WinS t es sl L st' := by
  obtain ⟨mo, h0, S⟩ := h
  exact ⟨mo, h0, S.sub hs⟩
theorem WinS.tail {t : Nat} {es : Fls} {sl : Int} {L L' : List Asn} {st : St} (h : WinS t es sl L st) (hL : ∀ r, Sep L r → Sep L' r) : WinS t es sl L' st := by
  obtain ⟨mo, h0, S⟩ := h
  refine ⟨mo, h0, ?_⟩
  cases mo with
  | none => exact S.tail hL
  | some m => exact S.tail fun r h => h.tail hL
theorem WinS.rest {t : Nat} {es : Fls} {sl : Int} {L : List Asn} {st : St} (h : WinS t es sl L st) : Sep L st := by
  obtain ⟨mo, h0, S⟩ := h
  cases mo with
  | none => exact S.drop
  | some m => exact S.drop.drop
theorem WinS.new {t : Nat} {es : Fls} {sl : Int} {L : List Asn} {st : St} (h : WinS t es sl L st) {i : Nat} (hi : st i = none) (o : AObj) : WinS t es sl (pt i o :: L) (st.upd i o) := by
  obtain ⟨mo, h0, S⟩ := h
  refine ⟨mo, h0, ?_⟩
  have S := S.new hi o
  cases mo with
  | none => exact S.swap
  | some m => exact S.swap.tail fun r h => h.swap
theorem WinS.start {t : Nat} {L : List Asn} {st : St} (h : Sep (pt t (.cells [.map none, .int .i64 0]) :: L) st) : WinS t [] 0 L st := ⟨none, fun _ => rfl, h⟩
def countM (es : Fls) (p : Int) : Nat := es.countP fun e => e.2.1 == p
def limM (sl : Int) : Int := min 160 (20 * 2 ^ sl.toNat)
theorem shl20 {sl : Int} (h : 0 ≤ sl ∧ sl ≤ 3) : binV .shl (.int .i64 20) (.int .i64 sl) = some (.int .i64 (20 * 2 ^ sl.toNat)) := by
  obtain rfl | rfl | rfl | rfl : sl = 0 ∨ sl = 1 ∨ sl = 2 ∨ sl = 3 := by omega
  all_goals rfl
section
variable {P : Program} {F : Fn}
theorem spec279 (ok : OkWindow P F) {st : St} {t : Nat} {mv : V} {sl : Int} (h : st t = some (.cells [mv, .int .i64 sl])) (hs : 0 ≤ sl ∧ sl ≤ 3) : ACalls P (F 279) [.ptr (some (t, 0))] st fun v st' => v = .int .i64 (limM sl) ∧ st' = st := by
  refine shows_call ok.mixed ok.h279 (by simp [k279]) ?_
  simp only [k279]
  have hseg : segOf [mv, V.int .i64 sl] 1 1 = some [.int .i64 sl] := rfl
  have hm : foldV min2V (V.int .i64 160) [V.int .i64 (20 * 2 ^ sl.toNat)] = some (.int .i64 (limM sl)) := by
    simp only [foldV, min2V, if_true, Option.bind_some, limM]
    congr 2
    split <;> omega
  simp [St.seg, h, hseg, shl20 hs, hm]
theorem spec280 (ok : OkWindow P F) {st : St} {t : Nat} {es : Fls} {sl : Int} {L : List Asn} (h : WinS t es sl L st) : ACalls P (F 280) [.ptr (some (t, 0))] st fun v st' => v = .int .i64 (es.length : Nat) ∧ st' = st := by
  refine shows_call ok.mixed ok.h280 (by simp [k280]) ?_
  simp only [k280]
  obtain ⟨mo, h0, S⟩ := h
  have hseg : ∀ mv : V, segOf [mv, V.int .i64 sl] 0 1 = some [mv] := fun _ => rfl
  cases mo with
  | none =>
    have o := S.get
    simp [St.seg, o, hseg, h0 rfl]
  | some m =>
    have o := S.get
    have om := S.drop.get
    simp [St.seg, o, hseg, lenMap_mp om]
theorem spec282 (ok : OkWindow P F) {st : St} {t : Nat} {es : Fls} {sl : Int} {L : List Asn} (h : WinS t es sl L st) (i : Int) : ACalls P (F 282) [.ptr (some (t, 0)), .int .i64 i] st fun v st' => v = .tup [.int .i64 (((lk i es).map (·.1)).getD 0), .bool (lk i es).isSome] ∧ st' = st := by
  refine shows_call ok.mixed ok.h282 (by simp [k282]) ?_
  simp only [k282]
  obtain ⟨mo, h0, S⟩ := h
  have hseg : ∀ mv : V, segOf [mv, V.int .i64 sl] 0 1 = some [mv] := fun _ => rfl
  have z : V.agg [.int .i64 0, .int .i64 0] = vFl (0, 0) := rfl
  have key : ∀ (x : Fl) (b : Bool) (i6 : Nat), storeS (st.upd i6 (.cells [.int .i64 0, .int .i64 0])) 2 (.ptr (some (i6, 0))) (vFl x) = some (st.upd i6 (.cells (eFl x))) := fun x b i6 => by
    rw [store_pt (sz := 2) (o := 0) (vs := eFl x) (St.upd_same _ _ _) rfl rfl (by simp)]
    simp [spliceV, eFl]
  have hf0 : ∀ x : Fl, segOf (eFl x) 0 1 = some [.int .i64 x.1] := fun _ => rfl
  cases mo with
  | none =>
    have o := S.get
    have hl := lookup_none keyed_int (st := st) (V.agg [.int .i64 0, .int .i64 0]) true i
    simp only [kInt] at hl
    have he : es = [] := h0 rfl
    subst he
    simp [St.seg, o, hseg, hl]
    intro i6 h6
    simp [z, key (0, 0) false, St.seg, hf0, sub_upd h6, lk]
  | some m =>
    have o := S.get
    have om := S.drop.get
    have hl := lookup_lk keyed_int (ev := vFl) om (V.agg [.int .i64 0, .int .i64 0]) i
    simp only [kInt] at hl
    have hx : ((lk i es).map vFl).getD (V.agg [.int .i64 0, .int .i64 0]) = vFl ((lk i es).getD (0, 0)) := by
      cases lk i es <;> rfl
    have hy : ((lk i es).getD (0, 0)).1 = ((lk i es).map (·.1)).getD 0 := by cases lk i es <;> rfl
    rw [hx] at hl
    simp [St.seg, o, hseg, hl]
    intro i6 h6
    simp [key _ false, St.seg, hf0, sub_upd h6, hy]
theorem spec287 (ok : OkWindow P F) {st : St} {t : Nat} {es : Fls} {sl : Int} {L : List Asn} (h : WinS t es sl L st) (i : Int) : ACalls P (F 287) [.ptr (some (t, 0)), .int .i64 i] st fun v st' => WinS t (aDel i es) sl L st' := by
  refine shows_call ok.mixed ok.h287 (by simp [k287]) ?_
  simp only [k287]
  obtain ⟨mo, h0, S⟩ := h
  have hseg : ∀ mv : V, segOf [mv, V.int .i64 sl] 0 1 = some [mv] := fun _ => rfl
  cases mo with
  | none =>
    have o := S.get
    have hd := mdel_none keyed_int (st := st) i
    simp only [kInt] at hd
    have he : es = [] := h0 rfl
    subst he
    simp [St.seg, o, hseg, hd]
    exact ⟨st, sub_self _, none, fun _ => rfl, S⟩
  | some m =>
    have o := S.get
    have om := S.drop.get
    have hd := mdel_enc keyed_int (ev := vFl) om i
    simp only [kInt] at hd
    simp [St.seg, o, hseg, hd]
    exact ⟨_, sub_self _, some m, (fun e => by cases e), (S.swap.set _).swap⟩
set_option maxHeartbeats 1000000 in
theorem spec281 (ok : OkWindow P F) {st : St} {t : Nat} {es : Fls} {sl : Int} {L : List Asn} (h : WinS t es sl L st) (p : Int) (hl : es.length ≤ 1000000) : ACalls P (F 281) [.ptr (some (t, 0)), .int .i64 p] st fun v st' => v = .int .i64 (countM es p : Nat) ∧ WinS t es sl L st' := by
  refine shows_call ok.mixed ok.h281 (by simp [k281]) ?_
  simp only [k281]
  obtain ⟨mo, h0, S⟩ := h
  have hseg : ∀ mv : V, segOf [mv, V.int .i64 sl] 0 1 = some [mv] := fun _ => rfl
  cases mo with
  | none =>
    have o := S.get
    have he : es = [] := h0 rfl
    subst he
    simp [St.seg, o, hseg, rngMapS]
    intro it hit
    have S := S.new hit (.mit none 0 [] 0)
    generalize st.upd it _ = st2 at S ⊢
    refine vc_joinB (M := fun env' st' => env' 5 = .int .i64 0 ∧ Sep (pt t (.cells [.map none, .int .i64 sl]) :: L) st') ?_ ?_
    · refine vc_loopJ (fun c env' st' => c = 0 ∧ env' 5 = .int .i64 0 ∧ Sep (pt it (.mit none 0 [] 0) :: pt t (.cells [.map none, .int .i64 sl]) :: L) st') 0 ⟨rfl, by simp, S⟩ ?_
      rintro J hJ c env' st3 hsame ⟨rfl, h5, S⟩
      have g12 := (hsame.get 12 rfl).trans (by simp : _ = V.ptr (some (it, 0)))
      clear hsame
      have oi := S.get
      simp [g12, nextMapS, oi, h5]
      exact S.drop
    · rintro env' st3 hsame ⟨h5, S⟩
      have g11 := (hsame.get 11 rfl).trans (by simp : _ = V.map none)
      clear hsame
      refine frzP_one (v := .map none) (st' := st3) (by rw [g11]; rfl) ?_
      simp [h5, countM]
      exact ⟨st3, sub_self _, none, fun _ => rfl, S⟩
  | some m =>
    have o := S.get
    simp [St.seg, o, hseg]
    refine Sep.rng S.swap ?_
    intro it st2 S
    rw [encG_start] at S
    simp
    refine vc_joinB (M := fun env' st' => env' 5 = .int .i64 (countM es p : Nat) ∧ ∃ fl last, fl.map (·.1) = es ∧ Sep (Going m it (encG kInt vFl fl) last :: pt t (.cells [.map (some m), .int .i64 sl]) :: L) st') ?_ ?_
    · refine vc_loopJ (fun c env' st' => ∃ fl last, c = unseen (encG kInt vFl fl) ∧ fl.map (·.1) = es ∧ env' 5 = .int .i64 (countM (flg fl) p : Nat) ∧ Sep (Going m it (encG kInt vFl fl) last :: pt t (.cells [.map (some m), .int .i64 sl]) :: L) st') (unseen (encG kInt vFl (es.map fun x => (x, false))))
        ⟨_, none, rfl, by simp [Function.comp_def], by simp [flg_none, countM], S⟩ ?_
      rintro J hJ c env' st3 hsame ⟨fl, last, rfl, hfl, h5, S⟩
      have g1 := (hsame.get 1 rfl).trans (by simp : _ = V.int .i64 p)
      have g12 := (hsame.get 12 rfl).trans (by simp : _ = V.ptr (some (it, 0)))
      clear hsame
      simp [g12]
      refine Sep.next S ?_ ?_
      · intro hall
        have := flg_all (encG_all kInt vFl hall)
        rw [this, hfl] at h5
        simp [h5]
        exact ⟨fl, hfl, last, S⟩
      · intro i hi hf st4 S
        have hi' : i < fl.length := by rw [← encG_len kInt vFl]; exact hi
        rw [encG_set kInt vFl fl hi' hi] at S
        obtain ⟨hi2, hent⟩ := S.ent
        have hfi : fl[i].2 = false := by simpa [encG] using hf
        obtain ⟨x, hx⟩ : ∃ x, x = fl[i].1 := ⟨_, rfl⟩
        simp [encG, ← hx] at hent
        simp [g12, hent]
        intro i7 h7
        have key : storeS (st4.upd i7 (.cells [.int .i64 0, .int .i64 0])) 2 (.ptr (some (i7, 0))) (vFl x.2) = some (st4.upd i7 (.cells (eFl x.2))) := by
          rw [store_pt (sz := 2) (o := 0) (vs := eFl x.2) (St.upd_same _ _ _) rfl rfl (by simp)]
          simp [spliceV, eFl]
        have hf0 : segOf (eFl x.2) 0 1 = some [.int .i64 x.2.1] := rfl
        have S := S.new h7 (.cells (eFl x.2))
        have hun := unseen_set hi hf ((encG kInt vFl fl)[i].1)
        rw [encG_set kInt vFl fl hi' hi] at hun
        have hpm := (flg_set hi' hfi).countP_eq (fun e => e.2.1 == p)
        rw [List.countP_append, ← hx] at hpm
        have hle : countM (flg fl) p ≤ 1000000 := by
          refine Nat.le_trans List.countP_le_length (Nat.le_trans ?_ hl)
          rw [← hfl, List.length_map]
          unfold flg
          rw [List.length_map]
          exact List.length_filter_le _ _
        have w1 : IntKind.i64.wrap ((countM (flg fl) p : Int) + 1) = (countM (flg fl) p : Int) + 1 := wrap64 (by omega) (by omega)
        by_cases hp : x.2.1 = p
        · have e1 : countM (flg (fl.set i (x, true))) p = countM (flg fl) p + 1 := by
            rw [hx] at hpm ⊢
            unfold countM
            rw [hpm, ← hx]
            simp [hp]
          simp [key, St.seg, hf0, g1, hp, h5, w1]
          exact Round.mk _ _ hun (sub_self _) (hJ _ _ _ ⟨fl.set i (fl[i].1, true), some i, rfl, by rw [fst_set hi', hfl], by simp [← hx, e1], S.drop⟩)
        · have e1 : countM (flg (fl.set i (x, true))) p = countM (flg fl) p := by
            rw [hx] at hpm ⊢
            unfold countM
            rw [hpm, ← hx]
            simp [hp]
          have hpb : (x.2.1 == p) = false := beq_eq_false_iff_ne.2 hp
          simp [key, St.seg, hf0, g1, hpb, h5]
          exact Round.mk _ _ hun (sub_self _) (hJ _ _ _ ⟨fl.set i (fl[i].1, true), some i, rfl, by rw [fst_set hi', hfl], by simp [← hx, e1, h5], S.drop⟩)
    · rintro env' st3 hsame ⟨h5, fl, last, hfl, S⟩
      have g11 := (hsame.get 11 rfl).trans (by simp : _ = V.map (some m))
      clear hsame
      obtain ⟨hfz, S⟩ := S.gone
      refine frzP_one (by rw [g11]; exact hfz) ?_
      rw [encG_map, hfl] at S
      simp [h5]
      exact ⟨_, sub_self _, some m, (fun e => by cases e), by rw [encG_map, hfl]; exact S.swap⟩
def askM (es : Fls) (i p : Int) : Int := if (lk i es).isSome = true then 5 else if 16 ≤ countM es p then 3 else 0
def askT (es : Fls) (i p now : Int) : Fls := if askM es i p = 0 then es ++ [(i, p, now)] else es
theorem aSet_app {K A : Type} [DecidableEq K] (k : K) (v : A) : ∀ l : List (K × A), lk k l = none → aSet k v l = l ++ [(k, v)]
  | [], _ => rfl
  | p :: l, h => by
    unfold lk at h
    rw [List.lookup_cons] at h
    by_cases hk : k = p.1
    · simp [hk] at h
    · have : (k == p.1) = false := by simpa using hk
      rw [this] at h
      rw [aSet, if_neg hk, aSet_app k v l h]
      rfl
set_option maxHeartbeats 1000000 in
theorem spec283 (ok : OkWindow P F) {st : St} {t : Nat} {es : Fls} {sl : Int} {L : List Asn} (h : WinS t es sl L st) (i p now : Int) (hl : es.length ≤ 1000000) : ACalls P (F 283) [.ptr (some (t, 0)), .int .i64 i, .int .i64 p, .int .i64 now] st fun v st' => v = .int .i64 (askM es i p) ∧ WinS t (askT es i p now) sl L st' := by
  refine shows_call ok.mixed ok.h283 (by simp [k283]) ?_
  simp only [k283]
  have hseg : ∀ mv : V, segOf [mv, V.int .i64 sl] 0 1 = some [mv] := fun _ => rfl
  have z : V.agg [.int .i64 0, .int .i64 0] = vFl (0, 0) := rfl
  have key : ∀ (x : Fl) (st : St) (i6 : Nat), storeS (st.upd i6 (.cells [.int .i64 0, .int .i64 0])) 2 (.ptr (some (i6, 0))) (vFl x) = some (st.upd i6 (.cells (eFl x))) := fun x st i6 => by
    rw [store_pt (sz := 2) (o := 0) (vs := eFl x) (St.upd_same _ _ _) rfl rfl (by simp)]
    simp [spliceV, eFl]
  have hfb : fillV [V.int .i64 0, V.int .i64 0] [(0, 1, V.int .i64 p), (1, 1, V.int .i64 now)] = some (eFl (p, now)) := rfl
  have hlook : ∃ st2, lookupV st .int (V.agg [.int .i64 0, .int .i64 0]) true ((fun mo : Option Nat => V.map mo) (Classical.choose h)) (.int .i64 i) = some (.tup [vFl ((lk i es).getD (0, 0)), .bool (lk i es).isSome]) ∧ st2 = st := by
    have h1 := Classical.choose_spec h
    refine ⟨st, ?_, rfl⟩
    generalize Classical.choose h = mo at h1
    cases mo with
    | none =>
      have he : es = [] := h1.1 rfl
      subst he
      exact lookup_none keyed_int (st := st) (V.agg [.int .i64 0, .int .i64 0]) true i
    | some m =>
      have hl := lookup_lk keyed_int (ev := vFl) (h1.2.drop.get) (V.agg [.int .i64 0, .int .i64 0]) i
      have hx : ((lk i es).map vFl).getD (V.agg [.int .i64 0, .int .i64 0]) = vFl ((lk i es).getD (0, 0)) := by
        cases lk i es <;> rfl
      rw [hx] at hl
      exact hl
  have h1 := Classical.choose_spec h
  obtain ⟨-, hlook, -⟩ := hlook
  generalize Classical.choose h = mo at h1 hlook
  have o : st t = some (.cells [.map mo, .int .i64 sl]) := by
    cases mo with
    | none => exact h1.2.get
    | some m => exact h1.2.get
  simp [St.seg, o, hseg, hlook]
  intro i9 h9
  have W : WinS t es sl (pt i9 (.cells (eFl ((lk i es).getD (0, 0)))) :: L) ((st.upd i9 (.cells [.int .i64 0, .int .i64 0])).upd i9 (.cells (eFl ((lk i es).getD (0, 0))))) := by
    simp
    exact WinS.new h h9 _
  simp at W
  simp [key]
  generalize st.upd i9 (.cells (eFl ((lk i es).getD (0, 0)))) = st2 at W ⊢
  have W := W.tail fun r h => h.drop
  cases hs : (lk i es).isSome with
  | true =>
    have e1 : askM es i p = 5 := by rw [askM, if_pos hs]
    have e2 : askT es i p now = es := by rw [askT, if_neg (by rw [e1]; decide)]
    simp [e1, e2]
    exact ⟨st2, sub_self _, W⟩
  | false =>
    have hnone : lk i es = none := by cases hx : lk i es with | none => rfl | some _ => rw [hx] at hs; cases hs
    simp
    refine (spec281 ok W p hl).mono ?_
    rintro v st3 ⟨rfl, W⟩
    by_cases c16 : 16 ≤ countM es p
    · have e1 : askM es i p = 3 := by rw [askM, if_neg (by simp [hs]), if_pos c16]
      have e2 : askT es i p now = es := by rw [askT, if_neg (by rw [e1]; decide)]
      have c16' : 16 ≤ (countM es p : Int) := by omega
      simp [c16', c16, e1, e2]
      exact ⟨st3, sub_self _, W⟩
    · have e1 : askM es i p = 0 := by rw [askM, if_neg (by simp [hs]), if_neg c16]
      have e2 : askT es i p now = es ++ [(i, p, now)] := by rw [askT, if_pos e1]
      have c16' : ¬ 16 ≤ (countM es p : Int) := by omega
      have hset : aSet i (p, now) es = es ++ [(i, p, now)] := aSet_app i (p, now) es hnone
      obtain ⟨mo, h0, S⟩ := W
      rw [e1, e2]
      cases mo with
      | none =>
        have he : es = [] := h0 rfl
        subst he
        have o := S.get
        simp [c16', c16, St.seg, o, hseg, eqK]
        intro m hm
        have S := S.new hm (.mp [])
        have o2 := S.drop.get
        have hst := store_pt (sz := 1) (o := 0) o2 (v := .map (some m)) (vs := [.map (some m)]) rfl rfl (by simp)
        rw [show spliceV [V.map none, V.int .i64 sl] 0 [V.map (some m)] = [.map (some m), .int .i64 sl] from rfl] at hst
        have S := S.setAt (.cells [.map (some m), .int .i64 sl]) 1 rfl
        simp only [List.set_cons_succ, List.set_cons_zero] at S
        simp [hst]
        generalize (st3.upd m (.mp [])).upd t _ = st4 at S ⊢
        have om := S.get
        have ot := S.drop.get
        have hms := mset_enc keyed_int (ev := vFl) (l := []) om i (p, now)
        simp only [kInt] at hms
        have hv : V.agg (eFl (p, now)) = vFl (p, now) := rfl
        simp [St.seg, ot, hseg, hfb, hv, hms]
        exact ⟨_, sub_self _, some m, (fun e => by cases e), (S.set _).swap⟩
      | some m =>
        have ot := S.get
        have om := S.drop.get
        have hms := mset_enc keyed_int (ev := vFl) om i (p, now)
        simp only [kInt] at hms
        have hv : V.agg (eFl (p, now)) = vFl (p, now) := rfl
        simp [c16', c16, St.seg, ot, hseg, eqK, hfb, hv, hms]
        rw [hset]
        exact ⟨_, sub_self _, some m, (fun e => by cases e), (S.swap.set _).swap⟩
def gotT (es : Fls) (sl i : Int) : Int := if (lk i es).isSome = true then max 0 (sl - 1) else sl
theorem aDel_none {K A : Type} [DecidableEq K] (k : K) : ∀ l : List (K × A), lk k l = none → aDel k l = l
  | [], _ => rfl
  | p :: l, h => by
    unfold lk at h
    rw [List.lookup_cons] at h
    by_cases hk : k = p.1
    · simp [hk] at h
    · have : (k == p.1) = false := by simpa using hk
      rw [this] at h
      rw [aDel, if_neg hk, aDel_none k l h]
set_option maxHeartbeats 1000000 in
theorem spec284 (ok : OkWindow P F) {st : St} {t : Nat} {es : Fls} {sl : Int} {L : List Asn} (h : WinS t es sl L st) (i : Int) (hs : 0 ≤ sl ∧ sl ≤ 3) : ACalls P (F 284) [.ptr (some (t, 0)), .int .i64 i] st fun v st' => WinS t (aDel i es) (gotT es sl i) L st' := by
  refine shows_call ok.mixed ok.h284 (by simp [k284]) ?_
  simp only [k284]
  have hseg : ∀ mv : V, segOf [mv, V.int .i64 sl] 0 1 = some [mv] := fun _ => rfl
  have hseg1 : ∀ mv : V, segOf [mv, V.int .i64 sl] 1 1 = some [.int .i64 sl] := fun _ => rfl
  have z : V.agg [.int .i64 0, .int .i64 0] = vFl (0, 0) := rfl
  have key : ∀ (x : Fl) (st : St) (i6 : Nat), storeS (st.upd i6 (.cells [.int .i64 0, .int .i64 0])) 2 (.ptr (some (i6, 0))) (vFl x) = some (st.upd i6 (.cells (eFl x))) := fun x st i6 => by
    rw [store_pt (sz := 2) (o := 0) (vs := eFl x) (St.upd_same _ _ _) rfl rfl (by simp)]
    simp [spliceV, eFl]
  have w1 : IntKind.i64.wrap (sl - 1) = sl - 1 := wrap64 (by omega) (by omega)
  have hmax : foldV max2V (V.int .i64 0) [V.int .i64 (sl - 1)] = some (.int .i64 (max 0 (sl - 1))) := by
    simp only [foldV, max2V, if_true, Option.bind_some]
    congr 2
    split <;> omega
  obtain ⟨mo, h0, S⟩ := h
  cases mo with
  | none =>
    have he : es = [] := h0 rfl
    subst he
    have o := S.get
    have hl := lookup_none keyed_int (st := st) (V.agg [.int .i64 0, .int .i64 0]) true i
    simp only [kInt] at hl
    simp [St.seg, o, hseg, hl]
    intro i4 h4
    have S := S.new h4 (.cells (eFl (0, 0)))
    simp [z, key]
    exact ⟨_, sub_self _, none, fun _ => rfl, by rw [gotT, if_neg (by simp [lk])]; exact S.drop⟩
  | some m =>
    have o := S.get
    have om := S.drop.get
    have hl := lookup_lk keyed_int (ev := vFl) om (V.agg [.int .i64 0, .int .i64 0]) i
    simp only [kInt] at hl
    have hx : ((lk i es).map vFl).getD (V.agg [.int .i64 0, .int .i64 0]) = vFl ((lk i es).getD (0, 0)) := by
      cases lk i es <;> rfl
    rw [hx] at hl
    simp [St.seg, o, hseg, hl]
    intro i4 h4
    have S := S.new h4 (.cells (eFl ((lk i es).getD (0, 0))))
    simp [key]
    generalize st.upd i4 _ = st2 at S ⊢
    cases hsm : (lk i es).isSome with
    | false =>
      have hnone : lk i es = none := by cases hx : lk i es with | none => rfl | some _ => rw [hx] at hsm; cases hsm
      have e1 : gotT es sl i = sl := by rw [gotT, if_neg (by simp [hsm])]
      rw [e1, aDel_none i es hnone]
      simp
      exact ⟨_, sub_self _, some m, (fun e => by cases e), S.drop⟩
    | true =>
      have e1 : gotT es sl i = max 0 (sl - 1) := by rw [gotT, if_pos hsm]
      have S := S.drop
      have ot := S.get
      have om := S.drop.get
      have hd := mdel_enc keyed_int (ev := vFl) om i
      simp only [kInt] at hd
      have hne : t ≠ m := S.ne
      have S2 := (S.swap.set (.mp (encM kInt vFl (aDel i es)))).swap
      have ot2 := S2.get
      have hst := store_pt (sz := 1) (o := 1) ot2 (v := .int .i64 (max 0 (sl - 1))) (vs := [.int .i64 (max 0 (sl - 1))]) rfl rfl (by simp)
      rw [show spliceV [V.map (some m), V.int .i64 sl] 1 [V.int .i64 (max 0 (sl - 1))] = [.map (some m), .int .i64 (max 0 (sl - 1))] from rfl] at hst
      have S3 := S2.set (.cells [.map (some m), .int .i64 (max 0 (sl - 1))])
      simp [St.seg, ot, hseg, hd, hne, hseg1, w1, hmax, hst]
      exact ⟨_, sub_self _, some m, (fun e => by cases e), by rw [e1]; exact S3⟩
end
end Go.Ab
set_option linter.unusedVariables false
namespace Go.Ab
open Go
end Go.Ab
set_option linter.unusedSimpArgs false
set_option linter.unusedVariables false
set_option maxRecDepth 10000
namespace Go.Ab
open Go Go.RowKit
section
variable {P : Program} {F : Fn}
structure Blk1 where
  hdr : Hdr
  tk : SK
  txs : List Tx1
def txsV (k : SK) (l : List Tx1) : V := .sl k (rowsOf eTx l) l.length
def eBlk (b : Blk1) : List V := eHdr b.hdr ++ [txsV b.tk b.txs]
theorem eBlk_len (b : Blk1) : (eBlk b).length = 69 := by simp [eBlk, eHdr_len]
theorem bsegH (b : Blk1) : segOf (eBlk b) 0 68 = some (eHdr b.hdr) := seg_of_drop (zs := [txsV b.tk b.txs]) rfl (eHdr_len _) (by omega)
theorem bdrop68 (b : Blk1) : (eBlk b).drop 68 = [txsV b.tk b.txs] := by rw [eBlk, List.drop_left' (eHdr_len _)]
theorem bsegT (b : Blk1) : segOf (eBlk b) 68 1 = some [txsV b.tk b.txs] := seg_of_drop (zs := []) (bdrop68 b) rfl (by omega)
theorem bsegAll (b : Blk1) : segOf (eBlk b) 0 69 = some (eBlk b) := by simp [segOf, eBlk_len, List.take_of_length_le]
theorem bsplH (b : Blk1) (h : Hdr) : spliceV (eBlk b) 0 (eHdr h) = eBlk { b with hdr := h } := by
  rw [spliceV, List.take_zero, List.nil_append, Nat.zero_add, eHdr_len, bdrop68]
  rfl
theorem splRoot (h : Hdr) (x : Id) (zs : List V) : spliceV (eHdr h ++ zs) 33 (eId x) = eHdr { h with root := x } ++ zs := by
  have e : eHdr h ++ zs = (w32 h.ver :: eId h.prev) ++ (eId h.root ++ ([w32 h.time, w32 h.bits, w32 h.nonce] ++ zs)) := by simp [eHdr]
  have hl : (w32 h.ver :: eId h.prev).length = 33 := by simp [eId_len]
  have e2 : 33 + (eId x).length = (w32 h.ver :: eId h.prev).length + 32 := by rw [eId_len, hl]
  rw [spliceV, e2, e, ← List.drop_drop, List.drop_left, List.drop_left' (eId_len _), ← hl, List.take_left]
  simp [eHdr]
theorem bsplRoot (b : Blk1) (x : Id) : spliceV (eBlk b) 33 (eId x) = eBlk { b with hdr := { b.hdr with root := x } } := splRoot b.hdr x _
end
end Go.Ab
set_option linter.unusedSimpArgs false
set_option linter.unusedVariables false
set_option maxRecDepth 10000
namespace Go.Ab
open Go Go.RowKit
def Tx1.fine (t : Tx1) : Prop := t.ins.length ≤ 32 ∧ t.outs.length ≤ 32 ∧ ∀ x ∈ t.ins, x.key.length ≤ 100
theorem Tx1.fine.ok {t : Tx1} (h : t.fine) : t.ok 100 := ⟨by have := h.1; omega, by have := h.2.1; omega, fun x hx => by have := h.2.2 x hx; omega⟩
theorem txB_fine (t : Tx1) (h : t.fine) : (txB t).length ≤ 10000 := by
  have hc1 := countB_len (BitVec.ofNat 64 t.ins.length)
  have hc2 := countB_len (BitVec.ofNat 64 t.outs.length)
  have h1 := fm_len inB 145 t.ins fun x hx => by
    have := textB_len x.key
    have := h.2.2 x hx
    simp [inB, putB_len]
    omega
  have h2 := fm_len outB 40 t.outs fun x hx => by rw [outB_len]; omega
  have h3 := h.1
  have h4 := h.2.1
  rw [txB, List.length_append, List.length_append, List.length_append]
  omega
theorem insGo_keys : ∀ (l : List In1) (first : Bool) (seen : List Pt), insGo first seen l = none → ∀ x ∈ l, x.key.length ≤ 100
  | [], _, _, _, x, hx => by cases hx
  | a :: l, first, seen, h, x, hx => by
    rw [insGo] at h
    split at h
    · cases h
    · rename_i hk
      split at h
      · cases h
      · split at h
        · cases h
        · rcases List.mem_cons.1 hx with rfl | hx
          · omega
          · exact insGo_keys l first _ h x hx
theorem txM_fine {t : Tx1} {first : Bool} (h : txM t first = 0) : t.fine := by
  unfold txM at h
  split at h
  · cases h
  · rename_i hc
    split at h
    · rename_i e he
      subst h
      exfalso
      have : ∀ (l : List In1) (seen : List Pt), insGo first seen l ≠ some 0 := by
        intro l
        induction l with
        | nil => intro seen h; cases h
        | cons a l ih =>
          intro seen
          rw [insGo]
          split
          · simp
          · split
            · simp
            · split
              · simp
              · exact ih _
      exact this _ _ he
    · rename_i he
      exact ⟨by omega, by omega, insGo_keys _ _ _ he⟩
def blkB (b : Blk1) : List UInt8 := hBytes b.hdr ++ (countB (BitVec.ofNat 64 b.txs.length) ++ b.txs.flatMap txB)
theorem bsegAll0 (b : Blk1) : segOf (eBlk b) 0 69 = some (eBlk b) := bsegAll b
theorem rd_txs (b : Blk1) (st : St) : Rd 2 eTx (txsV b.tk b.txs) b.txs st := .inl ⟨b.tk, rfl⟩
section
variable {P : Program} {F : Fn}
set_option maxHeartbeats 1000000 in
theorem spec204r (ok : OkTx P F) {st : St} {wid : Nat} {l : List UInt8} {L : List Asn} (S : WrR wid l L st) {x : V} {m : List UInt8} (hx : Rd 1 e8 x m st) (hl : l.length + m.length ≤ 900000) :
    ACalls P (F 204) [.ptr (some (wid, 0)), .sl .full [x] 1] st fun v st' => v = .tup [] ∧ WrR wid (l ++ m) L st' := by
  refine shows_call ok.mixed ok.h204 (by simp [k204]) ?_
  simp only [k204]
  simp
  obtain ⟨s, S⟩ := S
  have o := S.get
  have hsg : segOf [x] 0 1 = some [x] := rfl
  have hsg0 : segOf [s] 0 1 = some [s] := rfl
  have hel := hx.elems e8_len
  refine vc_unroll 2 ?_
  simp [unr_succ, hsg, St.seg, o, hsg0, hel]
  refine Wr.app S m rfl rfl (by omega) ?_
  intro s' st2 st3 hc' hst S'
  simp [hst, unr_succ]
  exact ⟨st3, sub_self _, S'⟩
set_option maxHeartbeats 4000000 in
theorem spec251 (ok : OkCheck2 P F) (st : St) (b : Blk1) (hl : b.txs.length ≤ 32) (hb : ∀ t ∈ b.txs, t.fine) : ACalls P (F 251) [.agg (eBlk b)] st fun v st' => Sep [Slx 1 e8 v (blkB b), Was st] st' := by
  have okt := ok.toOkCheck.toOkTx
  refine shows_call ok.mixed ok.h251 (by simp [k251]) ?_
  simp only [k251]
  simp
  intro i1 h1
  have S := (Sep.start st).new h1 (.cells (eBlk b))
  generalize st.upd i1 _ = st1 at S ⊢
  simp
  intro wid hw
  have S := S.slxNil (sz := 1) (f := e8)
  have S := S.new hw (.cells [.sl .nil [] 0])
  generalize st1.upd wid _ = st2 at S ⊢
  have o1 := S.mem (i := i1) (o := .cells (eBlk b)) (by simp)
  have hsH := bsegH b
  have hsT := bsegT b
  have hln : lenSlV (txsV b.tk b.txs) = some (.int .i64 b.txs.length) := rfl
  simp [St.seg, o1, hsH]
  refine (spec140 okt.toOkHead st2 b.hdr).mono ?_
  intro v st3 S1
  have S := S1.ov S
  have hf := partFill S.cells
  have rdv : Rd 1 e8 v (hBytes b.hdr) st3 := Sep.rd e8_len (S.head fun h hh => hh.sl)
  have S : WrR wid [] (Slx 1 e8 v (hBytes b.hdr) :: pt i1 (.cells (eBlk b)) :: [Was st]) st3 := ⟨_, S.swap.tail fun r h => h.swap⟩
  simp [hf]
  refine (spec204r okt S rdv (by rw [hBytes_len]; simp)).mono ?_
  rintro u st4 ⟨rfl, S⟩
  rw [List.nil_append] at S
  have S := S.tail fun r h => h.drop
  have o1 : st4 i1 = some (.cells (eBlk b)) := by
    obtain ⟨s, S⟩ := S
    exact S.mem (by simp)
  simp [St.seg, o1, hsT, hln]
  refine (spec203 okt S (by rw [hBytes_len]; omega) _).mono ?_
  rintro u st5 ⟨rfl, S⟩
  have o1 : st5 i1 = some (.cells (eBlk b)) := by
    obtain ⟨s, S⟩ := S
    exact S.mem (by simp)
  simp [St.seg, o1, hsT, hln]
  have hc0 := countB_len (BitVec.ofNat 64 b.txs.length)
  refine vc_loopJ (fun c env' st' => ∃ i : Nat, i ≤ b.txs.length ∧ c = b.txs.length - i ∧ env' 19 = .int .i64 (i : Nat) ∧ WrR wid (hBytes b.hdr ++ countB (BitVec.ofNat 64 b.txs.length) ++ (b.txs.take i).flatMap txB) (pt i1 (.cells (eBlk b)) :: [Was st]) st') b.txs.length
    ⟨0, by omega, by omega, by simp, by simpa using S⟩ ?_
  rintro J hJ c env' st6 hsame ⟨i, hi, rfl, h19, S⟩
  have g3 := (hsame.get 3 rfl).trans (by simp : _ = V.ptr (some (wid, 0)))
  have g17 := (hsame.get 17 rfl).trans (by simp : _ = txsV b.tk b.txs)
  have g18 := (hsame.get 18 rfl).trans (by simp : _ = V.int .i64 (b.txs.length : Int))
  clear hsame
  have hlen : ∀ k, ((b.txs.take k).flatMap txB).length ≤ 320000 := fun k => by
    have := fm_len txB 10000 (b.txs.take k) fun t ht => txB_fine t (hb t (List.mem_of_mem_take ht))
    rw [List.length_take] at this
    have h2 : min k b.txs.length * 10000 ≤ 32 * 10000 := Nat.mul_le_mul_right _ (by omega)
    omega
  have hw : (hBytes b.hdr ++ countB (BitVec.ofNat 64 b.txs.length) ++ (b.txs.take i).flatMap txB).length ≤ 330000 := by
    have := hlen i
    rw [List.length_append, List.length_append, hBytes_len]
    omega
  by_cases hlt : i < b.txs.length
  · obtain ⟨r1, r2, r3, r4⟩ := (rd_txs b st6).row eTx_len hlt
    have htf := hb b.txs[i] (List.getElem_mem hlt)
    obtain ⟨t, ht⟩ : ∃ t, t = b.txs[i] := ⟨_, rfl⟩
    rw [← ht] at r3 htf
    have w1 : IntKind.i64.wrap ((i : Int) + 1) = (i : Int) + 1 := wrap64 (by omega) (by omega)
    simp [g17, g18, h19, hlt, r1, r3]
    intro i5 h5
    have S := S.new h5 (.cells [.sl .nil [] 0, .sl .nil [] 0])
    have o5 : (st6.upd i5 (.cells [.sl .nil [] 0, .sl .nil [] 0])) i5 = some (.cells [.sl .nil [] 0, .sl .nil [] 0]) := by simp
    have hst := store_pt (sz := 2) (o := 0) o5 (v := .agg (eTx t)) (vs := eTx t) rfl rfl (by simp)
    rw [show spliceV [V.sl .nil [] 0, V.sl .nil [] 0] 0 (eTx t) = eTx t from rfl] at hst
    have S : WrR wid (hBytes b.hdr ++ countB (BitVec.ofNat 64 b.txs.length) ++ (b.txs.take i).flatMap txB) (pt i5 (.cells (eTx t)) :: pt i1 (.cells (eBlk b)) :: [Was st]) ((st6.upd i5 (.cells [.sl .nil [] 0, .sl .nil [] 0])).upd i5 (.cells (eTx t))) := by
      obtain ⟨s, S⟩ := S
      exact ⟨s, ((S.pull 2).set (.cells (eTx t))).swap.tail fun r h => h.swap⟩
    simp [hst] at S ⊢
    generalize (st6.upd i5 (.cells (eTx t))) = st7 at S ⊢
    have o5 : st7 i5 = some (.cells (eTx t)) := by
      obtain ⟨s, S⟩ := S
      exact S.mem (by simp)
    simp [g3, St.seg, o5, tsegAll]
    refine (spec201 okt S t htf.ok (by rw [← List.append_assoc]; omega)).mono ?_
    rintro u st8 ⟨rfl, S⟩
    simp [h19, w1]
    refine Round.mk (b.txs.length - (i + 1)) _ (by omega) (sub_self _) (hJ _ _ _ ⟨i + 1, by omega, rfl, by simp, ?_⟩)
    rw [List.take_succ_eq_append_getElem hlt, ← ht, List.flatMap_append]
    have S := S.tail fun r h => h.drop
    refine S.imp ?_
    simp
  · have : i = b.txs.length := by omega
    subst this
    rw [List.take_length] at S hw
    simp [g3, g18, h19]
    refine (spec202 okt S (by omega)).mono ?_
    rintro u st7 ⟨s, S⟩
    simp
    refine ⟨st7, sub_self _, ?_⟩
    rw [List.append_assoc] at S
    exact S.tail fun r h => h.drop.drop.drop
def rootE (b : Blk1) : Int := if (∃ t ∈ b.txs, (txB t).length = 64) ∨ (rootM (rowsIds b.txs)).2 = true ∨ (rootM (rowsIds b.txs)).1 ≠ b.hdr.root then 40 else 0
set_option maxHeartbeats 4000000 in
theorem spec252 (ok : OkCheck2 P F) (st : St) (b : Blk1) (hl : b.txs.length ≤ 1000) (hb : ∀ t ∈ b.txs, t.ok 100) : ACalls P (F 252) [.agg (eBlk b)] st fun v st' => v = .int .i64 (rootE b) ∧ St.sub st st' := by
  have okt := ok.toOkCheck.toOkTx
  refine shows_call ok.mixed ok.h252 (by simp [k252]) ?_
  simp only [k252]
  simp
  intro i1 h1
  have S := (Sep.start st).new h1 (.cells (eBlk b))
  generalize st.upd i1 _ = st1 at S ⊢
  have o1 := S.get
  have hsT := bsegT b
  have hln : lenSlV (txsV b.tk b.txs) = some (.int .i64 b.txs.length) := rfl
  simp [St.seg, o1, hsT, hln]
  refine vc_joinB (M := fun env' st' => (∀ t ∈ b.txs, (txB t).length ≠ 64) ∧ Sep [pt i1 (.cells (eBlk b)), Was st] st') ?_ ?_
  · refine vc_loopJ (fun c env' st' => ∃ i : Nat, i ≤ b.txs.length ∧ c = b.txs.length - i ∧ env' 10 = .int .i64 (i : Nat) ∧ (∀ t ∈ b.txs.take i, (txB t).length ≠ 64) ∧ Sep [pt i1 (.cells (eBlk b)), Was st] st') b.txs.length
      ⟨0, by omega, by omega, by simp, by simp, S⟩ ?_
    rintro J hJ c env' st6 hsame ⟨i, hi, rfl, h10, hno, S⟩
    have g8 := (hsame.get 8 rfl).trans (by simp : _ = txsV b.tk b.txs)
    have g9 := (hsame.get 9 rfl).trans (by simp : _ = V.int .i64 (b.txs.length : Int))
    clear hsame
    by_cases hlt : i < b.txs.length
    · obtain ⟨r1, r2, r3, r4⟩ := (rd_txs b st6).row eTx_len hlt
      have htf := hb b.txs[i] (List.getElem_mem hlt)
      have hmem := List.getElem_mem hlt
      obtain ⟨t, ht⟩ : ∃ t, t = b.txs[i] := ⟨_, rfl⟩
      rw [← ht] at r3 htf hmem
      have w1 : IntKind.i64.wrap ((i : Int) + 1) = (i : Int) + 1 := wrap64 (by omega) (by omega)
      simp [g8, g9, h10, hlt, r1, r3]
      intro i4 h4
      have S := S.new h4 (.cells [.sl .nil [] 0, .sl .nil [] 0])
      have hst := store_pt (sz := 2) (o := 0) S.get (v := .agg (eTx t)) (vs := eTx t) rfl rfl (by simp)
      rw [show spliceV [V.sl .nil [] 0, V.sl .nil [] 0] 0 (eTx t) = eTx t from rfl] at hst
      have S := S.set (.cells (eTx t))
      simp [hst] at S ⊢
      generalize (st6.upd i4 (.cells (eTx t))) = st7 at S ⊢
      have o4 := S.get
      simp [St.seg, o4, tsegAll]
      refine (spec200 okt st7 t htf).mono ?_
      intro u st8 S1
      have S := S1.ov S
      have hlu := (Sep.rd e8_len (S.head fun h hh => hh.sl)).len
      by_cases h64 : (txB t).length = 64
      · have e : rootE b = 40 := by rw [rootE, if_pos (.inl ⟨t, hmem, h64⟩)]
        simp [hlu, h64, e]
        exact ⟨st8, sub_self _, S.was' (st0 := st) (by simp)⟩
      · have h64' : (((txB t).length : Int) == 64) = false := by
          rw [beq_eq_false_iff_ne]; omega
        simp [hlu, h64', h10, w1]
        refine Round.mk (b.txs.length - (i + 1)) _ (by omega) (sub_self _) (hJ _ _ _ ⟨i + 1, by omega, rfl, by simp, ?_, S.drop.drop⟩)
        intro y hy
        rw [List.take_succ_eq_append_getElem hlt, ← ht] at hy
        rcases List.mem_append.1 hy with hy | hy
        · exact hno y hy
        · rw [List.mem_singleton.1 hy]; exact h64
    · have : i = b.txs.length := by omega
      subst this
      rw [List.take_length] at hno
      simp [g9, h10]
      exact ⟨hno, S⟩
  · rintro env' st3 hsame ⟨hno, S⟩
    have g1 := (hsame.get 1 rfl).trans (by simp : _ = V.ptr (some (i1, 0)))
    clear hsame
    have o1 := S.get
    simp [g1, St.seg, o1, hsT]
    refine (spec192 okt st3 (rd_txs b st3) hl hb).mono ?_
    rintro v st3 ⟨rfl, rfl⟩
    obtain ⟨rt, hrt⟩ : ∃ rt, rt = (rootM (rowsIds b.txs)).1 := ⟨_, rfl⟩
    rw [← hrt]
    simp
    intro i5 h5
    have S := S.new h5 (.cells zR32_w80)
    have hst := store_z32 S.get rt
    have S := S.set (.cells (eId rt))
    simp [hst] at S ⊢
    generalize st3.upd i5 (.cells (eId rt)) = st4 at S ⊢
    have o5 := S.get
    have o1 := S.mem (i := i1) (o := .cells (eBlk b)) (by simp)
    have hsr : segOf (eBlk b) 33 32 = some (eId b.hdr.root) := by
      have := hsegRoot b.hdr
      unfold segOf at this ⊢
      rw [eHdr_len, if_pos (by omega)] at this
      rw [eBlk_len, if_pos (by omega), ← Option.some.inj this, eBlk, List.drop_append_of_le_length (by rw [eHdr_len]; omega), List.take_append_of_le_length (by rw [List.length_drop, eHdr_len]; omega)]
    have hq : eqK (.agg 32) (.agg (eId rt)) (.agg (eId b.hdr.root)) = some (decide (rt = b.hdr.root)) := by simp [eqK, eId_len, eqL_id]
    have hs0 := segId0 rt
    have hs1 := segId0 b.hdr.root
    have hq1 : eqK (.agg 32) (.agg (eId b.hdr.root)) (.agg (eId b.hdr.root)) = some true := by simp [eqK, eId_len, eqL_id]
    have hw := S.was' (st0 := st) (by simp)
    cases htw : (rootM (rowsIds b.txs)).2 with
    | true =>
      have e : rootE b = 40 := by rw [rootE, if_pos (.inr (.inl htw))]
      simp [e]
      exact ⟨st4, sub_self _, hw⟩
    | false =>
      by_cases hr : rt = b.hdr.root
      · have e : rootE b = 0 := by
          rw [rootE, if_neg]
          rintro (⟨t, h1, h2⟩ | h | h)
          · exact hno t h1 h2
          · rw [htw] at h; cases h
          · exact h (by rw [← hrt]; exact hr)
        simp [St.seg, o5, o1, hs0, hs1, hsr, hq, hq1, hr, g1, e]
        exact ⟨st4, sub_self _, hw⟩
      · have e : rootE b = 40 := by rw [rootE, if_pos (.inr (.inr (by rw [← hrt]; exact hr)))]
        simp [St.seg, o5, o1, hs0, hs1, hsr, hq, hq1, hr, g1, e]
        exact ⟨st4, sub_self _, hw⟩
def txsE : Nat → List Tx1 → Int
  | _, [] => 0
  | i, t :: l => if txM t (i == 0) ≠ 0 then txM t (i == 0) else txsE (i + 1) l
def blkE (b : Blk1) : Int :=
  if b.txs.length = 0 ∨ 32 < b.txs.length then 120 else if txsE 0 b.txs ≠ 0 then txsE 0 b.txs else if 8192 < (blkB b).length then 2 else rootE b
set_option maxHeartbeats 4000000 in
theorem spec253 (ok : OkCheck2 P F) (st : St) (b : Blk1) (hl : b.txs.length ≤ 100000) (hb : ∀ t ∈ b.txs, t.ins.length ≤ 100000 ∧ t.outs.length ≤ 100000 ∧ ∀ x ∈ t.ins, x.key.length ≤ 1000000) : ACalls P (F 253) [.agg (eBlk b)] st fun v st' => v = .int .i64 (blkE b) ∧ St.sub st st' := by
  have okt := ok.toOkCheck.toOkTx
  refine shows_call ok.mixed ok.h253 (by simp [k253]) ?_
  simp only [k253]
  simp
  intro i1 h1
  have S := (Sep.start st).new h1 (.cells (eBlk b))
  generalize st.upd i1 _ = st1 at S ⊢
  have o1 := S.get
  have hsT := bsegT b
  have hln : lenSlV (txsV b.tk b.txs) = some (.int .i64 b.txs.length) := rfl
  have hw := S.was' (st0 := st) (by simp)
  by_cases c1 : b.txs.length = 0
  · have e : blkE b = 120 := by rw [blkE, if_pos (.inl c1)]
    have c1' : ((b.txs.length : Int) == 0) = true := by simp; exact List.length_eq_zero_iff.1 c1
    simp [St.seg, o1, hsT, hln, c1', e]
    exact ⟨st1, sub_self _, hw⟩
  have b1 : ((b.txs.length : Int) == 0) = false := by simpa using c1
  by_cases c2 : 32 < b.txs.length
  · have e : blkE b = 120 := by rw [blkE, if_pos (.inr c2)]
    have c2' : 32 < (b.txs.length : Int) := by omega
    simp [St.seg, o1, hsT, hln, b1, c2', c2, e]
    exact ⟨st1, sub_self _, hw⟩
  have c2' : ¬ 32 < (b.txs.length : Int) := by omega
  have e0 : blkE b = if txsE 0 b.txs ≠ 0 then txsE 0 b.txs else if 8192 < (blkB b).length then 2 else rootE b := by rw [blkE, if_neg (by omega)]
  simp [St.seg, o1, hsT, hln, b1, c2', c2]
  refine vc_joinB (M := fun env' st' => txsE 0 b.txs = 0 ∧ (∀ t ∈ b.txs, t.fine) ∧ Sep [pt i1 (.cells (eBlk b)), Was st] st') ?_ ?_
  · refine vc_loopJ (fun c env' st' => ∃ i : Nat, i ≤ b.txs.length ∧ c = b.txs.length - i ∧ env' 19 = .int .i64 (i : Nat) ∧ txsE i (b.txs.drop i) = txsE 0 b.txs ∧ (∀ t ∈ b.txs.take i, t.fine) ∧ Sep [pt i1 (.cells (eBlk b)), Was st] st') b.txs.length
      ⟨0, by omega, by omega, by simp, by simp, by simp, S⟩ ?_
    rintro J hJ c env' st6 hsame ⟨i, hi, rfl, h19, hgo, hfi, S⟩
    have g17 := (hsame.get 17 rfl).trans (by simp : _ = txsV b.tk b.txs)
    have g18 := (hsame.get 18 rfl).trans (by simp : _ = V.int .i64 (b.txs.length : Int))
    clear hsame
    by_cases hlt : i < b.txs.length
    · obtain ⟨r1, r2, r3, r4⟩ := (rd_txs b st6).row eTx_len hlt
      have htf := hb b.txs[i] (List.getElem_mem hlt)
      rw [List.drop_eq_getElem_cons hlt, txsE] at hgo
      obtain ⟨t, ht⟩ : ∃ t, t = b.txs[i] := ⟨_, rfl⟩
      rw [← ht] at r3 htf hgo
      have w1 : IntKind.i64.wrap ((i : Int) + 1) = (i : Int) + 1 := wrap64 (by omega) (by omega)
      simp [g17, g18, h19, hlt, r1, r3]
      intro i4 h4
      have S := S.new h4 (.cells [.sl .nil [] 0, .sl .nil [] 0])
      have hst := store_pt (sz := 2) (o := 0) S.get (v := .agg (eTx t)) (vs := eTx t) rfl rfl (by simp)
      rw [show spliceV [V.sl .nil [] 0, V.sl .nil [] 0] 0 (eTx t) = eTx t from rfl] at hst
      have S := S.set (.cells (eTx t))
      simp [hst] at S ⊢
      generalize (st6.upd i4 (.cells (eTx t))) = st7 at S ⊢
      have o4 := S.get
      have hi0 : ((i : Int) == 0) = (i == 0) := by
        rw [Bool.eq_iff_iff]; simp
      simp [St.seg, o4, tsegAll, hi0]
      refine (spec249 ok.toOkCheck st7 t (i == 0) htf.1 htf.2.1 htf.2.2).mono ?_
      rintro u st7 ⟨rfl, rfl⟩
      by_cases hz : txM t (i == 0) = 0
      · rw [if_neg (by simpa using hz)] at hgo
        simp [hz, h19, w1]
        refine Round.mk (b.txs.length - (i + 1)) _ (by omega) (sub_self _) (hJ _ _ _ ⟨i + 1, by omega, rfl, by simp, hgo, ?_, S.drop⟩)
        intro y hy
        rw [List.take_succ_eq_append_getElem hlt, ← ht] at hy
        rcases List.mem_append.1 hy with hy | hy
        · exact hfi y hy
        · rw [List.mem_singleton.1 hy]; exact txM_fine hz
      · rw [if_pos hz] at hgo
        rw [← hgo, if_pos hz] at e0
        have hz' : (txM t (i == 0) != 0) = true := by simpa using hz
        simp only [e0]
        simp [hz']
        exact ⟨_, sub_self _, S.was' (st0 := st) (by simp)⟩
    · have : i = b.txs.length := by omega
      subst this
      rw [List.drop_length, txsE] at hgo
      rw [List.take_length] at hfi
      simp [g18, h19]
      exact ⟨hgo.symm, hfi, S⟩
  · rintro env' st3 hsame ⟨hno, hfi, S⟩
    have g1 := (hsame.get 1 rfl).trans (by simp : _ = V.ptr (some (i1, 0)))
    clear hsame
    rw [hno, if_neg (by simp)] at e0
    have o1 := S.get
    simp [g1, St.seg, o1, bsegAll0]
    refine (spec251 ok st3 b (by omega) hfi).mono ?_
    intro v st4 S1
    have S := S1.ov S
    have hlv := (Sep.rd e8_len (S.head fun h hh => hh.sl)).len
    by_cases c3 : 8192 < (blkB b).length
    · have c3' : 8192 < ((blkB b).length : Int) := by omega
      rw [if_pos c3] at e0
      simp [hlv, c3', c3, e0]
      exact ⟨st4, sub_self _, S.was' (st0 := st) (by simp)⟩
    · have c3' : ¬ 8192 < ((blkB b).length : Int) := by omega
      rw [if_neg c3] at e0
      have o1 := S.mem (i := i1) (o := .cells (eBlk b)) (by simp)
      simp [hlv, c3', c3, g1, St.seg, o1, bsegAll0]
      refine (spec252 ok st4 b (by omega) fun t ht => (hfi t ht).ok).mono ?_
      rintro u st5 ⟨rfl, hs5⟩
      simp [e0]
      exact ⟨st5, sub_self _, sub_trans (S.was' (st0 := st) (by simp)) hs5⟩
end
end Go.Ab
set_option linter.unusedSimpArgs false
set_option linter.unusedVariables false
set_option maxRecDepth 10000
namespace Go.Ab
open Go Go.RowKit
abbrev Coin1 := Out1 × Int
def eCoin (c : Coin1) : List V := eOut c.1 ++ [.int .i64 c.2]
def vCoin (c : Coin1) : V := .agg (eCoin c)
theorem eCoin_len (c : Coin1) : (eCoin c).length = 34 := by simp [eCoin, eOut_len]
abbrev CM := List (Pt × Coin1)
structure Hole (f : V → List V) (off : Nat) : Prop where
  seg : ∀ v, segOf (f v) off 1 = some [v]
  spl : ∀ v w, spliceV (f v) off [w] = f w
def SetL (o : Nat) (f : V → List V) (cm : CM) : Option Nat → List Asn
  | none => [pt o (.cells (f (.map none)))]
  | some m => [pt o (.cells (f (.map (some m)))), pt m (.mp (encM kPt vCoin cm))]
def SetS (o : Nat) (f : V → List V) (cm : CM) (L : List Asn) (st : St) : Prop := ∃ mo, (mo = none → cm = []) ∧ Sep (SetL o f cm mo ++ L) st
theorem SetS.tail {o : Nat} {f : V → List V} {cm : CM} {L L' : List Asn} {st : St} (h : SetS o f cm L st) (hL : ∀ r, Sep L r → Sep L' r) : SetS o f cm L' st := by
  obtain ⟨mo, h0, S⟩ := h
  refine ⟨mo, h0, ?_⟩
  cases mo with
  | none => exact S.tail hL
  | some m => exact S.tail fun r h => h.tail hL
theorem SetS.new {o : Nat} {f : V → List V} {cm : CM} {L : List Asn} {st : St} (h : SetS o f cm L st) {i : Nat} (hi : st i = none) (x : AObj) : SetS o f cm (pt i x :: L) (st.upd i x) := by
  obtain ⟨mo, h0, S⟩ := h
  refine ⟨mo, h0, ?_⟩
  have S := S.new hi x
  cases mo with
  | none => exact S.swap
  | some m => exact (S.pull 2).pull 2
def layHit (id : Id) (cm : CM) : Nat → List Out1 → Bool
  | _, [] => false
  | j, _ :: l => (lk (id, BitVec.ofNat 32 j) cm).isSome || layHit id cm (j + 1) l
def layL (id : Id) (h : Int) : Nat → List Out1 → CM → CM
  | _, [], cm => cm
  | j, o :: l, cm => layL id h (j + 1) l (aSet (id, BitVec.ofNat 32 j) (o, h) cm)
def layM (t : Tx1) (h : Int) (cm : CM) : Int × CM := if layHit (txIdM t) cm 0 t.outs = true then (5, cm) else (0, layL (txIdM t) h 0 t.outs cm)
theorem wrap32 (i : Nat) : V.int .u32 (IntKind.u32.wrap (i : Int)) = w32 (BitVec.ofNat 32 i) := by
  rw [wrap_u32, BitVec.ofInt_natCast]; rfl
theorem zPt : z33_1371 = eId id0 ++ [w32 0#32] := rfl
theorem ptFill (id : Id) (x : W32) : fillV z33_1371 [(0, 32, .agg (eId id)), (32, 1, w32 x)] = some (ePt (id, x)) := by
  simp [fillV, zPt, spliceV, eId_len, ePt, w32]
theorem coinFill (c : Coin1) : fillV z34_7943 [(0, 33, .agg (eOut c.1)), (33, 1, .int .i64 c.2)] = some (eCoin c) := by
  have z : z34_7943 = eOut ⟨0, id0⟩ ++ [.int .i64 0] := rfl
  simp [fillV, z, spliceV, eOut_len, eCoin]
def coin0 : Coin1 := (⟨0, id0⟩, 0)
theorem coin0_cells : z34_7943 = eCoin coin0 := rfl
section
variable {P : Program} {F : Fn}
set_option maxHeartbeats 4000000 in
theorem spec258 (ok : OkCoins P F) {st : St} {o off : Nat} {f : V → List V} (hf : Hole f off) {cm : CM} {L : List Asn} (h0 : SetS o f cm L st) (t : Tx1) (ht : t.ok 100) (h : Int) :
    ACalls P (F 258) [.ptr (some (o, off)), .agg (eTx t), .int .i64 h] st fun v st' => v = .int .i64 (layM t h cm).1 ∧ SetS o f (layM t h cm).2 L st' := by
  have okt := ok.toOkCheck2.toOkCheck.toOkTx
  refine shows_call ok.mixed ok.h258 (by simp [k258]) ?_
  simp only [k258]
  refine vc_cut (M := fun env' st' => env' 0 = .ptr (some (o, off)) ∧ env' 2 = .int .i64 h ∧ ∃ i4, env' 4 = .ptr (some (i4, 0)) ∧ SetS o f cm (pt i4 (.cells (eTx t)) :: L) st') ?_ ?_
  · simp
    intro i4 h4
    simp
    exact h0.new h4 _
  rintro env1 st1 ⟨g0, g2, i4, g4, W⟩
  refine vc_cut (M := fun env' st' => env' 0 = .ptr (some (o, off)) ∧ env' 2 = .int .i64 h ∧ env' 4 = .ptr (some (i4, 0)) ∧ ∃ m, Sep (pt o (.cells (f (.map (some m)))) :: pt m (.mp (encM kPt vCoin cm)) :: pt i4 (.cells (eTx t)) :: L) st') ?_ ?_
  · obtain ⟨mo, hc, S⟩ := W
    have hsg := hf.seg
    cases mo with
    | none =>
      have he : cm = [] := hc rfl
      subst he
      have oo := S.get
      simp [St.seg, oo, hsg, g0, eqK]
      intro m hm
      have S := S.new hm (.mp [])
      have o2 := S.drop.get
      have hst := store_pt (sz := 1) (o := off) o2 (v := .map (some m)) (vs := [.map (some m)]) rfl rfl (by have := hf.seg (.map none); simp [segOf] at this; omega)
      rw [hf.spl] at hst
      have S := S.setAt (.cells (f (.map (some m)))) 1 rfl
      simp only [List.set_cons_succ, List.set_cons_zero] at S
      simp [hst, g0, g2, g4]
      exact ⟨m, S.swap⟩
    | some m =>
      have oo := S.get
      simp [St.seg, oo, hsg, g0, g2, g4, eqK]
      exact ⟨m, S⟩
  rintro env2 st2 ⟨g0, g2, g4, m, S⟩
  have o4 := S.drop.drop.get
  simp [g4, St.seg, o4, tsegAll]
  refine (spec198 okt st2 t ht).mono ?_
  rintro v st3 ⟨rfl, rfl⟩
  simp
  intro i7 h7
  have S := S.new h7 (.cells zR32_w80)
  have hst := store_z32 S.get (txIdM t)
  have S := S.set (.cells (eId (txIdM t)))
  simp [hst] at S ⊢
  generalize st3.upd i7 (.cells (eId (txIdM t))) = st5 at S ⊢
  have S : Sep (pt o (.cells (f (.map (some m)))) :: pt m (.mp (encM kPt vCoin cm)) :: pt i7 (.cells (eId (txIdM t))) :: pt i4 (.cells (eTx t)) :: L) st5 := (S.pull 1).tail fun r h => h.swap
  have o4 := S.drop.drop.drop.get
  have so := tsegOuts t
  have lo := outsV_len t
  have hsg := hf.seg
  simp [g4, St.seg, o4, so, lo]
  refine vc_joinB (M := fun env' st' => layHit (txIdM t) cm 0 t.outs = false ∧ Sep (pt o (.cells (f (.map (some m)))) :: pt m (.mp (encM kPt vCoin cm)) :: pt i7 (.cells (eId (txIdM t))) :: pt i4 (.cells (eTx t)) :: L) st') ?_ ?_
  · refine vc_loopJ (fun c env' st' => ∃ i : Nat, i ≤ t.outs.length ∧ c = t.outs.length - i ∧ env' 27 = .int .i64 (i : Nat) ∧ layHit (txIdM t) cm i (t.outs.drop i) = layHit (txIdM t) cm 0 t.outs ∧ Sep (pt o (.cells (f (.map (some m)))) :: pt m (.mp (encM kPt vCoin cm)) :: pt i7 (.cells (eId (txIdM t))) :: pt i4 (.cells (eTx t)) :: L) st') t.outs.length
      ⟨0, by omega, by omega, by simp, by simp, S⟩ ?_
    rintro J hJ c env' st4 hsame ⟨i, hi, rfl, h27, hgo, S⟩
    have g0 := (hsame.get 0 rfl).trans (by simp [g0] : _ = V.ptr (some (o, off)))
    have g7 := (hsame.get 7 rfl).trans (by simp : _ = V.ptr (some (i7, 0)))
    have g26 := (hsame.get 26 rfl).trans (by simp : _ = V.int .i64 (t.outs.length : Int))
    clear hsame
    have oo := S.get
    have om := S.drop.get
    have o7 := S.drop.drop.get
    by_cases hlt : i < t.outs.length
    · rw [List.drop_eq_getElem_cons hlt, layHit] at hgo
      have w1 : IntKind.i64.wrap ((i : Int) + 1) = (i : Int) + 1 := wrap64 (by omega) (by have := ht.2.1; omega)
      have w2 := wrap32 i
      have hfl := ptFill (txIdM t) (BitVec.ofNat 32 i)
      have hlk := lookup_lk keyed_pt (ev := vCoin) om (V.agg z34_7943) (txIdM t, BitVec.ofNat 32 i)
      have hz : (V.agg z34_7943) = vCoin coin0 := by rw [coin0_cells]; rfl
      have hx : ((lk (txIdM t, BitVec.ofNat 32 i) cm).map vCoin).getD (V.agg z34_7943) = vCoin ((lk (txIdM t, BitVec.ofNat 32 i) cm).getD coin0) := by
        rw [hz]; cases lk (txIdM t, BitVec.ofNat 32 i) cm <;> rfl
      rw [hx] at hlk
      have s7 : segOf (eId (txIdM t)) 0 32 = some (eId (txIdM t)) := seg_of_drop (zs := []) (by simp) (eId_len _) (by omega)
      simp [g0, g7, g26, h27, hlt, St.seg, oo, hsg, o7, s7, w2, hfl]
      rw [show V.agg (ePt (txIdM t, BitVec.ofNat 32 i)) = kPt (txIdM t, BitVec.ofNat 32 i) from rfl, hlk]
      simp
      intro i9 h9
      have S := S.new h9 (.cells z34_7943)
      obtain ⟨c9, hc9⟩ : ∃ c9, c9 = (lk (txIdM t, BitVec.ofNat 32 i) cm).getD coin0 := ⟨_, rfl⟩
      rw [← hc9]
      have hst := store_pt (sz := 34) (o := 0) S.get (v := vCoin c9) (vs := eCoin c9) rfl (eCoin_len _) (by simp)
      rw [show spliceV z34_7943 0 (eCoin c9) = eCoin c9 by simp [spliceV, eCoin_len]] at hst
      have S := S.set (.cells (eCoin c9))
      simp [hst] at S ⊢
      generalize st4.upd i9 (.cells (eCoin c9)) = st6 at S ⊢
      have S := S.drop
      cases hs : (lk (txIdM t, BitVec.ofNat 32 i) cm).isSome with
      | true =>
        rw [hs, Bool.true_or] at hgo
        have e : layM t h cm = (5, cm) := by rw [layM, if_pos hgo.symm]
        simp [e]
        exact ⟨st6, sub_self _, some m, (fun e => by cases e), S.tail fun r h => h.tail fun r h => h.drop.drop⟩
      | false =>
        rw [hs, Bool.false_or] at hgo
        simp [h27, w1]
        exact Round.mk (t.outs.length - (i + 1)) _ (by omega) (sub_self _) (hJ _ _ _ ⟨i + 1, by omega, rfl, by simp, hgo, S⟩)
    · have : i = t.outs.length := by omega
      subst this
      rw [List.drop_length, layHit] at hgo
      simp [g26, h27]
      exact ⟨hgo.symm, S⟩
  rintro env3 st4 hsame ⟨hno, S⟩
  have e : layM t h cm = (0, layL (txIdM t) h 0 t.outs cm) := by rw [layM, if_neg (by rw [hno]; decide)]
  have g0 := (hsame.get 0 rfl).trans (by simp [g0] : _ = V.ptr (some (o, off)))
  have g2 := (hsame.get 2 rfl).trans (by simp [g2] : _ = V.int .i64 h)
  have g4 := (hsame.get 4 rfl).trans (by simp [g4] : _ = V.ptr (some (i4, 0)))
  have g7 := (hsame.get 7 rfl).trans (by simp : _ = V.ptr (some (i7, 0)))
  clear hsame
  have o4 := S.drop.drop.drop.get
  simp [g4, St.seg, o4, so, lo]
  refine vc_joinB (M := fun env' st' => Sep (pt o (.cells (f (.map (some m)))) :: pt m (.mp (encM kPt vCoin (layL (txIdM t) h 0 t.outs cm))) :: pt i7 (.cells (eId (txIdM t))) :: pt i4 (.cells (eTx t)) :: L) st') ?_ ?_
  · refine vc_loopJ (fun c env' st' => ∃ (i : Nat) (cm' : CM), i ≤ t.outs.length ∧ c = t.outs.length - i ∧ env' 47 = .int .i64 (i : Nat) ∧ layL (txIdM t) h i (t.outs.drop i) cm' = layL (txIdM t) h 0 t.outs cm ∧ Sep (pt o (.cells (f (.map (some m)))) :: pt m (.mp (encM kPt vCoin cm')) :: pt i7 (.cells (eId (txIdM t))) :: pt i4 (.cells (eTx t)) :: L) st') t.outs.length
      ⟨0, cm, by omega, by omega, by simp, by simp, S⟩ ?_
    rintro J hJ c env' st5 hsame ⟨i, cm', hi, rfl, h47, hgo, S⟩
    have g0 := (hsame.get 0 rfl).trans (by simp [g0] : _ = V.ptr (some (o, off)))
    have g2 := (hsame.get 2 rfl).trans (by simp [g2] : _ = V.int .i64 h)
    have g7 := (hsame.get 7 rfl).trans (by simp [g7] : _ = V.ptr (some (i7, 0)))
    have g45 := (hsame.get 45 rfl).trans (by simp : _ = outsV t)
    have g46 := (hsame.get 46 rfl).trans (by simp : _ = V.int .i64 (t.outs.length : Int))
    clear hsame
    by_cases hlt : i < t.outs.length
    · obtain ⟨r1, r2, r3, r4⟩ := (rd_outs t st5).row eOut_len hlt
      rw [List.drop_eq_getElem_cons hlt, layL] at hgo
      obtain ⟨x, hx⟩ : ∃ x, x = t.outs[i] := ⟨_, rfl⟩
      rw [← hx] at r3 hgo
      have w1 : IntKind.i64.wrap ((i : Int) + 1) = (i : Int) + 1 := wrap64 (by omega) (by have := ht.2.1; omega)
      have w2 := wrap32 i
      have hfl := ptFill (txIdM t) (BitVec.ofNat 32 i)
      have hfc := coinFill (x, h)
      have s7 : segOf (eId (txIdM t)) 0 32 = some (eId (txIdM t)) := seg_of_drop (zs := []) (by simp) (eId_len _) (by omega)
      simp [g45, g46, h47, hlt, r1, r3]
      intro i12 h12
      have S := S.new h12 (.cells z33_0be4)
      have hst := store_pt (sz := 33) (o := 0) S.get (v := .agg (eOut x)) (vs := eOut x) rfl (eOut_len _) (by simp)
      rw [show spliceV z33_0be4 0 (eOut x) = eOut x by simp [spliceV, eOut_len]] at hst
      have S := S.set (.cells (eOut x))
      simp [hst] at S ⊢
      generalize st5.upd i12 (.cells (eOut x)) = st6 at S ⊢
      have o12 := S.get
      have S := S.drop
      have oo := S.get
      have om := S.drop.get
      have o7 := S.drop.drop.get
      have sx : segOf (eOut x) 0 33 = some (eOut x) := seg_of_drop (zs := []) (by simp) (eOut_len _) (by omega)
      simp [g0, g2, g7, St.seg, oo, hsg, o7, s7, w2, hfl, o12, sx, hfc]
      have hms := mset_enc keyed_pt (ev := vCoin) om (txIdM t, BitVec.ofNat 32 i) (x, h)
      rw [show V.agg (ePt (txIdM t, BitVec.ofNat 32 i)) = kPt (txIdM t, BitVec.ofNat 32 i) from rfl, show V.agg (eCoin (x, h)) = vCoin (x, h) from rfl, hms]
      have S := S.setAt (.mp (encM kPt vCoin (aSet (txIdM t, BitVec.ofNat 32 i) (x, h) cm'))) 1 rfl
      simp only [List.set_cons_succ, List.set_cons_zero] at S
      simp [h47, w1]
      exact Round.mk (t.outs.length - (i + 1)) _ (by omega) (sub_self _) (hJ _ _ _ ⟨i + 1, _, by omega, rfl, by simp, hgo, S⟩)
    · have : i = t.outs.length := by omega
      subst this
      rw [List.drop_length, layL] at hgo
      rw [hgo] at S
      simp [g46, h47]
      exact S
  rintro env4 st5 hsame S
  simp [e]
  exact ⟨st5, sub_self _, some m, (fun e => by cases e), S.tail fun r h => h.tail fun r h => h.drop.drop⟩
end
end Go.Ab
set_option linter.unusedSimpArgs false
set_option linter.unusedVariables false
namespace Go.Ab
open Go Go.RowKit
structure CloneC (P : Program) (f : FuncId) : Prop where
  nil : ∀ st : St, ACalls P f [.map none] st fun v st' => v = .map none ∧ st' = st
  some : ∀ (st : St) (m : Nat) (es : List (V × V)), st m = some (.mp es) → ACalls P f [.map (some m)] st fun v st' => ∃ n, v = .map (some n) ∧ st n = none ∧ st' = st.upd n (.mp es)
theorem lrel_one {G : Gh} {v : V} {xs : List Value} (h : LRel G [v] xs) : ∃ x, xs = [x] ∧ VRel G v x := by
  obtain ⟨h1, h2⟩ := h
  match xs, h1 with
  | [x], _ => exact ⟨x, rfl, by simpa using h2 0 (by simp)⟩
theorem cloneC_of {P : Program} {f : FuncId} (h0 : ∀ w : World, Calls P f #[.map none] w fun e w' => e = .returned (.map none) ∧ w' = w)
    (h1 : ∀ (w : World) (b : Nat) (E : Array MapEntry) (clk : Nat), w.heap[b]? = some (.map E clk) → Calls P f #[.map (some b)] w fun e w' => e = .returned (.map (some w.heap.size)) ∧ w' = w.alloc (.map E clk)) : CloneC P f := by
  constructor
  · intro st fr hd B w0 G w xs hs ha
    obtain ⟨x, rfl, hx⟩ := lrel_one ha
    cases hx
    refine (h0 w).mono ?_
    rintro e w' ⟨rfl, rfl⟩
    exact ⟨_, _, G, st, rfl, G.le_refl, .nilmap, hd, hs, rfl, rfl⟩
  · intro st m es hm fr hd B w0 G w xs hs ha
    obtain ⟨x, rfl, hx⟩ := lrel_one ha
    cases hx with
    | map id b l k hι =>
      obtain ⟨b', l', m', k1, k2, E, clk, k3, k4, k5, k6, k7⟩ := hs.obj m _ (add_some hm)
      rw [hι] at k1
      cases k1
      refine (h1 w b E clk k3).mono ?_
      rintro e w' ⟨rfl, rfl⟩
      obtain ⟨g1, g2⟩ := hs.addObj (.map E clk) (.mp es) 0 0 ⟨E, clk, heap_alloc_self _ _, k4, fun i hi => ⟨(k5 i hi).1.mono (G.addObj_le _), (k5 i hi).2.mono (G.addObj_le _)⟩, k6, k7⟩
      have hN : st G.N = none ∧ fr G.N = none := by
        simp only [St.add] at g1
        cases h : st G.N with
        | none => exact ⟨rfl, by simpa [h] using g1⟩
        | some o => simp [h] at g1
      rw [← upd_add] at g2
      exact ⟨_, _, _, _, rfl, G.addObj_le _, .map _ _ _ _ (G.addObj_new _), hd.upd hN.2 _, g2, G.N, rfl, hN.1, rfl⟩
end Go.Ab
set_option linter.unusedSimpArgs false
set_option linter.unusedVariables false
set_option maxRecDepth 10000
namespace Go.Ab
open Go Go.RowKit
def lone (v : V) : List V := [v]
theorem lone_hole : Hole lone 0 := ⟨fun _ => rfl, fun _ _ => rfl⟩
def undo0 : V := .agg [.sl .nil [] 0, .sl .nil [] 0]
def conn1 (t : Tx1) (h sub : Int) (cm : CM) : Int × CM := if (sumM t.outs).2 = false ∨ 0 < (sumM t.outs).1 - sub then (121, cm) else layM t h cm
theorem layM_err {t : Tx1} {h : Int} {cm : CM} : (layM t h cm).1 = 0 ∨ (layM t h cm).1 = 5 ∧ (layM t h cm).2 = cm := by
  unfold layM
  split
  · exact .inr ⟨rfl, rfl⟩
  · exact .inl rfl
theorem conn1_err {t : Tx1} {h sub : Int} {cm : CM} (hne : (conn1 t h sub cm).1 ≠ 0) : (conn1 t h sub cm).2 = cm := by
  unfold conn1 at hne ⊢
  split
  · rfl
  · rename_i hc
    rw [if_neg hc] at hne
    rcases layM_err (t := t) (h := h) (cm := cm) with h1 | h1
    · exact absurd h1 hne
    · exact h1.2
theorem SetS.ext {o : Nat} {f : V → List V} {cm : CM} {L : List Asn} {st : St} (h : SetS o f cm L st) {i : Nat} {x : AObj} (hm : pt i x ∈ L) : st i = some x := by
  obtain ⟨mo, h0, S⟩ := h
  cases mo with
  | none => exact S.mem (List.mem_append.2 (.inr hm))
  | some m => exact S.mem (List.mem_append.2 (.inr hm))
theorem SetS.setL {o : Nat} {f : V → List V} {cm : CM} {L : List Asn} {st : St} {i : Nat} {x : AObj} (h : SetS o f cm (pt i x :: L) st) (y : AObj) : SetS o f cm (pt i y :: L) (st.upd i y) := by
  obtain ⟨mo, h0, S⟩ := h
  refine ⟨mo, h0, ?_⟩
  cases mo with
  | none => exact S.setAt y 1 rfl
  | some m => exact S.setAt y 2 rfl
theorem bury {o : Nat} {f : V → List V} {cm : CM} {mo : Option Nat} {A : Asn} {L : List Asn} {st : St} (S : Sep (A :: (SetL o f cm mo ++ L)) st) : Sep (SetL o f cm mo ++ A :: L) st := by
  cases mo with
  | none => exact S.swap
  | some m => exact (S.pull 2).pull 2
theorem bury2 {ic o : Nat} {g f : V → List V} {cm cm' : CM} {mo mo2 : Option Nat} {A : Asn} {L : List Asn} {st : St} (S : Sep (A :: (SetL ic g cm' mo2 ++ (SetL o f cm mo ++ L))) st) : Sep (SetL ic g cm' mo2 ++ (SetL o f cm mo ++ A :: L)) st := by
  have S := bury S
  cases mo2 with
  | none => exact S.tail fun r h => bury h
  | some m => exact S.tail fun r h => h.tail fun r h => bury h
theorem takeOver {ic o : Nat} {f : V → List V} {cm cm' : CM} {mo mo2 : Option Nat} {L : List Asn} {st : St} (S : Sep (SetL ic lone cm' mo2 ++ (SetL o f cm mo ++ L)) st) :
    st ic = some (.cells [.map mo2]) ∧ st o = some (.cells (f (.map mo))) ∧ Sep (SetL o f cm' mo2 ++ L) (st.upd o (.cells (f (.map mo2)))) := by
  cases mo2 with
  | none =>
    cases mo with
    | none => exact ⟨S.get, S.drop.get, S.drop.set _⟩
    | some m => exact ⟨S.get, S.drop.get, (S.drop.set _).tail fun r h => h.drop⟩
  | some m2 =>
    cases mo with
    | none => exact ⟨S.get, S.drop.drop.get, (S.drop.swap.set _).tail fun r h => h⟩
    | some m => exact ⟨S.get, S.drop.drop.get, (S.drop.swap.set _).tail fun r h => h.tail fun r h => h.drop⟩
section
variable {P : Program} {F : Fn}
set_option maxHeartbeats 2000000 in
theorem spec255 (ok : OkCoins P F) (hc : CloneC P (F 256)) {st : St} {o off : Nat} {f : V → List V} (hf : Hole f off) {cm : CM} {mo : Option Nat} (h0 : mo = none → cm = []) {L : List Asn} (S : Sep (SetL o f cm mo ++ L) st) :
    ACalls P (F 255) [.ptr (some (o, off))] st fun v st' => ∃ i, v = .ptr (some (i, 0)) ∧ SetS i lone cm (SetL o f cm mo ++ L) st' := by
  refine shows_call ok.mixed ok.h255 (by simp [k255]) ?_
  simp only [k255]
  have hsg := hf.seg
  cases mo with
  | none =>
    have oo := S.get
    simp [St.seg, oo, hsg]
    refine (hc.nil st).mono ?_
    rintro v st' ⟨rfl, rfl⟩
    simp [fillV, spliceV]
    intro i hi
    have S := S.new hi (.cells [.map none])
    simp
    exact ⟨_, sub_self _, none, fun _ => h0 rfl, S⟩
  | some m =>
    have oo := S.get
    have om := S.drop.get
    simp [St.seg, oo, hsg]
    refine (hc.some st m _ om).mono ?_
    rintro v st' ⟨n, rfl, hn, rfl⟩
    have S := S.new hn (.mp (encM kPt vCoin cm))
    generalize st.upd n _ = st2 at S ⊢
    simp [fillV, spliceV]
    intro i hi
    have S := S.new hi (.cells [.map (some n)])
    simp
    exact ⟨_, sub_self _, some n, (fun e => by cases e), S⟩
set_option maxHeartbeats 4000000 in
theorem spec259a (ok : OkCoins P F) {st : St} {o off : Nat} {f : V → List V} (hf : Hole f off) {cm : CM} {L : List Asn} (h0 : SetS o f cm L st) (b : Blk1) (t : Tx1) (hb : b.txs = [t]) (ht : t.ok 100) (h sub : Int) (hs1 : -4611686018427387904 ≤ sub) (hs2 : sub ≤ 4611686018427387904) :
    ACalls P (F 259) [.ptr (some (o, off)), .agg (eBlk b), .int .i64 h, .int .i64 sub] st fun v st' => v = .tup [undo0, .int .i64 (conn1 t h sub cm).1] ∧ SetS o f (conn1 t h sub cm).2 L st' := by
  have okc := ok.toOkCheck2.toOkCheck
  refine shows_call ok.mixed ok.h259 (by simp [k259]) ?_
  simp only [k259]
  have hln : lenSlV (txsV b.tk b.txs) = some (.int .i64 1) := by rw [hb]; rfl
  have hsT := bsegT b
  simp
  intro i5 h5
  have W := h0.new h5 (.cells (eBlk b))
  generalize st.upd i5 _ = st1 at W ⊢
  simp
  intro i8 h8
  have W := W.new h8 (.cells [.sl .nil [] 0, .sl .nil [] 0])
  generalize st1.upd i8 _ = st2 at W ⊢
  simp
  intro i10 h10
  have W := W.new h10 (.cells [.sl .nil [] 0, .sl .nil [] 0])
  generalize st2.upd i10 _ = st3 at W ⊢
  have o5 := W.ext (i := i5) (x := .cells (eBlk b)) (by simp)
  have ht0 : ∀ hx, b.txs[0]'hx = t := fun hx => by simp [hb]
  have hx0 : 0 < b.txs.length := by rw [hb]; simp
  simp [St.seg, o5, hsT, hln]
  refine vc_joinB (M := fun env' st' => env' 11 = .int .i64 0 ∧ SetS o f cm (pt i10 (.cells [.sl .nil [] 0, .sl .nil [] 0]) :: pt i8 (.cells [.sl .nil [] 0, .sl .nil [] 0]) :: pt i5 (.cells (eBlk b)) :: L) st') ?_ ?_
  · refine vc_loopJ (fun c env' st' => ∃ i : Nat, i ≤ 1 ∧ c = 1 - i ∧ env' 24 = .int .i64 (i : Nat) ∧ env' 11 = .int .i64 0 ∧ SetS o f cm (pt i10 (.cells [.sl .nil [] 0, .sl .nil [] 0]) :: pt i8 (.cells [.sl .nil [] 0, .sl .nil [] 0]) :: pt i5 (.cells (eBlk b)) :: L) st') 1
      ⟨0, by omega, by omega, by simp, by simp, W⟩ ?_
    rintro J hJ c env' st4 hsame ⟨i, hi, rfl, h24, h11, W⟩
    have g22 := (hsame.get 22 rfl).trans (by simp : _ = txsV b.tk b.txs)
    have g23 := (hsame.get 23 rfl).trans (by simp : _ = V.int .i64 1)
    clear hsame
    by_cases hlt : i < 1
    · have : i = 0 := by omega
      subst this
      obtain ⟨r1, r2, r3, r4⟩ := (rd_txs b st4).row eTx_len hx0
      rw [ht0] at r3
      simp at r1
      simp [g22, g23, h24, r1, r3]
      intro i13 h13
      have W := W.new h13 (.cells [.sl .nil [] 0, .sl .nil [] 0])
      have o13 := W.ext (i := i13) (x := .cells [.sl .nil [] 0, .sl .nil [] 0]) (by simp)
      have hst := store_pt (sz := 2) (o := 0) o13 (v := .agg (eTx t)) (vs := eTx t) rfl rfl (by simp)
      rw [show spliceV [V.sl .nil [] 0, V.sl .nil [] 0] 0 (eTx t) = eTx t from rfl] at hst
      have W := W.setL (i := i13) (.cells (eTx t))
      simp [hst, h24] at W ⊢
      exact Round.mk 0 _ (by omega) (sub_self _) (hJ _ _ _ ⟨1, by omega, rfl, by simp, by simp [h11], W.tail fun r h => h.drop⟩)
    · have : i = 1 := by omega
      subst this
      simp [g23, h24]
      exact ⟨h11, W⟩
  rintro env1 st4 hsame ⟨g11, W⟩
  have g0 := (hsame.get 0 rfl).trans (by simp : _ = V.ptr (some (o, off)))
  have g2 := (hsame.get 2 rfl).trans (by simp : _ = V.int .i64 h)
  have g3 := (hsame.get 3 rfl).trans (by simp : _ = V.int .i64 sub)
  have g5 := (hsame.get 5 rfl).trans (by simp : _ = V.ptr (some (i5, 0)))
  have g8 := (hsame.get 8 rfl).trans (by simp : _ = V.ptr (some (i8, 0)))
  have g10 := (hsame.get 10 rfl).trans (by simp : _ = V.ptr (some (i10, 0)))
  clear hsame
  have o5 := W.ext (i := i5) (x := .cells (eBlk b)) (by simp)
  have o8 := W.ext (i := i8) (x := .cells [.sl .nil [] 0, .sl .nil [] 0]) (by simp)
  have o10 := W.ext (i := i10) (x := .cells [.sl .nil [] 0, .sl .nil [] 0]) (by simp)
  obtain ⟨r1, r2, r3, r4⟩ := (rd_txs b st4).row eTx_len hx0
  obtain ⟨q1, q2⟩ := r4 1 1 (by omega)
  rw [ht0] at r3 q2
  simp at r1
  have q2' : ldCells st4 1 (fldP 1 (rowP 2 (txsV b.tk b.txs) 0)) = some [outsV t] := q2
  have hu : segOf [V.sl .nil [] 0, V.sl .nil [] 0] 0 2 = some [V.sl .nil [] 0, V.sl .nil [] 0] := rfl
  simp [g5, g11, St.seg, o5, hsT, hln, r1, q1, q2']
  refine (spec250 okc st4 (rd_outs t st4) (by have := ht.2.1; omega)).mono ?_
  rintro v st5 ⟨rfl, rfl⟩
  have hsr := sumM_range t.outs
  have w1 : IntKind.i64.wrap ((sumM t.outs).1 - sub) = (sumM t.outs).1 - sub := wrap64 (by omega) (by omega)
  have hst8 := store_pt (sz := 2) (o := 0) o8 (v := undo0) (vs := [V.sl .nil [] 0, V.sl .nil [] 0]) rfl rfl (by simp)
  rw [show spliceV [V.sl .nil [] 0, V.sl .nil [] 0] 0 [V.sl .nil [] 0, V.sl .nil [] 0] = [V.sl .nil [] 0, V.sl .nil [] 0] from rfl] at hst8
  have hst8' : st5.upd i8 (.cells [V.sl .nil [] 0, V.sl .nil [] 0]) = st5 := funext fun j => by
    by_cases ej : j = i8
    · rw [ej, St.upd_same, o8]
    · rw [St.upd_other _ _ ej]
  rw [hst8', undo0] at hst8
  simp
  cases hok : (sumM t.outs).2 with
  | false =>
    have e : conn1 t h sub cm = (121, cm) := by rw [conn1, if_pos (.inl hok)]
    simp [hok, g10, g8, St.seg, o10, o8, hu, hst8, e, undo0]
    exact ⟨st5, sub_self _, W.tail fun r h => h.drop.drop.drop⟩
  | true =>
    by_cases c1 : 0 < (sumM t.outs).1 - sub
    · have e : conn1 t h sub cm = (121, cm) := by rw [conn1, if_pos (.inr c1)]
      have c2 : sub < (sumM t.outs).1 := by omega
      simp [hok, g3, g11, w1, c2, g10, g8, St.seg, o10, o8, hu, hst8, e, undo0]
      exact ⟨st5, sub_self _, W.tail fun r h => h.drop.drop.drop⟩
    · have e : conn1 t h sub cm = layM t h cm := by rw [conn1, if_neg (by rw [hok]; rintro (h | h); cases h; exact c1 h)]
      have c2 : ¬ sub < (sumM t.outs).1 := by omega
      simp [hok, g3, g11, w1, c2]
      have W := W.setL (.ro [V.sl .nil [] 0, V.sl .nil [] 0])
      simp [frzP, frzV, frzOb, frzL, frzH, g10, o10]
      generalize st5.upd i10 _ = st6 at W ⊢
      have o5 := W.ext (i := i5) (x := .cells (eBlk b)) (by simp)
      have o8 := W.ext (i := i8) (x := .cells [.sl .nil [] 0, .sl .nil [] 0]) (by simp)
      obtain ⟨r1, r2, r3, r4⟩ := (rd_txs b st6).row eTx_len hx0
      rw [ht0] at r3
      simp at r1
      simp [hu, g0, g2, g5, St.seg, o5, hsT, r1, r3]
      refine (spec258 ok hf W t ht h).mono ?_
      rintro v st7 ⟨rfl, W⟩
      have o8 := W.ext (i := i8) (x := .cells [.sl .nil [] 0, .sl .nil [] 0]) (by simp)
      have hst8 := store_pt (sz := 2) (o := 0) o8 (v := undo0) (vs := [V.sl .nil [] 0, V.sl .nil [] 0]) rfl rfl (by simp)
      rw [show spliceV [V.sl .nil [] 0, V.sl .nil [] 0] 0 [V.sl .nil [] 0, V.sl .nil [] 0] = [V.sl .nil [] 0, V.sl .nil [] 0] from rfl] at hst8
      have hst8' : st7.upd i8 (.cells [V.sl .nil [] 0, V.sl .nil [] 0]) = st7 := funext fun j => by
        by_cases ej : j = i8
        · rw [ej, St.upd_same, o8]
        · rw [St.upd_other _ _ ej]
      rw [hst8', undo0] at hst8
      simp [g8, hst8, St.seg, o8, hu, e, undo0]
      exact ⟨st7, sub_self _, W.tail fun r h => h.drop.drop.drop⟩
set_option maxHeartbeats 4000000 in
theorem spec260a (ok : OkCoins P F) (hc : CloneC P (F 256)) {st : St} {o off : Nat} {f : V → List V} (hf : Hole f off) {cm : CM} {L : List Asn} (h0 : SetS o f cm L st) (b : Blk1) (t : Tx1) (hb : b.txs = [t]) (ht : t.ok 100) (h sub : Int) (hs1 : -4611686018427387904 ≤ sub) (hs2 : sub ≤ 4611686018427387904) :
    ACalls P (F 260) [.ptr (some (o, off)), .agg (eBlk b), .int .i64 h, .int .i64 sub] st fun v st' => v = .tup [undo0, .int .i64 (conn1 t h sub cm).1] ∧ SetS o f (conn1 t h sub cm).2 L st' := by
  refine shows_call ok.mixed ok.h260 (by simp [k260]) ?_
  simp only [k260]
  simp
  intro i5 h5
  have W := h0.new h5 (.cells (eBlk b))
  generalize st.upd i5 _ = st1 at W ⊢
  simp
  intro i8 h8
  have W := W.new h8 (.cells [.sl .nil [] 0, .sl .nil [] 0])
  generalize st1.upd i8 _ = st2 at W ⊢
  obtain ⟨mo, hmo, S⟩ := W
  simp
  refine (spec255 ok hc hf hmo S).mono ?_
  rintro v st3 ⟨ic, rfl, W⟩
  have o5 := W.ext (i := i5) (x := .cells (eBlk b)) (by cases mo <;> simp [SetL])
  have sb := bsegAll b
  simp [St.seg, o5, sb]
  refine (spec259a ok lone_hole W b t hb ht h sub hs1 hs2).mono ?_
  rintro v st4 ⟨rfl, W⟩
  obtain ⟨mo2, hmo2, S⟩ := W
  simp
  intro i11 h11
  have S := S.new h11 (.cells [.sl .nil [] 0, .sl .nil [] 0])
  have hst := store_pt (sz := 2) (o := 0) S.get (v := undo0) (vs := [V.sl .nil [] 0, V.sl .nil [] 0]) rfl rfl (by simp)
  rw [show spliceV [V.sl .nil [] 0, V.sl .nil [] 0] 0 [V.sl .nil [] 0, V.sl .nil [] 0] = [V.sl .nil [] 0, V.sl .nil [] 0] from rfl] at hst
  have hst8' : ∀ (s : St) (j : Nat), s j = some (.cells [V.sl .nil [] 0, V.sl .nil [] 0]) → s.upd j (.cells [V.sl .nil [] 0, V.sl .nil [] 0]) = s := fun s j hj => funext fun k => by
    by_cases ej : k = j
    · rw [ej, St.upd_same, hj]
    · rw [St.upd_other _ _ ej]
  have o11 := S.get
  rw [hst8' _ _ o11] at hst
  simp [hst]
  generalize st4.upd i11 _ = st5 at S o11 ⊢
  have hu : segOf [V.sl .nil [] 0, V.sl .nil [] 0] 0 2 = some [V.sl .nil [] 0, V.sl .nil [] 0] := rfl
  have hfl : fillV [V.sl .nil [] 0, V.sl .nil [] 0] [] = some [V.sl .nil [] 0, V.sl .nil [] 0] := rfl
  have S := bury2 S
  have o8 : st5 i8 = some (.cells [V.sl .nil [] 0, V.sl .nil [] 0]) := S.mem (by cases mo <;> cases mo2 <;> simp [SetL])
  have hst8 := store_pt (sz := 2) (o := 0) o8 (v := undo0) (vs := [V.sl .nil [] 0, V.sl .nil [] 0]) rfl rfl (by simp)
  rw [show spliceV [V.sl .nil [] 0, V.sl .nil [] 0] 0 [V.sl .nil [] 0, V.sl .nil [] 0] = [V.sl .nil [] 0, V.sl .nil [] 0] from rfl, hst8' _ _ o8, undo0] at hst8
  by_cases he : (conn1 t h sub cm).1 = 0
  · have hb' : ((conn1 t h sub cm).1 != 0) = false := by rw [he]; rfl
    obtain ⟨t1, t2, t3⟩ := takeOver (L := pt i11 (.cells [V.sl .nil [] 0, V.sl .nil [] 0]) :: pt i8 (.cells [V.sl .nil [] 0, V.sl .nil [] 0]) :: pt i5 (.cells (eBlk b)) :: L) S
    have hsg : segOf [V.map mo2] 0 1 = some [.map mo2] := rfl
    have hsto := store_pt (sz := 1) (o := off) t2 (v := .map mo2) (vs := [.map mo2]) rfl rfl (by have := hf.seg (.map mo); simp [segOf] at this; omega)
    rw [hf.spl] at hsto
    have W : SetS o f (conn1 t h sub cm).2 (pt i11 (.cells [V.sl .nil [] 0, V.sl .nil [] 0]) :: pt i8 (.cells [V.sl .nil [] 0, V.sl .nil [] 0]) :: pt i5 (.cells (eBlk b)) :: L) (st5.upd o (.cells (f (.map mo2)))) := ⟨mo2, hmo2, t3⟩
    obtain ⟨st6, hst6⟩ : ∃ s, s = st5.upd o (.cells (f (.map mo2))) := ⟨_, rfl⟩
    rw [← hst6] at hsto W
    simp [hb', St.seg, t1, lone, hsg, hsto]
    have o11 := W.ext (i := i11) (x := .cells [.sl .nil [] 0, .sl .nil [] 0]) (by simp)
    have o8 := W.ext (i := i8) (x := .cells [.sl .nil [] 0, .sl .nil [] 0]) (by simp)
    have hst8 := store_pt (sz := 2) (o := 0) o8 (v := undo0) (vs := [V.sl .nil [] 0, V.sl .nil [] 0]) rfl rfl (by simp)
    rw [show spliceV [V.sl .nil [] 0, V.sl .nil [] 0] 0 [V.sl .nil [] 0, V.sl .nil [] 0] = [V.sl .nil [] 0, V.sl .nil [] 0] from rfl, hst8' _ _ o8, undo0] at hst8
    simp [o11, hu, hst8, St.seg, o8, undo0, he]
    exact ⟨st6, sub_self _, W.tail fun r h => h.drop.drop.drop⟩
  · have hb' : ((conn1 t h sub cm).1 != 0) = true := by simpa using he
    rw [conn1_err he] at S ⊢
    simp [hb', he, hfl, hst8, St.seg, o8, hu, undo0]
    exact ⟨st5, sub_self _, mo, hmo, by
      have S2 : Sep (SetL o f cm mo ++ L) st5 := by
        cases mo2 with
        | none =>
          cases mo with
          | none => exact S.drop.tail fun r h => h.drop.drop.drop
          | some m => exact S.drop.tail fun r h => h.tail fun r h => h.drop.drop.drop
        | some m2 =>
          cases mo with
          | none => exact S.drop.drop.tail fun r h => h.drop.drop.drop
          | some m => exact S.drop.drop.tail fun r h => h.tail fun r h => h.drop.drop.drop
      exact S2⟩
end
end Go.Ab
set_option linter.unusedSimpArgs false
set_option linter.unusedVariables false
set_option maxRecDepth 10000
namespace Go.Ab
open Go Go.RowKit
structure Undo1 where
  pk : SK
  ps : List Pt
  ck : SK
  cs : List Coin1
def vUndo (u : Undo1) : V := .agg [.sl u.pk (rowsOf ePt u.ps) u.ps.length, .sl u.ck (rowsOf eCoin u.cs) u.cs.length]
def vBlk (b : Blk1) : V := .agg (eBlk b)
def chF (tid bid uid : Nat) (tip : Int) (v : V) : List V := [.ptr (some (tid, 0)), v, .map (some bid), .map (some uid), .int .i64 tip]
theorem ch_hole (tid bid uid : Nat) (tip : Int) : Hole (chF tid bid uid tip) 1 := ⟨fun _ => rfl, fun _ _ => rfl⟩
abbrev Bods := List (Int × Blk1)
abbrev Unds := List (Int × Undo1)
structure Ch where
  r : Rl
  l : List Nd
  cm : CM
  bs : Bods
  us : Unds
  tip : Int
def ChL (c : Ch) (tid bid uid : Nat) : List Asn := [TreeS tid c.r c.l, pt bid (.mp (encM kInt vBlk c.bs)), pt uid (.mp (encM kInt vUndo c.us))]
def ChS (cid : Nat) (c : Ch) (L : List Asn) (st : St) : Prop := ∃ tid bid uid, SetS cid (chF tid bid uid c.tip) c.cm (ChL c tid bid uid ++ L) st
structure ChR (cid : Nat) (c : Ch) (st : St) (mo : Option Nat) (tid bid uid : Nat) : Prop where
  top : st cid = some (.cells (chF tid bid uid c.tip (.map mo)))
  tree : c.l ≠ [] → TreeR tid c.r c.l st
  bod : st bid = some (.mp (encM kInt vBlk c.bs))
  und : st uid = some (.mp (encM kInt vUndo c.us))
theorem ChS.read {cid : Nat} {c : Ch} {L : List Asn} {st : St} (h : ChS cid c L st) : ∃ mo tid bid uid, ChR cid c st mo tid bid uid := by
  obtain ⟨tid, bid, uid, mo, h0, S⟩ := h
  refine ⟨mo, tid, bid, uid, ?_⟩
  cases mo with
  | none => exact ⟨S.get, fun hl => S.drop.treeR hl, S.drop.drop.get, S.drop.drop.drop.get⟩
  | some m => exact ⟨S.get, fun hl => S.drop.drop.treeR hl, S.drop.drop.drop.get, S.drop.drop.drop.drop.get⟩
theorem ChR.sub {cid : Nat} {c : Ch} {st st' : St} {mo : Option Nat} {tid bid uid : Nat} (h : ChR cid c st mo tid bid uid) (hs : St.sub st st') : ChR cid c st' mo tid bid uid :=
  ⟨hs _ _ h.top, fun hl => (h.tree hl).sub hs, hs _ _ h.bod, hs _ _ h.und⟩
theorem rsegBlk (r : Rl) : segOf (eRl r) 5 69 = some (eHdr r.gen ++ [r.txs]) := by
  refine rseg r ?_ (by omega)
  show (eHdr r.gen ++ [r.txs]).take 69 = _
  rw [List.take_of_length_le]
  simp [eHdr_len]
section
variable {P : Program} {F : Fn}
set_option maxHeartbeats 4000000 in
theorem spec265a (ok : OkChain P F) (hc : CloneC P (F 256)) (st : St) (r : Rl) (b : Blk1) (t : Tx1) (hh : b.hdr = r.gen) (hx : r.txs = txsV b.tk b.txs) (hb : b.txs = [t]) (ht : t.ok 100)
    (e1 : checkM r = 0) (e2 : blkE b = 0) (e3 : (conn1 t 0 r.subsidy []).1 = 0) :
    ACalls P (F 265) [.agg (eRl r)] st fun v st' => ∃ c, v = .tup [.ptr (some (c, 0)), .int .i64 0] ∧ ChS c ⟨r, newM r, (conn1 t 0 r.subsidy []).2, [(0, b)], [], 0⟩ [Was st] st' := by
  have okc2 := ok.toOkCoins.toOkCheck2
  have oki := ok.toOkLocate.toOkIndexZ.toOkIndex
  have hsub : -4611686018427387904 ≤ r.subsidy ∧ r.subsidy ≤ 4611686018427387904 := by
    unfold checkM at e1
    split at e1
    · cases e1
    · split at e1
      · cases e1
      · omega
  have hblk : eHdr r.gen ++ [r.txs] = eBlk b := by rw [eBlk, hh, hx]
  refine shows_call ok.mixed ok.h265 (by simp [k265]) ?_
  simp only [k265]
  simp
  intro i1 h1
  have S := (Sep.start st).new h1 (.cells (eRl r))
  generalize st.upd i1 _ = st1 at S ⊢
  have o1 := S.get
  simp [St.seg, o1, rsegAll]
  refine (spec155 oki st1 r).mono ?_
  intro v st2 hv
  rw [if_pos e1] at hv
  obtain ⟨tid, rfl, S2⟩ := hv
  have S := S2.ov S
  have o1 := S.drop.get
  have s5 := rsegBlk r
  rw [hblk] at s5
  simp [St.seg, o1, s5]
  refine (spec253 okc2 st2 b (by rw [hb]; simp) (by rw [hb]; intro u hu; rw [List.mem_singleton.1 hu]; exact ⟨by have := ht.1; omega, by have := ht.2.1; omega, fun x hx => by have := ht.2.2 x hx; omega⟩)).mono ?_
  rintro v st3 ⟨rfl, hs⟩
  have S := S.sub hs
  simp [e2]
  intro bid hbid
  have S := S.new hbid (.mp [])
  have hms := mset_enc keyed_int (ev := vBlk) (l := []) S.get 0 b
  have o1 := S.drop.drop.get
  have S := S.set (.mp (encM kInt vBlk [(0, b)]))
  have hms' : msetS (st3.upd bid (.mp [])) .int (.map (some bid)) (.int .i64 0) (.agg (eBlk b)) = some (st3.upd bid (.mp (encM kInt vBlk [(0, b)]))) := by
    rw [show st3.upd bid (.mp (encM kInt vBlk [(0, b)])) = (st3.upd bid (.mp [])).upd bid (.mp (encM kInt vBlk [(0, b)])) by simp]
    exact hms
  simp at S o1
  simp [St.seg, o1, s5, hms']
  generalize st3.upd bid (.mp (encM kInt vBlk [(0, b)])) = st4 at S ⊢
  intro uid huid
  have S := S.new huid (.mp [])
  generalize st4.upd uid (.mp []) = st5 at S ⊢
  simp [fillV, spliceV]
  intro cid hcid
  have S := S.new hcid (.cells (chF tid bid uid 0 (.map none)))
  simp [chF] at S ⊢
  generalize st5.upd cid _ = st6 at S ⊢
  have W : SetS cid (chF tid bid uid 0) [] ([pt uid (.mp []), pt bid (.mp (encM kInt vBlk [(0, b)])), TreeS tid r (newM r), pt i1 (.cells (eRl r)), Was st]) st6 := ⟨none, fun _ => rfl, S⟩
  have o1 := W.ext (i := i1) (x := .cells (eRl r)) (by simp)
  have s3 := rsegSubsidy r
  simp [St.seg, o1, s5, s3]
  refine (spec260a ok.toOkCoins hc (ch_hole tid bid uid 0) W b t hb ht 0 r.subsidy hsub.1 hsub.2).mono ?_
  rintro v st7 ⟨rfl, W⟩
  simp
  intro i8 h8
  have W := W.new h8 (.cells [.sl .nil [] 0, .sl .nil [] 0])
  have hst := store_pt (sz := 2) (o := 0) (W.ext (i := i8) (x := .cells [.sl .nil [] 0, .sl .nil [] 0]) (by simp)) (v := undo0) (vs := [V.sl .nil [] 0, V.sl .nil [] 0]) rfl rfl (by simp)
  rw [show spliceV [V.sl .nil [] 0, V.sl .nil [] 0] 0 [V.sl .nil [] 0, V.sl .nil [] 0] = [V.sl .nil [] 0, V.sl .nil [] 0] from rfl] at hst
  simp at hst
  simp [hst, e3]
  refine ⟨_, sub_self _, tid, bid, uid, W.tail fun r' h => ?_⟩
  have h := h.drop
  have h : Sep ([TreeS tid r (newM r), pt bid (.mp (encM kInt vBlk [(0, b)])), pt uid (.mp []), pt i1 (.cells (eRl r)), Was st]) r' := (h.pull 2).tail fun r h => h.swap
  exact h.tail fun r h => h.tail fun r h => h.tail fun r h => h.drop
end
end Go.Ab
set_option linter.unusedSimpArgs false
set_option linter.unusedVariables false
set_option maxRecDepth 10000
namespace Go.Ab
open Go Go.RowKit
section
variable {P : Program} {F : Fn}
variable {cid tid bid uid : Nat} {c : Ch} {mo : Option Nat}
theorem cseg0 (tid bid uid : Nat) (tip : Int) (v : V) : segOf (chF tid bid uid tip v) 0 1 = some [.ptr (some (tid, 0))] := rfl
theorem cseg2 (tid bid uid : Nat) (tip : Int) (v : V) : segOf (chF tid bid uid tip v) 2 1 = some [.map (some bid)] := rfl
theorem cseg4 (tid bid uid : Nat) (tip : Int) (v : V) : segOf (chF tid bid uid tip v) 4 1 = some [.int .i64 tip] := rfl
theorem spec266 (ok : OkChain P F) {st : St} (h : ChR cid c st mo tid bid uid) : ACalls P (F 266) [.ptr (some (cid, 0))] st fun v st' => v = .int .i64 c.tip ∧ st' = st := by
  refine shows_call ok.mixed ok.h266 (by simp [k266]) ?_
  simp only [k266]
  simp [St.seg, h.top, cseg4]
theorem nseg107 (x : Nd) : segOf (eNd x) 107 1 = some [.bool x.failed] := seg_of_take (nsegFail x) (by rw [eNd_len]; omega)
def hasM (c : Ch) (i : Int) : Bool := (lk i c.bs).isSome
theorem spec268 (ok : OkChain P F) {st : St} (h : ChR cid c st mo tid bid uid) (i : Int) : ACalls P (F 268) [.ptr (some (cid, 0)), .int .i64 i] st fun v st' => v = .bool (hasM c i) ∧ st' = st := by
  refine shows_call ok.mixed ok.h268 (by simp [k268]) ?_
  simp only [k268]
  have hl := lookup_lk keyed_int (ev := vBlk) h.bod (V.agg z69_adc1) i
  obtain ⟨ys, hys, hlen⟩ : ∃ ys, ((lk i c.bs).map vBlk).getD (V.agg z69_adc1) = .agg ys ∧ ys.length = 69 := by
    cases lk i c.bs with
    | none => exact ⟨_, rfl, rfl⟩
    | some b => exact ⟨_, rfl, eBlk_len b⟩
  rw [hys] at hl
  have hl : lookupV st .int (V.agg z69_adc1) true (.map (some bid)) (.int .i64 i) = some (.tup [.agg ys, .bool (hasM c i)]) := hl
  simp [St.seg, h.top, cseg2, hl]
  intro i5 h5
  have hst := store_pt (sz := 69) (o := 0) (St.upd_same st i5 (.cells z69_adc1)) (v := .agg ys) (vs := ys) rfl hlen (by simp)
  simp [hst]
  exact sub_upd h5
end
end Go.Ab
set_option linter.unusedSimpArgs false
set_option linter.unusedVariables false
set_option maxRecDepth 10000
namespace Go.Ab
open Go Go.RowKit
def ChA (cid : Nat) (c : Ch) : Asn := fun h => ChS cid c [] h
theorem ChS.asn {cid : Nat} {c : Ch} {L : List Asn} {st : St} (h : ChS cid c L st) : Sep (ChA cid c :: L) st := by
  obtain ⟨tid, bid, uid, mo, h0, S⟩ := h
  cases mo with
  | none => exact (Sep.all (L1 := SetL cid (chF tid bid uid c.tip) c.cm none ++ ChL c tid bid uid) S).head fun h hh => ⟨tid, bid, uid, none, h0, by rw [List.append_nil]; exact hh⟩
  | some m => exact (Sep.all (L1 := SetL cid (chF tid bid uid c.tip) c.cm (some m) ++ ChL c tid bid uid) S).head fun h hh => ⟨tid, bid, uid, some m, h0, by rw [List.append_nil]; exact hh⟩
theorem chRead {cid : Nat} {c : Ch} {L : List Asn} {st : St} (h : Sep (ChA cid c :: L) st) : ∃ mo tid bid uid, ChR cid c st mo tid bid uid := by
  obtain ⟨h', hs, hc⟩ := h.part
  obtain ⟨mo, tid, bid, uid, hr⟩ := ChS.read hc
  exact ⟨mo, tid, bid, uid, hr.sub hs⟩
theorem WinS.ov {A : Asn} {t : Nat} {es : Fls} {sl : Int} {L : List Asn} {st st' : St} (h : Sep [A, Was st] st') (W : WinS t es sl L st) : WinS t es sl (A :: L) st' := by
  obtain ⟨mo, h0, S⟩ := W
  have S := h.ov S
  refine ⟨mo, h0, ?_⟩
  cases mo with
  | none => exact S.swap
  | some m => exact (S.pull 2).pull 2
theorem WinS.front {A : Asn} {t : Nat} {es : Fls} {sl : Int} {L : List Asn} {st : St} (W : WinS t es sl (A :: L) st) : ∃ mo, (mo = none → es = []) ∧ Sep (A :: (WinL t es sl mo ++ L)) st := by
  obtain ⟨mo, h0, S⟩ := W
  refine ⟨mo, h0, ?_⟩
  cases mo with
  | none => exact S.swap
  | some m => exact S.pull 2
theorem WinS.back {A : Asn} {t : Nat} {es : Fls} {sl : Int} {L : List Asn} {st : St} {mo : Option Nat} (h0 : mo = none → es = []) (S : Sep (A :: (WinL t es sl mo ++ L)) st) : WinS t es sl (A :: L) st := by
  refine ⟨mo, h0, ?_⟩
  cases mo with
  | none => exact S.swap
  | some m => exact (S.pull 2).pull 2
def wantGo (c : Ch) (es : Fls) (top left : Int) : List Int → List Int → List Int
  | out, [] => out
  | out, i :: r =>
    if left ≤ (out.length : Int) ∨ top < ((nd c.l (inI c.l i)).height : Int) then out
    else if (lk i es).isSome = false ∧ hasM c i = false then wantGo c es top left (out ++ [i]) r
    else wantGo c es top left out r
def wantM (c : Ch) (es : Fls) (peer best : Int) : List Int :=
  if best < 0 ∨ (c.l.length : Int) ≤ best ∨ (nd c.l (inI c.l best)).failed = true then []
  else wantGo c es (((nd c.l (inI c.l c.tip)).height : Int) + 1024) (16 - (countM es peer : Int)) [] (wayI c.l (meetM c.l (clI c.l c.tip) (clI c.l best) : Nat) best)
theorem WinS.look {t : Nat} {es : Fls} {sl : Int} {L : List Asn} {st : St} (W : WinS t es sl L st) (i : Int) : ∃ mv, st t = some (.cells [mv, .int .i64 sl]) ∧
    lookupV st .int (V.agg [.int .i64 0, .int .i64 0]) true mv (.int .i64 i) = some (.tup [vFl ((lk i es).getD (0, 0)), .bool (lk i es).isSome]) := by
  obtain ⟨mo, h0, S⟩ := W
  cases mo with
  | none =>
    have he : es = [] := h0 rfl
    subst he
    exact ⟨_, S.get, lookup_none keyed_int (st := st) (V.agg [.int .i64 0, .int .i64 0]) true i⟩
  | some m =>
    have hl := lookup_lk keyed_int (ev := vFl) (S.drop.get) (V.agg [.int .i64 0, .int .i64 0]) i
    have hx : ((lk i es).map vFl).getD (V.agg [.int .i64 0, .int .i64 0]) = vFl ((lk i es).getD (0, 0)) := by
      cases lk i es <;> rfl
    rw [hx] at hl
    exact ⟨_, S.get, hl⟩
theorem wayI_len {l : List Nd} (w : Wf l) (a b : Int) (hb : b < l.length) : (wayI l a b).length ≤ l.length := by
  unfold wayI
  split
  · rw [wayM_len]
    by_cases h : b.toNat < l.length
    · have := w.hgt_le h
      omega
    · have h0 : hgt l b.toNat = 0 := by simp [hgt, List.getElem?_eq_none (Nat.le_of_not_lt h)]
      omega
  · exact Nat.zero_le _
section
variable {P : Program} {F : Fn}
set_option maxHeartbeats 8000000 in
theorem spec289 (ok : OkWindow P F) {st : St} {t cid : Nat} {c : Ch} {es : Fls} {sl : Int} {L : List Asn} (W : WinS t es sl (ChA cid c :: L) st) (w : Wf c.l) (hl : c.l.length ≤ 16384) (he : es.length ≤ 1000000) (peer best : Int) :
    ACalls P (F 289) [.ptr (some (t, 0)), .ptr (some (cid, 0)), .int .i64 peer, .int .i64 best] st fun v st' => WinS t es sl (Slx 1 e1 v (wantM c es peer best) :: ChA cid c :: L) st' := by
  have okc := ok.toOkChain
  have okl := okc.toOkLocate
  have oki := okl.toOkIndexZ.toOkIndex
  refine shows_call ok.mixed ok.h289 (by simp [k289]) ?_
  simp only [k289]
  obtain ⟨cmo, tid, bid, uid, R⟩ := chRead W.rest
  have T := R.tree w.neNil
  have o1 := R.top
  have hnil : WinS t es sl (Slx 1 e1 (.sl .nil [] 0) [] :: ChA cid c :: L) st := by
    obtain ⟨mo, h0, S⟩ := W
    exact WinS.back h0 (Sep.slxNil S)
  by_cases c1 : best < 0
  · have e : wantM c es peer best = [] := by rw [wantM, if_pos (.inl c1)]
    simp [c1, e]
    exact ⟨st, sub_self _, hnil⟩
  simp [c1, St.seg, o1, cseg0]
  refine (spec159 oki T).mono ?_
  rintro v st1 ⟨rfl, rfl⟩
  by_cases c2 : (c.l.length : Int) ≤ best
  · have e : wantM c es peer best = [] := by rw [wantM, if_pos (.inr (.inl c2))]
    simp [c2, e]
    exact ⟨st1, sub_self _, hnil⟩
  simp [c2, St.seg, o1, cseg0]
  refine (spec161 oki T w best).mono ?_
  rintro v st2 ⟨rfl, rfl⟩
  have hfF : ∀ x, fldV false 107 1 (V.agg (eNd x)) = some (.bool x.failed) := fun x => by
    show (segOf _ 107 1).bind (packV false) = _
    rw [nseg107]; rfl
  have hfH : ∀ x, fldV false 102 1 (V.agg (eNd x)) = some (.int .i64 x.height) := fun x => by
    show (segOf _ 102 1).bind (packV false) = _
    rw [osegHgt]; rfl
  cases c3 : (nd c.l (inI c.l best)).failed with
  | true =>
    have e : wantM c es peer best = [] := by rw [wantM, if_pos (.inr (.inr c3))]
    simp [hfF, c3, e]
    exact ⟨st2, sub_self _, hnil⟩
  | false =>
    have e : wantM c es peer best = wantGo c es (((nd c.l (inI c.l c.tip)).height : Int) + 1024) (16 - (countM es peer : Int)) [] (wayI c.l (meetM c.l (clI c.l c.tip) (clI c.l best) : Nat) best) := by
      rw [wantM, if_neg (by rw [c3]; rintro (h | h | h); exact c1 h; exact c2 h; cases h)]
    rw [e]
    have hhgt : ∀ i, ((nd c.l (inI c.l i)).height : Int) ≤ 16384 := fun i => by
      have h1 := inI_lt w i
      have h2 := w.hgt_le h1
      have h3 : hgt c.l (inI c.l i) = (nd c.l (inI c.l i)).height := (nd_hgt_eq h1).symm
      omega
    have w1 : IntKind.i64.wrap (((nd c.l (inI c.l c.tip)).height : Int) + 1024) = ((nd c.l (inI c.l c.tip)).height : Int) + 1024 := wrap64 (by omega) (by have := hhgt c.tip; omega)
    simp [hfF, c3, St.seg, o1, cseg0]
    refine still_call _ _ _ _ (by simpa using spec266 okc R) ?_
    simp
    refine still_call _ _ _ _ (by simpa using spec161 oki T w c.tip) ?_
    simp [hfH, w1, St.seg, o1, cseg0]
    refine still_call _ _ _ _ (by simpa using spec266 okc R) ?_
    simp
    refine still_call _ _ _ _ (by simpa using spec228 okl T w hl c.tip best) ?_
    simp
    refine (spec281 ok W peer he).mono ?_
    rintro v st3 ⟨rfl, W⟩
    obtain ⟨cmo, tid, bid, uid, R⟩ := chRead W.rest
    have T := R.tree w.neNil
    have o1 := R.top
    have hcm : countM es peer ≤ es.length := List.countP_le_length
    have w2 : IntKind.i64.wrap (16 - (countM es peer : Int)) = 16 - (countM es peer : Int) := wrap64 (by omega) (by omega)
    simp [w2, St.seg, o1, cseg0]
    refine (spec229 okl T w hl _ best).mono ?_
    intro vw st4 S1
    have W := W.ov S1
    clear R T o1 S1
    obtain ⟨way, hway⟩ : ∃ x, x = wayI c.l (meetM c.l (clI c.l c.tip) (clI c.l best) : Nat) best := ⟨_, rfl⟩
    have hwl : way.length ≤ 16384 := by
      have := wayI_len w (meetM c.l (clI c.l c.tip) (clI c.l best) : Nat) best (by omega)
      rw [← hway] at this
      omega
    rw [← hway] at W ⊢
    obtain ⟨top, htop⟩ : ∃ x, x = ((nd c.l (inI c.l c.tip)).height : Int) + 1024 := ⟨_, rfl⟩
    obtain ⟨left, hleft⟩ : ∃ x, x = 16 - (countM es peer : Int) := ⟨_, rfl⟩
    rw [← htop, ← hleft]
    have hwr := (Sep.rd e1_len W.rest).len
    simp [hwr]
    have W : WinS t es sl (Slx 1 e1 (.sl .nil [] 0) [] :: Sl 1 e1 vw way :: ChA cid c :: L) st4 := by
      obtain ⟨mo, h0, S⟩ := W
      exact WinS.back h0 (Sep.slxNil S)
    refine vc_joinB (M := fun env' st' => WinS t es sl (Slx 1 e1 (env' 12) (wantGo c es top left [] way) :: ChA cid c :: L) st') ?_ ?_
    · refine vc_loopJ (fun n env' st' => ∃ (i : Nat) (out : List Int), i ≤ way.length ∧ out.length ≤ i ∧ n = way.length - i ∧ env' 66 = .int .i64 (i : Nat) ∧ wantGo c es top left out (way.drop i) = wantGo c es top left [] way ∧ WinS t es sl (Slx 1 e1 (env' 12) out :: Sl 1 e1 vw way :: ChA cid c :: L) st') way.length
        ⟨0, [], by omega, by simp, by omega, by simp, rfl, by simpa using W⟩ ?_
      rintro J hJ n env' st5 hsame ⟨i, out, hi, hol, rfl, h66, hgo, W⟩
      have g0 := (hsame.get 0 rfl).trans (by simp : _ = V.ptr (some (t, 0)))
      have g1 := (hsame.get 1 rfl).trans (by simp : _ = V.ptr (some (cid, 0)))
      have g9 := (hsame.get 9 rfl).trans (by simp : _ = V.int .i64 top)
      have g11 := (hsame.get 11 rfl).trans (by simp : _ = V.int .i64 left)
      have g64 := (hsame.get 64 rfl).trans (by simp : _ = vw)
      have g65 := (hsame.get 65 rfl).trans (by simp : _ = V.int .i64 (way.length : Int))
      clear hsame
      by_cases hlt : i < way.length
      · obtain ⟨r1, r2, r3, r4⟩ := (Sep.rd e1_len W.rest.drop).row e1_len hlt
        rw [List.drop_eq_getElem_cons hlt, wantGo] at hgo
        obtain ⟨x, hx⟩ : ∃ x, x = way[i] := ⟨_, rfl⟩
        rw [← hx] at r3 hgo
        have w1 : IntKind.i64.wrap ((i : Int) + 1) = (i : Int) + 1 := wrap64 (by omega) (by omega)
        obtain ⟨mv, ot, hlook⟩ := W.look x
        have sg : segOf [mv, V.int .i64 sl] 0 1 = some [mv] := rfl
        simp [g0, g64, g65, h66, hlt, r1, r3, e1, St.seg, ot, sg, hlook]
        intro i15 h15
        have W := W.new h15 (.cells (eFl ((lk x es).getD (0, 0))))
        have key : storeS (st5.upd i15 (.cells [.int .i64 0, .int .i64 0])) 2 (.ptr (some (i15, 0))) (vFl ((lk x es).getD (0, 0))) = some (st5.upd i15 (.cells (eFl ((lk x es).getD (0, 0))))) := by
          rw [store_pt (sz := 2) (o := 0) (vs := eFl ((lk x es).getD (0, 0))) (St.upd_same _ _ _) rfl rfl (by simp)]
          simp [spliceV, eFl]
        simp [key]
        generalize st5.upd i15 _ = st6 at W ⊢
        have W := W.tail fun r h => h.drop
        have hln := (Sep.rd e1_len (W.rest.head fun h hh => hh.sl)).len
        obtain ⟨cmo, tid, bid, uid, R⟩ := chRead W.rest.drop.drop
        have T := R.tree w.neNil
        have o1 := R.top
        have hbreak : (left ≤ (out.length : Int) ∨ top < ((nd c.l (inI c.l x)).height : Int)) → WinS t es sl (Slx 1 e1 (env' 12) (wantGo c es top left [] way) :: ChA cid c :: L) st6 := fun hb => by
          rw [if_pos hb] at hgo
          rw [← hgo]
          exact W.tail fun r h => h.tail fun r h => h.drop
        by_cases c4 : left ≤ (out.length : Int)
        · simp [hln, g11, c4]
          exact hbreak (.inl c4)
        simp [hln, g1, g9, g11, c4, St.seg, o1, cseg0]
        refine (spec161 oki T w x).mono ?_
        rintro v st7 ⟨rfl, rfl⟩
        by_cases c5 : top < ((nd c.l (inI c.l x)).height : Int)
        · simp [hfH, g9, c5]
          exact hbreak (.inr c5)
        rw [if_neg (by rintro (h | h); exact c4 h; exact c5 h)] at hgo
        cases c6 : (lk x es).isSome with
        | true =>
          rw [if_neg (by rw [c6]; rintro ⟨h, -⟩; cases h)] at hgo
          simp [hfH, g9, c5, c6, h66, w1]
          exact Round.mk (way.length - (i + 1)) _ (by omega) (sub_self _) (hJ _ _ _ ⟨i + 1, out, by omega, by omega, rfl, by simp, hgo, by simpa using W⟩)
        | false =>
          simp [hfH, g1, g9, c5, c6]
          refine (spec268 okc R x).mono ?_
          rintro v st8 ⟨rfl, rfl⟩
          cases c7 : hasM c x with
          | true =>
            rw [if_neg (by rw [c7]; rintro ⟨-, h⟩; cases h)] at hgo
            simp [h66, w1]
            exact Round.mk (way.length - (i + 1)) _ (by omega) (sub_self _) (hJ _ _ _ ⟨i + 1, out, by omega, by omega, rfl, by simp, hgo, by simpa using W⟩)
          | false =>
            rw [if_pos ⟨c6, c7⟩] at hgo
            have hfb : fillV (repV [V.int .i64 0] 1) [(0, 1, V.int .i64 x)] = some [.int .i64 x] := rfl
            have hel : elems st8 1 (.sl .full [.int .i64 x] 1) = some (rowsOf e1 [x], 1) := by simp [elems, e1]
            simp [hfb, hel]
            obtain ⟨mo, h0, S⟩ := W.front
            refine Sep.appx' (b := 8) e1_len (by omega) S [x] rfl rfl (by simp only [List.length_singleton]; omega) ?_
            intro s' st9 S
            have W := WinS.back h0 S
            simp [h66, w1]
            exact Round.mk (way.length - (i + 1)) _ (by omega) (sub_self _) (hJ _ _ _ ⟨i + 1, out ++ [x], by omega, by simp; omega, rfl, by simp, hgo, by simpa using W⟩)
      · have : i = way.length := by omega
        subst this
        rw [List.drop_length, wantGo] at hgo
        rw [hgo] at W
        simp [g65, h66]
        exact W.tail fun r h => h.tail fun r h => h.drop
    · rintro env' st5 hsame W
      simp
      exact ⟨st5, sub_self _, W⟩
end
end Go.Ab
set_option linter.unusedSimpArgs false
set_option linter.unusedVariables false
set_option maxRecDepth 10000
namespace Go.Ab
open Go Go.RowKit
section
variable {P : Program} {F : Fn}
end
end Go.Ab
set_option linter.unusedSimpArgs false
set_option linter.unusedVariables false
set_option maxRecDepth 10000
namespace Go.Ab
open Go Go.RowKit
section
variable {α : Type} {f : α → List V} {sz : Nat}
def Slv (sz : Nat) (f : α → List V) (s : V) (l : List α) : Asn := fun h =>
  (∃ k, (k = .nil ∨ k = .full) ∧ s = .sl k (rowsOf f l) l.length) ∨ ∃ sid, s = .hsl sid 0 sz l.length ∧ h sid = some (.cells (rowsOf f l))
theorem Sep.slvPut {L : List Asn} {st : St} (h : Sep L st) (l : List α) : Sep (Slv sz f (.sl .full (rowsOf f l) l.length) l :: L) st := h.put (.inl ⟨.full, .inr rfl, rfl⟩)
theorem Sep.appv (hf : ∀ a, (f a).length = sz) (hsz : 0 < sz) {s : V} {l : List α} {L : List Asn} {st : St} (h : Sep (Slv sz f s l :: L) st) {b : Nat} (m : List α) {ys : List V} {n : Nat} (hys : ys = rowsOf f m) (hn : n = m.length) (hb : (l.length + n) * b ≤ 140737488355328) {K : V → St → Prop}
    (hK : ∀ s' st', Sep (Slv sz f s' (l ++ m) :: L) st' → K s' st') : appS sz b s (some (ys, n)) st K := by
  subst hys
  subst hn
  have h0 := h
  obtain ⟨a0, r, h1, h2, h3, h4⟩ := h
  have hl := rowsOf_length hf l
  have hm := rowsOf_length hf m
  rcases h3 with ⟨k, hk, rfl⟩ | ⟨sid, rfl, h5⟩
  · refine ⟨hk, hl, hb, ?_, ?_⟩
    · intro h0'
      have : m = [] := List.length_eq_zero_iff.1 h0'
      subst this
      exact hK _ _ (by simpa using h0)
    · intro h0' id hid
      refine hK _ _ ?_
      have hsub : St.sub r st := sub_trans (sub_right h1) h2
      have := (h4.sub hsub).new hid (.cells (rowsOf f l ++ rowsOf f m))
      exact this.head fun h hh => .inr ⟨id, by simp, hh.trans (by simp)⟩
  · refine Sep.appx hf hsz (l := l) (L := L) ⟨a0, r, h1, h2, .inr ⟨sid, rfl, h5⟩, h4⟩ hb ?_
    intro s' st' S
    refine hK _ _ (S.head fun h hh => ?_)
    rcases hh with ⟨hs, he⟩ | hh
    · rw [he]
      rcases hs with rfl | rfl
      · exact .inl ⟨.nil, .inl rfl, rfl⟩
      · exact .inl ⟨.full, .inr rfl, rfl⟩
    · exact .inr hh
end
section
variable {P : Program} {F : Fn}
end
end Go.Ab
set_option linter.unusedSimpArgs false
set_option linter.unusedVariables false
set_option maxRecDepth 10000
namespace Go.Ab
open Go Go.RowKit
theorem chGrow {P : Program} {cid : Nat} {c : Ch} {L : List Asn} {st : St} (S : Sep (ChA cid c :: L) st) : ∃ mo tid bid uid, ChR cid c st mo tid bid uid ∧
    ∀ (f : FuncId) (args : List V) (R : V → Prop) (l' : List Nd), (∀ h, TreeS tid c.r c.l h → ACalls P f args h fun v h' => R v ∧ TreeS tid c.r l' h') →
      ACalls P f args st fun v st' => R v ∧ Sep (ChA cid { c with l := l' } :: L) st' := by
  obtain ⟨a, r, hd, hs, ⟨tid, bid, uid, mo, h0, Si⟩, hL⟩ := S
  have hch : ChS cid c [] a := ⟨tid, bid, uid, mo, h0, Si⟩
  have hsub : St.sub a st := fun i o e => hs i o (add_some e)
  have R0 : ChR cid c a mo tid bid uid := by
    cases mo with
    | none => exact ⟨Si.get, fun hl => Si.drop.treeR hl, Si.drop.drop.get, Si.drop.drop.drop.get⟩
    | some m => exact ⟨Si.get, fun hl => Si.drop.drop.treeR hl, Si.drop.drop.drop.get, Si.drop.drop.drop.drop.get⟩
  refine ⟨mo, tid, bid, uid, R0.sub hsub, fun f args R l' hf => ?_⟩
  have S' : Sep ((fun h => Sep (SetL cid (chF tid bid uid c.tip) c.cm mo ++ (ChL c tid bid uid ++ [])) h) :: L) st := ⟨a, r, hd, hs, Si, hL⟩
  refine (Sep.call S' (R := fun v h' => R v ∧ ChA cid { c with l := l' } h') fun h hh => ?_).mono ?_
  · cases mo with
    | none =>
      have hh : Sep (TreeS tid c.r c.l :: pt cid (.cells (chF tid bid uid c.tip (.map none))) :: [pt bid (.mp (encM kInt vBlk c.bs)), pt uid (.mp (encM kInt vUndo c.us))]) h := Sep.swap hh
      refine (Sep.call hh hf).mono ?_
      intro v h' S
      have hv : R v := by
        obtain ⟨x, -, h2⟩ := S.part
        exact h2.1
      exact ⟨hv, tid, bid, uid, none, h0, (S.head fun x hx => hx.2).swap⟩
    | some m =>
      have hh : Sep (TreeS tid c.r c.l :: pt cid (.cells (chF tid bid uid c.tip (.map (some m)))) :: pt m (.mp (encM kPt vCoin c.cm)) :: [pt bid (.mp (encM kInt vBlk c.bs)), pt uid (.mp (encM kInt vUndo c.us))]) h := Sep.pull 2 _ hh
      refine (Sep.call hh hf).mono ?_
      intro v h' S
      have hv : R v := by
        obtain ⟨x, -, h2⟩ := S.part
        exact h2.1
      exact ⟨hv, tid, bid, uid, some m, h0, Sep.pull 2 _ (Sep.pull 2 _ (S.head fun x hx => hx.2))⟩
  · intro v st' S
    have hv : R v := by
      obtain ⟨x, -, h2⟩ := S.part
      exact h2.1
    exact ⟨hv, S.head fun x hx => hx.2⟩
def w18In (m : UInt8) : In1 := ⟨id0, 4294967295#32, .full, [m]⟩
def w18Tx (m : UInt8) : Tx1 := ⟨.full, [w18In m], .full, [⟨50, id0⟩]⟩
theorem w18Tx_ok (m : UInt8) : (w18Tx m).ok 100 := ⟨by simp [w18Tx], by simp [w18Tx], fun x hx => by rw [List.mem_singleton.1 hx]; simp [w18In]⟩
theorem w18Fill (m : UInt8) : fillV z34_1838 [(0, 33, .agg (eId id0 ++ [w32 4294967295#32])), (33, 1, .sl .full [w8 m] 1)] = some (eIn (w18In m)) := rfl
theorem w18Fill2 : fillV z33_0be4 [(0, 1, .int .i64 50)] = some (eOut ⟨50, id0⟩) := rfl
def w18Root (m : UInt8) : Id := (rootM [txIdM (w18Tx m)]).1
def w18G : Blk1 := ⟨{ hdr0 with root := w18Root 0, bits := easyB }, .full, [w18Tx 0]⟩
def w18R : Rl := ⟨easyB, 0, 10, 50, 0, w18G.hdr, txsV .full [w18Tx 0]⟩
def w18B (x : Nd) (m : UInt8) : Blk1 := ⟨(mineN { hdr0 with prev := x.id, root := w18Root m, time := x.hdr.time + 1, bits := easyB } easyB 1000).getD hdr0, .full, [w18Tx m]⟩
def w18Step (s : List Nd × List Blk1) (i : Nat) (p : Int) : List Nd × List Blk1 :=
  let b := w18B (nd s.1 (inI s.1 (max 0 (min p ((s.1.length : Int) - 1))))) (UInt8.ofBitVec (BitVec.ofInt 8 ((i : Int) + 1)))
  let a := addM w18R s.1 b.hdr 1099511627776
  (a.1, if a.2.2 = 0 then s.2 ++ [b] else s.2)
def w18Go : Nat → List Int → List Nd × List Blk1 → List Nd × List Blk1
  | _, [], s => s
  | i, p :: l, s => w18Go (i + 1) l (w18Step s i p)
def w18M (ps : List Int) : List Nd × List Blk1 := w18Go 0 ps (newM w18R, [w18G])
def w18C (l : List Nd) : Ch := ⟨w18R, l, (conn1 (w18Tx 0) 0 50 []).2, [(0, w18G)], [], 0⟩
theorem w18Check : checkM w18R = 0 := by
  have h : tgt easyB ≠ none := by decide
  unfold checkM
  rw [if_neg (by rintro (h1 | h1); exact h h1; exact h1 rfl), if_neg (by show ¬ ((0 : Int) < 0 ∨ (1000 : Int) < 0 ∨ (10 : Int) < 1 ∨ (1048576 : Int) < 10 ∨ (50 : Int) < 0 ∨ (1125899906842624 : Int) < 50 ∨ (0 : Int) < 0 ∨ (1000 : Int) < 0); decide)]
theorem w18Conn : (conn1 (w18Tx 0) 0 50 []).1 = 0 := by
  have h1 : sumM (w18Tx 0).outs = (50, true) := by decide
  unfold conn1
  rw [if_neg (by rw [h1]; decide)]
  unfold layM
  rw [if_neg]
  simp [w18Tx, layHit, lk]
theorem w18TxM (m : UInt8) : txM (w18Tx m) true = 0 := by
  have h1 : sumM [⟨50, id0⟩] = (50, true) := by decide
  simp [txM, w18Tx, w18In, insGo, In1.pt, makerP, h1]
theorem w18Blk (h : Hdr) (m : UInt8) (hr : h.root = w18Root m) : blkE ⟨h, .full, [w18Tx m]⟩ = 0 := by
  have c1 : (countB (BitVec.ofNat 64 1)).length = 1 := by decide
  have ht : (txB (w18Tx m)).length = 80 := by simp [txB, w18Tx, w18In, inB, outB, textB, putB_len, c1]
  have hro : (rootM (rowsIds [w18Tx m])) = (w18Root m, false) := by
    show rootM [txIdM (w18Tx m)] = (w18Root m, false)
    have : rootM [txIdM (w18Tx m)] = ([txIdM (w18Tx m)].headD id0, false) := rootF_done _ _ _ (by simp)
    rw [w18Root, this]
  have hb : (blkB ⟨h, .full, [w18Tx m]⟩).length = 161 := by simp [blkB, hBytes_len, c1, ht]
  unfold blkE
  rw [if_neg (by simp), if_neg (by simp [txsE, w18TxM]), if_neg (by rw [hb]; decide), rootE, if_neg]
  rintro (⟨t, h1, h2⟩ | h1 | h1)
  · rw [List.mem_singleton.1 h1, ht] at h2
    cases h2
  · rw [hro] at h1; cases h1
  · rw [hro] at h1; exact h1 hr.symm
theorem w18Rl (h : Hdr) (x : V) : fillV z74_2f53 [(0, 1, w32 545259519#32), (2, 1, .int .i64 10), (3, 1, .int .i64 50), (5, 69, .agg (eHdr h ++ [x]))] = some (eRl ⟨easyB, 0, 10, 50, 0, h, x⟩) := by
  have e3 : spliceV (spliceV (spliceV z74_2f53 0 [w32 545259519#32]) 2 [.int .i64 10]) 3 [.int .i64 50] = [w32 545259519#32, .int .i64 0, .int .i64 10, .int .i64 50, .int .i64 0] ++ z74_2f53.drop 5 := rfl
  have zl : (z74_2f53.drop 5).length = 69 := rfl
  show fillV (spliceV (spliceV (spliceV z74_2f53 0 [w32 545259519#32]) 2 [.int .i64 10]) 3 [.int .i64 50]) [(5, 69, .agg (eHdr h ++ [x]))] = _
  rw [e3]
  generalize z74_2f53.drop 5 = zs at zl
  simp [fillV, V.cells?, spliceV, eHdr_len, zl, eRl, easyB]
section
variable {P : Program} {F : Fn}
set_option maxHeartbeats 2000000 in
theorem spec290 (ok : OkLaw18 P F) (st : St) (m : UInt8) : ACalls P (F 290) [w8 m] st fun v st' => v = .agg (eTx (w18Tx m)) ∧ st' = st := by
  have okt := ok.toOkWindow.toOkChain.toOkCoins.toOkCheck2.toOkCheck.toOkTx
  refine shows_call ok.mixed ok.h290 (by simp [k290]) ?_
  simp only [k290]
  simp
  intro i2 h2
  simp
  refine (spec197 okt _).mono ?_
  rintro v st1 ⟨rfl, rfl⟩
  have f1 : fillV (repV [w8 0] 1) [(0, 1, w8 m)] = some [w8 m] := rfl
  have f2 : fillV (repV z34_1838 1) [(0, 34, .agg (eIn (w18In m)))] = some (eIn (w18In m)) := rfl
  have f3 : fillV (repV z33_0be4 1) [(0, 33, .agg (eOut ⟨50, id0⟩))] = some (eOut ⟨50, id0⟩) := rfl
  have f4 : fillV [V.sl .nil [] 0, V.sl .nil [] 0] [(0, 1, .sl .full (eIn (w18In m)) 1), (1, 1, .sl .full (eOut ⟨50, id0⟩) 1)] = some (eTx (w18Tx m)) := rfl
  simp [f1, w18Fill, f2, w18Fill2, f3, f4]
  have hst := store_pt (sz := 2) (o := 0) (St.upd_same st i2 (.cells [.sl .nil [] 0, .sl .nil [] 0])) (v := .agg (eTx (w18Tx m))) (vs := eTx (w18Tx m)) rfl rfl (by simp)
  rw [show spliceV [V.sl .nil [] 0, V.sl .nil [] 0] 0 (eTx (w18Tx m)) = eTx (w18Tx m) from rfl] at hst
  have hg : segOf (eTx (w18Tx m)) 0 2 = some (eTx (w18Tx m)) := rfl
  simp at hst
  simp [hst, St.seg, hg]
  exact sub_upd h2
set_option maxHeartbeats 8000000 in
theorem spec291 (ok : OkLaw18 P F) (hc : CloneC P (F 256)) (st : St) {s : V} {ps : List Int} (hr : Rd 1 e1 s ps st) (hl : ps.length ≤ 1000) :
    ACalls P (F 291) [s] st fun v st' => ∃ cid s', v = .tup [.ptr (some (cid, 0)), s'] ∧ Sep [Slv 69 eBlk s' (w18M ps).2, ChA cid (w18C (w18M ps).1), Was st] st' := by
  have okc := ok.toOkWindow.toOkChain
  have okt := okc.toOkCoins.toOkCheck2.toOkCheck.toOkTx
  have oki := okc.toOkLocate.toOkIndexZ.toOkIndex
  have okh := oki.toOkHead
  refine shows_call ok.mixed ok.h291 (by simp [k291]) ?_
  simp only [k291]
  have f1 : fillV z68_39b1 [(66, 1, w32 545259519)] = some (eHdr { hdr0 with bits := easyB }) := rfl
  have f2 : ∀ m, fillV (repV [V.sl .nil [] 0, V.sl .nil [] 0] 1) [(0, 2, .agg (eTx (w18Tx m)))] = some (eTx (w18Tx m)) := fun m => rfl
  have f3 : fillV z69_adc1 [(0, 68, .agg (eHdr { hdr0 with bits := easyB })), (68, 1, .sl .full (eTx (w18Tx 0)) 1)] = some (eBlk ⟨{ hdr0 with bits := easyB }, .full, [w18Tx 0]⟩) := rfl
  have g1 : spliceV z68_39b1 66 [w32 545259519#32] = eHdr { hdr0 with bits := easyB } := rfl
  have g3 : spliceV (spliceV z69_adc1 0 (eHdr { hdr0 with bits := easyB })) 68 [.sl .full (eTx (w18Tx 0)) 1] = eBlk ⟨{ hdr0 with bits := easyB }, .full, [w18Tx 0]⟩ := rfl
  simp [f1, g1]
  refine (spec290 ok st 0).mono ?_
  rintro v st1 ⟨rfl, rfl⟩
  simp [f2, f3, g1, g3]
  intro i4 h4
  have S := (Sep.start st1).new h4 (.cells z69_adc1)
  have hst := store_pt (sz := 69) (o := 0) S.get (v := .agg (eBlk ⟨{ hdr0 with bits := easyB }, .full, [w18Tx 0]⟩)) (vs := eBlk ⟨{ hdr0 with bits := easyB }, .full, [w18Tx 0]⟩) rfl (eBlk_len _) (by simp)
  rw [show spliceV z69_adc1 0 (eBlk ⟨{ hdr0 with bits := easyB }, .full, [w18Tx 0]⟩) = eBlk ⟨{ hdr0 with bits := easyB }, .full, [w18Tx 0]⟩ from rfl] at hst
  have S := S.set (.cells (eBlk ⟨{ hdr0 with bits := easyB }, .full, [w18Tx 0]⟩))
  simp at S hst
  simp [hst]
  generalize st1.upd i4 _ = st2 at S ⊢
  have o4 := S.get
  have hsT := bsegT ⟨{ hdr0 with bits := easyB }, .full, [w18Tx 0]⟩
  simp [St.seg, o4, hsT]
  refine (spec192 okt st2 (rd_txs ⟨{ hdr0 with bits := easyB }, .full, [w18Tx 0]⟩ st2) (by simp) (fun t ht => by rw [List.mem_singleton.1 ht]; exact w18Tx_ok 0)).mono ?_
  rintro v st3 ⟨rfl, rfl⟩
  have hst := store_pt (sz := 32) (o := 33) o4 (v := .agg (eId (w18Root 0))) (vs := eId (w18Root 0)) rfl (eId_len _) (by rw [eBlk_len]; omega)
  have hsp : spliceV (eBlk ⟨{ hdr0 with bits := easyB }, .full, [w18Tx 0]⟩) 33 (eId (w18Root 0)) = eBlk w18G := bsplRoot _ _
  rw [hsp] at hst
  have hro : (rootM (rowsIds [w18Tx 0])).1 = w18Root 0 := rfl
  have S := S.set (.cells (eBlk w18G))
  simp [hro, hst]
  generalize st3.upd i4 _ = st4 at S ⊢
  have o4 := S.get
  have hsA := bsegAll w18G
  have f4 : fillV z74_2f53 [(0, 1, w32 545259519#32), (2, 1, .int .i64 10), (3, 1, .int .i64 50), (5, 69, .agg (eBlk w18G))] = some (eRl w18R) := w18Rl _ _
  simp [St.seg, o4, hsA, f4]
  refine (spec265a okc hc st4 w18R w18G (w18Tx 0) rfl rfl rfl (w18Tx_ok 0) w18Check (w18Blk _ 0 rfl) w18Conn).mono ?_
  rintro v st5 ⟨cid, rfl, W⟩
  have S := W.asn.ov S
  have o4 := S.drop.get
  have f5 : fillV (repV z69_adc1 1) [(0, 69, .agg (eBlk w18G))] = some (eBlk w18G) := by
    rw [show repV z69_adc1 1 = z69_adc1 from rfl]
    simp [fillV, V.cells?, eBlk_len, spliceV]
  have eqp : eqK .ptr (V.ptr (some (cid, 0))) (V.ptr none) = some false := rfl
  simp [eqp, St.seg, o4, hsA, f5]
  have hw0 : Wf (newM w18R) := newM_wf w18R
  have S : Sep [Slv 69 eBlk (.sl .full (eBlk w18G) 1) [w18G], ChA cid (w18C (newM w18R)), Was st1] st5 := by
    have h := Sep.slvPut (sz := 69) (f := eBlk) (S.tail fun r h => h.drop) [w18G]
    rw [show rowsOf eBlk [w18G] = eBlk w18G by simp [rowsOf]] at h
    exact h
  have hrl := hr.len
  simp [hrl]
  refine vc_joinB (M := fun env' st' => Sep [Slv 69 eBlk (env' 7) (w18M ps).2, ChA cid (w18C (w18M ps).1), Was st1] st') ?_ ?_
  · refine vc_loopJ (fun n env' st' => ∃ (i : Nat) (l : List Nd) (bl : List Blk1), i ≤ ps.length ∧ n = ps.length - i ∧ env' 41 = .int .i64 (i : Nat) ∧ w18Go i (ps.drop i) (l, bl) = w18M ps ∧ Wf l ∧ l.length ≤ 16384 ∧ bl.length ≤ i + 1 ∧ Sep [Slv 69 eBlk (env' 7) bl, ChA cid (w18C l), Was st1] st') ps.length
      ⟨0, newM w18R, [w18G], by omega, by omega, by simp, rfl, hw0, by simp [newM], by simp, by simpa using S⟩ ?_
    rintro J hJ n env' st6 hsame ⟨i, l, bl, hi, rfl, h41, hgo, w, hl', hbl, S⟩
    have g5 := (hsame.get 5 rfl).trans (by simp : _ = V.ptr (some (cid, 0)))
    have g39 := (hsame.get 39 rfl).trans (by simp : _ = s)
    have g40 := (hsame.get 40 rfl).trans (by simp : _ = V.int .i64 (ps.length : Int))
    clear hsame
    by_cases hlt : i < ps.length
    · obtain ⟨r1, r2, r3, r4⟩ := (hr.sub (S.was' (st0 := st1) (by simp))).row e1_len hlt
      rw [List.drop_eq_getElem_cons hlt, w18Go] at hgo
      obtain ⟨x, hx⟩ : ∃ x, x = ps[i] := ⟨_, rfl⟩
      rw [← hx] at r3 hgo
      have w1 : IntKind.i64.wrap ((i : Int) + 1) = (i : Int) + 1 := wrap64 (by omega) (by omega)
      have w2 : IntKind.i64.wrap ((l.length : Int) - 1) = (l.length : Int) - 1 := wrap64 (by omega) (by omega)
      obtain ⟨mo, tid, bid, uid, R, -⟩ := chGrow (P := P) (S.pull 1)
      have T := R.tree w.neNil
      have ot := R.top
      simp [g5, g39, g40, h41, hlt, r1, r3, e1, St.seg, ot, cseg0]
      refine (spec159 oki T).mono ?_
      rintro v st7 ⟨rfl, rfl⟩
      obtain ⟨p, hp⟩ : ∃ p, p = max 0 (min x ((l.length : Int) - 1)) := ⟨_, rfl⟩
      obtain ⟨m, hm⟩ : ∃ m, m = UInt8.ofBitVec (BitVec.ofInt 8 ((i : Int) + 1)) := ⟨_, rfl⟩
      have hmn : foldV min2V (V.int .i64 x) [V.int .i64 ((l.length : Int) - 1)] = some (.int .i64 (min x ((l.length : Int) - 1))) := by
        simp only [foldV, min2V, if_true, Option.bind_some]
        congr 2
        omega
      have hmx : foldV max2V (V.int .i64 0) [V.int .i64 (min x ((l.length : Int) - 1))] = some (.int .i64 p) := by
        simp only [foldV, max2V, if_true, Option.bind_some]
        congr 2
        omega
      simp [w2, w1, w18C, hmn, hmx, ← hm]
      refine (spec290 ok st7 m).mono ?_
      rintro v st8 ⟨rfl, rfl⟩
      have f6 : fillV z69_adc1 [(68, 1, .sl .full (eTx (w18Tx m)) 1)] = some (eBlk ⟨hdr0, .full, [w18Tx m]⟩) := rfl
      have g6 : spliceV z69_adc1 68 [.sl .full (eTx (w18Tx m)) 1] = eBlk ⟨hdr0, .full, [w18Tx m]⟩ := rfl
      simp [f2, f6, g6]
      intro i10 h10
      have S := S.new h10 (.cells z69_adc1)
      have hst := store_pt (sz := 69) (o := 0) S.get (v := .agg (eBlk ⟨hdr0, .full, [w18Tx m]⟩)) (vs := eBlk ⟨hdr0, .full, [w18Tx m]⟩) rfl (eBlk_len _) (by simp)
      rw [show spliceV z69_adc1 0 (eBlk ⟨hdr0, .full, [w18Tx m]⟩) = eBlk ⟨hdr0, .full, [w18Tx m]⟩ from rfl] at hst
      have S := S.set (.cells (eBlk ⟨hdr0, .full, [w18Tx m]⟩))
      simp at S hst
      simp [hst]
      clear R T ot
      generalize st8.upd i10 _ = st9 at S ⊢
      obtain ⟨mo, tid, bid, uid, R, -⟩ := chGrow (P := P) (S.pull 2)
      have T : TreeR tid w18R l st9 := R.tree w.neNil
      have ot := R.top
      obtain ⟨y, hy⟩ : ∃ y, y = nd l (inI l p) := ⟨_, rfl⟩
      have q1 : fldV true 68 32 (V.agg (eNd y)) = some (.agg (eId y.id)) := by
        show (segOf _ 68 32).bind (packV true) = _
        rw [osegId]; rfl
      have q2 : fldV true 0 68 (V.agg (eNd y)) = some (.agg (eHdr y.hdr)) := by
        show (segOf _ 0 68).bind (packV true) = _
        rw [osegHdr]; rfl
      have q3 : fldV false 65 1 (V.agg (eHdr y.hdr)) = some (w32 y.hdr.time) := by
        show (segOf _ 65 1).bind (packV false) = _
        rw [hsegTime]; rfl
      simp [g5, St.seg, ot, cseg0, w18C]
      refine still_call _ _ _ _ (by simpa using spec161 oki T w p) ?_
      rw [← hy]
      simp [q1, St.seg, ot, cseg0, w18C]
      refine still_call _ _ _ _ (by simpa using spec161 oki T w p) ?_
      rw [← hy]
      have b3 : fillV z68_39b1 [(1, 32, .agg (eId y.id)), (65, 1, w32 (y.hdr.time + 1#32)), (66, 1, w32 545259519#32)] = some (eHdr { hdr0 with prev := y.id, time := y.hdr.time + 1, bits := easyB }) := build_h3 _ _ _
      obtain ⟨h1, hh1⟩ : ∃ h1 : Hdr, h1 = { hdr0 with prev := y.id, time := y.hdr.time + 1, bits := easyB } := ⟨_, rfl⟩
      rw [← hh1] at b3
      have o10 := S.get
      have hst := store_pt (sz := 68) (o := 0) o10 (v := .agg (eHdr h1)) (vs := eHdr h1) rfl (eHdr_len _) (by rw [eBlk_len]; omega)
      rw [bsplH] at hst
      have S := S.set (.cells (eBlk ⟨h1, .full, [w18Tx m]⟩))
      simp [q2, q3, b3, hst]
      generalize st9.upd i10 _ = st11 at S ⊢
      have o10 := S.get
      have hsT := bsegT ⟨h1, .full, [w18Tx m]⟩
      simp [St.seg, o10, hsT]
      refine (spec192 okt st11 (rd_txs ⟨h1, .full, [w18Tx m]⟩ st11) (by simp) (fun t ht => by rw [List.mem_singleton.1 ht]; exact w18Tx_ok m)).mono ?_
      rintro v st12 ⟨rfl, rfl⟩
      have hro : (rootM (rowsIds [w18Tx m])).1 = w18Root m := rfl
      have hst := store_pt (sz := 32) (o := 33) o10 (v := .agg (eId (w18Root m))) (vs := eId (w18Root m)) rfl (eId_len _) (by rw [eBlk_len]; omega)
      rw [bsplRoot] at hst
      obtain ⟨h2, hh2⟩ : ∃ h2 : Hdr, h2 = { h1 with root := w18Root m } := ⟨_, rfl⟩
      have hst : storeS st12 32 (.ptr (some (i10, 33))) (.agg (eId (w18Root m))) = some (st12.upd i10 (.cells (eBlk ⟨h2, .full, [w18Tx m]⟩))) := by rw [hst, hh2]
      have S := S.set (.cells (eBlk ⟨h2, .full, [w18Tx m]⟩))
      simp [hro, hst]
      generalize st12.upd i10 _ = st13 at S ⊢
      have o10 := S.get
      have hsH := bsegH ⟨h2, .full, [w18Tx m]⟩
      simp [St.seg, o10, hsH]
      refine (spec143 okh st13 h2 545259519#32 1000).mono ?_
      rintro v st14 ⟨rfl, rfl⟩
      have hb : w18B y m = ⟨(mineN h2 easyB 1000).getD hdr0, .full, [w18Tx m]⟩ := by rw [w18B, hh2, hh1]
      have hmr : mineR h2 545259519#32 (max 0 (min (1000 : Int) 65536)).toNat = .tup [.agg (eHdr (w18B y m).hdr), .bool (mineN h2 easyB 1000).isSome] := by
        rw [mineR_get, hb]; rfl
      rw [hmr]
      have hst := store_pt (sz := 68) (o := 0) o10 (v := .agg (eHdr (w18B y m).hdr)) (vs := eHdr (w18B y m).hdr) rfl (eHdr_len _) (by rw [eBlk_len]; omega)
      rw [bsplH] at hst
      have hst : storeS st14 68 (.ptr (some (i10, 0))) (.agg (eHdr (w18B y m).hdr)) = some (st14.upd i10 (.cells (eBlk (w18B y m)))) := by rw [hst, hb]
      have S := S.set (.cells (eBlk (w18B y m)))
      simp [hst]
      generalize st14.upd i10 _ = st15 at S ⊢
      clear R T ot
      obtain ⟨mo, tid, bid, uid, R, hgrow⟩ := chGrow (P := P) (S.pull 2)
      have ot := R.top
      have o10 := S.get
      have hsH := bsegH (w18B y m)
      have hsA2 := bsegAll (w18B y m)
      obtain ⟨a, ha⟩ : ∃ a, a = addM w18R l (w18B y m).hdr 1099511627776 := ⟨_, rfl⟩
      have hstep : w18Step (l, bl) i x = (a.1, if a.2.2 = 0 then bl ++ [w18B y m] else bl) := by
        simp only [w18Step]
        rw [← hp, ← hy, ← hm, ← ha]
      rw [hstep] at hgo
      have hwf := addM_wf (r := w18R) w hl' (w18B y m).hdr 1099511627776
      rw [← ha] at hwf
      simp [g5, St.seg, ot, cseg0, o10, hsH]
      refine (hgrow (F 169) _ (fun v => v = .tup [.int .i64 a.2.1, .int .i64 a.2.2]) a.1 (fun h hT => by
        rw [ha]
        exact spec169 oki hT w hl' w18Check (w18B y m).hdr 1099511627776)).mono ?_
      rintro v st16 ⟨rfl, S⟩
      have S : Sep [ChA cid (w18C a.1), pt i10 (.cells (eBlk (w18B y m))), Slv 69 eBlk (env' 7) bl, Was st1] st16 := S
      have o10 := S.drop.get
      by_cases he : a.2.2 = 0
      · rw [if_pos he] at hgo
        have f7 : fillV (repV z69_adc1 1) [(0, 69, .agg (eBlk (w18B y m)))] = some (eBlk (w18B y m)) := by
          rw [show repV z69_adc1 1 = z69_adc1 from rfl]
          simp [fillV, V.cells?, eBlk_len, spliceV]
        have hel : elems st16 69 (.sl .full (eBlk (w18B y m)) 1) = some (rowsOf eBlk [w18B y m], 1) := by simp [elems, eBlk_len, rowsOf]
        simp [he, St.seg, o10, hsA2, f7, hel]
        refine Sep.appv (b := 104) eBlk_len (by omega) (S.pull 2) [w18B y m] (by simp [rowsOf]) rfl (by simp only [List.length_singleton]; omega) ?_
        intro s' st17 S
        have S : Sep [Slv 69 eBlk s' (bl ++ [w18B y m]), ChA cid (w18C a.1), Was st1] st17 := S.tail fun r h => h.tail fun r h => h.drop
        simp [h41, w1]
        exact Round.mk (ps.length - (i + 1)) _ (by omega) (sub_self _) (hJ _ _ _ ⟨i + 1, a.1, bl ++ [w18B y m], by omega, rfl, by simp, hgo, hwf.1, hwf.2, by simp; omega, by simpa using S⟩)
      · rw [if_neg he] at hgo
        have S : Sep [Slv 69 eBlk (env' 7) bl, ChA cid (w18C a.1), Was st1] st16 := (S.tail fun r h => h.drop).swap
        have hbf : (a.2.2 == 0) = false := beq_eq_false_iff_ne.2 he
        simp [hbf, h41, w1]
        exact Round.mk (ps.length - (i + 1)) _ (by omega) (sub_self _) (hJ _ _ _ ⟨i + 1, a.1, bl, by omega, rfl, by simp, hgo, hwf.1, hwf.2, by omega, by simpa using S⟩)
    · have : i = ps.length := by omega
      subst this
      rw [List.drop_length, w18Go] at hgo
      rw [← hgo]
      simp [g40, h41]
      exact S
  · rintro env' st6 hsame S
    have g5 := (hsame.get 5 rfl).trans (by simp : _ = V.ptr (some (cid, 0)))
    clear hsame
    simp [g5]
    exact ⟨st6, sub_self _, cid, _, ⟨rfl, rfl⟩, S⟩
end
end Go.Ab
set_option linter.unusedSimpArgs false
set_option linter.unusedVariables false
namespace Go.Ab
open Go Go.RowKit
def w18h1 : Hdr := (w18B (nd (newM w18R) 0) 1).hdr
def w18n1 : Nd := ndOf (newM w18R) w18h1 0
def w18h2 : Hdr := (w18B w18n1 2).hdr
def w18n2 : Nd := ndOf [nd (newM w18R) 0, w18n1] w18h2 1
theorem w18_facts : (decide (provedN w18h1 easyB = 0) && decide (w18h1.prev = hId w18G.hdr) && decide (w18h1.bits = easyB) && decide (w18h1.time = 1) && decide (hId w18h1 ≠ hId w18G.hdr) &&
    (decide (provedN w18h2 easyB = 0) && decide (w18h2.prev = hId w18h1) && decide (w18h2.bits = easyB) && decide (w18h2.time = 2) && decide (hId w18h2 ≠ hId w18G.hdr) && decide (hId w18h2 ≠ hId w18h1))) = true := by decide +kernel
end Go.Ab
set_option linter.unusedVariables false
namespace Go.Ab
open Go
end Go.Ab
set_option linter.unusedSimpArgs false
set_option linter.unusedVariables false
set_option maxRecDepth 10000
namespace Go.Ab
open Go Go.RowKit
theorem fits_ok {r : Rl} {l : List Nd} {h : Hdr} {p : Nat} {now : Int} (hp : p < l.length) (h1 : provedN h r.limit = 0) (h2 : (nd l p).failed = false) (h3 : h.bits = nextM r l p) (h4 : medianM l p < h.time) (h5 : (h.time.toNat : Int) - 7200 ≤ now) : fitsM r l h p now = 0 := by
  have e1 : ¬ ((p : Int) < 0 ∨ (l.length : Int) ≤ p) := by omega
  have e2 : ¬ h.time ≤ medianM l p := BitVec.not_le.2 h4
  have e3 : ¬ now < (h.time.toNat : Int) - 7200 := by omega
  simp only [fitsM, e1, if_false, h1, ne_eq, not_true_eq_false, Int.toNat_natCast, h2, h3, e2, e3, Bool.false_eq_true]
section
variable {P : Program} {F : Fn}
end
end Go.Ab
set_option linter.unusedSimpArgs false
set_option linter.unusedVariables false
set_option maxRecDepth 10000
namespace Go.Ab
open Go Go.RowKit
theorem w18_next (l : List Nd) (i : Nat) : nextM w18R l i = (nd l i).hdr.bits := by simp [nextM, w18R]
def w18g : Nd := nd (newM w18R) 0
theorem w18_new : newM w18R = [w18g] := rfl
theorem w18_step1 : w18Step ([w18g], [w18G]) 0 0 = ([w18g, w18n1], [w18G, w18B w18g 1]) := by
  have f := w18_facts
  simp only [Bool.and_eq_true, decide_eq_true_eq] at f
  obtain ⟨⟨⟨⟨⟨f1, f2⟩, f3⟩, f4⟩, f5⟩, -⟩ := f
  have e0 : inI [w18g] (max 0 (min 0 (((([w18g] : List Nd).length : Nat) : Int) - 1))) = 0 := by simp [inI]
  have e1 : nd [w18g] 0 = w18g := nd_at (by simp)
  have em : UInt8.ofBitVec (BitVec.ofInt 8 (((0 : Nat) : Int) + 1)) = 1 := by decide
  have hh : (w18B w18g 1).hdr = w18h1 := rfl
  have gp : w18g.parent = -1 := rfl
  have gt : w18g.hdr.time = 0#32 := rfl
  have ht : timesM [w18g] 11 0 = [0#32] := by simp [timesM, gp, gt]
  have hmd : medianM [w18g] 0 = 0 := by
    unfold medianM
    rw [ht]
    simp [middle32, sorted32]
  have hfit : fitsM w18R [w18g] w18h1 ((0 : Nat) : Int) 1099511627776 = 0 := fits_ok (by simp) f1 rfl (by rw [w18_next, f3, e1]; rfl) (by rw [hmd, f4]; decide) (by rw [f4]; decide)
  have hadd : addM w18R [w18g] w18h1 1099511627776 = ([w18g] ++ [ndOf [w18g] w18h1 0], ((([w18g] : List Nd).length : Nat) : Int), 0) := by
    refine addM_ok ?_ ?_ hfit (by simp)
    · have : w18g.id ≠ hId w18h1 := fun e => f5 e.symm
      simp [findM, this]
    · have : w18g.id = w18h1.prev := f2.symm
      simp [findM, this]
  simp only [w18Step]
  rw [e0, e1, em, hh, hadd]
  rfl
theorem middle_10 : middle32 [1#32, 0#32] = 1#32 := by
  have h : [0#32, 1#32] = sorted32 [1#32, 0#32] := sorted_of (by
    intro a b h1 h2
    have : a = 0 ∧ b = 1 := by simp at h2; omega
    obtain ⟨rfl, rfl⟩ := this
    decide) (by decide)
  unfold middle32
  rw [← h]
  rfl
theorem w18_wf1 : Wf [w18g, w18n1] := ndOf_wf (newM_wf w18R) (by simp [newM])
theorem w18_step2 : w18Step ([w18g, w18n1], [w18G, w18B w18g 1]) 1 1 = ([w18g, w18n1, w18n2], [w18G, w18B w18g 1, w18B w18n1 2]) := by
  have f := w18_facts
  simp only [Bool.and_eq_true, decide_eq_true_eq] at f
  obtain ⟨⟨⟨⟨⟨-, -⟩, -⟩, k4⟩, k5⟩, ⟨⟨⟨⟨f1, f2⟩, f3⟩, f4⟩, f5⟩, f6⟩ := f
  have e0 : inI [w18g, w18n1] (max 0 (min 1 (((([w18g, w18n1] : List Nd).length : Nat) : Int) - 1))) = 1 := by
    have h : ((([w18g, w18n1] : List Nd).length : Nat) : Int) = 2 := rfl
    rw [inI, h]
    decide
  have e1 : nd [w18g, w18n1] 1 = w18n1 := nd_at (by simp)
  have em : UInt8.ofBitVec (BitVec.ofInt 8 (((1 : Nat) : Int) + 1)) = 2 := by decide
  have hh : (w18B w18n1 2).hdr = w18h2 := rfl
  have gp : w18g.parent = -1 := rfl
  have gt : w18g.hdr.time = 0#32 := rfl
  have np : w18n1.parent = 0 := rfl
  have nt : w18n1.hdr.time = 1#32 := k4
  have nb : w18n1.hdr.bits = w18h1.bits := rfl
  have ht : timesM [w18g, w18n1] 11 1 = [1#32, 0#32] := by simp [timesM, gp, gt, np, nt]
  have hmd : medianM [w18g, w18n1] 1 = 1 := by
    unfold medianM
    rw [ht, middle_10]; rfl
  have k3 : w18h1.bits = easyB := by
    have f := w18_facts
    simp only [Bool.and_eq_true, decide_eq_true_eq] at f
    exact f.1.1.1.2
  have hfit : fitsM w18R [w18g, w18n1] w18h2 ((1 : Nat) : Int) 1099511627776 = 0 := fits_ok (by simp) f1 (by rw [e1]; rfl) (by rw [w18_next, f3, e1, nb, k3]) (by rw [hmd, f4]; decide) (by rw [f4]; decide)
  have hadd : addM w18R [w18g, w18n1] w18h2 1099511627776 = ([w18g, w18n1] ++ [ndOf [w18g, w18n1] w18h2 1], ((([w18g, w18n1] : List Nd).length : Nat) : Int), 0) := by
    have i1 : w18n1.id = hId w18h1 := rfl
    refine addM_ok ?_ ?_ hfit (by simp)
    · have h1 : w18g.id ≠ hId w18h2 := fun e => f5 e.symm
      have h2 : w18n1.id ≠ hId w18h2 := fun e => f6 e.symm
      simp [findM, h1, h2]
    · have : w18n1.id = w18h2.prev := f2.symm
      simp [findM, this]
  simp only [w18Step]
  rw [e0, e1, em, hh, hadd]
  rfl
theorem w18_all : (w18M [0, 1]).1 = [w18g, w18n1, w18n2] := by
  unfold w18M
  rw [w18Go, w18_new, w18_step1, w18Go, w18_step2, w18Go]
theorem w18_wf2 : Wf [w18g, w18n1, w18n2] := ndOf_wf w18_wf1 (by simp)
end Go.Ab
set_option linter.unusedSimpArgs false
set_option linter.unusedVariables false
namespace Go.Ab
open Go Go.RowKit Go.Sort
structure SortC (P : Program) (f : FuncId) : Prop where
  nil : ∀ st : St, ACalls P f [.sl .nil [] 0] st fun v st' => st' = st
  row : ∀ (st : St) (sid : Nat) (l : List Int), st sid = some (.cells (rowsOf e1 l)) → l.length ≤ 1000000 → ACalls P f [.hsl sid 0 1 l.length] st fun v st' =>
    ∃ l' : List Int, l'.Perm l ∧ l'.Pairwise (· ≤ ·) ∧ st' = st.upd sid (.cells (rowsOf e1 l'))
theorem SortC.use {P : Program} {f : FuncId} (h : SortC P f) {st : St} {s : V} {l : List Int} {L : List Asn} (S : Sep (Slx 1 e1 s l :: L) st) (hnil : l = [] → s = .sl .nil [] 0) (hl : l.length ≤ 1000000) :
    ACalls P f [s] st fun v st' => ∃ l', l'.Perm l ∧ l'.Pairwise (· ≤ ·) ∧ Sep (Slx 1 e1 s l' :: L) st' := by
  by_cases hl0 : l = []
  · subst hl0
    rw [hnil rfl] at S ⊢
    refine (h.nil st).mono ?_
    rintro v st' rfl
    exact ⟨[], List.Perm.refl _, .nil, S⟩
  · obtain ⟨a0, r, h1, h2, h3, h4⟩ := S
    rcases h3 with ⟨-, h3⟩ | ⟨sid, rfl, h3⟩
    · exact absurd h3 hl0
    · have S : Sep (pt sid (.cells (rowsOf e1 l)) :: L) st := ⟨a0, r, h1, h2, h3, h4⟩
      refine (h.row st sid l S.get hl).mono ?_
      rintro v st' ⟨l', k1, k2, rfl⟩
      refine ⟨l', k1, k2, (S.set _).head fun h hh => .inr ⟨sid, by rw [k1.length_eq], hh⟩⟩
theorem heap_mod (w : World) (blk : Nat) (f : Array Value → Array Value) (k : Nat) (hk : k ≠ blk) : (mapBlock w blk f).heap[k]? = w.heap[k]? := by
  simp [mapBlock, Array.getElem?_modify, Ne.symm hk]
theorem heap_mod_at (w : World) (blk : Nat) (f : Array Value → Array Value) {C : Array Value} {T : TypeId} {fr : Nat × Nat} (h : w.heap[blk]? = some (.cells C T fr)) : (mapBlock w blk f).heap[blk]? = some (.cells (f C) T fr) := by
  simp [mapBlock, Array.getElem?_modify, h, onCells]
theorem below_grow (w : World) (os : Array Obj) : Below w.heap.size w (grow w os) := by
  refine ⟨rfl, rfl, rfl, by simp [grow], fun k hk => ?_⟩
  show (w.heap ++ os)[k]? = _
  rw [Array.getElem?_append_left hk]
theorem sortC_of {P : Program} {f : FuncId} (h0 : ∀ w : World, Calls P f #[.slice none 0 0] w fun e w' => e = .returned (.tuple #[]) ∧ w' = w)
    (h1 : ∀ (blk off cap : Nat) (zs : List Int) (w : World), Holds (Value.int .i64) w blk off zs.toArray → blk < w.heap.size → zs.length < 4611686018427387904 →
      Calls P f #[.slice (some ⟨blk, off, none⟩) zs.length cap] w fun e w' => e = .returned (.tuple #[]) ∧ ∃ n os, w' = grow (putRow (Value.int .i64) (Sort.ahead w n) blk off (zs.mergeSort fun x y => decide (x ≤ y)).toArray) os) : SortC P f := by
  constructor
  · intro st fr hd B w0 G w xs hs ha
    obtain ⟨x, rfl, hx⟩ := lrel_one ha
    cases hx with
    | slnil k hk =>
      refine (h0 w).mono ?_
      rintro e w' ⟨rfl, rfl⟩
      exact ⟨.tup [], _, G, st, rfl, G.le_refl, .tup [] #[] rfl (fun i hi => by simp at hi), hd, hs, rfl⟩
    | sl k cs n b o cap hk hn hf g hp hv h1' => exact absurd rfl hk
  · intro st sid l hm hl fr hd B w0 G w xs hs ha
    obtain ⟨x, rfl, hx⟩ := lrel_one ha
    cases hx with
    | hsl id off sz n b lc m cap o hι hn hmm hlc ho =>
      obtain ⟨b', l', m', k1, k2, C, T, k3, k4, k5, k6, k7, k8⟩ := hs.obj sid _ (add_some hm)
      rw [hι] at k1
      cases k1
      have hlen : (rowsOf e1 l).length = l.length := by rw [rowsOf_length e1_len, Nat.mul_one]
      have hCs : l.length ≤ C.size := by omega
      have hget : ∀ i (hi : i < l.length), C.getD i undef = Value.int .i64 (l[i]) := fun i hi => by
        have h := (k7 i (by omega)).1
        have e : (rowsOf e1 l).getD i .junk = .int .i64 l[i] := by
          have hr := rowsOf_row e1_len l [] hi
          rw [List.append_nil, Nat.mul_one] at hr
          have := congrArg (fun x => x.getD 0 V.junk) hr
          simp [e1, List.getD_eq_getElem?_getD] at this
          rw [List.getD_eq_getElem?_getD]
          exact this
        rw [e] at h
        generalize C.getD i undef = x at h
        cases h
        rfl
      have ho' : l ≠ [] → o = 0 := fun h => ho (by
        have : 0 < l.length := List.length_pos_iff.2 h
        omega)
      refine (h1 b o cap l w ?_ (lt_of_heap k3) (by omega)).mono ?_
      · intro j hj
        have hj : j < l.length := by simpa using hj
        have o0 := ho' (fun e => by rw [e] at hj; simp at hj)
        subst o0
        rw [Nat.zero_add]
        have hjC : j < C.size := by omega
        have hg := hget j hj
        rw [show C.getD j undef = C[j] by simp [Array.getD, hjC]] at hg
        constructor
        · simp [World.cell?, k3, hjC, hg, hj]
        · simp [World.frozen?, k3]
      · rintro e w' ⟨rfl, n, os, rfl⟩
        obtain ⟨z, hz⟩ : ∃ z, z = l.mergeSort fun x y => decide (x ≤ y) := ⟨_, rfl⟩
        have hzp : z.Perm l := by rw [hz]; exact List.mergeSort_perm _ _
        have hzs : z.Pairwise (· ≤ ·) := by
          have := List.pairwise_mergeSort (le := fun x y : Int => decide (x ≤ y)) (fun a b c h1 h2 => by simp at *; omega) (fun a b => by simp; omega) l
          rw [hz]
          exact this.imp fun h => by simpa using h
        have hzl := hzp.length_eq
        rw [← hz]
        obtain ⟨fC, hfC⟩ : ∃ fC, fC = putCells (Value.int .i64) o z.toArray C := ⟨_, rfl⟩
        have hfs : fC.size = C.size := by rw [hfC]; simp [putCells]
        have hat := heap_mod_at (Sort.ahead w n) b (putCells (Value.int .i64) o z.toArray) (C := C) (T := T) (fr := (0, 0)) k3
        rw [← hfC] at hat
        have hfg : ∀ i (hi : i < z.length), fC.getD i undef = Value.int .i64 z[i] := fun i hi => by
          have o0 := ho' (fun e => by rw [hzl, e] at hi; simp at hi)
          have hiC : i < C.size := by omega
          subst o0
          rw [hfC]
          simp [putCells, Array.getD, hiC, hi]
        have g := hs.setObj (ob' := .cells (rowsOf e1 z)) (add_some hm) (fun cs e => by cases e) hι (w' := putRow (Value.int .i64) (Sort.ahead w n) b o z.toArray) rfl rfl rfl (by simp [putRow, mapBlock, Sort.ahead]) (fun k hk => heap_mod (Sort.ahead w n) b _ k hk) k8 ⟨fC, T, hat, by omega, by rw [rowsOf_length e1_len]; omega, by omega, fun i hi => by
          rw [rowsOf_length e1_len, Nat.mul_one] at hi
          have e : (rowsOf e1 z).getD i .junk = .int .i64 z[i] := by
            have hr := rowsOf_row e1_len z [] hi
            rw [List.append_nil, Nat.mul_one] at hr
            have := congrArg (fun x => x.getD 0 V.junk) hr
            simp [e1, List.getD_eq_getElem?_getD] at this
            rw [List.getD_eq_getElem?_getD]
            exact this
          rw [e, hfg i hi]
          exact ⟨.int _ _, rfl⟩, k8⟩
        rw [← upd_add] at g
        exact ⟨.tup [], _, G, _, rfl, G.le_refl, .tup [] #[] rfl (fun i hi => by simp at hi), hd.upd (hd.some hm) _, g.ext (below_grow _ os), z, hzp, hzs, rfl⟩
end Go.Ab

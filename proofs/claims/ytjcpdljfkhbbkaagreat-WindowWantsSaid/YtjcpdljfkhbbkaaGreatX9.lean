import Derived.Test.YtjcpdljfkhbbkaaGreatX6
import Derived.Test.YtjcpdljfkhbbkaaGreatX8
import Derived.Test.YtjcpdljfkhbbkaaGreatX5
import Derived.Test.YtjcpdljfkhbbkaaGreatX1
import Derived.Test.YtjcpdljfkhbbkaaGreatX3
import Derived.Test.YtjcpdljfkhbbkaaGreatX4
import Derived.Sort.Grow
import Derived.Test.YtjcpdljfkhbbkaaGreatX7
set_option linter.unusedSimpArgs false
set_option linter.unusedVariables false
set_option maxRecDepth 10000
namespace Go.Ab
open Go Go.RowKit
abbrev Fl := Int × Int
def eFl (x : Fl) : List V := [.int .i64 x.1, .int .i64 x.2]
def vFl (x : Fl) : V := .agg (eFl x)
abbrev Fls := List (Int × Fl)
def WinL (t : Nat) (es : Fls) (sl : Int) : Option Nat → List Asn
  | none => [pt t (.cells [.map none, .int .i64 sl])]
  | some m => [pt t (.cells [.map (some m), .int .i64 sl]), pt m (.mp (encM kInt vFl es))]
def WinS (t : Nat) (es : Fls) (sl : Int) (L : List Asn) (st : St) : Prop := ∃ mo, (mo = none → es = []) ∧ Sep (WinL t es sl mo ++ L) st
theorem WinS.at {t : Nat} {es : Fls} {sl : Int} {L : List Asn} {st : St} (h : WinS t es sl L st) : ∃ mv, st t = some (.cells [mv, .int .i64 sl]) := by
  obtain ⟨mo, h0, S⟩ := h
  cases mo with
  | none => exact ⟨_, S.get⟩
  | some m => exact ⟨_, S.get⟩
theorem WinS.sub {t : Nat} {es : Fls} {sl : Int} {L : List Asn} {st st' : St} (h : WinS t es sl L st) (hs : St.sub st st') : WinS t es sl L st' := by
  obtain ⟨mo, h0, S⟩ := h
  exact ⟨mo, h0, S.sub hs⟩
theorem WinS.tail {t : Nat} {es : Fls} {sl : Int} {L L' : List Asn} {st : St} (h : WinS t es sl L st) (hL : ∀ r, Sep L r → Sep L' r) : WinS t es sl L' st := by
  obtain ⟨mo, h0, S⟩ := h
  refine ⟨mo, h0, ?_⟩
  cases mo with
  | none => exact S.tail hL
  | some m => exact S.tail fun r h => h.tail hL
theorem WinS.rest {t : Nat} {es : Fls} {sl : Int} {L : List Asn} {st : St} (h : WinS t es sl L st) : Sep L st := by
  obtain ⟨mo, h0, S⟩ := h
  cases mo with
  | none => exact S.drop
  | some m => exact S.drop.drop
theorem WinS.new {t : Nat} {es : Fls} {sl : Int} {L : List Asn} {st : St} (h : WinS t es sl L st) {i : Nat} (hi : st i = none) (o : AObj) : WinS t es sl (pt i o :: L) (st.upd i o) := by
  obtain ⟨mo, h0, S⟩ := h
  refine ⟨mo, h0, ?_⟩
  have S := S.new hi o
  cases mo with
  | none => exact S.swap
  | some m => exact S.swap.tail fun r h => h.swap
theorem WinS.start {t : Nat} {L : List Asn} {st : St} (h : Sep (pt t (.cells [.map none, .int .i64 0]) :: L) st) : WinS t [] 0 L st := ⟨none, fun _ => rfl, h⟩
def countM (es : Fls) (p : Int) : Nat := es.countP fun e => e.2.1 == p
def limM (sl : Int) : Int := min 160 (20 * 2 ^ sl.toNat)
theorem shl20 {sl : Int} (h : 0 ≤ sl ∧ sl ≤ 3) : binV .shl (.int .i64 20) (.int .i64 sl) = some (.int .i64 (20 * 2 ^ sl.toNat)) := by
  obtain rfl | rfl | rfl | rfl : sl = 0 ∨ sl = 1 ∨ sl = 2 ∨ sl = 3 := by omega
  all_goals rfl
section
variable {P : Program} {F : Fn}
theorem spec279 (ok : OkWindow P F) {st : St} {t : Nat} {mv : V} {sl : Int} (h : st t = some (.cells [mv, .int .i64 sl])) (hs : 0 ≤ sl ∧ sl ≤ 3) : ACalls P (F 279) [.ptr (some (t, 0))] st fun v st' => v = .int .i64 (limM sl) ∧ st' = st := by
  refine shows_call ok.mixed ok.h279 (by simp [k279]) ?_
  simp only [k279]
  have hseg : segOf [mv, V.int .i64 sl] 1 1 = some [.int .i64 sl] := rfl
  have hm : foldV min2V (V.int .i64 160) [V.int .i64 (20 * 2 ^ sl.toNat)] = some (.int .i64 (limM sl)) := by
    simp only [foldV, min2V, if_true, Option.bind_some, limM]
    congr 2
    split <;> omega
  simp [St.seg, h, hseg, shl20 hs, hm]
theorem spec280 (ok : OkWindow P F) {st : St} {t : Nat} {es : Fls} {sl : Int} {L : List Asn} (h : WinS t es sl L st) : ACalls P (F 280) [.ptr (some (t, 0))] st fun v st' => v = .int .i64 (es.length : Nat) ∧ st' = st := by
  refine shows_call ok.mixed ok.h280 (by simp [k280]) ?_
  simp only [k280]
  obtain ⟨mo, h0, S⟩ := h
  have hseg : ∀ mv : V, segOf [mv, V.int .i64 sl] 0 1 = some [mv] := fun _ => rfl
  cases mo with
  | none =>
    have o := S.get
    simp [St.seg, o, hseg, h0 rfl]
  | some m =>
    have o := S.get
    have om := S.drop.get
    simp [St.seg, o, hseg, lenMap_mp om]
theorem spec282 (ok : OkWindow P F) {st : St} {t : Nat} {es : Fls} {sl : Int} {L : List Asn} (h : WinS t es sl L st) (i : Int) : ACalls P (F 282) [.ptr (some (t, 0)), .int .i64 i] st fun v st' => v = .tup [.int .i64 (((lk i es).map (·.1)).getD 0), .bool (lk i es).isSome] ∧ st' = st := by
  refine shows_call ok.mixed ok.h282 (by simp [k282]) ?_
  simp only [k282]
  obtain ⟨mo, h0, S⟩ := h
  have hseg : ∀ mv : V, segOf [mv, V.int .i64 sl] 0 1 = some [mv] := fun _ => rfl
  have z : V.agg [.int .i64 0, .int .i64 0] = vFl (0, 0) := rfl
  have key : ∀ (x : Fl) (b : Bool) (i6 : Nat), storeS (st.upd i6 (.cells [.int .i64 0, .int .i64 0])) 2 (.ptr (some (i6, 0))) (vFl x) = some (st.upd i6 (.cells (eFl x))) := fun x b i6 => by
    rw [store_pt (sz := 2) (o := 0) (vs := eFl x) (St.upd_same _ _ _) rfl rfl (by simp)]
    simp [spliceV, eFl]
  have hf0 : ∀ x : Fl, segOf (eFl x) 0 1 = some [.int .i64 x.1] := fun _ => rfl
  cases mo with
  | none =>
    have o := S.get
    have hl := lookup_none keyed_int (st := st) (V.agg [.int .i64 0, .int .i64 0]) true i
    simp only [kInt] at hl
    have he : es = [] := h0 rfl
    subst he
    simp [St.seg, o, hseg, hl]
    intro i6 h6
    simp [z, key (0, 0) false, St.seg, hf0, sub_upd h6, lk]
  | some m =>
    have o := S.get
    have om := S.drop.get
    have hl := lookup_lk keyed_int (ev := vFl) om (V.agg [.int .i64 0, .int .i64 0]) i
    simp only [kInt] at hl
    have hx : ((lk i es).map vFl).getD (V.agg [.int .i64 0, .int .i64 0]) = vFl ((lk i es).getD (0, 0)) := by
      cases lk i es <;> rfl
    have hy : ((lk i es).getD (0, 0)).1 = ((lk i es).map (·.1)).getD 0 := by cases lk i es <;> rfl
    rw [hx] at hl
    simp [St.seg, o, hseg, hl]
    intro i6 h6
    simp [key _ false, St.seg, hf0, sub_upd h6, hy]
set_option maxHeartbeats 1000000 in
theorem spec281 (ok : OkWindow P F) {st : St} {t : Nat} {es : Fls} {sl : Int} {L : List Asn} (h : WinS t es sl L st) (p : Int) (hl : es.length ≤ 1000000) : ACalls P (F 281) [.ptr (some (t, 0)), .int .i64 p] st fun v st' => v = .int .i64 (countM es p : Nat) ∧ WinS t es sl L st' := by
  refine shows_call ok.mixed ok.h281 (by simp [k281]) ?_
  simp only [k281]
  obtain ⟨mo, h0, S⟩ := h
  have hseg : ∀ mv : V, segOf [mv, V.int .i64 sl] 0 1 = some [mv] := fun _ => rfl
  cases mo with
  | none =>
    have o := S.get
    have he : es = [] := h0 rfl
    subst he
    simp [St.seg, o, hseg, rngMapS]
    intro it hit
    have S := S.new hit (.mit none 0 [] 0)
    generalize st.upd it _ = st2 at S ⊢
    refine vc_joinB (M := fun env' st' => env' 5 = .int .i64 0 ∧ Sep (pt t (.cells [.map none, .int .i64 sl]) :: L) st') ?_ ?_
    · refine vc_loopJ (fun c env' st' => c = 0 ∧ env' 5 = .int .i64 0 ∧ Sep (pt it (.mit none 0 [] 0) :: pt t (.cells [.map none, .int .i64 sl]) :: L) st') 0 ⟨rfl, by simp, S⟩ ?_
      rintro J hJ c env' st3 hsame ⟨rfl, h5, S⟩
      have g12 := (hsame.get 12 rfl).trans (by simp : _ = V.ptr (some (it, 0)))
      clear hsame
      have oi := S.get
      simp [g12, nextMapS, oi, h5]
      exact S.drop
    · rintro env' st3 hsame ⟨h5, S⟩
      have g11 := (hsame.get 11 rfl).trans (by simp : _ = V.map none)
      clear hsame
      refine frzP_one (v := .map none) (st' := st3) (by rw [g11]; rfl) ?_
      simp [h5, countM]
      exact ⟨st3, sub_self _, none, fun _ => rfl, S⟩
  | some m =>
    have o := S.get
    simp [St.seg, o, hseg]
    refine Sep.rng S.swap ?_
    intro it st2 S
    rw [encG_start] at S
    simp
    refine vc_joinB (M := fun env' st' => env' 5 = .int .i64 (countM es p : Nat) ∧ ∃ fl last, fl.map (·.1) = es ∧ Sep (Going m it (encG kInt vFl fl) last :: pt t (.cells [.map (some m), .int .i64 sl]) :: L) st') ?_ ?_
    · refine vc_loopJ (fun c env' st' => ∃ fl last, c = unseen (encG kInt vFl fl) ∧ fl.map (·.1) = es ∧ env' 5 = .int .i64 (countM (flg fl) p : Nat) ∧ Sep (Going m it (encG kInt vFl fl) last :: pt t (.cells [.map (some m), .int .i64 sl]) :: L) st') (unseen (encG kInt vFl (es.map fun x => (x, false))))
        ⟨_, none, rfl, by simp [Function.comp_def], by simp [flg_none, countM], S⟩ ?_
      rintro J hJ c env' st3 hsame ⟨fl, last, rfl, hfl, h5, S⟩
      have g1 := (hsame.get 1 rfl).trans (by simp : _ = V.int .i64 p)
      have g12 := (hsame.get 12 rfl).trans (by simp : _ = V.ptr (some (it, 0)))
      clear hsame
      simp [g12]
      refine Sep.next S ?_ ?_
      · intro hall
        have := flg_all (encG_all kInt vFl hall)
        rw [this, hfl] at h5
        simp [h5]
        exact ⟨fl, hfl, last, S⟩
      · intro i hi hf st4 S
        have hi' : i < fl.length := by rw [← encG_len kInt vFl]; exact hi
        rw [encG_set kInt vFl fl hi' hi] at S
        obtain ⟨hi2, hent⟩ := S.ent
        have hfi : fl[i].2 = false := by simpa [encG] using hf
        obtain ⟨x, hx⟩ : ∃ x, x = fl[i].1 := ⟨_, rfl⟩
        simp [encG, ← hx] at hent
        simp [g12, hent]
        intro i7 h7
        have key : storeS (st4.upd i7 (.cells [.int .i64 0, .int .i64 0])) 2 (.ptr (some (i7, 0))) (vFl x.2) = some (st4.upd i7 (.cells (eFl x.2))) := by
          rw [store_pt (sz := 2) (o := 0) (vs := eFl x.2) (St.upd_same _ _ _) rfl rfl (by simp)]
          simp [spliceV, eFl]
        have hf0 : segOf (eFl x.2) 0 1 = some [.int .i64 x.2.1] := rfl
        have S := S.new h7 (.cells (eFl x.2))
        have hun := unseen_set hi hf ((encG kInt vFl fl)[i].1)
        rw [encG_set kInt vFl fl hi' hi] at hun
        have hpm := (flg_set hi' hfi).countP_eq (fun e => e.2.1 == p)
        rw [List.countP_append, ← hx] at hpm
        have hle : countM (flg fl) p ≤ 1000000 := by
          refine Nat.le_trans List.countP_le_length (Nat.le_trans ?_ hl)
          rw [← hfl, List.length_map]
          unfold flg
          rw [List.length_map]
          exact List.length_filter_le _ _
        have w1 : IntKind.i64.wrap ((countM (flg fl) p : Int) + 1) = (countM (flg fl) p : Int) + 1 := wrap64 (by omega) (by omega)
        by_cases hp : x.2.1 = p
        · have e1 : countM (flg (fl.set i (x, true))) p = countM (flg fl) p + 1 := by
            rw [hx] at hpm ⊢
            unfold countM
            rw [hpm, ← hx]
            simp [hp]
          simp [key, St.seg, hf0, g1, hp, h5, w1]
          exact Round.mk _ _ hun (sub_self _) (hJ _ _ _ ⟨fl.set i (fl[i].1, true), some i, rfl, by rw [fst_set hi', hfl], by simp [← hx, e1], S.drop⟩)
        · have e1 : countM (flg (fl.set i (x, true))) p = countM (flg fl) p := by
            rw [hx] at hpm ⊢
            unfold countM
            rw [hpm, ← hx]
            simp [hp]
          have hpb : (x.2.1 == p) = false := beq_eq_false_iff_ne.2 hp
          simp [key, St.seg, hf0, g1, hpb, h5]
          exact Round.mk _ _ hun (sub_self _) (hJ _ _ _ ⟨fl.set i (fl[i].1, true), some i, rfl, by rw [fst_set hi', hfl], by simp [← hx, e1, h5], S.drop⟩)
    · rintro env' st3 hsame ⟨h5, fl, last, hfl, S⟩
      have g11 := (hsame.get 11 rfl).trans (by simp : _ = V.map (some m))
      clear hsame
      obtain ⟨hfz, S⟩ := S.gone
      refine frzP_one (by rw [g11]; exact hfz) ?_
      rw [encG_map, hfl] at S
      simp [h5]
      exact ⟨_, sub_self _, some m, (fun e => by cases e), by rw [encG_map, hfl]; exact S.swap⟩
def askM (es : Fls) (i p : Int) : Int := if (lk i es).isSome = true then 5 else if 16 ≤ countM es p then 3 else 0
def askT (es : Fls) (i p now : Int) : Fls := if askM es i p = 0 then es ++ [(i, p, now)] else es
theorem aSet_app {K A : Type} [DecidableEq K] (k : K) (v : A) : ∀ l : List (K × A), lk k l = none → aSet k v l = l ++ [(k, v)]
  | [], _ => rfl
  | p :: l, h => by
    unfold lk at h
    rw [List.lookup_cons] at h
    by_cases hk : k = p.1
    · simp [hk] at h
    · have : (k == p.1) = false := by simpa using hk
      rw [this] at h
      rw [aSet, if_neg hk, aSet_app k v l h]
      rfl
set_option maxHeartbeats 1000000 in
theorem spec283 (ok : OkWindow P F) {st : St} {t : Nat} {es : Fls} {sl : Int} {L : List Asn} (h : WinS t es sl L st) (i p now : Int) (hl : es.length ≤ 1000000) : ACalls P (F 283) [.ptr (some (t, 0)), .int .i64 i, .int .i64 p, .int .i64 now] st fun v st' => v = .int .i64 (askM es i p) ∧ WinS t (askT es i p now) sl L st' := by
  refine shows_call ok.mixed ok.h283 (by simp [k283]) ?_
  simp only [k283]
  have hseg : ∀ mv : V, segOf [mv, V.int .i64 sl] 0 1 = some [mv] := fun _ => rfl
  have z : V.agg [.int .i64 0, .int .i64 0] = vFl (0, 0) := rfl
  have key : ∀ (x : Fl) (st : St) (i6 : Nat), storeS (st.upd i6 (.cells [.int .i64 0, .int .i64 0])) 2 (.ptr (some (i6, 0))) (vFl x) = some (st.upd i6 (.cells (eFl x))) := fun x st i6 => by
    rw [store_pt (sz := 2) (o := 0) (vs := eFl x) (St.upd_same _ _ _) rfl rfl (by simp)]
    simp [spliceV, eFl]
  have hfb : fillV [V.int .i64 0, V.int .i64 0] [(0, 1, V.int .i64 p), (1, 1, V.int .i64 now)] = some (eFl (p, now)) := rfl
  have hlook : ∃ st2, lookupV st .int (V.agg [.int .i64 0, .int .i64 0]) true ((fun mo : Option Nat => V.map mo) (Classical.choose h)) (.int .i64 i) = some (.tup [vFl ((lk i es).getD (0, 0)), .bool (lk i es).isSome]) ∧ st2 = st := by
    have h1 := Classical.choose_spec h
    refine ⟨st, ?_, rfl⟩
    generalize Classical.choose h = mo at h1
    cases mo with
    | none =>
      have he : es = [] := h1.1 rfl
      subst he
      exact lookup_none keyed_int (st := st) (V.agg [.int .i64 0, .int .i64 0]) true i
    | some m =>
      have hl := lookup_lk keyed_int (ev := vFl) (h1.2.drop.get) (V.agg [.int .i64 0, .int .i64 0]) i
      have hx : ((lk i es).map vFl).getD (V.agg [.int .i64 0, .int .i64 0]) = vFl ((lk i es).getD (0, 0)) := by
        cases lk i es <;> rfl
      rw [hx] at hl
      exact hl
  have h1 := Classical.choose_spec h
  obtain ⟨-, hlook, -⟩ := hlook
  generalize Classical.choose h = mo at h1 hlook
  have o : st t = some (.cells [.map mo, .int .i64 sl]) := by
    cases mo with
    | none => exact h1.2.get
    | some m => exact h1.2.get
  simp [St.seg, o, hseg, hlook]
  intro i9 h9
  have W : WinS t es sl (pt i9 (.cells (eFl ((lk i es).getD (0, 0)))) :: L) ((st.upd i9 (.cells [.int .i64 0, .int .i64 0])).upd i9 (.cells (eFl ((lk i es).getD (0, 0))))) := by
    simp
    exact WinS.new h h9 _
  simp at W
  simp [key]
  generalize st.upd i9 (.cells (eFl ((lk i es).getD (0, 0)))) = st2 at W ⊢
  have W := W.tail fun r h => h.drop
  cases hs : (lk i es).isSome with
  | true =>
    have e1 : askM es i p = 5 := by rw [askM, if_pos hs]
    have e2 : askT es i p now = es := by rw [askT, if_neg (by rw [e1]; decide)]
    simp [e1, e2]
    exact ⟨st2, sub_self _, W⟩
  | false =>
    have hnone : lk i es = none := by cases hx : lk i es with | none => rfl | some _ => rw [hx] at hs; cases hs
    simp
    refine (spec281 ok W p hl).mono ?_
    rintro v st3 ⟨rfl, W⟩
    by_cases c16 : 16 ≤ countM es p
    · have e1 : askM es i p = 3 := by rw [askM, if_neg (by simp [hs]), if_pos c16]
      have e2 : askT es i p now = es := by rw [askT, if_neg (by rw [e1]; decide)]
      have c16' : 16 ≤ (countM es p : Int) := by omega
      simp [c16', c16, e1, e2]
      exact ⟨st3, sub_self _, W⟩
    · have e1 : askM es i p = 0 := by rw [askM, if_neg (by simp [hs]), if_neg c16]
      have e2 : askT es i p now = es ++ [(i, p, now)] := by rw [askT, if_pos e1]
      have c16' : ¬ 16 ≤ (countM es p : Int) := by omega
      have hset : aSet i (p, now) es = es ++ [(i, p, now)] := aSet_app i (p, now) es hnone
      obtain ⟨mo, h0, S⟩ := W
      rw [e1, e2]
      cases mo with
      | none =>
        have he : es = [] := h0 rfl
        subst he
        have o := S.get
        simp [c16', c16, St.seg, o, hseg, eqK]
        intro m hm
        have S := S.new hm (.mp [])
        have o2 := S.drop.get
        have hst := store_pt (sz := 1) (o := 0) o2 (v := .map (some m)) (vs := [.map (some m)]) rfl rfl (by simp)
        rw [show spliceV [V.map none, V.int .i64 sl] 0 [V.map (some m)] = [.map (some m), .int .i64 sl] from rfl] at hst
        have S := S.setAt (.cells [.map (some m), .int .i64 sl]) 1 rfl
        simp only [List.set_cons_succ, List.set_cons_zero] at S
        simp [hst]
        generalize (st3.upd m (.mp [])).upd t _ = st4 at S ⊢
        have om := S.get
        have ot := S.drop.get
        have hms := mset_enc keyed_int (ev := vFl) (l := []) om i (p, now)
        simp only [kInt] at hms
        have hv : V.agg (eFl (p, now)) = vFl (p, now) := rfl
        simp [St.seg, ot, hseg, hfb, hv, hms]
        exact ⟨_, sub_self _, some m, (fun e => by cases e), (S.set _).swap⟩
      | some m =>
        have ot := S.get
        have om := S.drop.get
        have hms := mset_enc keyed_int (ev := vFl) om i (p, now)
        simp only [kInt] at hms
        have hv : V.agg (eFl (p, now)) = vFl (p, now) := rfl
        simp [c16', c16, St.seg, ot, hseg, eqK, hfb, hv, hms]
        rw [hset]
        exact ⟨_, sub_self _, some m, (fun e => by cases e), (S.swap.set _).swap⟩
end
end Go.Ab
set_option linter.unusedVariables false
namespace Go.Ab
open Go
end Go.Ab
set_option linter.unusedSimpArgs false
set_option linter.unusedVariables false
set_option maxRecDepth 10000
namespace Go.Ab
open Go Go.RowKit
section
variable {P : Program} {F : Fn}
structure Blk1 where
  hdr : Hdr
  tk : SK
  txs : List Tx1
def txsV (k : SK) (l : List Tx1) : V := .sl k (rowsOf eTx l) l.length
def eBlk (b : Blk1) : List V := eHdr b.hdr ++ [txsV b.tk b.txs]
theorem eBlk_len (b : Blk1) : (eBlk b).length = 69 := by simp [eBlk, eHdr_len]
theorem bsegH (b : Blk1) : segOf (eBlk b) 0 68 = some (eHdr b.hdr) := seg_of_drop (zs := [txsV b.tk b.txs]) rfl (eHdr_len _) (by omega)
theorem bdrop68 (b : Blk1) : (eBlk b).drop 68 = [txsV b.tk b.txs] := by rw [eBlk, List.drop_left' (eHdr_len _)]
theorem bsegT (b : Blk1) : segOf (eBlk b) 68 1 = some [txsV b.tk b.txs] := seg_of_drop (zs := []) (bdrop68 b) rfl (by omega)
theorem bsegAll (b : Blk1) : segOf (eBlk b) 0 69 = some (eBlk b) := by simp [segOf, eBlk_len, List.take_of_length_le]
theorem bsplH (b : Blk1) (h : Hdr) : spliceV (eBlk b) 0 (eHdr h) = eBlk { b with hdr := h } := by
  rw [spliceV, List.take_zero, List.nil_append, Nat.zero_add, eHdr_len, bdrop68]
  rfl
theorem splRoot (h : Hdr) (x : Id) (zs : List V) : spliceV (eHdr h ++ zs) 33 (eId x) = eHdr { h with root := x } ++ zs := by
  have e : eHdr h ++ zs = (w32 h.ver :: eId h.prev) ++ (eId h.root ++ ([w32 h.time, w32 h.bits, w32 h.nonce] ++ zs)) := by simp [eHdr]
  have hl : (w32 h.ver :: eId h.prev).length = 33 := by simp [eId_len]
  have e2 : 33 + (eId x).length = (w32 h.ver :: eId h.prev).length + 32 := by rw [eId_len, hl]
  rw [spliceV, e2, e, ← List.drop_drop, List.drop_left, List.drop_left' (eId_len _), ← hl, List.take_left]
  simp [eHdr]
theorem bsplRoot (b : Blk1) (x : Id) : spliceV (eBlk b) 33 (eId x) = eBlk { b with hdr := { b.hdr with root := x } } := splRoot b.hdr x _
end
end Go.Ab
set_option linter.unusedSimpArgs false
set_option linter.unusedVariables false
set_option maxRecDepth 10000
namespace Go.Ab
open Go Go.RowKit
def Tx1.fine (t : Tx1) : Prop := t.ins.length ≤ 32 ∧ t.outs.length ≤ 32 ∧ ∀ x ∈ t.ins, x.key.length ≤ 100
theorem Tx1.fine.ok {t : Tx1} (h : t.fine) : t.ok 100 := ⟨by have := h.1; omega, by have := h.2.1; omega, fun x hx => by have := h.2.2 x hx; omega⟩
theorem txB_fine (t : Tx1) (h : t.fine) : (txB t).length ≤ 10000 := by
  have hc1 := countB_len (BitVec.ofNat 64 t.ins.length)
  have hc2 := countB_len (BitVec.ofNat 64 t.outs.length)
  have h1 := fm_len inB 145 t.ins fun x hx => by
    have := textB_len x.key
    have := h.2.2 x hx
    simp [inB, putB_len]
    omega
  have h2 := fm_len outB 40 t.outs fun x hx => by rw [outB_len]; omega
  have h3 := h.1
  have h4 := h.2.1
  rw [txB, List.length_append, List.length_append, List.length_append]
  omega
theorem insGo_keys : ∀ (l : List In1) (first : Bool) (seen : List Pt), insGo first seen l = none → ∀ x ∈ l, x.key.length ≤ 100
  | [], _, _, _, x, hx => by cases hx
  | a :: l, first, seen, h, x, hx => by
    rw [insGo] at h
    split at h
    · cases h
    · rename_i hk
      split at h
      · cases h
      · split at h
        · cases h
        · rcases List.mem_cons.1 hx with rfl | hx
          · omega
          · exact insGo_keys l first _ h x hx
theorem txM_fine {t : Tx1} {first : Bool} (h : txM t first = 0) : t.fine := by
  unfold txM at h
  split at h
  · cases h
  · rename_i hc
    split at h
    · rename_i e he
      subst h
      exfalso
      have : ∀ (l : List In1) (seen : List Pt), insGo first seen l ≠ some 0 := by
        intro l
        induction l with
        | nil => intro seen h; cases h
        | cons a l ih =>
          intro seen
          rw [insGo]
          split
          · simp
          · split
            · simp
            · split
              · simp
              · exact ih _
      exact this _ _ he
    · rename_i he
      exact ⟨by omega, by omega, insGo_keys _ _ _ he⟩
def blkB (b : Blk1) : List UInt8 := hBytes b.hdr ++ (countB (BitVec.ofNat 64 b.txs.length) ++ b.txs.flatMap txB)
theorem bsegAll0 (b : Blk1) : segOf (eBlk b) 0 69 = some (eBlk b) := bsegAll b
theorem rd_txs (b : Blk1) (st : St) : Rd 2 eTx (txsV b.tk b.txs) b.txs st := .inl ⟨b.tk, rfl⟩
section
variable {P : Program} {F : Fn}
set_option maxHeartbeats 1000000 in
theorem spec204r (ok : OkTx P F) {st : St} {wid : Nat} {l : List UInt8} {L : List Asn} (S : WrR wid l L st) {x : V} {m : List UInt8} (hx : Rd 1 e8 x m st) (hl : l.length + m.length ≤ 900000) :
    ACalls P (F 204) [.ptr (some (wid, 0)), .sl .full [x] 1] st fun v st' => v = .tup [] ∧ WrR wid (l ++ m) L st' := by
  refine shows_call ok.mixed ok.h204 (by simp [k204]) ?_
  simp only [k204]
  simp
  obtain ⟨s, S⟩ := S
  have o := S.get
  have hsg : segOf [x] 0 1 = some [x] := rfl
  have hsg0 : segOf [s] 0 1 = some [s] := rfl
  have hel := hx.elems e8_len
  refine vc_unroll 2 ?_
  simp [unr_succ, hsg, St.seg, o, hsg0, hel]
  refine Wr.app S m rfl rfl (by omega) ?_
  intro s' st2 st3 hc' hst S'
  simp [hst, unr_succ]
  exact ⟨st3, sub_self _, S'⟩
set_option maxHeartbeats 4000000 in
theorem spec251 (ok : OkCheck2 P F) (st : St) (b : Blk1) (hl : b.txs.length ≤ 32) (hb : ∀ t ∈ b.txs, t.fine) : ACalls P (F 251) [.agg (eBlk b)] st fun v st' => Sep [Slx 1 e8 v (blkB b), Was st] st' := by
  have okt := ok.toOkCheck.toOkTx
  refine shows_call ok.mixed ok.h251 (by simp [k251]) ?_
  simp only [k251]
  simp
  intro i1 h1
  have S := (Sep.start st).new h1 (.cells (eBlk b))
  generalize st.upd i1 _ = st1 at S ⊢
  simp
  intro wid hw
  have S := S.slxNil (sz := 1) (f := e8)
  have S := S.new hw (.cells [.sl .nil [] 0])
  generalize st1.upd wid _ = st2 at S ⊢
  have o1 := S.mem (i := i1) (o := .cells (eBlk b)) (by simp)
  have hsH := bsegH b
  have hsT := bsegT b
  have hln : lenSlV (txsV b.tk b.txs) = some (.int .i64 b.txs.length) := rfl
  simp [St.seg, o1, hsH]
  refine (spec140 okt.toOkHead st2 b.hdr).mono ?_
  intro v st3 S1
  have S := S1.ov S
  have hf := partFill S.cells
  have rdv : Rd 1 e8 v (hBytes b.hdr) st3 := Sep.rd e8_len (S.head fun h hh => hh.sl)
  have S : WrR wid [] (Slx 1 e8 v (hBytes b.hdr) :: pt i1 (.cells (eBlk b)) :: [Was st]) st3 := ⟨_, S.swap.tail fun r h => h.swap⟩
  simp [hf]
  refine (spec204r okt S rdv (by rw [hBytes_len]; simp)).mono ?_
  rintro u st4 ⟨rfl, S⟩
  rw [List.nil_append] at S
  have S := S.tail fun r h => h.drop
  have o1 : st4 i1 = some (.cells (eBlk b)) := by
    obtain ⟨s, S⟩ := S
    exact S.mem (by simp)
  simp [St.seg, o1, hsT, hln]
  refine (spec203 okt S (by rw [hBytes_len]; omega) _).mono ?_
  rintro u st5 ⟨rfl, S⟩
  have o1 : st5 i1 = some (.cells (eBlk b)) := by
    obtain ⟨s, S⟩ := S
    exact S.mem (by simp)
  simp [St.seg, o1, hsT, hln]
  have hc0 := countB_len (BitVec.ofNat 64 b.txs.length)
  refine vc_loopJ (fun c env' st' => ∃ i : Nat, i ≤ b.txs.length ∧ c = b.txs.length - i ∧ env' 19 = .int .i64 (i : Nat) ∧ WrR wid (hBytes b.hdr ++ countB (BitVec.ofNat 64 b.txs.length) ++ (b.txs.take i).flatMap txB) (pt i1 (.cells (eBlk b)) :: [Was st]) st') b.txs.length
    ⟨0, by omega, by omega, by simp, by simpa using S⟩ ?_
  rintro J hJ c env' st6 hsame ⟨i, hi, rfl, h19, S⟩
  have g3 := (hsame.get 3 rfl).trans (by simp : _ = V.ptr (some (wid, 0)))
  have g17 := (hsame.get 17 rfl).trans (by simp : _ = txsV b.tk b.txs)
  have g18 := (hsame.get 18 rfl).trans (by simp : _ = V.int .i64 (b.txs.length : Int))
  clear hsame
  have hlen : ∀ k, ((b.txs.take k).flatMap txB).length ≤ 320000 := fun k => by
    have := fm_len txB 10000 (b.txs.take k) fun t ht => txB_fine t (hb t (List.mem_of_mem_take ht))
    rw [List.length_take] at this
    have h2 : min k b.txs.length * 10000 ≤ 32 * 10000 := Nat.mul_le_mul_right _ (by omega)
    omega
  have hw : (hBytes b.hdr ++ countB (BitVec.ofNat 64 b.txs.length) ++ (b.txs.take i).flatMap txB).length ≤ 330000 := by
    have := hlen i
    rw [List.length_append, List.length_append, hBytes_len]
    omega
  by_cases hlt : i < b.txs.length
  · obtain ⟨r1, r2, r3, r4⟩ := (rd_txs b st6).row eTx_len hlt
    have htf := hb b.txs[i] (List.getElem_mem hlt)
    obtain ⟨t, ht⟩ : ∃ t, t = b.txs[i] := ⟨_, rfl⟩
    rw [← ht] at r3 htf
    have w1 : IntKind.i64.wrap ((i : Int) + 1) = (i : Int) + 1 := wrap64 (by omega) (by omega)
    simp [g17, g18, h19, hlt, r1, r3]
    intro i5 h5
    have S := S.new h5 (.cells [.sl .nil [] 0, .sl .nil [] 0])
    have o5 : (st6.upd i5 (.cells [.sl .nil [] 0, .sl .nil [] 0])) i5 = some (.cells [.sl .nil [] 0, .sl .nil [] 0]) := by simp
    have hst := store_pt (sz := 2) (o := 0) o5 (v := .agg (eTx t)) (vs := eTx t) rfl rfl (by simp)
    rw [show spliceV [V.sl .nil [] 0, V.sl .nil [] 0] 0 (eTx t) = eTx t from rfl] at hst
    have S : WrR wid (hBytes b.hdr ++ countB (BitVec.ofNat 64 b.txs.length) ++ (b.txs.take i).flatMap txB) (pt i5 (.cells (eTx t)) :: pt i1 (.cells (eBlk b)) :: [Was st]) ((st6.upd i5 (.cells [.sl .nil [] 0, .sl .nil [] 0])).upd i5 (.cells (eTx t))) := by
      obtain ⟨s, S⟩ := S
      exact ⟨s, ((S.pull 2).set (.cells (eTx t))).swap.tail fun r h => h.swap⟩
    simp [hst] at S ⊢
    generalize (st6.upd i5 (.cells (eTx t))) = st7 at S ⊢
    have o5 : st7 i5 = some (.cells (eTx t)) := by
      obtain ⟨s, S⟩ := S
      exact S.mem (by simp)
    simp [g3, St.seg, o5, tsegAll]
    refine (spec201 okt S t htf.ok (by rw [← List.append_assoc]; omega)).mono ?_
    rintro u st8 ⟨rfl, S⟩
    simp [h19, w1]
    refine Round.mk (b.txs.length - (i + 1)) _ (by omega) (sub_self _) (hJ _ _ _ ⟨i + 1, by omega, rfl, by simp, ?_⟩)
    rw [List.take_succ_eq_append_getElem hlt, ← ht, List.flatMap_append]
    have S := S.tail fun r h => h.drop
    refine S.imp ?_
    simp
  · have : i = b.txs.length := by omega
    subst this
    rw [List.take_length] at S hw
    simp [g3, g18, h19]
    refine (spec202 okt S (by omega)).mono ?_
    rintro u st7 ⟨s, S⟩
    simp
    refine ⟨st7, sub_self _, ?_⟩
    rw [List.append_assoc] at S
    exact S.tail fun r h => h.drop.drop.drop
def rootE (b : Blk1) : Int := if (∃ t ∈ b.txs, (txB t).length = 64) ∨ (rootM (rowsIds b.txs)).2 = true ∨ (rootM (rowsIds b.txs)).1 ≠ b.hdr.root then 40 else 0
set_option maxHeartbeats 4000000 in
theorem spec252 (ok : OkCheck2 P F) (st : St) (b : Blk1) (hl : b.txs.length ≤ 1000) (hb : ∀ t ∈ b.txs, t.ok 100) : ACalls P (F 252) [.agg (eBlk b)] st fun v st' => v = .int .i64 (rootE b) ∧ St.sub st st' := by
  have okt := ok.toOkCheck.toOkTx
  refine shows_call ok.mixed ok.h252 (by simp [k252]) ?_
  simp only [k252]
  simp
  intro i1 h1
  have S := (Sep.start st).new h1 (.cells (eBlk b))
  generalize st.upd i1 _ = st1 at S ⊢
  have o1 := S.get
  have hsT := bsegT b
  have hln : lenSlV (txsV b.tk b.txs) = some (.int .i64 b.txs.length) := rfl
  simp [St.seg, o1, hsT, hln]
  refine vc_joinB (M := fun env' st' => (∀ t ∈ b.txs, (txB t).length ≠ 64) ∧ Sep [pt i1 (.cells (eBlk b)), Was st] st') ?_ ?_
  · refine vc_loopJ (fun c env' st' => ∃ i : Nat, i ≤ b.txs.length ∧ c = b.txs.length - i ∧ env' 10 = .int .i64 (i : Nat) ∧ (∀ t ∈ b.txs.take i, (txB t).length ≠ 64) ∧ Sep [pt i1 (.cells (eBlk b)), Was st] st') b.txs.length
      ⟨0, by omega, by omega, by simp, by simp, S⟩ ?_
    rintro J hJ c env' st6 hsame ⟨i, hi, rfl, h10, hno, S⟩
    have g8 := (hsame.get 8 rfl).trans (by simp : _ = txsV b.tk b.txs)
    have g9 := (hsame.get 9 rfl).trans (by simp : _ = V.int .i64 (b.txs.length : Int))
    clear hsame
    by_cases hlt : i < b.txs.length
    · obtain ⟨r1, r2, r3, r4⟩ := (rd_txs b st6).row eTx_len hlt
      have htf := hb b.txs[i] (List.getElem_mem hlt)
      have hmem := List.getElem_mem hlt
      obtain ⟨t, ht⟩ : ∃ t, t = b.txs[i] := ⟨_, rfl⟩
      rw [← ht] at r3 htf hmem
      have w1 : IntKind.i64.wrap ((i : Int) + 1) = (i : Int) + 1 := wrap64 (by omega) (by omega)
      simp [g8, g9, h10, hlt, r1, r3]
      intro i4 h4
      have S := S.new h4 (.cells [.sl .nil [] 0, .sl .nil [] 0])
      have hst := store_pt (sz := 2) (o := 0) S.get (v := .agg (eTx t)) (vs := eTx t) rfl rfl (by simp)
      rw [show spliceV [V.sl .nil [] 0, V.sl .nil [] 0] 0 (eTx t) = eTx t from rfl] at hst
      have S := S.set (.cells (eTx t))
      simp [hst] at S ⊢
      generalize (st6.upd i4 (.cells (eTx t))) = st7 at S ⊢
      have o4 := S.get
      simp [St.seg, o4, tsegAll]
      refine (spec200 okt st7 t htf).mono ?_
      intro u st8 S1
      have S := S1.ov S
      have hlu := (Sep.rd e8_len (S.head fun h hh => hh.sl)).len
      by_cases h64 : (txB t).length = 64
      · have e : rootE b = 40 := by rw [rootE, if_pos (.inl ⟨t, hmem, h64⟩)]
        simp [hlu, h64, e]
        exact ⟨st8, sub_self _, S.was' (st0 := st) (by simp)⟩
      · have h64' : (((txB t).length : Int) == 64) = false := by
          rw [beq_eq_false_iff_ne]; omega
        simp [hlu, h64', h10, w1]
        refine Round.mk (b.txs.length - (i + 1)) _ (by omega) (sub_self _) (hJ _ _ _ ⟨i + 1, by omega, rfl, by simp, ?_, S.drop.drop⟩)
        intro y hy
        rw [List.take_succ_eq_append_getElem hlt, ← ht] at hy
        rcases List.mem_append.1 hy with hy | hy
        · exact hno y hy
        · rw [List.mem_singleton.1 hy]; exact h64
    · have : i = b.txs.length := by omega
      subst this
      rw [List.take_length] at hno
      simp [g9, h10]
      exact ⟨hno, S⟩
  · rintro env' st3 hsame ⟨hno, S⟩
    have g1 := (hsame.get 1 rfl).trans (by simp : _ = V.ptr (some (i1, 0)))
    clear hsame
    have o1 := S.get
    simp [g1, St.seg, o1, hsT]
    refine (spec192 okt st3 (rd_txs b st3) hl hb).mono ?_
    rintro v st3 ⟨rfl, rfl⟩
    obtain ⟨rt, hrt⟩ : ∃ rt, rt = (rootM (rowsIds b.txs)).1 := ⟨_, rfl⟩
    rw [← hrt]
    simp
    intro i5 h5
    have S := S.new h5 (.cells zR32_w80)
    have hst := store_z32 S.get rt
    have S := S.set (.cells (eId rt))
    simp [hst] at S ⊢
    generalize st3.upd i5 (.cells (eId rt)) = st4 at S ⊢
    have o5 := S.get
    have o1 := S.mem (i := i1) (o := .cells (eBlk b)) (by simp)
    have hsr : segOf (eBlk b) 33 32 = some (eId b.hdr.root) := by
      have := hsegRoot b.hdr
      unfold segOf at this ⊢
      rw [eHdr_len, if_pos (by omega)] at this
      rw [eBlk_len, if_pos (by omega), ← Option.some.inj this, eBlk, List.drop_append_of_le_length (by rw [eHdr_len]; omega), List.take_append_of_le_length (by rw [List.length_drop, eHdr_len]; omega)]
    have hq : eqK (.agg 32) (.agg (eId rt)) (.agg (eId b.hdr.root)) = some (decide (rt = b.hdr.root)) := by simp [eqK, eId_len, eqL_id]
    have hs0 := segId0 rt
    have hs1 := segId0 b.hdr.root
    have hq1 : eqK (.agg 32) (.agg (eId b.hdr.root)) (.agg (eId b.hdr.root)) = some true := by simp [eqK, eId_len, eqL_id]
    have hw := S.was' (st0 := st) (by simp)
    cases htw : (rootM (rowsIds b.txs)).2 with
    | true =>
      have e : rootE b = 40 := by rw [rootE, if_pos (.inr (.inl htw))]
      simp [e]
      exact ⟨st4, sub_self _, hw⟩
    | false =>
      by_cases hr : rt = b.hdr.root
      · have e : rootE b = 0 := by
          rw [rootE, if_neg]
          rintro (⟨t, h1, h2⟩ | h | h)
          · exact hno t h1 h2
          · rw [htw] at h; cases h
          · exact h (by rw [← hrt]; exact hr)
        simp [St.seg, o5, o1, hs0, hs1, hsr, hq, hq1, hr, g1, e]
        exact ⟨st4, sub_self _, hw⟩
      · have e : rootE b = 40 := by rw [rootE, if_pos (.inr (.inr (by rw [← hrt]; exact hr)))]
        simp [St.seg, o5, o1, hs0, hs1, hsr, hq, hq1, hr, g1, e]
        exact ⟨st4, sub_self _, hw⟩
def txsE : Nat → List Tx1 → Int
  | _, [] => 0
  | i, t :: l => if txM t (i == 0) ≠ 0 then txM t (i == 0) else txsE (i + 1) l
def blkE (b : Blk1) : Int :=
  if b.txs.length = 0 ∨ 32 < b.txs.length then 120 else if txsE 0 b.txs ≠ 0 then txsE 0 b.txs else if 8192 < (blkB b).length then 2 else rootE b
set_option maxHeartbeats 4000000 in
theorem spec253 (ok : OkCheck2 P F) (st : St) (b : Blk1) (hl : b.txs.length ≤ 100000) (hb : ∀ t ∈ b.txs, t.ins.length ≤ 100000 ∧ t.outs.length ≤ 100000 ∧ ∀ x ∈ t.ins, x.key.length ≤ 1000000) : ACalls P (F 253) [.agg (eBlk b)] st fun v st' => v = .int .i64 (blkE b) ∧ St.sub st st' := by
  have okt := ok.toOkCheck.toOkTx
  refine shows_call ok.mixed ok.h253 (by simp [k253]) ?_
  simp only [k253]
  simp
  intro i1 h1
  have S := (Sep.start st).new h1 (.cells (eBlk b))
  generalize st.upd i1 _ = st1 at S ⊢
  have o1 := S.get
  have hsT := bsegT b
  have hln : lenSlV (txsV b.tk b.txs) = some (.int .i64 b.txs.length) := rfl
  have hw := S.was' (st0 := st) (by simp)
  by_cases c1 : b.txs.length = 0
  · have e : blkE b = 120 := by rw [blkE, if_pos (.inl c1)]
    have c1' : ((b.txs.length : Int) == 0) = true := by simp; exact List.length_eq_zero_iff.1 c1
    simp [St.seg, o1, hsT, hln, c1', e]
    exact ⟨st1, sub_self _, hw⟩
  have b1 : ((b.txs.length : Int) == 0) = false := by simpa using c1
  by_cases c2 : 32 < b.txs.length
  · have e : blkE b = 120 := by rw [blkE, if_pos (.inr c2)]
    have c2' : 32 < (b.txs.length : Int) := by omega
    simp [St.seg, o1, hsT, hln, b1, c2', c2, e]
    exact ⟨st1, sub_self _, hw⟩
  have c2' : ¬ 32 < (b.txs.length : Int) := by omega
  have e0 : blkE b = if txsE 0 b.txs ≠ 0 then txsE 0 b.txs else if 8192 < (blkB b).length then 2 else rootE b := by rw [blkE, if_neg (by omega)]
  simp [St.seg, o1, hsT, hln, b1, c2', c2]
  refine vc_joinB (M := fun env' st' => txsE 0 b.txs = 0 ∧ (∀ t ∈ b.txs, t.fine) ∧ Sep [pt i1 (.cells (eBlk b)), Was st] st') ?_ ?_
  · refine vc_loopJ (fun c env' st' => ∃ i : Nat, i ≤ b.txs.length ∧ c = b.txs.length - i ∧ env' 19 = .int .i64 (i : Nat) ∧ txsE i (b.txs.drop i) = txsE 0 b.txs ∧ (∀ t ∈ b.txs.take i, t.fine) ∧ Sep [pt i1 (.cells (eBlk b)), Was st] st') b.txs.length
      ⟨0, by omega, by omega, by simp, by simp, by simp, S⟩ ?_
    rintro J hJ c env' st6 hsame ⟨i, hi, rfl, h19, hgo, hfi, S⟩
    have g17 := (hsame.get 17 rfl).trans (by simp : _ = txsV b.tk b.txs)
    have g18 := (hsame.get 18 rfl).trans (by simp : _ = V.int .i64 (b.txs.length : Int))
    clear hsame
    by_cases hlt : i < b.txs.length
    · obtain ⟨r1, r2, r3, r4⟩ := (rd_txs b st6).row eTx_len hlt
      have htf := hb b.txs[i] (List.getElem_mem hlt)
      rw [List.drop_eq_getElem_cons hlt, txsE] at hgo
      obtain ⟨t, ht⟩ : ∃ t, t = b.txs[i] := ⟨_, rfl⟩
      rw [← ht] at r3 htf hgo
      have w1 : IntKind.i64.wrap ((i : Int) + 1) = (i : Int) + 1 := wrap64 (by omega) (by omega)
      simp [g17, g18, h19, hlt, r1, r3]
      intro i4 h4
      have S := S.new h4 (.cells [.sl .nil [] 0, .sl .nil [] 0])
      have hst := store_pt (sz := 2) (o := 0) S.get (v := .agg (eTx t)) (vs := eTx t) rfl rfl (by simp)
      rw [show spliceV [V.sl .nil [] 0, V.sl .nil [] 0] 0 (eTx t) = eTx t from rfl] at hst
      have S := S.set (.cells (eTx t))
      simp [hst] at S ⊢
      generalize (st6.upd i4 (.cells (eTx t))) = st7 at S ⊢
      have o4 := S.get
      have hi0 : ((i : Int) == 0) = (i == 0) := by
        rw [Bool.eq_iff_iff]; simp
      simp [St.seg, o4, tsegAll, hi0]
      refine (spec249 ok.toOkCheck st7 t (i == 0) htf.1 htf.2.1 htf.2.2).mono ?_
      rintro u st7 ⟨rfl, rfl⟩
      by_cases hz : txM t (i == 0) = 0
      · rw [if_neg (by simpa using hz)] at hgo
        simp [hz, h19, w1]
        refine Round.mk (b.txs.length - (i + 1)) _ (by omega) (sub_self _) (hJ _ _ _ ⟨i + 1, by omega, rfl, by simp, hgo, ?_, S.drop⟩)
        intro y hy
        rw [List.take_succ_eq_append_getElem hlt, ← ht] at hy
        rcases List.mem_append.1 hy with hy | hy
        · exact hfi y hy
        · rw [List.mem_singleton.1 hy]; exact txM_fine hz
      · rw [if_pos hz] at hgo
        rw [← hgo, if_pos hz] at e0
        have hz' : (txM t (i == 0) != 0) = true := by simpa using hz
        simp only [e0]
        simp [hz']
        exact ⟨_, sub_self _, S.was' (st0 := st) (by simp)⟩
    · have : i = b.txs.length := by omega
      subst this
      rw [List.drop_length, txsE] at hgo
      rw [List.take_length] at hfi
      simp [g18, h19]
      exact ⟨hgo.symm, hfi, S⟩
  · rintro env' st3 hsame ⟨hno, hfi, S⟩
    have g1 := (hsame.get 1 rfl).trans (by simp : _ = V.ptr (some (i1, 0)))
    clear hsame
    rw [hno, if_neg (by simp)] at e0
    have o1 := S.get
    simp [g1, St.seg, o1, bsegAll0]
    refine (spec251 ok st3 b (by omega) hfi).mono ?_
    intro v st4 S1
    have S := S1.ov S
    have hlv := (Sep.rd e8_len (S.head fun h hh => hh.sl)).len
    by_cases c3 : 8192 < (blkB b).length
    · have c3' : 8192 < ((blkB b).length : Int) := by omega
      rw [if_pos c3] at e0
      simp [hlv, c3', c3, e0]
      exact ⟨st4, sub_self _, S.was' (st0 := st) (by simp)⟩
    · have c3' : ¬ 8192 < ((blkB b).length : Int) := by omega
      rw [if_neg c3] at e0
      have o1 := S.mem (i := i1) (o := .cells (eBlk b)) (by simp)
      simp [hlv, c3', c3, g1, St.seg, o1, bsegAll0]
      refine (spec252 ok st4 b (by omega) fun t ht => (hfi t ht).ok).mono ?_
      rintro u st5 ⟨rfl, hs5⟩
      simp [e0]
      exact ⟨st5, sub_self _, sub_trans (S.was' (st0 := st) (by simp)) hs5⟩
end
end Go.Ab
set_option linter.unusedSimpArgs false
set_option linter.unusedVariables false
set_option maxRecDepth 10000
namespace Go.Ab
open Go Go.RowKit
abbrev Coin1 := Out1 × Int
def eCoin (c : Coin1) : List V := eOut c.1 ++ [.int .i64 c.2]
def vCoin (c : Coin1) : V := .agg (eCoin c)
theorem eCoin_len (c : Coin1) : (eCoin c).length = 34 := by simp [eCoin, eOut_len]
abbrev CM := List (Pt × Coin1)
structure Hole (f : V → List V) (off : Nat) : Prop where
  seg : ∀ v, segOf (f v) off 1 = some [v]
  spl : ∀ v w, spliceV (f v) off [w] = f w
def SetL (o : Nat) (f : V → List V) (cm : CM) : Option Nat → List Asn
  | none => [pt o (.cells (f (.map none)))]
  | some m => [pt o (.cells (f (.map (some m)))), pt m (.mp (encM kPt vCoin cm))]
def SetS (o : Nat) (f : V → List V) (cm : CM) (L : List Asn) (st : St) : Prop := ∃ mo, (mo = none → cm = []) ∧ Sep (SetL o f cm mo ++ L) st
theorem SetS.tail {o : Nat} {f : V → List V} {cm : CM} {L L' : List Asn} {st : St} (h : SetS o f cm L st) (hL : ∀ r, Sep L r → Sep L' r) : SetS o f cm L' st := by
  obtain ⟨mo, h0, S⟩ := h
  refine ⟨mo, h0, ?_⟩
  cases mo with
  | none => exact S.tail hL
  | some m => exact S.tail fun r h => h.tail hL
theorem SetS.new {o : Nat} {f : V → List V} {cm : CM} {L : List Asn} {st : St} (h : SetS o f cm L st) {i : Nat} (hi : st i = none) (x : AObj) : SetS o f cm (pt i x :: L) (st.upd i x) := by
  obtain ⟨mo, h0, S⟩ := h
  refine ⟨mo, h0, ?_⟩
  have S := S.new hi x
  cases mo with
  | none => exact S.swap
  | some m => exact (S.pull 2).pull 2
def layHit (id : Id) (cm : CM) : Nat → List Out1 → Bool
  | _, [] => false
  | j, _ :: l => (lk (id, BitVec.ofNat 32 j) cm).isSome || layHit id cm (j + 1) l
def layL (id : Id) (h : Int) : Nat → List Out1 → CM → CM
  | _, [], cm => cm
  | j, o :: l, cm => layL id h (j + 1) l (aSet (id, BitVec.ofNat 32 j) (o, h) cm)
def layM (t : Tx1) (h : Int) (cm : CM) : Int × CM := if layHit (txIdM t) cm 0 t.outs = true then (5, cm) else (0, layL (txIdM t) h 0 t.outs cm)
theorem wrap32 (i : Nat) : V.int .u32 (IntKind.u32.wrap (i : Int)) = w32 (BitVec.ofNat 32 i) := by
  rw [wrap_u32, BitVec.ofInt_natCast]; rfl
theorem zPt : z33_1371 = eId id0 ++ [w32 0#32] := rfl
theorem ptFill (id : Id) (x : W32) : fillV z33_1371 [(0, 32, .agg (eId id)), (32, 1, w32 x)] = some (ePt (id, x)) := by
  simp [fillV, zPt, spliceV, eId_len, ePt, w32]
theorem coinFill (c : Coin1) : fillV z34_7943 [(0, 33, .agg (eOut c.1)), (33, 1, .int .i64 c.2)] = some (eCoin c) := by
  have z : z34_7943 = eOut ⟨0, id0⟩ ++ [.int .i64 0] := rfl
  simp [fillV, z, spliceV, eOut_len, eCoin]
def coin0 : Coin1 := (⟨0, id0⟩, 0)
theorem coin0_cells : z34_7943 = eCoin coin0 := rfl
section
variable {P : Program} {F : Fn}
set_option maxHeartbeats 4000000 in
theorem spec258 (ok : OkCoins P F) {st : St} {o off : Nat} {f : V → List V} (hf : Hole f off) {cm : CM} {L : List Asn} (h0 : SetS o f cm L st) (t : Tx1) (ht : t.ok 100) (h : Int) :
    ACalls P (F 258) [.ptr (some (o, off)), .agg (eTx t), .int .i64 h] st fun v st' => v = .int .i64 (layM t h cm).1 ∧ SetS o f (layM t h cm).2 L st' := by
  have okt := ok.toOkCheck2.toOkCheck.toOkTx
  refine shows_call ok.mixed ok.h258 (by simp [k258]) ?_
  simp only [k258]
  refine vc_cut (M := fun env' st' => env' 0 = .ptr (some (o, off)) ∧ env' 2 = .int .i64 h ∧ ∃ i4, env' 4 = .ptr (some (i4, 0)) ∧ SetS o f cm (pt i4 (.cells (eTx t)) :: L) st') ?_ ?_
  · simp
    intro i4 h4
    simp
    exact h0.new h4 _
  rintro env1 st1 ⟨g0, g2, i4, g4, W⟩
  refine vc_cut (M := fun env' st' => env' 0 = .ptr (some (o, off)) ∧ env' 2 = .int .i64 h ∧ env' 4 = .ptr (some (i4, 0)) ∧ ∃ m, Sep (pt o (.cells (f (.map (some m)))) :: pt m (.mp (encM kPt vCoin cm)) :: pt i4 (.cells (eTx t)) :: L) st') ?_ ?_
  · obtain ⟨mo, hc, S⟩ := W
    have hsg := hf.seg
    cases mo with
    | none =>
      have he : cm = [] := hc rfl
      subst he
      have oo := S.get
      simp [St.seg, oo, hsg, g0, eqK]
      intro m hm
      have S := S.new hm (.mp [])
      have o2 := S.drop.get
      have hst := store_pt (sz := 1) (o := off) o2 (v := .map (some m)) (vs := [.map (some m)]) rfl rfl (by have := hf.seg (.map none); simp [segOf] at this; omega)
      rw [hf.spl] at hst
      have S := S.setAt (.cells (f (.map (some m)))) 1 rfl
      simp only [List.set_cons_succ, List.set_cons_zero] at S
      simp [hst, g0, g2, g4]
      exact ⟨m, S.swap⟩
    | some m =>
      have oo := S.get
      simp [St.seg, oo, hsg, g0, g2, g4, eqK]
      exact ⟨m, S⟩
  rintro env2 st2 ⟨g0, g2, g4, m, S⟩
  have o4 := S.drop.drop.get
  simp [g4, St.seg, o4, tsegAll]
  refine (spec198 okt st2 t ht).mono ?_
  rintro v st3 ⟨rfl, rfl⟩
  simp
  intro i7 h7
  have S := S.new h7 (.cells zR32_w80)
  have hst := store_z32 S.get (txIdM t)
  have S := S.set (.cells (eId (txIdM t)))
  simp [hst] at S ⊢
  generalize st3.upd i7 (.cells (eId (txIdM t))) = st5 at S ⊢
  have S : Sep (pt o (.cells (f (.map (some m)))) :: pt m (.mp (encM kPt vCoin cm)) :: pt i7 (.cells (eId (txIdM t))) :: pt i4 (.cells (eTx t)) :: L) st5 := (S.pull 1).tail fun r h => h.swap
  have o4 := S.drop.drop.drop.get
  have so := tsegOuts t
  have lo := outsV_len t
  have hsg := hf.seg
  simp [g4, St.seg, o4, so, lo]
  refine vc_joinB (M := fun env' st' => layHit (txIdM t) cm 0 t.outs = false ∧ Sep (pt o (.cells (f (.map (some m)))) :: pt m (.mp (encM kPt vCoin cm)) :: pt i7 (.cells (eId (txIdM t))) :: pt i4 (.cells (eTx t)) :: L) st') ?_ ?_
  · refine vc_loopJ (fun c env' st' => ∃ i : Nat, i ≤ t.outs.length ∧ c = t.outs.length - i ∧ env' 27 = .int .i64 (i : Nat) ∧ layHit (txIdM t) cm i (t.outs.drop i) = layHit (txIdM t) cm 0 t.outs ∧ Sep (pt o (.cells (f (.map (some m)))) :: pt m (.mp (encM kPt vCoin cm)) :: pt i7 (.cells (eId (txIdM t))) :: pt i4 (.cells (eTx t)) :: L) st') t.outs.length
      ⟨0, by omega, by omega, by simp, by simp, S⟩ ?_
    rintro J hJ c env' st4 hsame ⟨i, hi, rfl, h27, hgo, S⟩
    have g0 := (hsame.get 0 rfl).trans (by simp [g0] : _ = V.ptr (some (o, off)))
    have g7 := (hsame.get 7 rfl).trans (by simp : _ = V.ptr (some (i7, 0)))
    have g26 := (hsame.get 26 rfl).trans (by simp : _ = V.int .i64 (t.outs.length : Int))
    clear hsame
    have oo := S.get
    have om := S.drop.get
    have o7 := S.drop.drop.get
    by_cases hlt : i < t.outs.length
    · rw [List.drop_eq_getElem_cons hlt, layHit] at hgo
      have w1 : IntKind.i64.wrap ((i : Int) + 1) = (i : Int) + 1 := wrap64 (by omega) (by have := ht.2.1; omega)
      have w2 := wrap32 i
      have hfl := ptFill (txIdM t) (BitVec.ofNat 32 i)
      have hlk := lookup_lk keyed_pt (ev := vCoin) om (V.agg z34_7943) (txIdM t, BitVec.ofNat 32 i)
      have hz : (V.agg z34_7943) = vCoin coin0 := by rw [coin0_cells]; rfl
      have hx : ((lk (txIdM t, BitVec.ofNat 32 i) cm).map vCoin).getD (V.agg z34_7943) = vCoin ((lk (txIdM t, BitVec.ofNat 32 i) cm).getD coin0) := by
        rw [hz]; cases lk (txIdM t, BitVec.ofNat 32 i) cm <;> rfl
      rw [hx] at hlk
      have s7 : segOf (eId (txIdM t)) 0 32 = some (eId (txIdM t)) := seg_of_drop (zs := []) (by simp) (eId_len _) (by omega)
      simp [g0, g7, g26, h27, hlt, St.seg, oo, hsg, o7, s7, w2, hfl]
      rw [show V.agg (ePt (txIdM t, BitVec.ofNat 32 i)) = kPt (txIdM t, BitVec.ofNat 32 i) from rfl, hlk]
      simp
      intro i9 h9
      have S := S.new h9 (.cells z34_7943)
      obtain ⟨c9, hc9⟩ : ∃ c9, c9 = (lk (txIdM t, BitVec.ofNat 32 i) cm).getD coin0 := ⟨_, rfl⟩
      rw [← hc9]
      have hst := store_pt (sz := 34) (o := 0) S.get (v := vCoin c9) (vs := eCoin c9) rfl (eCoin_len _) (by simp)
      rw [show spliceV z34_7943 0 (eCoin c9) = eCoin c9 by simp [spliceV, eCoin_len]] at hst
      have S := S.set (.cells (eCoin c9))
      simp [hst] at S ⊢
      generalize st4.upd i9 (.cells (eCoin c9)) = st6 at S ⊢
      have S := S.drop
      cases hs : (lk (txIdM t, BitVec.ofNat 32 i) cm).isSome with
      | true =>
        rw [hs, Bool.true_or] at hgo
        have e : layM t h cm = (5, cm) := by rw [layM, if_pos hgo.symm]
        simp [e]
        exact ⟨st6, sub_self _, some m, (fun e => by cases e), S.tail fun r h => h.tail fun r h => h.drop.drop⟩
      | false =>
        rw [hs, Bool.false_or] at hgo
        simp [h27, w1]
        exact Round.mk (t.outs.length - (i + 1)) _ (by omega) (sub_self _) (hJ _ _ _ ⟨i + 1, by omega, rfl, by simp, hgo, S⟩)
    · have : i = t.outs.length := by omega
      subst this
      rw [List.drop_length, layHit] at hgo
      simp [g26, h27]
      exact ⟨hgo.symm, S⟩
  rintro env3 st4 hsame ⟨hno, S⟩
  have e : layM t h cm = (0, layL (txIdM t) h 0 t.outs cm) := by rw [layM, if_neg (by rw [hno]; decide)]
  have g0 := (hsame.get 0 rfl).trans (by simp [g0] : _ = V.ptr (some (o, off)))
  have g2 := (hsame.get 2 rfl).trans (by simp [g2] : _ = V.int .i64 h)
  have g4 := (hsame.get 4 rfl).trans (by simp [g4] : _ = V.ptr (some (i4, 0)))
  have g7 := (hsame.get 7 rfl).trans (by simp : _ = V.ptr (some (i7, 0)))
  clear hsame
  have o4 := S.drop.drop.drop.get
  simp [g4, St.seg, o4, so, lo]
  refine vc_joinB (M := fun env' st' => Sep (pt o (.cells (f (.map (some m)))) :: pt m (.mp (encM kPt vCoin (layL (txIdM t) h 0 t.outs cm))) :: pt i7 (.cells (eId (txIdM t))) :: pt i4 (.cells (eTx t)) :: L) st') ?_ ?_
  · refine vc_loopJ (fun c env' st' => ∃ (i : Nat) (cm' : CM), i ≤ t.outs.length ∧ c = t.outs.length - i ∧ env' 47 = .int .i64 (i : Nat) ∧ layL (txIdM t) h i (t.outs.drop i) cm' = layL (txIdM t) h 0 t.outs cm ∧ Sep (pt o (.cells (f (.map (some m)))) :: pt m (.mp (encM kPt vCoin cm')) :: pt i7 (.cells (eId (txIdM t))) :: pt i4 (.cells (eTx t)) :: L) st') t.outs.length
      ⟨0, cm, by omega, by omega, by simp, by simp, S⟩ ?_
    rintro J hJ c env' st5 hsame ⟨i, cm', hi, rfl, h47, hgo, S⟩
    have g0 := (hsame.get 0 rfl).trans (by simp [g0] : _ = V.ptr (some (o, off)))
    have g2 := (hsame.get 2 rfl).trans (by simp [g2] : _ = V.int .i64 h)
    have g7 := (hsame.get 7 rfl).trans (by simp [g7] : _ = V.ptr (some (i7, 0)))
    have g45 := (hsame.get 45 rfl).trans (by simp : _ = outsV t)
    have g46 := (hsame.get 46 rfl).trans (by simp : _ = V.int .i64 (t.outs.length : Int))
    clear hsame
    by_cases hlt : i < t.outs.length
    · obtain ⟨r1, r2, r3, r4⟩ := (rd_outs t st5).row eOut_len hlt
      rw [List.drop_eq_getElem_cons hlt, layL] at hgo
      obtain ⟨x, hx⟩ : ∃ x, x = t.outs[i] := ⟨_, rfl⟩
      rw [← hx] at r3 hgo
      have w1 : IntKind.i64.wrap ((i : Int) + 1) = (i : Int) + 1 := wrap64 (by omega) (by have := ht.2.1; omega)
      have w2 := wrap32 i
      have hfl := ptFill (txIdM t) (BitVec.ofNat 32 i)
      have hfc := coinFill (x, h)
      have s7 : segOf (eId (txIdM t)) 0 32 = some (eId (txIdM t)) := seg_of_drop (zs := []) (by simp) (eId_len _) (by omega)
      simp [g45, g46, h47, hlt, r1, r3]
      intro i12 h12
      have S := S.new h12 (.cells z33_0be4)
      have hst := store_pt (sz := 33) (o := 0) S.get (v := .agg (eOut x)) (vs := eOut x) rfl (eOut_len _) (by simp)
      rw [show spliceV z33_0be4 0 (eOut x) = eOut x by simp [spliceV, eOut_len]] at hst
      have S := S.set (.cells (eOut x))
      simp [hst] at S ⊢
      generalize st5.upd i12 (.cells (eOut x)) = st6 at S ⊢
      have o12 := S.get
      have S := S.drop
      have oo := S.get
      have om := S.drop.get
      have o7 := S.drop.drop.get
      have sx : segOf (eOut x) 0 33 = some (eOut x) := seg_of_drop (zs := []) (by simp) (eOut_len _) (by omega)
      simp [g0, g2, g7, St.seg, oo, hsg, o7, s7, w2, hfl, o12, sx, hfc]
      have hms := mset_enc keyed_pt (ev := vCoin) om (txIdM t, BitVec.ofNat 32 i) (x, h)
      rw [show V.agg (ePt (txIdM t, BitVec.ofNat 32 i)) = kPt (txIdM t, BitVec.ofNat 32 i) from rfl, show V.agg (eCoin (x, h)) = vCoin (x, h) from rfl, hms]
      have S := S.setAt (.mp (encM kPt vCoin (aSet (txIdM t, BitVec.ofNat 32 i) (x, h) cm'))) 1 rfl
      simp only [List.set_cons_succ, List.set_cons_zero] at S
      simp [h47, w1]
      exact Round.mk (t.outs.length - (i + 1)) _ (by omega) (sub_self _) (hJ _ _ _ ⟨i + 1, _, by omega, rfl, by simp, hgo, S⟩)
    · have : i = t.outs.length := by omega
      subst this
      rw [List.drop_length, layL] at hgo
      rw [hgo] at S
      simp [g46, h47]
      exact S
  rintro env4 st5 hsame S
  simp [e]
  exact ⟨st5, sub_self _, some m, (fun e => by cases e), S.tail fun r h => h.tail fun r h => h.drop.drop⟩
end
end Go.Ab
set_option linter.unusedSimpArgs false
set_option linter.unusedVariables false
set_option maxRecDepth 10000
namespace Go.Ab
open Go Go.RowKit
def lone (v : V) : List V := [v]
theorem lone_hole : Hole lone 0 := ⟨fun _ => rfl, fun _ _ => rfl⟩
def undo0 : V := .agg [.sl .nil [] 0, .sl .nil [] 0]
def conn1 (t : Tx1) (h sub : Int) (cm : CM) : Int × CM := if (sumM t.outs).2 = false ∨ 0 < (sumM t.outs).1 - sub then (121, cm) else layM t h cm
theorem layM_err {t : Tx1} {h : Int} {cm : CM} : (layM t h cm).1 = 0 ∨ (layM t h cm).1 = 5 ∧ (layM t h cm).2 = cm := by
  unfold layM
  split
  · exact .inr ⟨rfl, rfl⟩
  · exact .inl rfl
theorem conn1_err {t : Tx1} {h sub : Int} {cm : CM} (hne : (conn1 t h sub cm).1 ≠ 0) : (conn1 t h sub cm).2 = cm := by
  unfold conn1 at hne ⊢
  split
  · rfl
  · rename_i hc
    rw [if_neg hc] at hne
    rcases layM_err (t := t) (h := h) (cm := cm) with h1 | h1
    · exact absurd h1 hne
    · exact h1.2
theorem SetS.ext {o : Nat} {f : V → List V} {cm : CM} {L : List Asn} {st : St} (h : SetS o f cm L st) {i : Nat} {x : AObj} (hm : pt i x ∈ L) : st i = some x := by
  obtain ⟨mo, h0, S⟩ := h
  cases mo with
  | none => exact S.mem (List.mem_append.2 (.inr hm))
  | some m => exact S.mem (List.mem_append.2 (.inr hm))
theorem SetS.setL {o : Nat} {f : V → List V} {cm : CM} {L : List Asn} {st : St} {i : Nat} {x : AObj} (h : SetS o f cm (pt i x :: L) st) (y : AObj) : SetS o f cm (pt i y :: L) (st.upd i y) := by
  obtain ⟨mo, h0, S⟩ := h
  refine ⟨mo, h0, ?_⟩
  cases mo with
  | none => exact S.setAt y 1 rfl
  | some m => exact S.setAt y 2 rfl
theorem bury {o : Nat} {f : V → List V} {cm : CM} {mo : Option Nat} {A : Asn} {L : List Asn} {st : St} (S : Sep (A :: (SetL o f cm mo ++ L)) st) : Sep (SetL o f cm mo ++ A :: L) st := by
  cases mo with
  | none => exact S.swap
  | some m => exact (S.pull 2).pull 2
theorem bury2 {ic o : Nat} {g f : V → List V} {cm cm' : CM} {mo mo2 : Option Nat} {A : Asn} {L : List Asn} {st : St} (S : Sep (A :: (SetL ic g cm' mo2 ++ (SetL o f cm mo ++ L))) st) : Sep (SetL ic g cm' mo2 ++ (SetL o f cm mo ++ A :: L)) st := by
  have S := bury S
  cases mo2 with
  | none => exact S.tail fun r h => bury h
  | some m => exact S.tail fun r h => h.tail fun r h => bury h
theorem takeOver {ic o : Nat} {f : V → List V} {cm cm' : CM} {mo mo2 : Option Nat} {L : List Asn} {st : St} (S : Sep (SetL ic lone cm' mo2 ++ (SetL o f cm mo ++ L)) st) :
    st ic = some (.cells [.map mo2]) ∧ st o = some (.cells (f (.map mo))) ∧ Sep (SetL o f cm' mo2 ++ L) (st.upd o (.cells (f (.map mo2)))) := by
  cases mo2 with
  | none =>
    cases mo with
    | none => exact ⟨S.get, S.drop.get, S.drop.set _⟩
    | some m => exact ⟨S.get, S.drop.get, (S.drop.set _).tail fun r h => h.drop⟩
  | some m2 =>
    cases mo with
    | none => exact ⟨S.get, S.drop.drop.get, (S.drop.swap.set _).tail fun r h => h⟩
    | some m => exact ⟨S.get, S.drop.drop.get, (S.drop.swap.set _).tail fun r h => h.tail fun r h => h.drop⟩
section
variable {P : Program} {F : Fn}
set_option maxHeartbeats 2000000 in
theorem spec255 (ok : OkCoins P F) (hc : CloneC P (F 256)) {st : St} {o off : Nat} {f : V → List V} (hf : Hole f off) {cm : CM} {mo : Option Nat} (h0 : mo = none → cm = []) {L : List Asn} (S : Sep (SetL o f cm mo ++ L) st) :
    ACalls P (F 255) [.ptr (some (o, off))] st fun v st' => ∃ i, v = .ptr (some (i, 0)) ∧ SetS i lone cm (SetL o f cm mo ++ L) st' := by
  refine shows_call ok.mixed ok.h255 (by simp [k255]) ?_
  simp only [k255]
  have hsg := hf.seg
  cases mo with
  | none =>
    have oo := S.get
    simp [St.seg, oo, hsg]
    refine (hc.nil st).mono ?_
    rintro v st' ⟨rfl, rfl⟩
    simp [fillV, spliceV]
    intro i hi
    have S := S.new hi (.cells [.map none])
    simp
    exact ⟨_, sub_self _, none, fun _ => h0 rfl, S⟩
  | some m =>
    have oo := S.get
    have om := S.drop.get
    simp [St.seg, oo, hsg]
    refine (hc.some st m _ om).mono ?_
    rintro v st' ⟨n, rfl, hn, rfl⟩
    have S := S.new hn (.mp (encM kPt vCoin cm))
    generalize st.upd n _ = st2 at S ⊢
    simp [fillV, spliceV]
    intro i hi
    have S := S.new hi (.cells [.map (some n)])
    simp
    exact ⟨_, sub_self _, some n, (fun e => by cases e), S⟩
set_option maxHeartbeats 4000000 in
theorem spec259a (ok : OkCoins P F) {st : St} {o off : Nat} {f : V → List V} (hf : Hole f off) {cm : CM} {L : List Asn} (h0 : SetS o f cm L st) (b : Blk1) (t : Tx1) (hb : b.txs = [t]) (ht : t.ok 100) (h sub : Int) (hs1 : -4611686018427387904 ≤ sub) (hs2 : sub ≤ 4611686018427387904) :
    ACalls P (F 259) [.ptr (some (o, off)), .agg (eBlk b), .int .i64 h, .int .i64 sub] st fun v st' => v = .tup [undo0, .int .i64 (conn1 t h sub cm).1] ∧ SetS o f (conn1 t h sub cm).2 L st' := by
  have okc := ok.toOkCheck2.toOkCheck
  refine shows_call ok.mixed ok.h259 (by simp [k259]) ?_
  simp only [k259]
  have hln : lenSlV (txsV b.tk b.txs) = some (.int .i64 1) := by rw [hb]; rfl
  have hsT := bsegT b
  simp
  intro i5 h5
  have W := h0.new h5 (.cells (eBlk b))
  generalize st.upd i5 _ = st1 at W ⊢
  simp
  intro i8 h8
  have W := W.new h8 (.cells [.sl .nil [] 0, .sl .nil [] 0])
  generalize st1.upd i8 _ = st2 at W ⊢
  simp
  intro i10 h10
  have W := W.new h10 (.cells [.sl .nil [] 0, .sl .nil [] 0])
  generalize st2.upd i10 _ = st3 at W ⊢
  have o5 := W.ext (i := i5) (x := .cells (eBlk b)) (by simp)
  have ht0 : ∀ hx, b.txs[0]'hx = t := fun hx => by simp [hb]
  have hx0 : 0 < b.txs.length := by rw [hb]; simp
  simp [St.seg, o5, hsT, hln]
  refine vc_joinB (M := fun env' st' => env' 11 = .int .i64 0 ∧ SetS o f cm (pt i10 (.cells [.sl .nil [] 0, .sl .nil [] 0]) :: pt i8 (.cells [.sl .nil [] 0, .sl .nil [] 0]) :: pt i5 (.cells (eBlk b)) :: L) st') ?_ ?_
  · refine vc_loopJ (fun c env' st' => ∃ i : Nat, i ≤ 1 ∧ c = 1 - i ∧ env' 24 = .int .i64 (i : Nat) ∧ env' 11 = .int .i64 0 ∧ SetS o f cm (pt i10 (.cells [.sl .nil [] 0, .sl .nil [] 0]) :: pt i8 (.cells [.sl .nil [] 0, .sl .nil [] 0]) :: pt i5 (.cells (eBlk b)) :: L) st') 1
      ⟨0, by omega, by omega, by simp, by simp, W⟩ ?_
    rintro J hJ c env' st4 hsame ⟨i, hi, rfl, h24, h11, W⟩
    have g22 := (hsame.get 22 rfl).trans (by simp : _ = txsV b.tk b.txs)
    have g23 := (hsame.get 23 rfl).trans (by simp : _ = V.int .i64 1)
    clear hsame
    by_cases hlt : i < 1
    · have : i = 0 := by omega
      subst this
      obtain ⟨r1, r2, r3, r4⟩ := (rd_txs b st4).row eTx_len hx0
      rw [ht0] at r3
      simp at r1
      simp [g22, g23, h24, r1, r3]
      intro i13 h13
      have W := W.new h13 (.cells [.sl .nil [] 0, .sl .nil [] 0])
      have o13 := W.ext (i := i13) (x := .cells [.sl .nil [] 0, .sl .nil [] 0]) (by simp)
      have hst := store_pt (sz := 2) (o := 0) o13 (v := .agg (eTx t)) (vs := eTx t) rfl rfl (by simp)
      rw [show spliceV [V.sl .nil [] 0, V.sl .nil [] 0] 0 (eTx t) = eTx t from rfl] at hst
      have W := W.setL (i := i13) (.cells (eTx t))
      simp [hst, h24] at W ⊢
      exact Round.mk 0 _ (by omega) (sub_self _) (hJ _ _ _ ⟨1, by omega, rfl, by simp, by simp [h11], W.tail fun r h => h.drop⟩)
    · have : i = 1 := by omega
      subst this
      simp [g23, h24]
      exact ⟨h11, W⟩
  rintro env1 st4 hsame ⟨g11, W⟩
  have g0 := (hsame.get 0 rfl).trans (by simp : _ = V.ptr (some (o, off)))
  have g2 := (hsame.get 2 rfl).trans (by simp : _ = V.int .i64 h)
  have g3 := (hsame.get 3 rfl).trans (by simp : _ = V.int .i64 sub)
  have g5 := (hsame.get 5 rfl).trans (by simp : _ = V.ptr (some (i5, 0)))
  have g8 := (hsame.get 8 rfl).trans (by simp : _ = V.ptr (some (i8, 0)))
  have g10 := (hsame.get 10 rfl).trans (by simp : _ = V.ptr (some (i10, 0)))
  clear hsame
  have o5 := W.ext (i := i5) (x := .cells (eBlk b)) (by simp)
  have o8 := W.ext (i := i8) (x := .cells [.sl .nil [] 0, .sl .nil [] 0]) (by simp)
  have o10 := W.ext (i := i10) (x := .cells [.sl .nil [] 0, .sl .nil [] 0]) (by simp)
  obtain ⟨r1, r2, r3, r4⟩ := (rd_txs b st4).row eTx_len hx0
  obtain ⟨q1, q2⟩ := r4 1 1 (by omega)
  rw [ht0] at r3 q2
  simp at r1
  have q2' : ldCells st4 1 (fldP 1 (rowP 2 (txsV b.tk b.txs) 0)) = some [outsV t] := q2
  have hu : segOf [V.sl .nil [] 0, V.sl .nil [] 0] 0 2 = some [V.sl .nil [] 0, V.sl .nil [] 0] := rfl
  simp [g5, g11, St.seg, o5, hsT, hln, r1, q1, q2']
  refine (spec250 okc st4 (rd_outs t st4) (by have := ht.2.1; omega)).mono ?_
  rintro v st5 ⟨rfl, rfl⟩
  have hsr := sumM_range t.outs
  have w1 : IntKind.i64.wrap ((sumM t.outs).1 - sub) = (sumM t.outs).1 - sub := wrap64 (by omega) (by omega)
  have hst8 := store_pt (sz := 2) (o := 0) o8 (v := undo0) (vs := [V.sl .nil [] 0, V.sl .nil [] 0]) rfl rfl (by simp)
  rw [show spliceV [V.sl .nil [] 0, V.sl .nil [] 0] 0 [V.sl .nil [] 0, V.sl .nil [] 0] = [V.sl .nil [] 0, V.sl .nil [] 0] from rfl] at hst8
  have hst8' : st5.upd i8 (.cells [V.sl .nil [] 0, V.sl .nil [] 0]) = st5 := funext fun j => by
    by_cases ej : j = i8
    · rw [ej, St.upd_same, o8]
    · rw [St.upd_other _ _ ej]
  rw [hst8', undo0] at hst8
  simp
  cases hok : (sumM t.outs).2 with
  | false =>
    have e : conn1 t h sub cm = (121, cm) := by rw [conn1, if_pos (.inl hok)]
    simp [hok, g10, g8, St.seg, o10, o8, hu, hst8, e, undo0]
    exact ⟨st5, sub_self _, W.tail fun r h => h.drop.drop.drop⟩
  | true =>
    by_cases c1 : 0 < (sumM t.outs).1 - sub
    · have e : conn1 t h sub cm = (121, cm) := by rw [conn1, if_pos (.inr c1)]
      have c2 : sub < (sumM t.outs).1 := by omega
      simp [hok, g3, g11, w1, c2, g10, g8, St.seg, o10, o8, hu, hst8, e, undo0]
      exact ⟨st5, sub_self _, W.tail fun r h => h.drop.drop.drop⟩
    · have e : conn1 t h sub cm = layM t h cm := by rw [conn1, if_neg (by rw [hok]; rintro (h | h); cases h; exact c1 h)]
      have c2 : ¬ sub < (sumM t.outs).1 := by omega
      simp [hok, g3, g11, w1, c2]
      have W := W.setL (.ro [V.sl .nil [] 0, V.sl .nil [] 0])
      simp [frzP, frzV, frzOb, frzL, frzH, g10, o10]
      generalize st5.upd i10 _ = st6 at W ⊢
      have o5 := W.ext (i := i5) (x := .cells (eBlk b)) (by simp)
      have o8 := W.ext (i := i8) (x := .cells [.sl .nil [] 0, .sl .nil [] 0]) (by simp)
      obtain ⟨r1, r2, r3, r4⟩ := (rd_txs b st6).row eTx_len hx0
      rw [ht0] at r3
      simp at r1
      simp [hu, g0, g2, g5, St.seg, o5, hsT, r1, r3]
      refine (spec258 ok hf W t ht h).mono ?_
      rintro v st7 ⟨rfl, W⟩
      have o8 := W.ext (i := i8) (x := .cells [.sl .nil [] 0, .sl .nil [] 0]) (by simp)
      have hst8 := store_pt (sz := 2) (o := 0) o8 (v := undo0) (vs := [V.sl .nil [] 0, V.sl .nil [] 0]) rfl rfl (by simp)
      rw [show spliceV [V.sl .nil [] 0, V.sl .nil [] 0] 0 [V.sl .nil [] 0, V.sl .nil [] 0] = [V.sl .nil [] 0, V.sl .nil [] 0] from rfl] at hst8
      have hst8' : st7.upd i8 (.cells [V.sl .nil [] 0, V.sl .nil [] 0]) = st7 := funext fun j => by
        by_cases ej : j = i8
        · rw [ej, St.upd_same, o8]
        · rw [St.upd_other _ _ ej]
      rw [hst8', undo0] at hst8
      simp [g8, hst8, St.seg, o8, hu, e, undo0]
      exact ⟨st7, sub_self _, W.tail fun r h => h.drop.drop.drop⟩
set_option maxHeartbeats 4000000 in
theorem spec260a (ok : OkCoins P F) (hc : CloneC P (F 256)) {st : St} {o off : Nat} {f : V → List V} (hf : Hole f off) {cm : CM} {L : List Asn} (h0 : SetS o f cm L st) (b : Blk1) (t : Tx1) (hb : b.txs = [t]) (ht : t.ok 100) (h sub : Int) (hs1 : -4611686018427387904 ≤ sub) (hs2 : sub ≤ 4611686018427387904) :
    ACalls P (F 260) [.ptr (some (o, off)), .agg (eBlk b), .int .i64 h, .int .i64 sub] st fun v st' => v = .tup [undo0, .int .i64 (conn1 t h sub cm).1] ∧ SetS o f (conn1 t h sub cm).2 L st' := by
  refine shows_call ok.mixed ok.h260 (by simp [k260]) ?_
  simp only [k260]
  simp
  intro i5 h5
  have W := h0.new h5 (.cells (eBlk b))
  generalize st.upd i5 _ = st1 at W ⊢
  simp
  intro i8 h8
  have W := W.new h8 (.cells [.sl .nil [] 0, .sl .nil [] 0])
  generalize st1.upd i8 _ = st2 at W ⊢
  obtain ⟨mo, hmo, S⟩ := W
  simp
  refine (spec255 ok hc hf hmo S).mono ?_
  rintro v st3 ⟨ic, rfl, W⟩
  have o5 := W.ext (i := i5) (x := .cells (eBlk b)) (by cases mo <;> simp [SetL])
  have sb := bsegAll b
  simp [St.seg, o5, sb]
  refine (spec259a ok lone_hole W b t hb ht h sub hs1 hs2).mono ?_
  rintro v st4 ⟨rfl, W⟩
  obtain ⟨mo2, hmo2, S⟩ := W
  simp
  intro i11 h11
  have S := S.new h11 (.cells [.sl .nil [] 0, .sl .nil [] 0])
  have hst := store_pt (sz := 2) (o := 0) S.get (v := undo0) (vs := [V.sl .nil [] 0, V.sl .nil [] 0]) rfl rfl (by simp)
  rw [show spliceV [V.sl .nil [] 0, V.sl .nil [] 0] 0 [V.sl .nil [] 0, V.sl .nil [] 0] = [V.sl .nil [] 0, V.sl .nil [] 0] from rfl] at hst
  have hst8' : ∀ (s : St) (j : Nat), s j = some (.cells [V.sl .nil [] 0, V.sl .nil [] 0]) → s.upd j (.cells [V.sl .nil [] 0, V.sl .nil [] 0]) = s := fun s j hj => funext fun k => by
    by_cases ej : k = j
    · rw [ej, St.upd_same, hj]
    · rw [St.upd_other _ _ ej]
  have o11 := S.get
  rw [hst8' _ _ o11] at hst
  simp [hst]
  generalize st4.upd i11 _ = st5 at S o11 ⊢
  have hu : segOf [V.sl .nil [] 0, V.sl .nil [] 0] 0 2 = some [V.sl .nil [] 0, V.sl .nil [] 0] := rfl
  have hfl : fillV [V.sl .nil [] 0, V.sl .nil [] 0] [] = some [V.sl .nil [] 0, V.sl .nil [] 0] := rfl
  have S := bury2 S
  have o8 : st5 i8 = some (.cells [V.sl .nil [] 0, V.sl .nil [] 0]) := S.mem (by cases mo <;> cases mo2 <;> simp [SetL])
  have hst8 := store_pt (sz := 2) (o := 0) o8 (v := undo0) (vs := [V.sl .nil [] 0, V.sl .nil [] 0]) rfl rfl (by simp)
  rw [show spliceV [V.sl .nil [] 0, V.sl .nil [] 0] 0 [V.sl .nil [] 0, V.sl .nil [] 0] = [V.sl .nil [] 0, V.sl .nil [] 0] from rfl, hst8' _ _ o8, undo0] at hst8
  by_cases he : (conn1 t h sub cm).1 = 0
  · have hb' : ((conn1 t h sub cm).1 != 0) = false := by rw [he]; rfl
    obtain ⟨t1, t2, t3⟩ := takeOver (L := pt i11 (.cells [V.sl .nil [] 0, V.sl .nil [] 0]) :: pt i8 (.cells [V.sl .nil [] 0, V.sl .nil [] 0]) :: pt i5 (.cells (eBlk b)) :: L) S
    have hsg : segOf [V.map mo2] 0 1 = some [.map mo2] := rfl
    have hsto := store_pt (sz := 1) (o := off) t2 (v := .map mo2) (vs := [.map mo2]) rfl rfl (by have := hf.seg (.map mo); simp [segOf] at this; omega)
    rw [hf.spl] at hsto
    have W : SetS o f (conn1 t h sub cm).2 (pt i11 (.cells [V.sl .nil [] 0, V.sl .nil [] 0]) :: pt i8 (.cells [V.sl .nil [] 0, V.sl .nil [] 0]) :: pt i5 (.cells (eBlk b)) :: L) (st5.upd o (.cells (f (.map mo2)))) := ⟨mo2, hmo2, t3⟩
    obtain ⟨st6, hst6⟩ : ∃ s, s = st5.upd o (.cells (f (.map mo2))) := ⟨_, rfl⟩
    rw [← hst6] at hsto W
    simp [hb', St.seg, t1, lone, hsg, hsto]
    have o11 := W.ext (i := i11) (x := .cells [.sl .nil [] 0, .sl .nil [] 0]) (by simp)
    have o8 := W.ext (i := i8) (x := .cells [.sl .nil [] 0, .sl .nil [] 0]) (by simp)
    have hst8 := store_pt (sz := 2) (o := 0) o8 (v := undo0) (vs := [V.sl .nil [] 0, V.sl .nil [] 0]) rfl rfl (by simp)
    rw [show spliceV [V.sl .nil [] 0, V.sl .nil [] 0] 0 [V.sl .nil [] 0, V.sl .nil [] 0] = [V.sl .nil [] 0, V.sl .nil [] 0] from rfl, hst8' _ _ o8, undo0] at hst8
    simp [o11, hu, hst8, St.seg, o8, undo0, he]
    exact ⟨st6, sub_self _, W.tail fun r h => h.drop.drop.drop⟩
  · have hb' : ((conn1 t h sub cm).1 != 0) = true := by simpa using he
    rw [conn1_err he] at S ⊢
    simp [hb', he, hfl, hst8, St.seg, o8, hu, undo0]
    exact ⟨st5, sub_self _, mo, hmo, by
      have S2 : Sep (SetL o f cm mo ++ L) st5 := by
        cases mo2 with
        | none =>
          cases mo with
          | none => exact S.drop.tail fun r h => h.drop.drop.drop
          | some m => exact S.drop.tail fun r h => h.tail fun r h => h.drop.drop.drop
        | some m2 =>
          cases mo with
          | none => exact S.drop.drop.tail fun r h => h.drop.drop.drop
          | some m => exact S.drop.drop.tail fun r h => h.tail fun r h => h.drop.drop.drop
      exact S2⟩
end
end Go.Ab
set_option linter.unusedSimpArgs false
set_option linter.unusedVariables false
set_option maxRecDepth 10000
namespace Go.Ab
open Go Go.RowKit
structure Undo1 where
  pk : SK
  ps : List Pt
  ck : SK
  cs : List Coin1
def vUndo (u : Undo1) : V := .agg [.sl u.pk (rowsOf ePt u.ps) u.ps.length, .sl u.ck (rowsOf eCoin u.cs) u.cs.length]
def vBlk (b : Blk1) : V := .agg (eBlk b)
def chF (tid bid uid : Nat) (tip : Int) (v : V) : List V := [.ptr (some (tid, 0)), v, .map (some bid), .map (some uid), .int .i64 tip]
theorem ch_hole (tid bid uid : Nat) (tip : Int) : Hole (chF tid bid uid tip) 1 := ⟨fun _ => rfl, fun _ _ => rfl⟩
abbrev Bods := List (Int × Blk1)
abbrev Unds := List (Int × Undo1)
structure Ch where
  r : Rl
  l : List Nd
  cm : CM
  bs : Bods
  us : Unds
  tip : Int
def ChL (c : Ch) (tid bid uid : Nat) : List Asn := [TreeS tid c.r c.l, pt bid (.mp (encM kInt vBlk c.bs)), pt uid (.mp (encM kInt vUndo c.us))]
def ChS (cid : Nat) (c : Ch) (L : List Asn) (st : St) : Prop := ∃ tid bid uid, SetS cid (chF tid bid uid c.tip) c.cm (ChL c tid bid uid ++ L) st
structure ChR (cid : Nat) (c : Ch) (st : St) (mo : Option Nat) (tid bid uid : Nat) : Prop where
  top : st cid = some (.cells (chF tid bid uid c.tip (.map mo)))
  tree : c.l ≠ [] → TreeR tid c.r c.l st
  bod : st bid = some (.mp (encM kInt vBlk c.bs))
  und : st uid = some (.mp (encM kInt vUndo c.us))
theorem ChS.read {cid : Nat} {c : Ch} {L : List Asn} {st : St} (h : ChS cid c L st) : ∃ mo tid bid uid, ChR cid c st mo tid bid uid := by
  obtain ⟨tid, bid, uid, mo, h0, S⟩ := h
  refine ⟨mo, tid, bid, uid, ?_⟩
  cases mo with
  | none => exact ⟨S.get, fun hl => S.drop.treeR hl, S.drop.drop.get, S.drop.drop.drop.get⟩
  | some m => exact ⟨S.get, fun hl => S.drop.drop.treeR hl, S.drop.drop.drop.get, S.drop.drop.drop.drop.get⟩
theorem ChR.sub {cid : Nat} {c : Ch} {st st' : St} {mo : Option Nat} {tid bid uid : Nat} (h : ChR cid c st mo tid bid uid) (hs : St.sub st st') : ChR cid c st' mo tid bid uid :=
  ⟨hs _ _ h.top, fun hl => (h.tree hl).sub hs, hs _ _ h.bod, hs _ _ h.und⟩
theorem rsegBlk (r : Rl) : segOf (eRl r) 5 69 = some (eHdr r.gen ++ [r.txs]) := by
  refine rseg r ?_ (by omega)
  show (eHdr r.gen ++ [r.txs]).take 69 = _
  rw [List.take_of_length_le]
  simp [eHdr_len]
section
variable {P : Program} {F : Fn}
set_option maxHeartbeats 4000000 in
theorem spec265a (ok : OkChain P F) (hc : CloneC P (F 256)) (st : St) (r : Rl) (b : Blk1) (t : Tx1) (hh : b.hdr = r.gen) (hx : r.txs = txsV b.tk b.txs) (hb : b.txs = [t]) (ht : t.ok 100)
    (e1 : checkM r = 0) (e2 : blkE b = 0) (e3 : (conn1 t 0 r.subsidy []).1 = 0) :
    ACalls P (F 265) [.agg (eRl r)] st fun v st' => ∃ c, v = .tup [.ptr (some (c, 0)), .int .i64 0] ∧ ChS c ⟨r, newM r, (conn1 t 0 r.subsidy []).2, [(0, b)], [], 0⟩ [Was st] st' := by
  have okc2 := ok.toOkCoins.toOkCheck2
  have oki := ok.toOkLocate.toOkIndexZ.toOkIndex
  have hsub : -4611686018427387904 ≤ r.subsidy ∧ r.subsidy ≤ 4611686018427387904 := by
    unfold checkM at e1
    split at e1
    · cases e1
    · split at e1
      · cases e1
      · omega
  have hblk : eHdr r.gen ++ [r.txs] = eBlk b := by rw [eBlk, hh, hx]
  refine shows_call ok.mixed ok.h265 (by simp [k265]) ?_
  simp only [k265]
  simp
  intro i1 h1
  have S := (Sep.start st).new h1 (.cells (eRl r))
  generalize st.upd i1 _ = st1 at S ⊢
  have o1 := S.get
  simp [St.seg, o1, rsegAll]
  refine (spec155 oki st1 r).mono ?_
  intro v st2 hv
  rw [if_pos e1] at hv
  obtain ⟨tid, rfl, S2⟩ := hv
  have S := S2.ov S
  have o1 := S.drop.get
  have s5 := rsegBlk r
  rw [hblk] at s5
  simp [St.seg, o1, s5]
  refine (spec253 okc2 st2 b (by rw [hb]; simp) (by rw [hb]; intro u hu; rw [List.mem_singleton.1 hu]; exact ⟨by have := ht.1; omega, by have := ht.2.1; omega, fun x hx => by have := ht.2.2 x hx; omega⟩)).mono ?_
  rintro v st3 ⟨rfl, hs⟩
  have S := S.sub hs
  simp [e2]
  intro bid hbid
  have S := S.new hbid (.mp [])
  have hms := mset_enc keyed_int (ev := vBlk) (l := []) S.get 0 b
  have o1 := S.drop.drop.get
  have S := S.set (.mp (encM kInt vBlk [(0, b)]))
  have hms' : msetS (st3.upd bid (.mp [])) .int (.map (some bid)) (.int .i64 0) (.agg (eBlk b)) = some (st3.upd bid (.mp (encM kInt vBlk [(0, b)]))) := by
    rw [show st3.upd bid (.mp (encM kInt vBlk [(0, b)])) = (st3.upd bid (.mp [])).upd bid (.mp (encM kInt vBlk [(0, b)])) by simp]
    exact hms
  simp at S o1
  simp [St.seg, o1, s5, hms']
  generalize st3.upd bid (.mp (encM kInt vBlk [(0, b)])) = st4 at S ⊢
  intro uid huid
  have S := S.new huid (.mp [])
  generalize st4.upd uid (.mp []) = st5 at S ⊢
  simp [fillV, spliceV]
  intro cid hcid
  have S := S.new hcid (.cells (chF tid bid uid 0 (.map none)))
  simp [chF] at S ⊢
  generalize st5.upd cid _ = st6 at S ⊢
  have W : SetS cid (chF tid bid uid 0) [] ([pt uid (.mp []), pt bid (.mp (encM kInt vBlk [(0, b)])), TreeS tid r (newM r), pt i1 (.cells (eRl r)), Was st]) st6 := ⟨none, fun _ => rfl, S⟩
  have o1 := W.ext (i := i1) (x := .cells (eRl r)) (by simp)
  have s3 := rsegSubsidy r
  simp [St.seg, o1, s5, s3]
  refine (spec260a ok.toOkCoins hc (ch_hole tid bid uid 0) W b t hb ht 0 r.subsidy hsub.1 hsub.2).mono ?_
  rintro v st7 ⟨rfl, W⟩
  simp
  intro i8 h8
  have W := W.new h8 (.cells [.sl .nil [] 0, .sl .nil [] 0])
  have hst := store_pt (sz := 2) (o := 0) (W.ext (i := i8) (x := .cells [.sl .nil [] 0, .sl .nil [] 0]) (by simp)) (v := undo0) (vs := [V.sl .nil [] 0, V.sl .nil [] 0]) rfl rfl (by simp)
  rw [show spliceV [V.sl .nil [] 0, V.sl .nil [] 0] 0 [V.sl .nil [] 0, V.sl .nil [] 0] = [V.sl .nil [] 0, V.sl .nil [] 0] from rfl] at hst
  simp at hst
  simp [hst, e3]
  refine ⟨_, sub_self _, tid, bid, uid, W.tail fun r' h => ?_⟩
  have h := h.drop
  have h : Sep ([TreeS tid r (newM r), pt bid (.mp (encM kInt vBlk [(0, b)])), pt uid (.mp []), pt i1 (.cells (eRl r)), Was st]) r' := (h.pull 2).tail fun r h => h.swap
  exact h.tail fun r h => h.tail fun r h => h.tail fun r h => h.drop
end
end Go.Ab
set_option linter.unusedSimpArgs false
set_option linter.unusedVariables false
set_option maxRecDepth 10000
namespace Go.Ab
open Go Go.RowKit
section
variable {P : Program} {F : Fn}
variable {cid tid bid uid : Nat} {c : Ch} {mo : Option Nat}
theorem cseg0 (tid bid uid : Nat) (tip : Int) (v : V) : segOf (chF tid bid uid tip v) 0 1 = some [.ptr (some (tid, 0))] := rfl
theorem cseg2 (tid bid uid : Nat) (tip : Int) (v : V) : segOf (chF tid bid uid tip v) 2 1 = some [.map (some bid)] := rfl
theorem cseg3 (tid bid uid : Nat) (tip : Int) (v : V) : segOf (chF tid bid uid tip v) 3 1 = some [.map (some uid)] := rfl
theorem cseg4 (tid bid uid : Nat) (tip : Int) (v : V) : segOf (chF tid bid uid tip v) 4 1 = some [.int .i64 tip] := rfl
theorem spec266 (ok : OkChain P F) {st : St} (h : ChR cid c st mo tid bid uid) : ACalls P (F 266) [.ptr (some (cid, 0))] st fun v st' => v = .int .i64 c.tip ∧ st' = st := by
  refine shows_call ok.mixed ok.h266 (by simp [k266]) ?_
  simp only [k266]
  simp [St.seg, h.top, cseg4]
theorem nseg107 (x : Nd) : segOf (eNd x) 107 1 = some [.bool x.failed] := seg_of_take (nsegFail x) (by rw [eNd_len]; omega)
def hasM (c : Ch) (i : Int) : Bool := (lk i c.bs).isSome
theorem spec268 (ok : OkChain P F) {st : St} (h : ChR cid c st mo tid bid uid) (i : Int) : ACalls P (F 268) [.ptr (some (cid, 0)), .int .i64 i] st fun v st' => v = .bool (hasM c i) ∧ st' = st := by
  refine shows_call ok.mixed ok.h268 (by simp [k268]) ?_
  simp only [k268]
  have hl := lookup_lk keyed_int (ev := vBlk) h.bod (V.agg z69_adc1) i
  obtain ⟨ys, hys, hlen⟩ : ∃ ys, ((lk i c.bs).map vBlk).getD (V.agg z69_adc1) = .agg ys ∧ ys.length = 69 := by
    cases lk i c.bs with
    | none => exact ⟨_, rfl, rfl⟩
    | some b => exact ⟨_, rfl, eBlk_len b⟩
  rw [hys] at hl
  have hl : lookupV st .int (V.agg z69_adc1) true (.map (some bid)) (.int .i64 i) = some (.tup [.agg ys, .bool (hasM c i)]) := hl
  simp [St.seg, h.top, cseg2, hl]
  intro i5 h5
  have hst := store_pt (sz := 69) (o := 0) (St.upd_same st i5 (.cells z69_adc1)) (v := .agg ys) (vs := ys) rfl hlen (by simp)
  simp [hst]
  exact sub_upd h5
theorem inI_nat {l : List Nd} {i : Nat} (h : i < l.length) : inI l (i : Int) = i := by
  unfold inI
  rw [if_neg (by omega)]
  omega
end
end Go.Ab
set_option linter.unusedSimpArgs false
set_option linter.unusedVariables false
set_option maxRecDepth 10000
namespace Go.Ab
open Go Go.RowKit
def ChA (cid : Nat) (c : Ch) : Asn := fun h => ChS cid c [] h
theorem ChS.asn {cid : Nat} {c : Ch} {L : List Asn} {st : St} (h : ChS cid c L st) : Sep (ChA cid c :: L) st := by
  obtain ⟨tid, bid, uid, mo, h0, S⟩ := h
  cases mo with
  | none => exact (Sep.all (L1 := SetL cid (chF tid bid uid c.tip) c.cm none ++ ChL c tid bid uid) S).head fun h hh => ⟨tid, bid, uid, none, h0, by rw [List.append_nil]; exact hh⟩
  | some m => exact (Sep.all (L1 := SetL cid (chF tid bid uid c.tip) c.cm (some m) ++ ChL c tid bid uid) S).head fun h hh => ⟨tid, bid, uid, some m, h0, by rw [List.append_nil]; exact hh⟩
theorem chRead {cid : Nat} {c : Ch} {L : List Asn} {st : St} (h : Sep (ChA cid c :: L) st) : ∃ mo tid bid uid, ChR cid c st mo tid bid uid := by
  obtain ⟨h', hs, hc⟩ := h.part
  obtain ⟨mo, tid, bid, uid, hr⟩ := ChS.read hc
  exact ⟨mo, tid, bid, uid, hr.sub hs⟩
theorem WinS.ov {A : Asn} {t : Nat} {es : Fls} {sl : Int} {L : List Asn} {st st' : St} (h : Sep [A, Was st] st') (W : WinS t es sl L st) : WinS t es sl (A :: L) st' := by
  obtain ⟨mo, h0, S⟩ := W
  have S := h.ov S
  refine ⟨mo, h0, ?_⟩
  cases mo with
  | none => exact S.swap
  | some m => exact (S.pull 2).pull 2
theorem WinS.front {A : Asn} {t : Nat} {es : Fls} {sl : Int} {L : List Asn} {st : St} (W : WinS t es sl (A :: L) st) : ∃ mo, (mo = none → es = []) ∧ Sep (A :: (WinL t es sl mo ++ L)) st := by
  obtain ⟨mo, h0, S⟩ := W
  refine ⟨mo, h0, ?_⟩
  cases mo with
  | none => exact S.swap
  | some m => exact S.pull 2
theorem WinS.back {A : Asn} {t : Nat} {es : Fls} {sl : Int} {L : List Asn} {st : St} {mo : Option Nat} (h0 : mo = none → es = []) (S : Sep (A :: (WinL t es sl mo ++ L)) st) : WinS t es sl (A :: L) st := by
  refine ⟨mo, h0, ?_⟩
  cases mo with
  | none => exact S.swap
  | some m => exact (S.pull 2).pull 2
def wantGo (c : Ch) (es : Fls) (top left : Int) : List Int → List Int → List Int
  | out, [] => out
  | out, i :: r =>
    if left ≤ (out.length : Int) ∨ top < ((nd c.l (inI c.l i)).height : Int) then out
    else if (lk i es).isSome = false ∧ hasM c i = false then wantGo c es top left (out ++ [i]) r
    else wantGo c es top left out r
def wantM (c : Ch) (es : Fls) (peer best : Int) : List Int :=
  if best < 0 ∨ (c.l.length : Int) ≤ best ∨ (nd c.l (inI c.l best)).failed = true then []
  else wantGo c es (((nd c.l (inI c.l c.tip)).height : Int) + 1024) (16 - (countM es peer : Int)) [] (wayI c.l (meetM c.l (clI c.l c.tip) (clI c.l best) : Nat) best)
theorem WinS.look {t : Nat} {es : Fls} {sl : Int} {L : List Asn} {st : St} (W : WinS t es sl L st) (i : Int) : ∃ mv, st t = some (.cells [mv, .int .i64 sl]) ∧
    lookupV st .int (V.agg [.int .i64 0, .int .i64 0]) true mv (.int .i64 i) = some (.tup [vFl ((lk i es).getD (0, 0)), .bool (lk i es).isSome]) := by
  obtain ⟨mo, h0, S⟩ := W
  cases mo with
  | none =>
    have he : es = [] := h0 rfl
    subst he
    exact ⟨_, S.get, lookup_none keyed_int (st := st) (V.agg [.int .i64 0, .int .i64 0]) true i⟩
  | some m =>
    have hl := lookup_lk keyed_int (ev := vFl) (S.drop.get) (V.agg [.int .i64 0, .int .i64 0]) i
    have hx : ((lk i es).map vFl).getD (V.agg [.int .i64 0, .int .i64 0]) = vFl ((lk i es).getD (0, 0)) := by
      cases lk i es <;> rfl
    rw [hx] at hl
    exact ⟨_, S.get, hl⟩
theorem wayI_len {l : List Nd} (w : Wf l) (a b : Int) (hb : b < l.length) : (wayI l a b).length ≤ l.length := by
  unfold wayI
  split
  · rw [wayM_len]
    by_cases h : b.toNat < l.length
    · have := w.hgt_le h
      omega
    · have h0 : hgt l b.toNat = 0 := by simp [hgt, List.getElem?_eq_none (Nat.le_of_not_lt h)]
      omega
  · exact Nat.zero_le _
section
variable {P : Program} {F : Fn}
set_option maxHeartbeats 8000000 in
theorem spec289 (ok : OkWindow P F) {st : St} {t cid : Nat} {c : Ch} {es : Fls} {sl : Int} {L : List Asn} (W : WinS t es sl (ChA cid c :: L) st) (w : Wf c.l) (hl : c.l.length ≤ 16384) (he : es.length ≤ 1000000) (peer best : Int) :
    ACalls P (F 289) [.ptr (some (t, 0)), .ptr (some (cid, 0)), .int .i64 peer, .int .i64 best] st fun v st' => WinS t es sl (Slx 1 e1 v (wantM c es peer best) :: ChA cid c :: L) st' := by
  have okc := ok.toOkChain
  have okl := okc.toOkLocate
  have oki := okl.toOkIndexZ.toOkIndex
  refine shows_call ok.mixed ok.h289 (by simp [k289]) ?_
  simp only [k289]
  obtain ⟨cmo, tid, bid, uid, R⟩ := chRead W.rest
  have T := R.tree w.neNil
  have o1 := R.top
  have hnil : WinS t es sl (Slx 1 e1 (.sl .nil [] 0) [] :: ChA cid c :: L) st := by
    obtain ⟨mo, h0, S⟩ := W
    exact WinS.back h0 (Sep.slxNil S)
  by_cases c1 : best < 0
  · have e : wantM c es peer best = [] := by rw [wantM, if_pos (.inl c1)]
    simp [c1, e]
    exact ⟨st, sub_self _, hnil⟩
  simp [c1, St.seg, o1, cseg0]
  refine (spec159 oki T).mono ?_
  rintro v st1 ⟨rfl, rfl⟩
  by_cases c2 : (c.l.length : Int) ≤ best
  · have e : wantM c es peer best = [] := by rw [wantM, if_pos (.inr (.inl c2))]
    simp [c2, e]
    exact ⟨st1, sub_self _, hnil⟩
  simp [c2, St.seg, o1, cseg0]
  refine (spec161 oki T w best).mono ?_
  rintro v st2 ⟨rfl, rfl⟩
  have hfF : ∀ x, fldV false 107 1 (V.agg (eNd x)) = some (.bool x.failed) := fun x => by
    show (segOf _ 107 1).bind (packV false) = _
    rw [nseg107]; rfl
  have hfH : ∀ x, fldV false 102 1 (V.agg (eNd x)) = some (.int .i64 x.height) := fun x => by
    show (segOf _ 102 1).bind (packV false) = _
    rw [osegHgt]; rfl
  cases c3 : (nd c.l (inI c.l best)).failed with
  | true =>
    have e : wantM c es peer best = [] := by rw [wantM, if_pos (.inr (.inr c3))]
    simp [hfF, c3, e]
    exact ⟨st2, sub_self _, hnil⟩
  | false =>
    have e : wantM c es peer best = wantGo c es (((nd c.l (inI c.l c.tip)).height : Int) + 1024) (16 - (countM es peer : Int)) [] (wayI c.l (meetM c.l (clI c.l c.tip) (clI c.l best) : Nat) best) := by
      rw [wantM, if_neg (by rw [c3]; rintro (h | h | h); exact c1 h; exact c2 h; cases h)]
    rw [e]
    have hhgt : ∀ i, ((nd c.l (inI c.l i)).height : Int) ≤ 16384 := fun i => by
      have h1 := inI_lt w i
      have h2 := w.hgt_le h1
      have h3 : hgt c.l (inI c.l i) = (nd c.l (inI c.l i)).height := (nd_hgt_eq h1).symm
      omega
    have w1 : IntKind.i64.wrap (((nd c.l (inI c.l c.tip)).height : Int) + 1024) = ((nd c.l (inI c.l c.tip)).height : Int) + 1024 := wrap64 (by omega) (by have := hhgt c.tip; omega)
    simp [hfF, c3, St.seg, o1, cseg0]
    refine still_call _ _ _ _ (by simpa using spec266 okc R) ?_
    simp
    refine still_call _ _ _ _ (by simpa using spec161 oki T w c.tip) ?_
    simp [hfH, w1, St.seg, o1, cseg0]
    refine still_call _ _ _ _ (by simpa using spec266 okc R) ?_
    simp
    refine still_call _ _ _ _ (by simpa using spec228 okl T w hl c.tip best) ?_
    simp
    refine (spec281 ok W peer he).mono ?_
    rintro v st3 ⟨rfl, W⟩
    obtain ⟨cmo, tid, bid, uid, R⟩ := chRead W.rest
    have T := R.tree w.neNil
    have o1 := R.top
    have hcm : countM es peer ≤ es.length := List.countP_le_length
    have w2 : IntKind.i64.wrap (16 - (countM es peer : Int)) = 16 - (countM es peer : Int) := wrap64 (by omega) (by omega)
    simp [w2, St.seg, o1, cseg0]
    refine (spec229 okl T w hl _ best).mono ?_
    intro vw st4 S1
    have W := W.ov S1
    clear R T o1 S1
    obtain ⟨way, hway⟩ : ∃ x, x = wayI c.l (meetM c.l (clI c.l c.tip) (clI c.l best) : Nat) best := ⟨_, rfl⟩
    have hwl : way.length ≤ 16384 := by
      have := wayI_len w (meetM c.l (clI c.l c.tip) (clI c.l best) : Nat) best (by omega)
      rw [← hway] at this
      omega
    rw [← hway] at W ⊢
    obtain ⟨top, htop⟩ : ∃ x, x = ((nd c.l (inI c.l c.tip)).height : Int) + 1024 := ⟨_, rfl⟩
    obtain ⟨left, hleft⟩ : ∃ x, x = 16 - (countM es peer : Int) := ⟨_, rfl⟩
    rw [← htop, ← hleft]
    have hwr := (Sep.rd e1_len W.rest).len
    simp [hwr]
    have W : WinS t es sl (Slx 1 e1 (.sl .nil [] 0) [] :: Sl 1 e1 vw way :: ChA cid c :: L) st4 := by
      obtain ⟨mo, h0, S⟩ := W
      exact WinS.back h0 (Sep.slxNil S)
    refine vc_joinB (M := fun env' st' => WinS t es sl (Slx 1 e1 (env' 12) (wantGo c es top left [] way) :: ChA cid c :: L) st') ?_ ?_
    · refine vc_loopJ (fun n env' st' => ∃ (i : Nat) (out : List Int), i ≤ way.length ∧ out.length ≤ i ∧ n = way.length - i ∧ env' 66 = .int .i64 (i : Nat) ∧ wantGo c es top left out (way.drop i) = wantGo c es top left [] way ∧ WinS t es sl (Slx 1 e1 (env' 12) out :: Sl 1 e1 vw way :: ChA cid c :: L) st') way.length
        ⟨0, [], by omega, by simp, by omega, by simp, rfl, by simpa using W⟩ ?_
      rintro J hJ n env' st5 hsame ⟨i, out, hi, hol, rfl, h66, hgo, W⟩
      have g0 := (hsame.get 0 rfl).trans (by simp : _ = V.ptr (some (t, 0)))
      have g1 := (hsame.get 1 rfl).trans (by simp : _ = V.ptr (some (cid, 0)))
      have g9 := (hsame.get 9 rfl).trans (by simp : _ = V.int .i64 top)
      have g11 := (hsame.get 11 rfl).trans (by simp : _ = V.int .i64 left)
      have g64 := (hsame.get 64 rfl).trans (by simp : _ = vw)
      have g65 := (hsame.get 65 rfl).trans (by simp : _ = V.int .i64 (way.length : Int))
      clear hsame
      by_cases hlt : i < way.length
      · obtain ⟨r1, r2, r3, r4⟩ := (Sep.rd e1_len W.rest.drop).row e1_len hlt
        rw [List.drop_eq_getElem_cons hlt, wantGo] at hgo
        obtain ⟨x, hx⟩ : ∃ x, x = way[i] := ⟨_, rfl⟩
        rw [← hx] at r3 hgo
        have w1 : IntKind.i64.wrap ((i : Int) + 1) = (i : Int) + 1 := wrap64 (by omega) (by omega)
        obtain ⟨mv, ot, hlook⟩ := W.look x
        have sg : segOf [mv, V.int .i64 sl] 0 1 = some [mv] := rfl
        simp [g0, g64, g65, h66, hlt, r1, r3, e1, St.seg, ot, sg, hlook]
        intro i15 h15
        have W := W.new h15 (.cells (eFl ((lk x es).getD (0, 0))))
        have key : storeS (st5.upd i15 (.cells [.int .i64 0, .int .i64 0])) 2 (.ptr (some (i15, 0))) (vFl ((lk x es).getD (0, 0))) = some (st5.upd i15 (.cells (eFl ((lk x es).getD (0, 0))))) := by
          rw [store_pt (sz := 2) (o := 0) (vs := eFl ((lk x es).getD (0, 0))) (St.upd_same _ _ _) rfl rfl (by simp)]
          simp [spliceV, eFl]
        simp [key]
        generalize st5.upd i15 _ = st6 at W ⊢
        have W := W.tail fun r h => h.drop
        have hln := (Sep.rd e1_len (W.rest.head fun h hh => hh.sl)).len
        obtain ⟨cmo, tid, bid, uid, R⟩ := chRead W.rest.drop.drop
        have T := R.tree w.neNil
        have o1 := R.top
        have hbreak : (left ≤ (out.length : Int) ∨ top < ((nd c.l (inI c.l x)).height : Int)) → WinS t es sl (Slx 1 e1 (env' 12) (wantGo c es top left [] way) :: ChA cid c :: L) st6 := fun hb => by
          rw [if_pos hb] at hgo
          rw [← hgo]
          exact W.tail fun r h => h.tail fun r h => h.drop
        by_cases c4 : left ≤ (out.length : Int)
        · simp [hln, g11, c4]
          exact hbreak (.inl c4)
        simp [hln, g1, g9, g11, c4, St.seg, o1, cseg0]
        refine (spec161 oki T w x).mono ?_
        rintro v st7 ⟨rfl, rfl⟩
        by_cases c5 : top < ((nd c.l (inI c.l x)).height : Int)
        · simp [hfH, g9, c5]
          exact hbreak (.inr c5)
        rw [if_neg (by rintro (h | h); exact c4 h; exact c5 h)] at hgo
        cases c6 : (lk x es).isSome with
        | true =>
          rw [if_neg (by rw [c6]; rintro ⟨h, -⟩; cases h)] at hgo
          simp [hfH, g9, c5, c6, h66, w1]
          exact Round.mk (way.length - (i + 1)) _ (by omega) (sub_self _) (hJ _ _ _ ⟨i + 1, out, by omega, by omega, rfl, by simp, hgo, by simpa using W⟩)
        | false =>
          simp [hfH, g1, g9, c5, c6]
          refine (spec268 okc R x).mono ?_
          rintro v st8 ⟨rfl, rfl⟩
          cases c7 : hasM c x with
          | true =>
            rw [if_neg (by rw [c7]; rintro ⟨-, h⟩; cases h)] at hgo
            simp [h66, w1]
            exact Round.mk (way.length - (i + 1)) _ (by omega) (sub_self _) (hJ _ _ _ ⟨i + 1, out, by omega, by omega, rfl, by simp, hgo, by simpa using W⟩)
          | false =>
            rw [if_pos ⟨c6, c7⟩] at hgo
            have hfb : fillV (repV [V.int .i64 0] 1) [(0, 1, V.int .i64 x)] = some [.int .i64 x] := rfl
            have hel : elems st8 1 (.sl .full [.int .i64 x] 1) = some (rowsOf e1 [x], 1) := by simp [elems, e1]
            simp [hfb, hel]
            obtain ⟨mo, h0, S⟩ := W.front
            refine Sep.appx' (b := 8) e1_len (by omega) S [x] rfl rfl (by simp only [List.length_singleton]; omega) ?_
            intro s' st9 S
            have W := WinS.back h0 S
            simp [h66, w1]
            exact Round.mk (way.length - (i + 1)) _ (by omega) (sub_self _) (hJ _ _ _ ⟨i + 1, out ++ [x], by omega, by simp; omega, rfl, by simp, hgo, by simpa using W⟩)
      · have : i = way.length := by omega
        subst this
        rw [List.drop_length, wantGo] at hgo
        rw [hgo] at W
        simp [g65, h66]
        exact W.tail fun r h => h.tail fun r h => h.drop
    · rintro env' st5 hsame W
      simp
      exact ⟨st5, sub_self _, W⟩
end
end Go.Ab
set_option linter.unusedSimpArgs false
set_option linter.unusedVariables false
set_option maxRecDepth 10000
namespace Go.Ab
open Go Go.RowKit
theorem chGrow {P : Program} {cid : Nat} {c : Ch} {L : List Asn} {st : St} (S : Sep (ChA cid c :: L) st) : ∃ mo tid bid uid, ChR cid c st mo tid bid uid ∧
    ∀ (f : FuncId) (args : List V) (R : V → Prop) (l' : List Nd), (∀ h, TreeS tid c.r c.l h → ACalls P f args h fun v h' => R v ∧ TreeS tid c.r l' h') →
      ACalls P f args st fun v st' => R v ∧ Sep (ChA cid { c with l := l' } :: L) st' := by
  obtain ⟨a, r, hd, hs, ⟨tid, bid, uid, mo, h0, Si⟩, hL⟩ := S
  have hch : ChS cid c [] a := ⟨tid, bid, uid, mo, h0, Si⟩
  have hsub : St.sub a st := fun i o e => hs i o (add_some e)
  have R0 : ChR cid c a mo tid bid uid := by
    cases mo with
    | none => exact ⟨Si.get, fun hl => Si.drop.treeR hl, Si.drop.drop.get, Si.drop.drop.drop.get⟩
    | some m => exact ⟨Si.get, fun hl => Si.drop.drop.treeR hl, Si.drop.drop.drop.get, Si.drop.drop.drop.drop.get⟩
  refine ⟨mo, tid, bid, uid, R0.sub hsub, fun f args R l' hf => ?_⟩
  have S' : Sep ((fun h => Sep (SetL cid (chF tid bid uid c.tip) c.cm mo ++ (ChL c tid bid uid ++ [])) h) :: L) st := ⟨a, r, hd, hs, Si, hL⟩
  refine (Sep.call S' (R := fun v h' => R v ∧ ChA cid { c with l := l' } h') fun h hh => ?_).mono ?_
  · cases mo with
    | none =>
      have hh : Sep (TreeS tid c.r c.l :: pt cid (.cells (chF tid bid uid c.tip (.map none))) :: [pt bid (.mp (encM kInt vBlk c.bs)), pt uid (.mp (encM kInt vUndo c.us))]) h := Sep.swap hh
      refine (Sep.call hh hf).mono ?_
      intro v h' S
      have hv : R v := by
        obtain ⟨x, -, h2⟩ := S.part
        exact h2.1
      exact ⟨hv, tid, bid, uid, none, h0, (S.head fun x hx => hx.2).swap⟩
    | some m =>
      have hh : Sep (TreeS tid c.r c.l :: pt cid (.cells (chF tid bid uid c.tip (.map (some m)))) :: pt m (.mp (encM kPt vCoin c.cm)) :: [pt bid (.mp (encM kInt vBlk c.bs)), pt uid (.mp (encM kInt vUndo c.us))]) h := Sep.pull 2 _ hh
      refine (Sep.call hh hf).mono ?_
      intro v h' S
      have hv : R v := by
        obtain ⟨x, -, h2⟩ := S.part
        exact h2.1
      exact ⟨hv, tid, bid, uid, some m, h0, Sep.pull 2 _ (Sep.pull 2 _ (S.head fun x hx => hx.2))⟩
  · intro v st' S
    have hv : R v := by
      obtain ⟨x, -, h2⟩ := S.part
      exact h2.1
    exact ⟨hv, S.head fun x hx => hx.2⟩
end Go.Ab
set_option linter.unusedSimpArgs false
set_option linter.unusedVariables false
set_option maxRecDepth 10000
namespace Go.Ab
open Go Go.RowKit
section
variable {P : Program} {F : Fn}
end
end Go.Ab
set_option linter.unusedSimpArgs false
set_option linter.unusedVariables false
set_option maxRecDepth 10000
namespace Go.Ab
open Go Go.RowKit
section
variable {α : Type} {f : α → List V} {sz : Nat}
def Slv (sz : Nat) (f : α → List V) (s : V) (l : List α) : Asn := fun h =>
  (∃ k, (k = .nil ∨ k = .full) ∧ s = .sl k (rowsOf f l) l.length) ∨ ∃ sid, s = .hsl sid 0 sz l.length ∧ h sid = some (.cells (rowsOf f l))
theorem Sep.slvPut {L : List Asn} {st : St} (h : Sep L st) (l : List α) : Sep (Slv sz f (.sl .full (rowsOf f l) l.length) l :: L) st := h.put (.inl ⟨.full, .inr rfl, rfl⟩)
theorem Sep.slvRd (hf : ∀ a, (f a).length = sz) {s : V} {l : List α} {L : List Asn} {st : St} (h : Sep (Slv sz f s l :: L) st) : Rd sz f s l st := by
  obtain ⟨h', h1, h2⟩ := h.part
  rcases h2 with ⟨k, _, hk⟩ | ⟨sid, hs, hc⟩
  · exact .inl ⟨k, hk⟩
  · refine .inr ⟨sid, 0, hs, ?_⟩
    have := h1 _ _ hc
    have hl := rowsOf_length hf l
    simp only [St.seg, this]
    simp [segOf, ← hl]
theorem Sep.appv (hf : ∀ a, (f a).length = sz) (hsz : 0 < sz) {s : V} {l : List α} {L : List Asn} {st : St} (h : Sep (Slv sz f s l :: L) st) {b : Nat} (m : List α) {ys : List V} {n : Nat} (hys : ys = rowsOf f m) (hn : n = m.length) (hb : (l.length + n) * b ≤ 140737488355328) {K : V → St → Prop}
    (hK : ∀ s' st', Sep (Slv sz f s' (l ++ m) :: L) st' → K s' st') : appS sz b s (some (ys, n)) st K := by
  subst hys
  subst hn
  have h0 := h
  obtain ⟨a0, r, h1, h2, h3, h4⟩ := h
  have hl := rowsOf_length hf l
  have hm := rowsOf_length hf m
  rcases h3 with ⟨k, hk, rfl⟩ | ⟨sid, rfl, h5⟩
  · refine ⟨hk, hl, hb, ?_, ?_⟩
    · intro h0'
      have : m = [] := List.length_eq_zero_iff.1 h0'
      subst this
      exact hK _ _ (by simpa using h0)
    · intro h0' id hid
      refine hK _ _ ?_
      have hsub : St.sub r st := sub_trans (sub_right h1) h2
      have := (h4.sub hsub).new hid (.cells (rowsOf f l ++ rowsOf f m))
      exact this.head fun h hh => .inr ⟨id, by simp, hh.trans (by simp)⟩
  · refine Sep.appx hf hsz (l := l) (L := L) ⟨a0, r, h1, h2, .inr ⟨sid, rfl, h5⟩, h4⟩ hb ?_
    intro s' st' S
    refine hK _ _ (S.head fun h hh => ?_)
    rcases hh with ⟨hs, he⟩ | hh
    · rw [he]
      rcases hs with rfl | rfl
      · exact .inl ⟨.nil, .inl rfl, rfl⟩
      · exact .inl ⟨.full, .inr rfl, rfl⟩
    · exact .inr hh
end
section
variable {P : Program} {F : Fn}
end
end Go.Ab
set_option linter.unusedSimpArgs false
set_option linter.unusedVariables false
set_option maxRecDepth 10000
namespace Go.Ab
open Go Go.RowKit
def w18In (m : UInt8) : In1 := ⟨id0, 4294967295#32, .full, [m]⟩
def w18Tx (m : UInt8) : Tx1 := ⟨.full, [w18In m], .full, [⟨50, id0⟩]⟩
theorem w18Tx_ok (m : UInt8) : (w18Tx m).ok 100 := ⟨by simp [w18Tx], by simp [w18Tx], fun x hx => by rw [List.mem_singleton.1 hx]; simp [w18In]⟩
theorem w18Fill (m : UInt8) : fillV z34_1838 [(0, 33, .agg (eId id0 ++ [w32 4294967295#32])), (33, 1, .sl .full [w8 m] 1)] = some (eIn (w18In m)) := rfl
theorem w18Fill2 : fillV z33_0be4 [(0, 1, .int .i64 50)] = some (eOut ⟨50, id0⟩) := rfl
def w18Root (m : UInt8) : Id := (rootM [txIdM (w18Tx m)]).1
def w18G : Blk1 := ⟨{ hdr0 with root := w18Root 0, bits := easyB }, .full, [w18Tx 0]⟩
def w18R : Rl := ⟨easyB, 0, 10, 50, 0, w18G.hdr, txsV .full [w18Tx 0]⟩
def w18B (x : Nd) (m : UInt8) : Blk1 := ⟨(mineN { hdr0 with prev := x.id, root := w18Root m, time := x.hdr.time + 1, bits := easyB } easyB 1000).getD hdr0, .full, [w18Tx m]⟩
def w18Step (s : List Nd × List Blk1) (i : Nat) (p : Int) : List Nd × List Blk1 :=
  let b := w18B (nd s.1 (inI s.1 (max 0 (min p ((s.1.length : Int) - 1))))) (UInt8.ofBitVec (BitVec.ofInt 8 ((i : Int) + 1)))
  let a := addM w18R s.1 b.hdr 1099511627776
  (a.1, if a.2.2 = 0 then s.2 ++ [b] else s.2)
def w18Go : Nat → List Int → List Nd × List Blk1 → List Nd × List Blk1
  | _, [], s => s
  | i, p :: l, s => w18Go (i + 1) l (w18Step s i p)
def w18M (ps : List Int) : List Nd × List Blk1 := w18Go 0 ps (newM w18R, [w18G])
def w18C (l : List Nd) : Ch := ⟨w18R, l, (conn1 (w18Tx 0) 0 50 []).2, [(0, w18G)], [], 0⟩
theorem w18Check : checkM w18R = 0 := by
  have h : tgt easyB ≠ none := by decide
  unfold checkM
  rw [if_neg (by rintro (h1 | h1); exact h h1; exact h1 rfl), if_neg (by show ¬ ((0 : Int) < 0 ∨ (1000 : Int) < 0 ∨ (10 : Int) < 1 ∨ (1048576 : Int) < 10 ∨ (50 : Int) < 0 ∨ (1125899906842624 : Int) < 50 ∨ (0 : Int) < 0 ∨ (1000 : Int) < 0); decide)]
theorem w18Conn : (conn1 (w18Tx 0) 0 50 []).1 = 0 := by
  have h1 : sumM (w18Tx 0).outs = (50, true) := by decide
  unfold conn1
  rw [if_neg (by rw [h1]; decide)]
  unfold layM
  rw [if_neg]
  simp [w18Tx, layHit, lk]
theorem w18TxM (m : UInt8) : txM (w18Tx m) true = 0 := by
  have h1 : sumM [⟨50, id0⟩] = (50, true) := by decide
  simp [txM, w18Tx, w18In, insGo, In1.pt, makerP, h1]
theorem w18Blk (h : Hdr) (m : UInt8) (hr : h.root = w18Root m) : blkE ⟨h, .full, [w18Tx m]⟩ = 0 := by
  have c1 : (countB (BitVec.ofNat 64 1)).length = 1 := by decide
  have ht : (txB (w18Tx m)).length = 80 := by simp [txB, w18Tx, w18In, inB, outB, textB, putB_len, c1]
  have hro : (rootM (rowsIds [w18Tx m])) = (w18Root m, false) := by
    show rootM [txIdM (w18Tx m)] = (w18Root m, false)
    have : rootM [txIdM (w18Tx m)] = ([txIdM (w18Tx m)].headD id0, false) := rootF_done _ _ _ (by simp)
    rw [w18Root, this]
  have hb : (blkB ⟨h, .full, [w18Tx m]⟩).length = 161 := by simp [blkB, hBytes_len, c1, ht]
  unfold blkE
  rw [if_neg (by simp), if_neg (by simp [txsE, w18TxM]), if_neg (by rw [hb]; decide), rootE, if_neg]
  rintro (⟨t, h1, h2⟩ | h1 | h1)
  · rw [List.mem_singleton.1 h1, ht] at h2
    cases h2
  · rw [hro] at h1; cases h1
  · rw [hro] at h1; exact h1 hr.symm
theorem w18Rl (h : Hdr) (x : V) : fillV z74_2f53 [(0, 1, w32 545259519#32), (2, 1, .int .i64 10), (3, 1, .int .i64 50), (5, 69, .agg (eHdr h ++ [x]))] = some (eRl ⟨easyB, 0, 10, 50, 0, h, x⟩) := by
  have e3 : spliceV (spliceV (spliceV z74_2f53 0 [w32 545259519#32]) 2 [.int .i64 10]) 3 [.int .i64 50] = [w32 545259519#32, .int .i64 0, .int .i64 10, .int .i64 50, .int .i64 0] ++ z74_2f53.drop 5 := rfl
  have zl : (z74_2f53.drop 5).length = 69 := rfl
  show fillV (spliceV (spliceV (spliceV z74_2f53 0 [w32 545259519#32]) 2 [.int .i64 10]) 3 [.int .i64 50]) [(5, 69, .agg (eHdr h ++ [x]))] = _
  rw [e3]
  generalize z74_2f53.drop 5 = zs at zl
  simp [fillV, V.cells?, spliceV, eHdr_len, zl, eRl, easyB]
section
variable {P : Program} {F : Fn}
set_option maxHeartbeats 2000000 in
theorem spec290 (ok : OkLaw18 P F) (st : St) (m : UInt8) : ACalls P (F 290) [w8 m] st fun v st' => v = .agg (eTx (w18Tx m)) ∧ st' = st := by
  have okt := ok.toOkWindow.toOkChain.toOkCoins.toOkCheck2.toOkCheck.toOkTx
  refine shows_call ok.mixed ok.h290 (by simp [k290]) ?_
  simp only [k290]
  simp
  intro i2 h2
  simp
  refine (spec197 okt _).mono ?_
  rintro v st1 ⟨rfl, rfl⟩
  have f1 : fillV (repV [w8 0] 1) [(0, 1, w8 m)] = some [w8 m] := rfl
  have f2 : fillV (repV z34_1838 1) [(0, 34, .agg (eIn (w18In m)))] = some (eIn (w18In m)) := rfl
  have f3 : fillV (repV z33_0be4 1) [(0, 33, .agg (eOut ⟨50, id0⟩))] = some (eOut ⟨50, id0⟩) := rfl
  have f4 : fillV [V.sl .nil [] 0, V.sl .nil [] 0] [(0, 1, .sl .full (eIn (w18In m)) 1), (1, 1, .sl .full (eOut ⟨50, id0⟩) 1)] = some (eTx (w18Tx m)) := rfl
  simp [f1, w18Fill, f2, w18Fill2, f3, f4]
  have hst := store_pt (sz := 2) (o := 0) (St.upd_same st i2 (.cells [.sl .nil [] 0, .sl .nil [] 0])) (v := .agg (eTx (w18Tx m))) (vs := eTx (w18Tx m)) rfl rfl (by simp)
  rw [show spliceV [V.sl .nil [] 0, V.sl .nil [] 0] 0 (eTx (w18Tx m)) = eTx (w18Tx m) from rfl] at hst
  have hg : segOf (eTx (w18Tx m)) 0 2 = some (eTx (w18Tx m)) := rfl
  simp at hst
  simp [hst, St.seg, hg]
  exact sub_upd h2
set_option maxHeartbeats 8000000 in
theorem spec291 (ok : OkLaw18 P F) (hc : CloneC P (F 256)) (st : St) {s : V} {ps : List Int} (hr : Rd 1 e1 s ps st) (hl : ps.length ≤ 1000) :
    ACalls P (F 291) [s] st fun v st' => ∃ cid s', v = .tup [.ptr (some (cid, 0)), s'] ∧ Sep [Slv 69 eBlk s' (w18M ps).2, ChA cid (w18C (w18M ps).1), Was st] st' := by
  have okc := ok.toOkWindow.toOkChain
  have okt := okc.toOkCoins.toOkCheck2.toOkCheck.toOkTx
  have oki := okc.toOkLocate.toOkIndexZ.toOkIndex
  have okh := oki.toOkHead
  refine shows_call ok.mixed ok.h291 (by simp [k291]) ?_
  simp only [k291]
  have f1 : fillV z68_39b1 [(66, 1, w32 545259519)] = some (eHdr { hdr0 with bits := easyB }) := rfl
  have f2 : ∀ m, fillV (repV [V.sl .nil [] 0, V.sl .nil [] 0] 1) [(0, 2, .agg (eTx (w18Tx m)))] = some (eTx (w18Tx m)) := fun m => rfl
  have f3 : fillV z69_adc1 [(0, 68, .agg (eHdr { hdr0 with bits := easyB })), (68, 1, .sl .full (eTx (w18Tx 0)) 1)] = some (eBlk ⟨{ hdr0 with bits := easyB }, .full, [w18Tx 0]⟩) := rfl
  have g1 : spliceV z68_39b1 66 [w32 545259519#32] = eHdr { hdr0 with bits := easyB } := rfl
  have g3 : spliceV (spliceV z69_adc1 0 (eHdr { hdr0 with bits := easyB })) 68 [.sl .full (eTx (w18Tx 0)) 1] = eBlk ⟨{ hdr0 with bits := easyB }, .full, [w18Tx 0]⟩ := rfl
  simp [f1, g1]
  refine (spec290 ok st 0).mono ?_
  rintro v st1 ⟨rfl, rfl⟩
  simp [f2, f3, g1, g3]
  intro i4 h4
  have S := (Sep.start st1).new h4 (.cells z69_adc1)
  have hst := store_pt (sz := 69) (o := 0) S.get (v := .agg (eBlk ⟨{ hdr0 with bits := easyB }, .full, [w18Tx 0]⟩)) (vs := eBlk ⟨{ hdr0 with bits := easyB }, .full, [w18Tx 0]⟩) rfl (eBlk_len _) (by simp)
  rw [show spliceV z69_adc1 0 (eBlk ⟨{ hdr0 with bits := easyB }, .full, [w18Tx 0]⟩) = eBlk ⟨{ hdr0 with bits := easyB }, .full, [w18Tx 0]⟩ from rfl] at hst
  have S := S.set (.cells (eBlk ⟨{ hdr0 with bits := easyB }, .full, [w18Tx 0]⟩))
  simp at S hst
  simp [hst]
  generalize st1.upd i4 _ = st2 at S ⊢
  have o4 := S.get
  have hsT := bsegT ⟨{ hdr0 with bits := easyB }, .full, [w18Tx 0]⟩
  simp [St.seg, o4, hsT]
  refine (spec192 okt st2 (rd_txs ⟨{ hdr0 with bits := easyB }, .full, [w18Tx 0]⟩ st2) (by simp) (fun t ht => by rw [List.mem_singleton.1 ht]; exact w18Tx_ok 0)).mono ?_
  rintro v st3 ⟨rfl, rfl⟩
  have hst := store_pt (sz := 32) (o := 33) o4 (v := .agg (eId (w18Root 0))) (vs := eId (w18Root 0)) rfl (eId_len _) (by rw [eBlk_len]; omega)
  have hsp : spliceV (eBlk ⟨{ hdr0 with bits := easyB }, .full, [w18Tx 0]⟩) 33 (eId (w18Root 0)) = eBlk w18G := bsplRoot _ _
  rw [hsp] at hst
  have hro : (rootM (rowsIds [w18Tx 0])).1 = w18Root 0 := rfl
  have S := S.set (.cells (eBlk w18G))
  simp [hro, hst]
  generalize st3.upd i4 _ = st4 at S ⊢
  have o4 := S.get
  have hsA := bsegAll w18G
  have f4 : fillV z74_2f53 [(0, 1, w32 545259519#32), (2, 1, .int .i64 10), (3, 1, .int .i64 50), (5, 69, .agg (eBlk w18G))] = some (eRl w18R) := w18Rl _ _
  simp [St.seg, o4, hsA, f4]
  refine (spec265a okc hc st4 w18R w18G (w18Tx 0) rfl rfl rfl (w18Tx_ok 0) w18Check (w18Blk _ 0 rfl) w18Conn).mono ?_
  rintro v st5 ⟨cid, rfl, W⟩
  have S := W.asn.ov S
  have o4 := S.drop.get
  have f5 : fillV (repV z69_adc1 1) [(0, 69, .agg (eBlk w18G))] = some (eBlk w18G) := by
    rw [show repV z69_adc1 1 = z69_adc1 from rfl]
    simp [fillV, V.cells?, eBlk_len, spliceV]
  have eqp : eqK .ptr (V.ptr (some (cid, 0))) (V.ptr none) = some false := rfl
  simp [eqp, St.seg, o4, hsA, f5]
  have hw0 : Wf (newM w18R) := newM_wf w18R
  have S : Sep [Slv 69 eBlk (.sl .full (eBlk w18G) 1) [w18G], ChA cid (w18C (newM w18R)), Was st1] st5 := by
    have h := Sep.slvPut (sz := 69) (f := eBlk) (S.tail fun r h => h.drop) [w18G]
    rw [show rowsOf eBlk [w18G] = eBlk w18G by simp [rowsOf]] at h
    exact h
  have hrl := hr.len
  simp [hrl]
  refine vc_joinB (M := fun env' st' => Sep [Slv 69 eBlk (env' 7) (w18M ps).2, ChA cid (w18C (w18M ps).1), Was st1] st') ?_ ?_
  · refine vc_loopJ (fun n env' st' => ∃ (i : Nat) (l : List Nd) (bl : List Blk1), i ≤ ps.length ∧ n = ps.length - i ∧ env' 41 = .int .i64 (i : Nat) ∧ w18Go i (ps.drop i) (l, bl) = w18M ps ∧ Wf l ∧ l.length ≤ 16384 ∧ bl.length ≤ i + 1 ∧ Sep [Slv 69 eBlk (env' 7) bl, ChA cid (w18C l), Was st1] st') ps.length
      ⟨0, newM w18R, [w18G], by omega, by omega, by simp, rfl, hw0, by simp [newM], by simp, by simpa using S⟩ ?_
    rintro J hJ n env' st6 hsame ⟨i, l, bl, hi, rfl, h41, hgo, w, hl', hbl, S⟩
    have g5 := (hsame.get 5 rfl).trans (by simp : _ = V.ptr (some (cid, 0)))
    have g39 := (hsame.get 39 rfl).trans (by simp : _ = s)
    have g40 := (hsame.get 40 rfl).trans (by simp : _ = V.int .i64 (ps.length : Int))
    clear hsame
    by_cases hlt : i < ps.length
    · obtain ⟨r1, r2, r3, r4⟩ := (hr.sub (S.was' (st0 := st1) (by simp))).row e1_len hlt
      rw [List.drop_eq_getElem_cons hlt, w18Go] at hgo
      obtain ⟨x, hx⟩ : ∃ x, x = ps[i] := ⟨_, rfl⟩
      rw [← hx] at r3 hgo
      have w1 : IntKind.i64.wrap ((i : Int) + 1) = (i : Int) + 1 := wrap64 (by omega) (by omega)
      have w2 : IntKind.i64.wrap ((l.length : Int) - 1) = (l.length : Int) - 1 := wrap64 (by omega) (by omega)
      obtain ⟨mo, tid, bid, uid, R, -⟩ := chGrow (P := P) (S.pull 1)
      have T := R.tree w.neNil
      have ot := R.top
      simp [g5, g39, g40, h41, hlt, r1, r3, e1, St.seg, ot, cseg0]
      refine (spec159 oki T).mono ?_
      rintro v st7 ⟨rfl, rfl⟩
      obtain ⟨p, hp⟩ : ∃ p, p = max 0 (min x ((l.length : Int) - 1)) := ⟨_, rfl⟩
      obtain ⟨m, hm⟩ : ∃ m, m = UInt8.ofBitVec (BitVec.ofInt 8 ((i : Int) + 1)) := ⟨_, rfl⟩
      have hmn : foldV min2V (V.int .i64 x) [V.int .i64 ((l.length : Int) - 1)] = some (.int .i64 (min x ((l.length : Int) - 1))) := by
        simp only [foldV, min2V, if_true, Option.bind_some]
        congr 2
        omega
      have hmx : foldV max2V (V.int .i64 0) [V.int .i64 (min x ((l.length : Int) - 1))] = some (.int .i64 p) := by
        simp only [foldV, max2V, if_true, Option.bind_some]
        congr 2
        omega
      simp [w2, w1, w18C, hmn, hmx, ← hm]
      refine (spec290 ok st7 m).mono ?_
      rintro v st8 ⟨rfl, rfl⟩
      have f6 : fillV z69_adc1 [(68, 1, .sl .full (eTx (w18Tx m)) 1)] = some (eBlk ⟨hdr0, .full, [w18Tx m]⟩) := rfl
      have g6 : spliceV z69_adc1 68 [.sl .full (eTx (w18Tx m)) 1] = eBlk ⟨hdr0, .full, [w18Tx m]⟩ := rfl
      simp [f2, f6, g6]
      intro i10 h10
      have S := S.new h10 (.cells z69_adc1)
      have hst := store_pt (sz := 69) (o := 0) S.get (v := .agg (eBlk ⟨hdr0, .full, [w18Tx m]⟩)) (vs := eBlk ⟨hdr0, .full, [w18Tx m]⟩) rfl (eBlk_len _) (by simp)
      rw [show spliceV z69_adc1 0 (eBlk ⟨hdr0, .full, [w18Tx m]⟩) = eBlk ⟨hdr0, .full, [w18Tx m]⟩ from rfl] at hst
      have S := S.set (.cells (eBlk ⟨hdr0, .full, [w18Tx m]⟩))
      simp at S hst
      simp [hst]
      clear R T ot
      generalize st8.upd i10 _ = st9 at S ⊢
      obtain ⟨mo, tid, bid, uid, R, -⟩ := chGrow (P := P) (S.pull 2)
      have T : TreeR tid w18R l st9 := R.tree w.neNil
      have ot := R.top
      obtain ⟨y, hy⟩ : ∃ y, y = nd l (inI l p) := ⟨_, rfl⟩
      have q1 : fldV true 68 32 (V.agg (eNd y)) = some (.agg (eId y.id)) := by
        show (segOf _ 68 32).bind (packV true) = _
        rw [osegId]; rfl
      have q2 : fldV true 0 68 (V.agg (eNd y)) = some (.agg (eHdr y.hdr)) := by
        show (segOf _ 0 68).bind (packV true) = _
        rw [osegHdr]; rfl
      have q3 : fldV false 65 1 (V.agg (eHdr y.hdr)) = some (w32 y.hdr.time) := by
        show (segOf _ 65 1).bind (packV false) = _
        rw [hsegTime]; rfl
      simp [g5, St.seg, ot, cseg0, w18C]
      refine still_call _ _ _ _ (by simpa using spec161 oki T w p) ?_
      rw [← hy]
      simp [q1, St.seg, ot, cseg0, w18C]
      refine still_call _ _ _ _ (by simpa using spec161 oki T w p) ?_
      rw [← hy]
      have b3 : fillV z68_39b1 [(1, 32, .agg (eId y.id)), (65, 1, w32 (y.hdr.time + 1#32)), (66, 1, w32 545259519#32)] = some (eHdr { hdr0 with prev := y.id, time := y.hdr.time + 1, bits := easyB }) := build_h3 _ _ _
      obtain ⟨h1, hh1⟩ : ∃ h1 : Hdr, h1 = { hdr0 with prev := y.id, time := y.hdr.time + 1, bits := easyB } := ⟨_, rfl⟩
      rw [← hh1] at b3
      have o10 := S.get
      have hst := store_pt (sz := 68) (o := 0) o10 (v := .agg (eHdr h1)) (vs := eHdr h1) rfl (eHdr_len _) (by rw [eBlk_len]; omega)
      rw [bsplH] at hst
      have S := S.set (.cells (eBlk ⟨h1, .full, [w18Tx m]⟩))
      simp [q2, q3, b3, hst]
      generalize st9.upd i10 _ = st11 at S ⊢
      have o10 := S.get
      have hsT := bsegT ⟨h1, .full, [w18Tx m]⟩
      simp [St.seg, o10, hsT]
      refine (spec192 okt st11 (rd_txs ⟨h1, .full, [w18Tx m]⟩ st11) (by simp) (fun t ht => by rw [List.mem_singleton.1 ht]; exact w18Tx_ok m)).mono ?_
      rintro v st12 ⟨rfl, rfl⟩
      have hro : (rootM (rowsIds [w18Tx m])).1 = w18Root m := rfl
      have hst := store_pt (sz := 32) (o := 33) o10 (v := .agg (eId (w18Root m))) (vs := eId (w18Root m)) rfl (eId_len _) (by rw [eBlk_len]; omega)
      rw [bsplRoot] at hst
      obtain ⟨h2, hh2⟩ : ∃ h2 : Hdr, h2 = { h1 with root := w18Root m } := ⟨_, rfl⟩
      have hst : storeS st12 32 (.ptr (some (i10, 33))) (.agg (eId (w18Root m))) = some (st12.upd i10 (.cells (eBlk ⟨h2, .full, [w18Tx m]⟩))) := by rw [hst, hh2]
      have S := S.set (.cells (eBlk ⟨h2, .full, [w18Tx m]⟩))
      simp [hro, hst]
      generalize st12.upd i10 _ = st13 at S ⊢
      have o10 := S.get
      have hsH := bsegH ⟨h2, .full, [w18Tx m]⟩
      simp [St.seg, o10, hsH]
      refine (spec143 okh st13 h2 545259519#32 1000).mono ?_
      rintro v st14 ⟨rfl, rfl⟩
      have hb : w18B y m = ⟨(mineN h2 easyB 1000).getD hdr0, .full, [w18Tx m]⟩ := by rw [w18B, hh2, hh1]
      have hmr : mineR h2 545259519#32 (max 0 (min (1000 : Int) 65536)).toNat = .tup [.agg (eHdr (w18B y m).hdr), .bool (mineN h2 easyB 1000).isSome] := by
        rw [mineR_get, hb]; rfl
      rw [hmr]
      have hst := store_pt (sz := 68) (o := 0) o10 (v := .agg (eHdr (w18B y m).hdr)) (vs := eHdr (w18B y m).hdr) rfl (eHdr_len _) (by rw [eBlk_len]; omega)
      rw [bsplH] at hst
      have hst : storeS st14 68 (.ptr (some (i10, 0))) (.agg (eHdr (w18B y m).hdr)) = some (st14.upd i10 (.cells (eBlk (w18B y m)))) := by rw [hst, hb]
      have S := S.set (.cells (eBlk (w18B y m)))
      simp [hst]
      generalize st14.upd i10 _ = st15 at S ⊢
      clear R T ot
      obtain ⟨mo, tid, bid, uid, R, hgrow⟩ := chGrow (P := P) (S.pull 2)
      have ot := R.top
      have o10 := S.get
      have hsH := bsegH (w18B y m)
      have hsA2 := bsegAll (w18B y m)
      obtain ⟨a, ha⟩ : ∃ a, a = addM w18R l (w18B y m).hdr 1099511627776 := ⟨_, rfl⟩
      have hstep : w18Step (l, bl) i x = (a.1, if a.2.2 = 0 then bl ++ [w18B y m] else bl) := by
        simp only [w18Step]
        rw [← hp, ← hy, ← hm, ← ha]
      rw [hstep] at hgo
      have hwf := addM_wf (r := w18R) w hl' (w18B y m).hdr 1099511627776
      rw [← ha] at hwf
      simp [g5, St.seg, ot, cseg0, o10, hsH]
      refine (hgrow (F 169) _ (fun v => v = .tup [.int .i64 a.2.1, .int .i64 a.2.2]) a.1 (fun h hT => by
        rw [ha]
        exact spec169 oki hT w hl' w18Check (w18B y m).hdr 1099511627776)).mono ?_
      rintro v st16 ⟨rfl, S⟩
      have S : Sep [ChA cid (w18C a.1), pt i10 (.cells (eBlk (w18B y m))), Slv 69 eBlk (env' 7) bl, Was st1] st16 := S
      have o10 := S.drop.get
      by_cases he : a.2.2 = 0
      · rw [if_pos he] at hgo
        have f7 : fillV (repV z69_adc1 1) [(0, 69, .agg (eBlk (w18B y m)))] = some (eBlk (w18B y m)) := by
          rw [show repV z69_adc1 1 = z69_adc1 from rfl]
          simp [fillV, V.cells?, eBlk_len, spliceV]
        have hel : elems st16 69 (.sl .full (eBlk (w18B y m)) 1) = some (rowsOf eBlk [w18B y m], 1) := by simp [elems, eBlk_len, rowsOf]
        simp [he, St.seg, o10, hsA2, f7, hel]
        refine Sep.appv (b := 104) eBlk_len (by omega) (S.pull 2) [w18B y m] (by simp [rowsOf]) rfl (by simp only [List.length_singleton]; omega) ?_
        intro s' st17 S
        have S : Sep [Slv 69 eBlk s' (bl ++ [w18B y m]), ChA cid (w18C a.1), Was st1] st17 := S.tail fun r h => h.tail fun r h => h.drop
        simp [h41, w1]
        exact Round.mk (ps.length - (i + 1)) _ (by omega) (sub_self _) (hJ _ _ _ ⟨i + 1, a.1, bl ++ [w18B y m], by omega, rfl, by simp, hgo, hwf.1, hwf.2, by simp; omega, by simpa using S⟩)
      · rw [if_neg he] at hgo
        have S : Sep [Slv 69 eBlk (env' 7) bl, ChA cid (w18C a.1), Was st1] st16 := (S.tail fun r h => h.drop).swap
        have hbf : (a.2.2 == 0) = false := beq_eq_false_iff_ne.2 he
        simp [hbf, h41, w1]
        exact Round.mk (ps.length - (i + 1)) _ (by omega) (sub_self _) (hJ _ _ _ ⟨i + 1, a.1, bl, by omega, rfl, by simp, hgo, hwf.1, hwf.2, by omega, by simpa using S⟩)
    · have : i = ps.length := by omega
      subst this
      rw [List.drop_length, w18Go] at hgo
      rw [← hgo]
      simp [g40, h41]
      exact S
  · rintro env' st6 hsame S
    have g5 := (hsame.get 5 rfl).trans (by simp : _ = V.ptr (some (cid, 0)))
    clear hsame
    simp [g5]
    exact ⟨st6, sub_self _, cid, _, ⟨rfl, rfl⟩, S⟩
end
end Go.Ab
set_option linter.unusedSimpArgs false
set_option linter.unusedVariables false
namespace Go.Ab
open Go Go.RowKit
def w18h1 : Hdr := (w18B (nd (newM w18R) 0) 1).hdr
def w18n1 : Nd := ndOf (newM w18R) w18h1 0
def w18h2 : Hdr := (w18B w18n1 2).hdr
def w18n2 : Nd := ndOf [nd (newM w18R) 0, w18n1] w18h2 1
theorem w18_facts : (decide (provedN w18h1 easyB = 0) && decide (w18h1.prev = hId w18G.hdr) && decide (w18h1.bits = easyB) && decide (w18h1.time = 1) && decide (hId w18h1 ≠ hId w18G.hdr) &&
    (decide (provedN w18h2 easyB = 0) && decide (w18h2.prev = hId w18h1) && decide (w18h2.bits = easyB) && decide (w18h2.time = 2) && decide (hId w18h2 ≠ hId w18G.hdr) && decide (hId w18h2 ≠ hId w18h1))) = true := by decide +kernel
end Go.Ab
set_option linter.unusedVariables false
namespace Go.Ab
open Go
end Go.Ab
set_option linter.unusedSimpArgs false
set_option linter.unusedVariables false
set_option maxRecDepth 10000
namespace Go.Ab
open Go Go.RowKit
theorem middle_mem {l : List W32} (h : l ≠ []) : middle32 l ∈ l := by
  unfold middle32
  have hpos := List.length_pos_iff.2 h
  have hl : l.length / 2 < (sorted32 l).length := by rw [sorted32_length]; omega
  have : (sorted32 l).getD (l.length / 2) 0 = (sorted32 l)[l.length / 2] := by simp [hl]
  rw [this]
  exact (List.mergeSort_perm l _).mem_iff.1 (List.getElem_mem hl)
theorem fits_ok {r : Rl} {l : List Nd} {h : Hdr} {p : Nat} {now : Int} (hp : p < l.length) (h1 : provedN h r.limit = 0) (h2 : (nd l p).failed = false) (h3 : h.bits = nextM r l p) (h4 : medianM l p < h.time) (h5 : (h.time.toNat : Int) - 7200 ≤ now) : fitsM r l h p now = 0 := by
  have e1 : ¬ ((p : Int) < 0 ∨ (l.length : Int) ≤ p) := by omega
  have e2 : ¬ h.time ≤ medianM l p := BitVec.not_le.2 h4
  have e3 : ¬ now < (h.time.toNat : Int) - 7200 := by omega
  simp only [fitsM, e1, if_false, h1, ne_eq, not_true_eq_false, Int.toNat_natCast, h2, h3, e2, e3, Bool.false_eq_true]
section
variable {P : Program} {F : Fn}
end
end Go.Ab
set_option linter.unusedSimpArgs false
set_option linter.unusedVariables false
set_option maxRecDepth 10000
namespace Go.Ab
open Go Go.RowKit
theorem w18_next (l : List Nd) (i : Nat) : nextM w18R l i = (nd l i).hdr.bits := by simp [nextM, w18R]
def w18g : Nd := nd (newM w18R) 0
theorem w18_new : newM w18R = [w18g] := rfl
theorem w18_step1 : w18Step ([w18g], [w18G]) 0 0 = ([w18g, w18n1], [w18G, w18B w18g 1]) := by
  have f := w18_facts
  simp only [Bool.and_eq_true, decide_eq_true_eq] at f
  obtain ⟨⟨⟨⟨⟨f1, f2⟩, f3⟩, f4⟩, f5⟩, -⟩ := f
  have e0 : inI [w18g] (max 0 (min 0 (((([w18g] : List Nd).length : Nat) : Int) - 1))) = 0 := by simp [inI]
  have e1 : nd [w18g] 0 = w18g := nd_at (by simp)
  have em : UInt8.ofBitVec (BitVec.ofInt 8 (((0 : Nat) : Int) + 1)) = 1 := by decide
  have hh : (w18B w18g 1).hdr = w18h1 := rfl
  have gp : w18g.parent = -1 := rfl
  have gt : w18g.hdr.time = 0#32 := rfl
  have ht : timesM [w18g] 11 0 = [0#32] := by simp [timesM, gp, gt]
  have hmd : medianM [w18g] 0 = 0 := by
    unfold medianM
    rw [ht]
    simp [middle32, sorted32]
  have hfit : fitsM w18R [w18g] w18h1 ((0 : Nat) : Int) 1099511627776 = 0 := fits_ok (by simp) f1 rfl (by rw [w18_next, f3, e1]; rfl) (by rw [hmd, f4]; decide) (by rw [f4]; decide)
  have hadd : addM w18R [w18g] w18h1 1099511627776 = ([w18g] ++ [ndOf [w18g] w18h1 0], ((([w18g] : List Nd).length : Nat) : Int), 0) := by
    refine addM_ok ?_ ?_ hfit (by simp)
    · have : w18g.id ≠ hId w18h1 := fun e => f5 e.symm
      simp [findM, this]
    · have : w18g.id = w18h1.prev := f2.symm
      simp [findM, this]
  simp only [w18Step]
  rw [e0, e1, em, hh, hadd]
  rfl
theorem middle_10 : middle32 [1#32, 0#32] = 1#32 := by
  have h : [0#32, 1#32] = sorted32 [1#32, 0#32] := sorted_of (by
    intro a b h1 h2
    have : a = 0 ∧ b = 1 := by simp at h2; omega
    obtain ⟨rfl, rfl⟩ := this
    decide) (by decide)
  unfold middle32
  rw [← h]
  rfl
theorem w18_wf1 : Wf [w18g, w18n1] := ndOf_wf (newM_wf w18R) (by simp [newM])
theorem w18_step2 : w18Step ([w18g, w18n1], [w18G, w18B w18g 1]) 1 1 = ([w18g, w18n1, w18n2], [w18G, w18B w18g 1, w18B w18n1 2]) := by
  have f := w18_facts
  simp only [Bool.and_eq_true, decide_eq_true_eq] at f
  obtain ⟨⟨⟨⟨⟨-, -⟩, -⟩, k4⟩, k5⟩, ⟨⟨⟨⟨f1, f2⟩, f3⟩, f4⟩, f5⟩, f6⟩ := f
  have e0 : inI [w18g, w18n1] (max 0 (min 1 (((([w18g, w18n1] : List Nd).length : Nat) : Int) - 1))) = 1 := by
    have h : ((([w18g, w18n1] : List Nd).length : Nat) : Int) = 2 := rfl
    rw [inI, h]
    decide
  have e1 : nd [w18g, w18n1] 1 = w18n1 := nd_at (by simp)
  have em : UInt8.ofBitVec (BitVec.ofInt 8 (((1 : Nat) : Int) + 1)) = 2 := by decide
  have hh : (w18B w18n1 2).hdr = w18h2 := rfl
  have gp : w18g.parent = -1 := rfl
  have gt : w18g.hdr.time = 0#32 := rfl
  have np : w18n1.parent = 0 := rfl
  have nt : w18n1.hdr.time = 1#32 := k4
  have nb : w18n1.hdr.bits = w18h1.bits := rfl
  have ht : timesM [w18g, w18n1] 11 1 = [1#32, 0#32] := by simp [timesM, gp, gt, np, nt]
  have hmd : medianM [w18g, w18n1] 1 = 1 := by
    unfold medianM
    rw [ht, middle_10]; rfl
  have k3 : w18h1.bits = easyB := by
    have f := w18_facts
    simp only [Bool.and_eq_true, decide_eq_true_eq] at f
    exact f.1.1.1.2
  have hfit : fitsM w18R [w18g, w18n1] w18h2 ((1 : Nat) : Int) 1099511627776 = 0 := fits_ok (by simp) f1 (by rw [e1]; rfl) (by rw [w18_next, f3, e1, nb, k3]) (by rw [hmd, f4]; decide) (by rw [f4]; decide)
  have hadd : addM w18R [w18g, w18n1] w18h2 1099511627776 = ([w18g, w18n1] ++ [ndOf [w18g, w18n1] w18h2 1], ((([w18g, w18n1] : List Nd).length : Nat) : Int), 0) := by
    have i1 : w18n1.id = hId w18h1 := rfl
    refine addM_ok ?_ ?_ hfit (by simp)
    · have h1 : w18g.id ≠ hId w18h2 := fun e => f5 e.symm
      have h2 : w18n1.id ≠ hId w18h2 := fun e => f6 e.symm
      simp [findM, h1, h2]
    · have : w18n1.id = w18h2.prev := f2.symm
      simp [findM, this]
  simp only [w18Step]
  rw [e0, e1, em, hh, hadd]
  rfl
theorem w18_all : (w18M [0, 1]).1 = [w18g, w18n1, w18n2] := by
  unfold w18M
  rw [w18Go, w18_new, w18_step1, w18Go, w18_step2, w18Go]
theorem w18_wf2 : Wf [w18g, w18n1, w18n2] := ndOf_wf w18_wf1 (by simp)
end Go.Ab
set_option linter.unusedSimpArgs false
set_option linter.unusedVariables false
namespace Go.Ab
open Go Go.RowKit Go.Sort
end Go.Ab
set_option linter.unusedSimpArgs false
set_option linter.unusedVariables false
set_option maxRecDepth 10000
namespace Go.Ab
open Go Go.RowKit
def lateB (sl now : Int) (x : Fl) : Bool := decide (limM sl ≤ IntKind.i64.wrap (now - x.2))
structure LateIs (es : List (Int × Fl)) (sl now p : Int) (b : Bool) : Prop where
  no : b = false → p = 0 ∧ ∀ e ∈ es, lateB sl now e.2 = false
  yes : b = true → (∃ e ∈ es, lateB sl now e.2 = true ∧ e.2.1 = p) ∧ ∀ e ∈ es, lateB sl now e.2 = true → p ≤ e.2.1
theorem LateIs.perm {es es' : List (Int × Fl)} {sl now p : Int} {b : Bool} (h : LateIs es sl now p b) (hp : es.Perm es') : LateIs es' sl now p b :=
  ⟨fun hb => ⟨(h.no hb).1, fun e he => (h.no hb).2 e (hp.mem_iff.2 he)⟩, fun hb => by
    obtain ⟨⟨e, he, h1⟩, h2⟩ := h.yes hb
    exact ⟨⟨e, hp.mem_iff.1 he, h1⟩, fun e he => h2 e (hp.mem_iff.2 he)⟩⟩
theorem LateIs.nil (sl now : Int) : LateIs [] sl now 0 false := ⟨fun _ => ⟨rfl, fun e he => by cases he⟩, fun h => by cases h⟩
theorem LateIs.more {es : List (Int × Fl)} {sl now p : Int} {b : Bool} (h : LateIs es sl now p b) (x : Int × Fl) :
    LateIs (es ++ [x]) sl now (if (lateB sl now x.2 && (!b || decide (x.2.1 < p))) = true then x.2.1 else p) (b || lateB sl now x.2) := by
  cases hl : lateB sl now x.2 with
  | false =>
    simp only [Bool.false_and, Bool.false_eq_true, if_false, Bool.or_false]
    refine ⟨fun hb => ⟨(h.no hb).1, fun e he => ?_⟩, fun hb => ?_⟩
    · rcases List.mem_append.1 he with he | he
      · exact (h.no hb).2 e he
      · rw [List.mem_singleton.1 he]; exact hl
    · obtain ⟨⟨e, he, h1⟩, h2⟩ := h.yes hb
      refine ⟨⟨e, List.mem_append_left _ he, h1⟩, fun e he hle => ?_⟩
      rcases List.mem_append.1 he with he | he
      · exact h2 e he hle
      · rw [List.mem_singleton.1 he, hl] at hle; cases hle
  | true =>
    simp only [Bool.true_and, Bool.or_true]
    refine ⟨fun hb => (by cases hb), fun _ => ?_⟩
    cases hb : b with
    | false =>
      simp only [Bool.not_false, Bool.true_or, if_true]
      refine ⟨⟨x, by simp, hl, rfl⟩, fun e he hle => ?_⟩
      rcases List.mem_append.1 he with he | he
      · have := (h.no hb).2 e he
        rw [this] at hle; cases hle
      · rw [List.mem_singleton.1 he]; exact Int.le_refl _
    | true =>
      simp only [Bool.not_true, Bool.false_or, decide_eq_true_eq]
      obtain ⟨⟨e0, he0, h1, h1'⟩, h2⟩ := h.yes hb
      by_cases hlt : x.2.1 < p
      · rw [if_pos hlt]
        refine ⟨⟨x, by simp, hl, rfl⟩, fun e he hle => ?_⟩
        rcases List.mem_append.1 he with he | he
        · have := h2 e he hle
          omega
        · rw [List.mem_singleton.1 he]; exact Int.le_refl _
      · rw [if_neg hlt]
        refine ⟨⟨e0, List.mem_append_left _ he0, h1, h1'⟩, fun e he hle => ?_⟩
        rcases List.mem_append.1 he with he | he
        · exact h2 e he hle
        · rw [List.mem_singleton.1 he]; omega
def LateOut (v6 v7 : V) (es : List (Int × Fl)) (sl now : Int) (R : Prop) : Prop := ∃ p b, v6 = .int .i64 p ∧ v7 = .bool b ∧ LateIs es sl now p b ∧ R
section
variable {P : Program} {F : Fn}
set_option maxHeartbeats 4000000 in
theorem spec288 (ok : OkWindow P F) {st : St} {t : Nat} {es : Fls} {sl : Int} {L : List Asn} (h : WinS t es sl L st) (now : Int) (hs : 0 ≤ sl ∧ sl ≤ 3) :
    ACalls P (F 288) [.ptr (some (t, 0)), .int .i64 now] st fun v st' => ∃ p b, v = .tup [.int .i64 p, .bool b] ∧ LateIs es sl now p b ∧ WinS t es (if b = true then min (sl + 1) 3 else sl) L st' := by
  refine shows_call ok.mixed ok.h288 (by simp [k288]) ?_
  simp only [k288]
  obtain ⟨mo, h0, S⟩ := h
  have hseg : ∀ mv : V, segOf [mv, V.int .i64 sl] 0 1 = some [mv] := fun _ => rfl
  have hseg1 : ∀ mv : V, segOf [mv, V.int .i64 sl] 1 1 = some [.int .i64 sl] := fun _ => rfl
  have w1 : IntKind.i64.wrap (sl + 1) = sl + 1 := wrap64 (by omega) (by omega)
  have hmin : foldV min2V (V.int .i64 (sl + 1)) [V.int .i64 3] = some (.int .i64 (min (sl + 1) 3)) := by
    simp only [foldV, min2V, if_true, Option.bind_some]
    congr 2
    split <;> omega
  cases mo with
  | none =>
    have o := S.get
    have he : es = [] := h0 rfl
    subst he
    simp [St.seg, o, hseg, rngMapS]
    intro it hit
    have S := S.new hit (.mit none 0 [] 0)
    generalize st.upd it _ = st2 at S ⊢
    refine vc_joinB (M := fun env' st' => env' 6 = .int .i64 0 ∧ env' 7 = .bool false ∧ Sep (pt t (.cells [.map none, .int .i64 sl]) :: L) st') ?_ ?_
    · refine vc_loopJ (fun c env' st' => c = 0 ∧ env' 6 = .int .i64 0 ∧ env' 7 = .bool false ∧ Sep (pt it (.mit none 0 [] 0) :: pt t (.cells [.map none, .int .i64 sl]) :: L) st') 0 ⟨rfl, by simp, by simp, S⟩ ?_
      rintro J hJ c env' st3 hsame ⟨rfl, h6, h7, S⟩
      have g14 := (hsame.get 14 rfl).trans (by simp : _ = V.ptr (some (it, 0)))
      clear hsame
      have oi := S.get
      simp [g14, nextMapS, oi, h6, h7]
      exact S.drop
    · rintro env' st3 hsame ⟨h6, h7, S⟩
      have g13 := (hsame.get 13 rfl).trans (by simp : _ = V.map none)
      clear hsame
      refine frzP_one (v := .map none) (st' := st3) (by rw [g13]; rfl) ?_
      simp [h6, h7]
      exact ⟨st3, sub_self _, LateIs.nil sl now, none, fun _ => rfl, S⟩
  | some m =>
    have o := S.get
    simp [St.seg, o, hseg]
    refine Sep.rng S.swap ?_
    intro it st2 S
    rw [encG_start] at S
    simp
    refine vc_joinB (M := fun env' st' => LateOut (env' 6) (env' 7) es sl now (∃ fl last, fl.map (·.1) = es ∧ Sep (Going m it (encG kInt vFl fl) last :: pt t (.cells [.map (some m), .int .i64 sl]) :: L) st')) ?_ ?_
    · refine vc_loopJ (fun c env' st' => ∃ fl last p b, c = unseen (encG kInt vFl fl) ∧ fl.map (·.1) = es ∧ env' 6 = .int .i64 p ∧ env' 7 = .bool b ∧ LateIs (flg fl) sl now p b ∧ Sep (Going m it (encG kInt vFl fl) last :: pt t (.cells [.map (some m), .int .i64 sl]) :: L) st') (unseen (encG kInt vFl (es.map fun x => (x, false))))
        ⟨_, none, 0, false, rfl, by simp [Function.comp_def], by simp, by simp, by rw [flg_none]; exact LateIs.nil sl now, S⟩ ?_
      rintro J hJ c env' st3 hsame ⟨fl, last, p, b, rfl, hfl, h6, h7, hla, S⟩
      have g0 := (hsame.get 0 rfl).trans (by simp : _ = V.ptr (some (t, 0)))
      have g1 := (hsame.get 1 rfl).trans (by simp : _ = V.int .i64 now)
      have g14 := (hsame.get 14 rfl).trans (by simp : _ = V.ptr (some (it, 0)))
      clear hsame
      simp [g14]
      refine Sep.next S ?_ ?_
      · intro hall
        have := flg_all (encG_all kInt vFl hall)
        rw [this, hfl] at hla
        simp
        exact ⟨p, b, h6, h7, hla, fl, hfl, last, S⟩
      · intro i hi hf st4 S
        have hi' : i < fl.length := by rw [← encG_len kInt vFl]; exact hi
        rw [encG_set kInt vFl fl hi' hi] at S
        obtain ⟨hi2, hent⟩ := S.ent
        have hfi : fl[i].2 = false := by simpa [encG] using hf
        obtain ⟨x, hx⟩ : ∃ x, x = fl[i].1 := ⟨_, rfl⟩
        simp [encG, ← hx] at hent
        simp [g14, hent]
        intro i9 h9
        have key : storeS (st4.upd i9 (.cells [.int .i64 0, .int .i64 0])) 2 (.ptr (some (i9, 0))) (vFl x.2) = some (st4.upd i9 (.cells (eFl x.2))) := by
          rw [store_pt (sz := 2) (o := 0) (vs := eFl x.2) (St.upd_same _ _ _) rfl rfl (by simp)]
          simp [spliceV, eFl]
        have hf0 : segOf (eFl x.2) 0 1 = some [.int .i64 x.2.1] := rfl
        have hf1 : segOf (eFl x.2) 1 1 = some [.int .i64 x.2.2] := rfl
        have S := S.new h9 (.cells (eFl x.2))
        have hun := unseen_set hi hf ((encG kInt vFl fl)[i].1)
        rw [encG_set kInt vFl fl hi' hi] at hun
        have hpm := flg_set hi' hfi
        have hmore : LateIs (flg (fl.set i (fl[i].1, true))) sl now _ _ := (hla.more x).perm (by rw [hx]; exact hpm.symm)
        simp [key]
        generalize st4.upd i9 _ = st5 at S ⊢
        have o9 := S.get
        have ot := S.drop.drop.get
        have hlim := spec279 ok ot hs
        have next : ∀ (p' : Int) (b' : Bool), LateIs (flg (fl.set i (fl[i].1, true))) sl now p' b' → ∀ env2 : Env, env2 6 = .int .i64 p' → env2 7 = .bool b' → J (unseen (encG kInt vFl (fl.set i (fl[i].1, true)))) env2 st5 := fun p' b' hl env2 e6 e7 =>
          hJ _ _ _ ⟨_, some i, p', b', rfl, by rw [fst_set hi', hfl], e6, e7, hl, S.drop⟩
        simp [g0, g1, St.seg, o9, hf1]
        refine ⟨_, hlim, ?_⟩
        cases hlb : lateB sl now x.2 with
        | false =>
          rw [hlb] at hmore
          simp at hmore
          have hge : decide (IntKind.i64.wrap (now - x.2.2) ≥ limM sl) = false := hlb
          simp [hge]
          exact Round.mk _ _ hun (sub_self _) (next p b hmore _ (by simp [h6]) (by simp [h7]))
        | true =>
          rw [hlb] at hmore
          simp at hmore
          have hge : decide (IntKind.i64.wrap (now - x.2.2) ≥ limM sl) = true := hlb
          cases hb : b with
          | false =>
            subst hb
            simp at hmore
            simp [hge, h7, St.seg, o9, hf0]
            exact Round.mk _ _ hun (sub_self _) (next _ true hmore _ (by simp) (by simp))
          | true =>
            subst hb
            simp at hmore
            by_cases hlt : x.2.1 < p
            · rw [if_pos hlt] at hmore
              simp [hge, h6, h7, St.seg, o9, hf0, hlt]
              exact Round.mk _ _ hun (sub_self _) (next _ true hmore _ (by simp) (by simp))
            · rw [if_neg hlt] at hmore
              simp [hge, h6, h7, St.seg, o9, hf0, hlt]
              exact Round.mk _ _ hun (sub_self _) (next _ true hmore _ (by simp [h6]) (by simp [h7]))
    · rintro env' st3 hsame ⟨p, b, h6, h7, hla, fl, last, hfl, S⟩
      have g13 := (hsame.get 13 rfl).trans (by simp : _ = V.map (some m))
      have g0 := (hsame.get 0 rfl).trans (by simp : _ = V.ptr (some (t, 0)))
      clear hsame
      obtain ⟨hfz, S⟩ := S.gone
      refine frzP_one (by rw [g13]; exact hfz) ?_
      rw [encG_map, hfl] at S ⊢
      generalize st3.upd m _ = st4 at S ⊢
      have ot := S.drop.get
      cases b with
      | false =>
        simp [h6, h7]
        exact ⟨st4, sub_self _, hla, some m, (fun e => by cases e), S.swap⟩
      | true =>
        have hst := store_pt (sz := 1) (o := 1) ot (v := .int .i64 (min (sl + 1) 3)) (vs := [.int .i64 (min (sl + 1) 3)]) rfl rfl (by simp)
        rw [show spliceV [V.map (some m), V.int .i64 sl] 1 [V.int .i64 (min (sl + 1) 3)] = [.map (some m), .int .i64 (min (sl + 1) 3)] from rfl] at hst
        simp [h6, h7, g0, St.seg, ot, hseg1, w1, hmin, hst]
        exact ⟨_, sub_self _, hla, some m, fun e => (by cases e), S.swap.set _⟩
end
structure Dropped (es : Fls) (p : Int) (fl : List ((Int × Fl) × Bool)) (R : List (Int × Fl)) : Prop where
  left : fl.map (·.1) = es.filter fun e => decide (e ∉ R)
  out : ∀ e ∈ R, e ∈ es ∧ e.2.1 = p
  nd : R.Nodup
  seen : ∀ x ∈ fl, x.2 = true → x.1.2.1 ≠ p
theorem nodup_unmap {α β : Type} (f : α → β) : ∀ {l : List α}, (l.map f).Nodup → l.Nodup
  | [], _ => .nil
  | x :: l, h => by
    rw [List.map_cons, List.nodup_cons] at h
    exact List.nodup_cons.2 ⟨fun hm => h.1 (List.mem_map.2 ⟨x, hm, rfl⟩), nodup_unmap f h.2⟩
theorem nodup_of_keys {es : Fls} (h : (es.map (·.1)).Nodup) : es.Nodup := nodup_unmap _ h
theorem Dropped.fin {es : Fls} {p : Int} {fl : List ((Int × Fl) × Bool)} {R : List (Int × Fl)} (h : Dropped es p fl R) (hn : (es.map (·.1)).Nodup) (hall : ∀ x ∈ fl, x.2 = true) :
    fl.map (·.1) = es.filter (fun e => e.2.1 != p) ∧ (R.map (·.1)).Perm ((es.filter fun e => e.2.1 == p).map (·.1)) := by
  have key : ∀ e ∈ es, (e ∈ R ↔ e.2.1 = p) := fun e he => by
    refine ⟨fun hr => (h.out e hr).2, fun hp => ?_⟩
    apply Classical.byContradiction
    intro hr
    have : e ∈ fl.map (·.1) := by
      rw [h.left, List.mem_filter]
      exact ⟨he, by simpa using hr⟩
    obtain ⟨x, hx, rfl⟩ := List.mem_map.1 this
    exact h.seen x hx (hall x hx) hp
  refine ⟨?_, List.Perm.map _ ((List.perm_ext_iff_of_nodup h.nd ((nodup_of_keys hn).filter _)).2 fun e => ?_)⟩
  · rw [h.left]
    refine List.filter_congr fun e he => ?_
    rw [Bool.eq_iff_iff]
    simp [key e he]
  · rw [List.mem_filter]
    refine ⟨fun hr => ⟨(h.out e hr).1, by simpa using (h.out e hr).2⟩, fun ⟨he, hp⟩ => (key e he).2 (by simpa using hp)⟩
section
variable {P : Program} {F : Fn}
end
end Go.Ab
set_option linter.unusedSimpArgs false
set_option linter.unusedVariables false
set_option maxRecDepth 10000
namespace Go.Ab
open Go Go.RowKit
section
variable {P : Program} {F : Fn}
set_option maxHeartbeats 8000000 in
theorem spec292 (ok : OkLaw18 P F) (hc : CloneC P (F 256)) (st : St) (w : Wf (w18M [0, 1]).1) (h3 : (w18M [0, 1]).1.length = 3) (hw : wantM (w18C (w18M [0, 1]).1) [] 1 2 = [1, 2]) :
    ACalls P (F 292) [] st fun v st' => v = .bool true ∧ st' = st := by
  have okw := ok.toOkWindow
  have okc := okw.toOkChain
  have oki := okc.toOkLocate.toOkIndexZ.toOkIndex
  refine shows_call ok.mixed ok.h292 (by simp [k292]) ?_
  simp only [k292]
  have f1 : fillV (repV [V.int .i64 0] 2) [(0, 1, .int .i64 0), (1, 1, .int .i64 1)] = some [.int .i64 0, .int .i64 1] := rfl
  have eqp : ∀ c, eqK .ptr (V.ptr (some (c, 0))) (V.ptr none) = some false := fun _ => rfl
  simp [f1]
  refine (spec291 ok hc st (s := .sl .full [.int .i64 0, .int .i64 1] 2) (ps := [0, 1]) (.inl ⟨.full, rfl⟩) (by simp)).mono ?_
  rintro v st1 ⟨cid, s', rfl, S⟩
  obtain ⟨mo, tid, bid, uid, R, -⟩ := chGrow (P := P) (S.pull 1)
  have T : TreeR tid w18R (w18M [0, 1]).1 st1 := R.tree w.neNil
  have ot := R.top
  simp [eqp, St.seg, ot, cseg0]
  refine (spec159 oki T).mono ?_
  rintro v st2 ⟨rfl, rfl⟩
  simp [h3]
  intro i3 hi3
  have W : WinS i3 [] 0 (ChA cid (w18C (w18M [0, 1]).1) :: [Was st]) (st2.upd i3 (.cells [.map none, .int .i64 0])) := WinS.start ((S.drop).new hi3 _)
  generalize st2.upd i3 _ = st3 at W ⊢
  clear R T ot S
  simp
  refine (spec289 okw W w (by show (w18M [0, 1]).1.length ≤ 16384; rw [h3]; decide) (by simp) 1 2).mono ?_
  intro v st4 W
  rw [hw] at W
  have rd := Sep.rd e1_len (W.rest.head fun h hh => hh.sl)
  have hln := rd.len
  obtain ⟨r1, r2, r3, r4⟩ := rd.row e1_len (i := 0) (by simp)
  simp at r1 hln
  simp [hln, r1, r3, e1]
  refine (spec283 okw W 1 1 5 (by simp)).mono ?_
  rintro v st5 ⟨rfl, W⟩
  have a1 : askM [] 1 1 = 0 := by decide
  have a2 : askT [] 1 1 5 = [(1, (1, 5))] := by decide
  have a3 : askM [(1, (1, 5))] 1 2 = 5 := by decide
  have a4 : askT [(1, (1, 5))] 1 2 5 = [(1, (1, 5))] := by decide
  rw [a2] at W
  rw [a1]
  simp
  refine (spec283 okw W 1 2 5 (by simp)).mono ?_
  rintro v st6 ⟨rfl, W⟩
  rw [a4] at W
  rw [a3]
  simp
  refine (spec282 okw W 1).mono ?_
  rintro v st7 ⟨rfl, rfl⟩
  have a5 : (((lk 1 [((1 : Int), ((1 : Int), (5 : Int)))]).map (·.1)).getD 0) = 1 := by decide
  have a6 : (lk 1 [((1 : Int), ((1 : Int), (5 : Int)))]).isSome = true := by decide
  rw [a5, a6]
  simp
  refine (spec288 okw W 24 (by decide)).mono ?_
  rintro v st8 ⟨p, b, rfl, hL, W⟩
  have hb : b = false := by
    cases b with
    | false => rfl
    | true =>
      obtain ⟨⟨e, h1, h2, -⟩, -⟩ := hL.yes rfl
      rw [List.mem_singleton.1 h1] at h2
      exact absurd h2 (by decide)
  subst hb
  simp
  refine (spec288 okw W 25 (by decide)).mono ?_
  rintro v st9 ⟨q, b, rfl, hL2, W⟩
  have hb : b = true := by
    cases b with
    | true => rfl
    | false =>
      have := (hL2.no rfl).2 (1, (1, 5)) (by simp)
      exact absurd this (by decide)
  subst hb
  have hq : q = 1 := by
    obtain ⟨⟨e, h1, -, h2⟩, -⟩ := hL2.yes rfl
    rw [List.mem_singleton.1 h1] at h2
    exact h2.symm
  subst hq
  simp
  refine (spec280 okw W).mono ?_
  rintro v st10 ⟨rfl, rfl⟩
  simp
  refine (spec281 okw W 1 (by simp)).mono ?_
  rintro v st11 ⟨rfl, W⟩
  have a7 : countM [((1 : Int), ((1 : Int), (5 : Int)))] 1 = 1 := by decide
  rw [a7]
  obtain ⟨mv, om⟩ := W.at
  simp
  refine (spec279 okw om (by decide)).mono ?_
  rintro v st12 ⟨rfl, rfl⟩
  have a8 : limM 1 = 40 := by decide
  have a9 : limM (if true = true then min ((if false = true then min ((0 : Int) + 1) 3 else 0) + 1) 3 else if false = true then min ((0 : Int) + 1) 3 else 0) = 40 := by decide
  rw [a9]
  simp
  exact W.rest.was' (st0 := st) (by simp)
end
end Go.Ab
set_option linter.unusedSimpArgs false
set_option linter.unusedVariables false
set_option maxRecDepth 10000
namespace Go.Ab
open Go Go.RowKit
theorem w18_want : wantM (w18C [w18g, w18n1, w18n2]) [] 1 2 = [1, 2] := by
  have w := w18_wf2
  have p1 : par [w18g, w18n1, w18n2] 1 = 0 := rfl
  have p2 : par [w18g, w18n1, w18n2] 2 = 1 := rfl
  have i0 : inI [w18g, w18n1, w18n2] 0 = 0 := rfl
  have i1 : inI [w18g, w18n1, w18n2] 1 = 1 := rfl
  have i2 : inI [w18g, w18n1, w18n2] 2 = 2 := rfl
  have c0 : clI [w18g, w18n1, w18n2] 0 = 0 := rfl
  have c2 : clI [w18g, w18n1, w18n2] 2 = 2 := rfl
  have hlen : [w18g, w18n1, w18n2].length = 3 := rfl
  have hf : (nd [w18g, w18n1, w18n2] 2).failed = false := rfl
  have hC : ∀ l, (w18C l).l = l := fun l => rfl
  have hT : ∀ l, (w18C l).tip = 0 := fun l => rfl
  have hh : ∀ l i, hasM (w18C l) i = decide (i = 0) := fun l i => by
    show ((lk i [((0 : Int), w18G)]).isSome) = _
    rw [lk_cons]
    by_cases h : i = 0 <;> simp [h, lk]
  generalize hl : [w18g, w18n1, w18n2] = l at *
  have h0 : hgt l 0 = 0 := w.hgt_zero
  have h1 : hgt l 1 = 1 := by rw [w.hgt_par (by omega) (by omega), p1, h0]
  have h2 : hgt l 2 = 2 := by rw [w.hgt_par (by omega) (by omega), p2, h1]
  have a0 : anc l 0 0 = 0 := by unfold anc; rw [h0]; rfl
  have a20 : anc l 2 0 = 0 := by
    unfold anc
    rw [h2]
    show upN l 0 (par l (par l 2)) = 0
    rw [p2, p1]; rfl
  have a21 : anc l 2 1 = 1 := by
    unfold anc
    rw [h2]
    show upN l 0 (par l 2) = 1
    rw [p2]; rfl
  have a22 : anc l 2 2 = 2 := by unfold anc; rw [h2]; rfl
  have m : meetM l 0 2 = 0 := by
    unfold meetM
    rw [h0, h2]
    show meetGo l 0 (anc l 0 0) (anc l 2 0) = 0
    rw [a0]; rfl
  have hon : onB l ((0 : Nat) : Int) ((2 : Nat) : Int) = true := by
    rw [onB_nat (by omega) (by omega), h0, h2, a20]; rfl
  have hw : wayI l ((0 : Nat) : Int) 2 = [1, 2] := by
    unfold wayI
    rw [if_pos (show onB l ((0 : Nat) : Int) 2 = true from hon)]
    show wayM l 0 2 = _
    unfold wayM
    rw [h0, h2]
    show [((anc l 2 1 : Nat) : Int), ((anc l 2 2 : Nat) : Int)] = [1, 2]
    rw [a21, a22]; rfl
  have n0 : (nd l 0).height = 0 := by rw [nd_hgt_eq (by omega), h0]
  have n1 : (nd l 1).height = 1 := by rw [nd_hgt_eq (by omega), h1]
  have n2 : (nd l 2).height = 2 := by rw [nd_hgt_eq (by omega), h2]
  unfold wantM
  rw [hC, hT, i2, hf, hlen, if_neg (by decide), i0, n0, c0, c2, m, hw]
  have hcm : countM [] 1 = 0 := rfl
  rw [hcm]
  rw [wantGo, hC, i1, n1, if_neg (by decide), hh, if_pos (by decide), wantGo, hC, i2, n2, if_neg (by decide), hh, if_pos (by decide), wantGo]
  rfl
section
variable {P : Program} {F : Fn}
theorem wants_true (ok : OkLaw18 P F) (hc : CloneC P (F 256)) (st : St) : ACalls P (F 292) [] st fun v st' => v = .bool true ∧ st' = st :=
  spec292 ok hc st (by rw [w18_all]; exact w18_wf2) (by rw [w18_all]; rfl) (by rw [w18_all]; exact w18_want)
end
end Go.Ab
set_option linter.unusedSimpArgs false
set_option linter.unusedVariables false
set_option maxRecDepth 10000
namespace Go.Ab
open Go Go.RowKit
section
variable {P : Program} {F : Fn}
end
end Go.Ab
set_option linter.unusedSimpArgs false
set_option linter.unusedVariables false
set_option maxRecDepth 10000
namespace Go.Ab
open Go Go.RowKit
def LateFrom (es : Fls) (sl now q w : Int) : Prop :=
  (w = -1 ∧ ∀ e ∈ es, q ≤ e.2.1 → lateB sl now e.2 = false) ∨
  (q ≤ w ∧ (∃ e ∈ es, lateB sl now e.2 = true ∧ e.2.1 = w) ∧ ∀ e ∈ es, q ≤ e.2.1 → lateB sl now e.2 = true → w ≤ e.2.1)
theorem LateFrom.start {es : Fls} {sl now n : Int} (h : ∀ e ∈ es, e.2.1 < n) : LateFrom es sl now n (-1) := .inl ⟨rfl, fun e he hq => by
  have := h e he
  omega⟩
theorem count_pos {es : Fls} {q : Int} : 0 < countM es q ↔ ∃ e ∈ es, e.2.1 = q := by
  unfold countM
  rw [List.countP_pos_iff]
  simp
theorem LateFrom.step {es : Fls} {sl now q w s : Int} (h : LateFrom es sl now (q + 1) w) (hs : ∀ e ∈ es, e.2.1 = q → e.2 = (q, s)) :
    LateFrom es sl now q (if 0 < countM es q ∧ lateB sl now (q, s) = true then q else w) := by
  by_cases hc : 0 < countM es q ∧ lateB sl now (q, s) = true
  · rw [if_pos hc]
    obtain ⟨e, he, hq⟩ := count_pos.1 hc.1
    exact .inr ⟨Int.le_refl _, ⟨e, he, by rw [hs e he hq]; exact hc.2, hq⟩, fun e he h1 _ => h1⟩
  · rw [if_neg hc]
    have hno : ∀ e ∈ es, e.2.1 = q → lateB sl now e.2 = false := fun e he hq => by
      cases hl : lateB sl now e.2 with
      | false => rfl
      | true => exact absurd ⟨count_pos.2 ⟨e, he, hq⟩, by rw [← hs e he hq]; exact hl⟩ hc
    rcases h with ⟨h1, h2⟩ | ⟨h1, h2, h3⟩
    · refine .inl ⟨h1, fun e he hq => ?_⟩
      by_cases hq' : e.2.1 = q
      · exact hno e he hq'
      · exact h2 e he (by omega)
    · refine .inr ⟨by omega, h2, fun e he hq hl => ?_⟩
      by_cases hq' : e.2.1 = q
      · rw [hno e he hq'] at hl; cases hl
      · exact h3 e he (by omega) hl
theorem LateFrom.fin {es : Fls} {sl now w p : Int} {b : Bool} (h : LateFrom es sl now 0 w) (hL : LateIs es sl now p b) (h0 : ∀ e ∈ es, 0 ≤ e.2.1) : b = decide (0 ≤ w) ∧ (b = true → p = w) := by
  rcases h with ⟨h1, h2⟩ | ⟨h1, ⟨e, he, h2, h2'⟩, h3⟩
  · have : b = false := by
      cases b with
      | false => rfl
      | true =>
        obtain ⟨⟨e, he, hl, -⟩, -⟩ := hL.yes rfl
        rw [h2 e he (h0 e he)] at hl; cases hl
    subst this
    subst h1
    exact ⟨rfl, fun h => by cases h⟩
  · have : b = true := by
      cases b with
      | true => rfl
      | false =>
        have := (hL.no rfl).2 e he
        rw [h2] at this; cases this
    subst this
    obtain ⟨⟨e', he', hl', hp'⟩, hmin⟩ := hL.yes rfl
    refine ⟨by simp [h1], fun _ => ?_⟩
    have a := hmin e he h2
    have b := h3 e' he' (h0 e' he') hl'
    omega
structure LateT (s : List Int) (k : Nat) (es : Fls) : Prop where
  row : ∀ e ∈ es, ∃ q : Nat, q < k ∧ e = (100 + (q : Int), ((q : Int), s.getD q 0))
  nd : (es.map (·.1)).Nodup
theorem LateT.nil (s : List Int) : LateT s 0 [] := ⟨fun e he => (by cases he), List.nodup_nil⟩
theorem lk_none_of {K A : Type} [DecidableEq K] {k : K} : ∀ {l : List (K × A)}, (∀ e ∈ l, e.1 ≠ k) → lk k l = none
  | [], _ => rfl
  | p :: l, h => by
    unfold lk
    rw [List.lookup_cons]
    have : (k == p.1) = false := by
      have := h p (by simp)
      simpa using fun e => this e.symm
    rw [this]
    exact lk_none_of fun e he => h e (by simp [he])
theorem LateT.count {s : List Int} {k : Nat} {es : Fls} (h : LateT s k es) : countM es k = 0 := by
  unfold countM
  rw [List.countP_eq_zero]
  intro e he
  obtain ⟨q, hq, rfl⟩ := h.row e he
  simp
  omega
theorem LateT.more {s : List Int} {k : Nat} {es : Fls} (h : LateT s k es) : askM es (100 + (k : Int)) k = 0 ∧ LateT s (k + 1) (askT es (100 + (k : Int)) k (s.getD k 0)) ∧ (askT es (100 + (k : Int)) k (s.getD k 0)).length = es.length + 1 := by
  have hl : lk (100 + (k : Int)) es = none := lk_none_of fun e he => by
    obtain ⟨q, hq, rfl⟩ := h.row e he
    show 100 + (q : Int) ≠ _
    omega
  have h0 : askM es (100 + (k : Int)) k = 0 := by
    unfold askM
    rw [hl, h.count]
    simp
  refine ⟨h0, ?_, by rw [askT, if_pos h0]; simp⟩
  rw [askT, if_pos h0]
  refine ⟨fun e he => ?_, ?_⟩
  · rcases List.mem_append.1 he with he | he
    · obtain ⟨q, hq, rfl⟩ := h.row e he
      exact ⟨q, by omega, rfl⟩
    · rw [List.mem_singleton.1 he]
      exact ⟨k, by omega, rfl⟩
  · rw [List.map_append, List.nodup_append]
    refine ⟨h.nd, by simp, fun a ha b hb => ?_⟩
    rw [List.map_cons, List.map_nil, List.mem_singleton] at hb
    subst hb
    obtain ⟨e, he, rfl⟩ := List.mem_map.1 ha
    obtain ⟨q, hq, rfl⟩ := h.row e he
    show 100 + (q : Int) ≠ _
    omega
theorem LateT.sub {s : List Int} {k : Nat} {es : Fls} (h : LateT s k es) (p : Int) : LateT s k (es.filter fun e => e.2.1 != p) :=
  ⟨fun e he => h.row e (List.mem_filter.1 he).1, (List.filter_sublist.map _).nodup h.nd⟩
theorem LateT.one {s : List Int} {k : Nat} {es : Fls} (h : LateT s k es) {e : Int × Fl} (he : e ∈ es) : (es.filter fun x => x.2.1 == e.2.1).length = 1 ∧ (es.filter fun x => x.2.1 != e.2.1).length + 1 = es.length := by
  have h1 : (es.filter fun x => x.2.1 == e.2.1).length = 1 := by
    have hn : (es.filter fun x => x.2.1 == e.2.1).Nodup := (nodup_of_keys h.nd).filter _
    have hall : ∀ x ∈ es.filter fun x => x.2.1 == e.2.1, x = e := fun x hx => by
      obtain ⟨hx1, hx2⟩ := List.mem_filter.1 hx
      obtain ⟨q, -, rfl⟩ := h.row x hx1
      obtain ⟨r, -, rfl⟩ := h.row e he
      have : (q : Int) = r := by simpa using hx2
      rw [this, show q = r by omega]
    have hm : e ∈ es.filter fun x => x.2.1 == e.2.1 := List.mem_filter.2 ⟨he, by simp⟩
    generalize es.filter (fun x => x.2.1 == e.2.1) = l at hn hall hm
    match l, hn, hall, hm with
    | [x], _, _, _ => rfl
    | x :: y :: l, hn, hall, _ =>
      have hx := hall x (by simp)
      have hy := hall y (by simp)
      rw [hx, hy] at hn
      simp at hn
  refine ⟨h1, ?_⟩
  have := List.length_eq_countP_add_countP (fun x : Int × Fl => x.2.1 == e.2.1) (l := es)
  rw [List.countP_eq_length_filter, List.countP_eq_length_filter, h1] at this
  have e2 : (es.filter fun x => !(x.2.1 == e.2.1)) = es.filter fun x => x.2.1 != e.2.1 := rfl
  simp only [Bool.not_eq_true, Bool.decide_eq_false] at this
  rw [e2] at this
  omega
section
variable {P : Program} {F : Fn}
end
end Go.Ab
set_option linter.unusedSimpArgs false
set_option linter.unusedVariables false
set_option maxRecDepth 10000
namespace Go.Ab
open Go Go.RowKit
def growU (l : List Nd) (i : Nat) (q : Nat) : Hdr := { hdr0 with ver := BitVec.ofInt 32 (i : Int), prev := (nd l q).id, time := (nd l q).hdr.time + 1#32, bits := easyB }
def growH1 (l : List Nd) (i : Nat) (p : Int) : Hdr := (mineN (growU l i (clI l p)) easyB 1000).getD hdr0
def growL (ps : List Int) : Nat → List Nd
  | 0 => newM easyR
  | n + 1 => (addM easyR (growL ps n) (growH1 (growL ps n) n (ps.getD n 0)) 100000).1
theorem growL_made (ps : List Int) : ∀ n, Made easyR (growL ps n)
  | 0 => Made.new
  | n + 1 => (growL_made ps n).add _ _
theorem growL_len (ps : List Int) : ∀ n, (growL ps n).length ≤ n + 1
  | 0 => by simp [growL, newM]
  | n + 1 => by
    have := growL_len ps n
    have := addM_len easyR (growL ps n) (growH1 (growL ps n) n (ps.getD n 0)) 100000
    rw [growL]; omega
def growM (ps : List Int) : List Nd := growL ps ps.length
def GrownR (ps : List Int) (st : St) (v : V) (st' : St) : Prop :=
  ∃ tid s l, v = .tup [.ptr (some (tid, 0)), s] ∧ nds l = growM ps ∧ Okws l ∧ Sep [TreeS tid easyR (nds l), RdN s l, Was st] st'
section
variable {P : Program} {F : Fn}
end
end Go.Ab
set_option linter.unusedSimpArgs false
set_option linter.unusedVariables false
set_option maxRecDepth 10000
namespace Go.Ab
open Go Go.RowKit
def Uniq (l : List Nd) : Prop := ∀ (k : Nat) (h : k < l.length), findM l l[k].id = some k
theorem uniq_push {l : List Nd} (u : Uniq l) {x : Nd} (h : findM l x.id = none) : Uniq (l ++ [x]) := by
  intro k hk
  rw [findM_append]
  by_cases hkl : k < l.length
  · rw [List.getElem_append_left hkl, if_neg (fun e => findM_none h _ (List.getElem_mem hkl) e.symm), u k hkl]
  · have : k = l.length := by simp at hk; omega
    subst this
    rw [List.getElem_append_right (Nat.le_refl _)]
    simp
structure Fresh (l : List Nd) : Prop where
  wf : Wf l
  ok : ∀ (k : Nat) (h : k < l.length), l[k].failed = false
  uniq : Uniq l
theorem fresh_gen : Fresh [gen0] := ⟨newM_wf easyR, fun k h => by
  have : k = 0 := by simp at h; exact h
  subst this; rfl, fun k h => by
  have : k = 0 := by simp at h; exact h
  subst this
  simp [findM]⟩
theorem addM_uniq {r : Rl} {l : List Nd} (u : Uniq l) (h : Hdr) (now : Int) : Uniq (addM r l h now).1 := by
  rcases addM_cases r l h now with ⟨e, _⟩ | ⟨p, _, h1, _, _, e⟩
  · rw [e]; exact u
  · rw [e]; exact uniq_push u h1
theorem fresh_add {r : Rl} {l : List Nd} (hF : Fresh l) (hl : l.length ≤ 16384) (h : Hdr) (now : Int) : Fresh (addM r l h now).1 ∧ (addM r l h now).1.length ≤ l.length + 1 ∧ l.length ≤ (addM r l h now).1.length := by
  refine ⟨⟨(addM_wf hF.wf hl h now).1, ?_, addM_uniq hF.uniq h now⟩, ?_⟩
  · rcases addM_cases r l h now with ⟨e, _⟩ | ⟨p, _, h1, _, _, e⟩
    · rw [e]; exact hF.ok
    · rw [e]
      intro k hk
      by_cases hkl : k < l.length
      · rw [List.getElem_append_left hkl]; exact hF.ok k hkl
      · have : k = l.length := by simp at hk; omega
        subst this
        rw [List.getElem_append_right (Nat.le_refl _)]
        have e : ∀ x : Nd, [x][l.length - l.length]'(by simp) = x := fun x => by simp
        rw [e]; rfl
  · rcases addM_cases r l h now with ⟨e, _⟩ | ⟨p, _, h1, _, _, e⟩
    · rw [e]; omega
    · rw [e]; simp
theorem add_zero {l : List Nd} (now : Int) : ∃ i e, addM easyR l hdr0 now = (l, i, e) ∧ e ≠ 0 := by
  cases h1 : findM l (hId hdr0) with
  | some i => exact ⟨_, _, addM_twice h1, by simp⟩
  | none =>
    rcases addM_cases easyR l hdr0 now with ⟨e, h⟩ | ⟨p, h2, _, h3, _, _⟩
    · exact ⟨_, _, Prod.ext e rfl, h⟩
    · exfalso
      have hp := findM_lt h2
      have hpr : provedN hdr0 easyR.limit = 30 := by
        have : tgt hdr0.bits = none := by decide +kernel
        simp [provedN, this]
      have e1 : ¬ ((p : Int) < 0 ∨ (l.length : Int) ≤ p) := by omega
      simp only [fitsM, e1, if_false, hpr] at h3
      simp at h3
section
variable {P : Program} {F : Fn}
end
end Go.Ab
set_option linter.unusedSimpArgs false
set_option linter.unusedVariables false
namespace Go.Ab
open Go Go.RowKit
def idG : Id := ⟨⟨[21, 69, 166, 194, 34, 142, 174, 254, 51, 143, 16, 178, 185, 178, 204, 107, 138, 25, 0, 80, 180, 91, 164, 132, 47, 186, 142, 94, 126, 96, 52, 167]⟩, rfl⟩
def idA : Id := ⟨⟨[249, 182, 181, 195, 143, 2, 170, 189, 230, 242, 107, 83, 189, 148, 246, 187, 181, 62, 161, 144, 91, 11, 14, 69, 23, 213, 175, 253, 125, 206, 235, 106]⟩, rfl⟩
def idB : Id := ⟨⟨[17, 201, 86, 10, 97, 254, 97, 209, 23, 135, 65, 78, 190, 187, 183, 154, 85, 228, 203, 214, 148, 79, 229, 233, 49, 73, 244, 124, 97, 50, 187, 119]⟩, rfl⟩
def idC : Id := ⟨⟨[43, 62, 228, 172, 249, 202, 246, 235, 73, 97, 160, 103, 90, 236, 253, 101, 73, 20, 60, 34, 66, 93, 50, 158, 178, 100, 152, 79, 22, 70, 41, 16]⟩, rfl⟩
def hdU (v : W32) (p : Id) (t : W32) : Hdr := { hdr0 with ver := v, prev := p, time := t, bits := easyB }
def hdA : Hdr := { hdU 0#32 idG 1#32 with nonce := 2#32 }
def hdB : Hdr := { hdU 1#32 idA 2#32 with nonce := 1#32 }
def hdC : Hdr := { hdU 2#32 idA 2#32 with nonce := 0#32 }
theorem gen_id : hId easyR.gen = idG := by decide +kernel
theorem mineA : mineN (hdU 0#32 idG 1#32) easyB 1000 = some hdA := by decide +kernel
theorem hdA_id : hId hdA = idA := by decide +kernel
theorem mineB : mineN (hdU 1#32 idA 2#32) easyB 1000 = some hdB := by decide +kernel
theorem hdB_id : hId hdB = idB := by decide +kernel
theorem mineC : mineN (hdU 2#32 idA 2#32) easyB 1000 = some hdC := by decide +kernel
theorem hdC_id : hId hdC = idC := by decide +kernel
theorem ids_apart : idA ≠ idG ∧ idB ≠ idG ∧ idB ≠ idA ∧ idC ≠ idG ∧ idC ≠ idA ∧ idC ≠ idB ∧ idA ≠ id0 ∧ idB ≠ id0 := by decide +kernel
theorem ndOf_idn (l : List Nd) (h : Hdr) (p : Nat) : (ndOf l h p).id = hId h := by
  unfold ndOf
  generalize hId h = I
  rfl
theorem add_behind {l : List Nd} (hF : Fresh l) (hl : l.length ≤ 1000) {p : Nat} (hp : p < l.length) {h : Hdr} (hprev : h.prev = (nd l p).id) (hnew : findM l (hId h) = none) (hpr : provedN h easyB = 0) (hb : h.bits = (nd l p).hdr.bits) (ht : medianM l p < h.time) (ht2 : (h.time.toNat : Int) - 7200 ≤ 100000) :
    addM easyR l h 100000 = (l ++ [ndOf l h p], (l.length : Int), 0) := by
  have h2 : findM l h.prev = some p := by rw [hprev, nd_at hp]; exact hF.uniq p hp
  have hfail : (nd l p).failed = false := by rw [nd_at hp]; exact hF.ok p hp
  exact addM_ok hnew h2 (fits_ok hp hpr hfail (by rw [easy_next]; exact hb) ht ht2) (by omega)
theorem growH1_eq {l : List Nd} {i : Nat} {p : Int} {q : Nat} (hq : clI l p = q) {x : Nd} (hx : nd l q = x) {v : W32} {I : Id} {T : W32} (hv : BitVec.ofInt 32 (i : Int) = v) (hid : x.id = I) (ht : x.hdr.time + 1#32 = T) {h : Hdr} (hm : mineN (hdU v I T) easyB 1000 = some h) : growH1 l i p = h := by
  have e : growU l i q = hdU v I T := by
    unfold growU hdU
    rw [hx, hv, hid, ht]
  rw [growH1, hq, e, hm]; rfl
structure Three (x1 x2 x3 : Nd) : Prop where
  grown : growM [0, 1, 1] = [gen0, x1, x2, x3]
  p1 : x1.parent = 0
  p2 : x2.parent = 1
  p3 : x3.parent = 1
  h1 : x1.height = 1
  h2 : x2.height = 2
  h3 : x3.height = 2
  i1 : x1.id = idA
  i2 : x2.id = idB
  i3 : x3.id = idC
theorem three : ∃ x1 x2 x3, Three x1 x2 x3 := by
  obtain ⟨a1, a2, a3, a4, a5, a6, -, -⟩ := ids_apart
  have gid : gen0.id = idG := gen_id
  have gp : gen0.parent = -1 := rfl
  have gt : gen0.hdr.time = 0#32 := rfl
  have gb : gen0.hdr.bits = easyB := rfl
  have F0 : Fresh [gen0] := fresh_gen
  -- the first
  have n0 : nd [gen0] 0 = gen0 := nd_at (by simp)
  have g1 : growH1 [gen0] 0 0 = hdA := growH1_eq (q := 0) rfl n0 rfl gid (by rw [gt]; rfl) mineA
  have t0 : medianM [gen0] 0 = 0#32 := by rw [median_one rfl, n0, gt]
  obtain ⟨-, m2, -, m4, m5, m6⟩ := mineN_some mineA
  have e1 := add_behind F0 (by simp) (p := 0) (h := hdA) (by simp) (by rw [n0, gid]; exact m2) (by rw [hdA_id]; simp [findM, gid, a1.symm]) m6 (by rw [n0, gb]; exact m5) (by rw [t0]; decide) (by decide)
  obtain ⟨x1, hx1⟩ : ∃ x1, x1 = ndOf [gen0] hdA 0 := ⟨_, rfl⟩
  rw [← hx1] at e1
  have f1h : x1.hdr = hdA := by rw [hx1]; rfl
  have f1p : x1.parent = 0 := by rw [hx1]; rfl
  have f1g : x1.height = 1 := by
    have : x1.height = hgt [gen0] 0 + 1 := by rw [hx1]; rfl
    rw [this, hgt_at (by simp)]; rfl
  have f1i : x1.id = idA := by rw [hx1, ndOf_idn, hdA_id]
  have F1 : Fresh [gen0, x1] := by
    have := (fresh_add (r := easyR) F0 (by simp) hdA 100000).1
    rw [e1] at this
    exact this
  -- the second
  have n1 : nd [gen0, x1] 1 = x1 := nd_at (by simp)
  have g2 : growH1 [gen0, x1] 1 1 = hdB := growH1_eq (q := 1) rfl n1 rfl f1i (by rw [f1h]; rfl) mineB
  have hmed : ∀ l : List Nd, timesM l 11 1 = [1#32, 0#32] → medianM l 1 < 2#32 := fun l h => by
    have hm : medianM l 1 ∈ [1#32, 0#32] := by
      have := middle_mem (l := timesM l 11 1) (by rw [h]; simp)
      rw [h] at this
      unfold medianM
      rw [h]
      exact this
    simp at hm
    rcases hm with hm | hm <;> rw [hm] <;> decide
  have t1 : timesM [gen0, x1] 11 1 = [1#32, 0#32] := by
    simp [timesM, f1p, f1h, gp, gt, hdA, hdU]
  obtain ⟨-, m2, -, m4, m5, m6⟩ := mineN_some mineB
  have e2 := add_behind F1 (by simp) (p := 1) (h := hdB) (by simp) (by rw [n1, f1i]; exact m2) (by rw [hdB_id]; simp [findM, gid, f1i, a2.symm, a3.symm]) m6 (by rw [n1, f1h]; exact m5) (hmed _ t1) (by decide)
  obtain ⟨x2, hx2⟩ : ∃ x2, x2 = ndOf [gen0, x1] hdB 1 := ⟨_, rfl⟩
  rw [← hx2] at e2
  have f2p : x2.parent = 1 := by rw [hx2]; rfl
  have f2g : x2.height = 2 := by
    have : x2.height = hgt [gen0, x1] 1 + 1 := by rw [hx2]; rfl
    rw [this, hgt_at (by simp)]; simp [f1g]
  have f2i : x2.id = idB := by rw [hx2, ndOf_idn, hdB_id]
  have F2 : Fresh [gen0, x1, x2] := by
    have := (fresh_add (r := easyR) F1 (by simp) hdB 100000).1
    rw [e2] at this
    exact this
  -- the third
  have n2 : nd [gen0, x1, x2] 1 = x1 := nd_at (by simp)
  have g3 : growH1 [gen0, x1, x2] 2 1 = hdC := growH1_eq (q := 1) rfl n2 rfl f1i (by rw [f1h]; rfl) mineC
  have t2 : timesM [gen0, x1, x2] 11 1 = [1#32, 0#32] := by
    simp [timesM, f1p, f1h, gp, gt, hdA, hdU]
  obtain ⟨-, m2, -, m4, m5, m6⟩ := mineN_some mineC
  have e3 := add_behind F2 (by simp) (p := 1) (h := hdC) (by simp) (by rw [n2, f1i]; exact m2) (by rw [hdC_id]; simp [findM, gid, f1i, f2i, a4.symm, a5.symm, a6.symm]) m6 (by rw [n2, f1h]; exact m5) (hmed _ t2) (by decide)
  obtain ⟨x3, hx3⟩ : ∃ x3, x3 = ndOf [gen0, x1, x2] hdC 1 := ⟨_, rfl⟩
  rw [← hx3] at e3
  have f3p : x3.parent = 1 := by rw [hx3]; rfl
  have f3g : x3.height = 2 := by
    have : x3.height = hgt [gen0, x1, x2] 1 + 1 := by rw [hx3]; rfl
    rw [this, hgt_at (by simp)]; simp [f1g]
  have f3i : x3.id = idC := by rw [hx3, ndOf_idn, hdC_id]
  refine ⟨x1, x2, x3, ⟨?_, f1p, f2p, f3p, f1g, f2g, f3g, f1i, f2i, f3i⟩⟩
  have l0 : growL [0, 1, 1] 0 = [gen0] := rfl
  have l1 : growL [0, 1, 1] 1 = [gen0, x1] := by
    rw [growL, l0, show ([0, 1, 1] : List Int).getD 0 0 = 0 from rfl, g1, e1]; rfl
  have l2 : growL [0, 1, 1] 2 = [gen0, x1, x2] := by
    rw [growL, l1, show ([0, 1, 1] : List Int).getD 1 0 = 1 from rfl, g2, e2]; rfl
  have l3 : growL [0, 1, 1] 3 = [gen0, x1, x2, x3] := by
    rw [growL, l2, show ([0, 1, 1] : List Int).getD 2 0 = 1 from rfl, g3, e3]; rfl
  exact l3
end Go.Ab
set_option linter.unusedSimpArgs false
set_option linter.unusedVariables false
set_option maxRecDepth 10000
namespace Go.Ab
open Go Go.RowKit
section
variable {P : Program} {F : Fn}
theorem GrownR.wf {ps : List Int} {l : List Rw} (h : nds l = growM ps) (hn : ps.length ≤ 1000) : Wf (nds l) ∧ l.length ≤ ps.length + 1 := by
  have h1 := growL_len ps ps.length
  have h2 := congrArg List.length h
  rw [nds_len] at h2
  refine ⟨?_, by rw [h2]; exact h1⟩
  rw [h]
  exact (growL_made ps ps.length).wf (by omega)
end
end Go.Ab
set_option linter.unusedSimpArgs false
set_option linter.unusedVariables false
set_option maxRecDepth 10000
namespace Go.Ab
open Go Go.RowKit
section
variable {P : Program} {F : Fn}
end
end Go.Ab
set_option linter.unusedSimpArgs false
set_option linter.unusedVariables false
set_option maxRecDepth 10000
namespace Go.Ab
open Go Go.RowKit
section
variable {P : Program} {F : Fn}
end
end Go.Ab
set_option linter.unusedSimpArgs false
set_option linter.unusedVariables false
set_option maxRecDepth 10000
namespace Go.Ab
open Go Go.RowKit
theorem wayM_get (l : List Nd) (a b : Nat) {k : Nat} (h : k < (wayM l a b).length) : (wayM l a b)[k] = ((anc l b (hgt l a + 1 + k) : Nat) : Int) := by simp [wayM]
theorem anc_step_par {l : List Nd} (w : Wf l) {b k : Nat} (hb : b < l.length) (hk : k + 1 ≤ hgt l b) : par l (anc l b (k + 1)) = anc l b k ∧ 0 < anc l b (k + 1) := by
  have hl := w.anc_lt (h := k + 1) hb
  have hg := w.anc_hgt hb hk
  have hp := w.pos_of_hgt (i := anc l b (k + 1)) (by omega)
  have h1 := w.anc_par hl (h := k) (by omega)
  have h2 := w.anc_anc hb (h := k) (h' := k + 1) (by omega) hk
  have h3 := w.hgt_par hp hl
  rw [h2] at h1
  refine ⟨?_, hp⟩
  have e : hgt l (par l (anc l b (k + 1))) = k := by omega
  have h4 := anc_self (l := l) (par l (anc l b (k + 1)))
  rw [e] at h4
  rw [h1]
  exact h4.symm
section
variable {P : Program} {F : Fn}
end
end Go.Ab

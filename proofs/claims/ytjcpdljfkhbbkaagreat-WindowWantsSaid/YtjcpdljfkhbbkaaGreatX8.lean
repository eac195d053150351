import Derived.Test.YtjcpdljfkhbbkaaGreatX7
import Derived.Test.YtjcpdljfkhbbkaaGreatX5
import Derived.Test.YtjcpdljfkhbbkaaGreatX6
import Derived.Test.YtjcpdljfkhbbkaaGreatX1
import Derived.Test.YtjcpdljfkhbbkaaGreatX3
set_option linter.unusedSimpArgs false
set_option linter.unusedVariables false
set_option maxRecDepth 10000
namespace Go.Ab
open Go Go.RowKit
def clI (l : List Nd) (i : Int) : Nat := (max 0 (min i ((l.length : Int) - 1))).toNat
theorem clI_lt {l : List Nd} (w : Wf l) (i : Int) : clI l i < l.length := by
  have := w.ne
  unfold clI; omega
theorem clI_of {l : List Nd} {n : Nat} (h : n < l.length) : clI l n = n := by unfold clI; omega
def timesI (l : List Nd) (n : Nat) (i : Int) : List W32 := if i < 0 then [] else timesM l n i.toNat
theorem timesM_succ {l : List Nd} {n i : Nat} (hi : i < l.length) : timesM l (n + 1) i = l[i].hdr.time :: timesI l n l[i].parent := by
  simp [timesM, hi, timesI]
theorem timesM_ne {l : List Nd} {n i : Nat} (hi : i < l.length) : timesM l (n + 1) i ≠ [] := by simp [timesM, hi]
section
variable {P : Program} {F : Fn}
theorem spec166 (ok : OkIndex P F) {st : St} {tid : Nat} {r : Rl} {l : List Nd} (h : TreeR tid r l st) (w : Wf l) (hl : l.length ≤ 16384) (i : Int) : ACalls P (F 166) [.ptr (some (tid, 0)), .int .i64 i] st fun v st' => v = w32 (medianM l (clI l i)) ∧ st' = st := by
  obtain ⟨sid, mid, spare, es, h⟩ := h
  refine shows_call ok.mixed ok.h166 (by simp [k166]) ?_
  simp only [k166]
  have o1 := h.top
  have hne := w.ne
  obtain ⟨n, hn⟩ : ∃ n, n = clI l i := ⟨_, rfl⟩
  have hnl : n < l.length := hn ▸ clI_lt w i
  rw [← hn]
  have hw : IntKind.i64.wrap ((l.length : Int) - 1) = (l.length : Int) - 1 := wrap64 (by omega) (by omega)
  have hmn : foldV min2V (.int .i64 i) [.int .i64 ((l.length : Int) - 1)] = some (.int .i64 (min i ((l.length : Int) - 1))) := by
    simp only [foldV, min2V, if_true, Option.bind_some]
    congr 2
    split <;> omega
  have hmx : foldV max2V (.int .i64 0) [.int .i64 (min i ((l.length : Int) - 1))] = some (.int .i64 (n : Int)) := by
    simp only [foldV, max2V, if_true, Option.bind_some]
    unfold clI at hn
    congr 2
    split <;> omega
  simp [St.seg, o1, tree_seg74, hw, hmn, hmx]
  refine vc_loopJ (fun c env' st' => ∃ (acc : List W32) (j : Int) (s : V), c = 11 - acc.length ∧ acc.length ≤ 11 ∧ acc ++ timesI l (11 - acc.length) j = timesM l 11 n ∧ (0 ≤ j → j < l.length) ∧ env' 1 = .int .i64 j ∧ env' 5 = s ∧ Sep [Sl 1 e32 s acc, Was st] st') 11
    ⟨[], n, .sl .nil [] 0, rfl, by simp, ?_, by omega, by simp, by simp, (Sep.start st).slNil⟩ ?_
  · simp [timesI]; omega
  · rintro J hJ c env' st2 hsame ⟨acc, j, s, rfl, hal, he, hj, g1, g5, S⟩
    have g0 := hsame.get 0 rfl
    simp at g0
    clear hsame
    have hsub := S.was' (st0 := st) (by simp)
    have h2 := h.sub hsub
    have o1 := h2.top
    have o2 := h2.rows
    have hlen := (Sep.rd e32_len S).len
    have hfin : acc = timesM l 11 n → ACalls P (F 164) [s] st2 fun v st' => v = w32 (medianM l n) ∧ St.sub st st' := by
      intro e
      have hne2 : acc ≠ [] := by rw [e]; exact timesM_ne hnl
      obtain ⟨sid2, spare2, rfl, hs2, S⟩ := S.slObj hne2
      refine (spec164 ok S.get (by omega) hne2).mono ?_
      rintro v st3 ⟨rfl, rfl⟩
      have S := S.setAt (.cells (rowsOf e32 (sorted32 acc) ++ spare2)) 0 rfl
      have hsub := S.was' (st0 := st) (by simp)
      have em : middle32 acc = medianM l n := by rw [e]; rfl
      exact ⟨by rw [em], hsub⟩
    by_cases hj0 : 0 ≤ j
    · by_cases ha : (acc.length : Int) < 11
      · obtain ⟨q, rfl⟩ : ∃ q : Nat, j = q := ⟨j.toNat, by omega⟩
        have hq : q < l.length := by have := hj hj0; omega
        simp [g0, g1, g5, hlen, ha, St.seg, o1, o2, tree_seg74, hq, nd_time hq]
        have hfl : fillV (repV [w32 0#32] 1) [(0, 1, w32 l[q].hdr.time)] = some (e32 l[q].hdr.time) := rfl
        simp [hfl]
        have hel : elems st2 1 (.sl .full (e32 l[q].hdr.time) 1) = some (e32 l[q].hdr.time, 1) := rfl
        rw [hel]
        refine Sep.app1 e32_len (by omega) S rfl (by omega) ?_
        intro s' st3 S
        have h3 := h.sub (S.was' (st0 := st) (by simp))
        have o1 := h3.top
        have o2 := h3.rows
        simp [g0, g1, St.seg, o1, o2, tree_seg74, hq, nd_par hq]
        have e11 : 11 - acc.length = (11 - (acc.length + 1)) + 1 := by omega
        refine Round.mk (11 - (acc ++ [l[q].hdr.time]).length) _ (by simp; omega) (sub_self _) (hJ _ _ _ ⟨acc ++ [l[q].hdr.time], l[q].parent, s', rfl, by simp; omega, ?_, ?_, by simp, by simp, S⟩)
        · rw [← he]
          have : timesI l (11 - acc.length) (q : Int) = l[q].hdr.time :: timesI l (11 - (acc.length + 1)) l[q].parent := by
            rw [e11, ← timesM_succ hq]; simp [timesI]; omega
          rw [this]; simp
        · intro hp
          rcases Nat.eq_zero_or_pos q with e | e
          · subst e
            have := (w.zero _ (List.getElem?_eq_getElem hq)).1
            omega
          · have := (w.succ q _ e (List.getElem?_eq_getElem hq)).2.1
            omega
      · have e11 : acc.length = 11 := by omega
        have e : acc = timesM l 11 n := by
          rw [e11] at he
          rw [← he]
          have : timesI l (11 - 11) j = [] := by unfold timesI; split <;> rfl
          rw [this]; simp
        simp [g0, g1, g5, hlen, ha, hj0]
        refine (hfin e).mono ?_
        rintro v st3 ⟨rfl, hs3⟩
        simp [hs3]
    · have e : acc = timesM l 11 n := by
        rw [← he]
        have : timesI l (11 - acc.length) j = [] := by unfold timesI; rw [if_pos (by omega)]
        rw [this]; simp
      simp [g0, g1, g5, hj0]
      refine (hfin e).mono ?_
      rintro v st3 ⟨rfl, hs3⟩
      simp [hs3]
theorem checkM_ok {r : Rl} (h : checkM r = 0) : tgt r.limit ≠ none ∧ r.gen.bits = r.limit ∧ 0 ≤ r.every ∧ r.every ≤ 1000 ∧ 1 ≤ r.spacing ∧ r.spacing ≤ 1048576 ∧ 0 ≤ r.subsidy ∧ r.subsidy ≤ 1125899906842624 ∧ 0 ≤ r.work ∧ r.work ≤ 1000 := by
  unfold checkM at h
  split at h
  · cases h
  · rename_i h1
    split at h
    · cases h
    · rename_i h2
      have : r.gen.bits = r.limit := by
        by_cases e : r.gen.bits = r.limit
        · exact e
        · exact absurd (.inr e) h1
      exact ⟨fun e => h1 (.inl e), this, by omega, by omega, by omega, by omega, by omega, by omega, by omega, by omega⟩
set_option maxHeartbeats 1000000 in
theorem spec167 (ok : OkIndex P F) {st : St} {tid : Nat} {r : Rl} {l : List Nd} (h : TreeR tid r l st) (w : Wf l) (hl : l.length ≤ 16384) (hr : checkM r = 0) {i : Nat} (hi : i < l.length) : ACalls P (F 167) [.ptr (some (tid, 0)), .int .i64 (i : Nat)] st fun v st' => v = w32 (nextM r l i) ∧ st' = st := by
  have okh := ok.toOkHead
  obtain ⟨hr1, hr2, hr3, hr4, hr5, hr6, -, -⟩ := checkM_ok hr
  have hR := h
  obtain ⟨sid, mid, spare, es, h⟩ := h
  refine shows_call ok.mixed ok.h167 (by simp [k167]) ?_
  simp only [k167, z108_eq, eU_zero0]
  simp
  refine (spec161 ok hR w i).mono ?_
  rintro v st ⟨rfl, rfl⟩
  have hin : inI l i = i := by unfold inI; rw [if_neg (by omega)]; omega
  rw [hin]
  obtain ⟨x, hx⟩ : ∃ x, x = nd l i := ⟨_, rfl⟩
  have hxh : x.height = hgt l i := by rw [hx, nd_at hi, hgt_at hi]
  have hgl := w.hgt_le hi
  rw [← hx]
  simp
  intro i5 h5
  have S := (Sep.start st).new h5 (.cells (eNd nd0))
  have hsp : ∀ x y, spliceV (eNd x) 0 (eNd y) = eNd y := fun x y => by simp [spliceV, eNd_len]
  simp [storeS, eNd_len, hsp]
  have S := S.setAt (.cells (eNd x)) 0 rfl
  simp at S
  generalize st.upd i5 _ = st1 at S ⊢
  have hs1 := S.was' (st0 := st) (by simp)
  have ht := h.sub hs1
  have o1 := ht.top
  have o5 := S.get
  obtain ⟨E, hE⟩ : ∃ E : Nat, r.every = E := ⟨r.every.toNat, by omega⟩
  obtain ⟨H, hH⟩ : ∃ H, H = x.height := ⟨_, rfl⟩
  have ohH := osegHgt x
  rw [← hH] at ohH hxh
  have tev := tree_every r (.hsl sid 0 108 l.length) (.map (some mid))
  rw [hE] at tev
  have hw1 : IntKind.i64.wrap ((H : Int) + 1) = (H : Int) + 1 := wrap64 (by omega) (by omega)
  simp [St.seg, o1, tev]
  have hnx : nextM r l i = if E = 0 ∨ (H + 1) % E ≠ 0 then x.hdr.bits else (nextN x.hdr.bits ((x.hdr.time.toNat : Int) - (nd l (anc l i (H + 1 - E))).hdr.time.toNat) (r.every * r.spacing) (limitN r)).getD 0 := by
    unfold nextM
    simp only [← hx, ← hH, hE]
    have e1 : ((H : Int) + 1).tmod (E : Int) = (((H + 1) % E : Nat) : Int) := by
      rw [Int.tmod_eq_emod_of_nonneg (by omega)]; push_cast; rfl
    have e2 : (max 0 ((H : Int) + 1 - E)).toNat = H + 1 - E := by omega
    rw [e1, e2]
    have e3 : ((E : Int) = 0 ∨ (((H + 1) % E : Nat) : Int) ≠ 0) ↔ (E = 0 ∨ (H + 1) % E ≠ 0) := by omega
    by_cases c : (E = 0 ∨ (H + 1) % E ≠ 0)
    · rw [if_pos c, if_pos (e3.2 c)]
    · rw [if_neg c, if_neg (fun h => c (e3.1 h))]
  by_cases hE0 : E = 0
  · have : nextM r l i = x.hdr.bits := by rw [hnx, if_pos (.inl hE0)]
    rw [this]
    have hE0' : ((E : Int) == 0) = true := by simp [hE0]
    simp [hE0, o5, osegBits, St.seg, hs1]
  · have hem : ((H : Int) + 1).tmod (E : Int) = (((H + 1) % E : Nat) : Int) := by
      rw [Int.tmod_eq_emod_of_nonneg (by omega)]; push_cast; rfl
    obtain ⟨M, hM⟩ : ∃ M, M = (H + 1) % E := ⟨_, rfl⟩
    have hMl : M < E := hM ▸ Nat.mod_lt _ (by omega)
    rw [← hM] at hem hnx
    have hem2 : IntKind.i64.wrap ((((H : Int) + 1)) % (E : Int)) = (M : Int) := by
      rw [← Int.tmod_eq_emod_of_nonneg (by omega), hem]; exact wrap64 (by omega) (by omega)
    have hem3 : IntKind.i64.wrap ((((H : Int) + 1)).tmod (E : Int)) = (M : Int) := by
      rw [hem]; exact wrap64 (by omega) (by omega)
    have hEb : ((E : Int) == 0) = false := by simp; omega
    simp [hEb, hE0, o5, ohH, osegBits, St.seg, hw1, o1, tev, hem2, hem3]
    by_cases hM0 : M = 0
    · rw [if_neg (by omega)] at hnx
      rw [hnx]
      have htb : (((H : Int) + 1).tmod (E : Int) != 0) = false := by rw [hem, hM0]; rfl
      have hl0 := w.ne
      have hmn1 : foldV min2V (.int .i64 (i : Nat)) [.int .i64 ((l.length : Int) - 1)] = some (.int .i64 (i : Nat)) := by
        simp only [foldV, min2V, if_true, Option.bind_some]
        congr 2
        split <;> omega
      have hmx1 : foldV max2V (.int .i64 0) [.int .i64 (i : Nat)] = some (.int .i64 (i : Nat)) := by
        simp only [foldV, max2V, if_true, Option.bind_some]
        congr 2
        split <;> omega
      obtain ⟨K, hK⟩ : ∃ K, K = H + 1 - E := ⟨_, rfl⟩
      rw [← hK]
      have hmx2 : foldV max2V (.int .i64 0) [.int .i64 ((H : Int) + 1 - (E : Int))] = some (.int .i64 (K : Nat)) := by
        simp only [foldV, max2V, if_true, Option.bind_some]
        congr 2
        split <;> omega
      have hw2 : IntKind.i64.wrap ((l.length : Int) - 1) = (l.length : Int) - 1 := wrap64 (by omega) (by omega)
      have hw3 : IntKind.i64.wrap ((H : Int) + 1 - (E : Int)) = (H : Int) + 1 - (E : Int) := wrap64 (by omega) (by omega)
      have hKh : K ≤ hgt l i := by omega
      have hal := w.anc_lt (i := i) (h := K) hi
      obtain ⟨A, hA⟩ : ∃ A, A = anc l i K := ⟨_, rfl⟩
      have ea : ancI l i K = (A : Nat) := by
        have h1 : ¬ l.length ≤ i := by omega
        have h2 : ¬ hgt l i < K := by omega
        have h3 : ¬ ((i : Int) < 0) := by omega
        have h4 : ¬ ((K : Int) < 0) := by omega
        simp [ancI, h1, h2, h3, h4, hA]
      rw [← hA] at hal ⊢
      have TR1 : TreeR tid r l st1 := ⟨sid, mid, spare, es, ht⟩
      have o2 := ht.rows
      simp [htb, St.seg, o1, o5, tree_seg74, tev, ohH, hw1, hw2, hw3, hmn1, hmx1, hmx2]
      refine ⟨_, spec158 ok TR1 w i K, ?_⟩
      rw [ea]
      have hall := nd_all (spare := spare) hal
      rw [← nd_at hal] at hall
      simp [o2, hal, hall, St.seg]
      intro i6 h6
      have S := S.new h6 (.cells (eNd nd0))
      simp [storeS, eNd_len, hsp]
      have S := S.setAt (.cells (eNd (nd l A))) 0 rfl
      simp at S
      generalize st1.upd i6 _ = st2 at S ⊢
      have ht := h.sub (S.was' (st0 := st) (by simp))
      have o1 := ht.top
      simp [St.seg, o1, tree_limit]
      refine (spec135 okh st2 r.limit).mono ?_
      rintro v st2 ⟨rfl, rfl⟩
      obtain ⟨hA1, hA2⟩ := tgtR_get r.limit
      rw [hA1]
      have hlim : (natU ((tgt r.limit).getD 0)).toNat = limitN r := hA2
      obtain ⟨T, hT⟩ : ∃ T, T = natU ((tgt r.limit).getD 0) := ⟨_, rfl⟩
      rw [← hT] at hlim ⊢
      have hspU : ∀ x y : U, spliceV (eU x) 0 (eU y) = eU y := fun _ _ => rfl
      simp
      intro i7 h7
      have S := S.new h7 (.cells (eU 0#256))
      simp [storeS, nU, eU_len, hspU]
      have S := S.setAt (.cells (eU T)) 0 rfl
      simp at S
      generalize st2.upd i7 _ = st3 at S ⊢
      have hs3 := S.was' (st0 := st) (by simp)
      have ht := h.sub hs3
      have o1 := ht.top
      have o7 := S.get
      have o6 := S.mem (i := i6) (o := .cells (eNd (nd l A))) (by simp)
      have o5 := S.mem (i := i5) (o := .cells (eNd x)) (by simp)
      have tsp := tree_spacing r (.hsl sid 0 108 l.length) (.map (some mid))
      obtain ⟨SP, hSP⟩ : ∃ n : Nat, r.spacing = n := ⟨r.spacing.toNat, by omega⟩
      rw [hSP] at tsp
      have hm : E * SP ≤ 1000 * 1048576 := Nat.mul_le_mul (by omega) (by omega)
      obtain ⟨Q, hQ⟩ : ∃ n : Int, n = (E : Int) * (SP : Int) := ⟨_, rfl⟩
      have hQb : 0 ≤ Q ∧ Q ≤ 1000 * 1048576 := by
        have : Q = ((E * SP : Nat) : Int) := by rw [hQ]; push_cast; rfl
        omega
      have hw4 : IntKind.i64.wrap Q = Q := wrap64 (by omega) (by omega)
      have hx1 := x.hdr.time.isLt
      have hx2 := (nd l A).hdr.time.isLt
      have hw5 : IntKind.i64.wrap ((x.hdr.time.toNat : Int) - ((nd l A).hdr.time.toNat : Int)) = (x.hdr.time.toNat : Int) - ((nd l A).hdr.time.toNat : Int) := wrap64 (by omega) (by omega)
      simp [St.seg, o1, o5, o6, o7, osegBits, osegTime, tev, tsp, segU, hw5, ← hQ, hw4]
      refine (spec138 okh st3 x.hdr.bits _ Q T (by omega)).mono ?_
      rintro v st3 ⟨rfl, rfl⟩
      rw [hE, hSP, ← hQ, hlim]
      unfold nextR
      cases nextN x.hdr.bits ((x.hdr.time.toNat : Int) - ((nd l A).hdr.time.toNat : Int)) Q (limitN r) <;> simp [hs3]
    · rw [if_pos (.inr hM0)] at hnx
      rw [hnx]
      have htb : (((H : Int) + 1).tmod (E : Int) != 0) = true := by rw [hem]; simp; omega
      simp [htb, o5, osegBits, St.seg, hs1]
set_option maxHeartbeats 1000000 in
theorem spec168 (ok : OkIndex P F) {st : St} {tid : Nat} {r : Rl} {l : List Nd} (h : TreeR tid r l st) (w : Wf l) (hl : l.length ≤ 16384) (hr : checkM r = 0) (x : Hdr) (p now : Int) : ACalls P (F 168) [.ptr (some (tid, 0)), .agg (eHdr x), .int .i64 p, .int .i64 now] st fun v st' => v = .int .i64 (fitsM r l x p now) ∧ st' = st := by
  have okh := ok.toOkHead
  obtain ⟨sid, mid, spare, es, h⟩ := h
  refine shows_call ok.mixed ok.h168 (by simp [k168]) ?_
  simp only [k168]
  simp
  intro i5 h5
  have S := (Sep.start st).new h5 (.cells (eHdr x))
  generalize st.upd i5 _ = st1 at S ⊢
  have hs1 := S.was' (st0 := st) (by simp)
  have ht := h.sub hs1
  have o1 := ht.top
  have o2 := ht.rows
  have o5 := S.get
  have TR1 : TreeR tid r l st1 := ⟨sid, mid, spare, es, ht⟩
  by_cases h1 : p < 0
  · have e : fitsM r l x p now = 100 := by simp [fitsM, h1]
    simp [h1, e, hs1]
  · by_cases h2 : (l.length : Int) ≤ p
    · have e : fitsM r l x p now = 100 := by simp [fitsM, h2]
      simp [h1, h2, e, hs1, St.seg, o1, tree_seg74]
    · obtain ⟨n, rfl⟩ : ∃ n : Nat, p = n := ⟨p.toNat, by omega⟩
      have hn : n < l.length := by omega
      have h2' : ¬ l.length ≤ n := by omega
      simp [h1, h2', St.seg, o1, o5, tree_seg74, hsegAll, tree_limit]
      refine (spec142 okh st1 x r.limit).mono ?_
      rintro v st1 ⟨rfl, rfl⟩
      obtain ⟨pv, hpv⟩ : ∃ pv, pv = provedN x r.limit := ⟨_, rfl⟩
      rw [← hpv]
      by_cases hp : pv = 0
      · subst hp
        simp [St.seg, o1, o2, tree_seg74, hn, nd_fail hn]
        cases hf : l[n].failed with
        | true =>
          have e : fitsM r l x n now = 101 := by
            simp [fitsM, h1, h2', ← hpv, nd_at hn, hf]
          simp [e, hs1]
        | false =>
          simp [St.seg, o5, hsegBits]
          refine ⟨_, spec167 ok TR1 w hl hr hn, ?_⟩
          simp
          by_cases hb : x.bits = nextM r l n
          · have hbb : (x.bits != nextM r l n) = false := by simp [hb]
            simp [hbb, St.seg, o5, hsegTime]
            refine ⟨_, spec166 ok TR1 w hl n, ?_⟩
            rw [clI_of hn]
            simp
            by_cases hm : x.time ≤ medianM l n
            · have e : fitsM r l x n now = 102 := by
                simp [fitsM, h1, h2', ← hpv, nd_at hn, hf, hb, hm]
              simp [hm, e, hs1]
            · have htl := x.time.isLt
              have hw : IntKind.i64.wrap ((x.time.toNat : Int) - 7200) = (x.time.toNat : Int) - 7200 := wrap64 (by omega) (by omega)
              by_cases hnw : now < (x.time.toNat : Int) - 7200
              · have e : fitsM r l x n now = 103 := by
                  simp [fitsM, h1, h2', ← hpv, nd_at hn, hf, hb, hm, hnw]
                simp [hm, St.seg, o5, hsegTime, hw, hnw, e, hs1]
              · have e : fitsM r l x n now = 0 := by
                  simp [fitsM, h1, h2', ← hpv, nd_at hn, hf, hb, hm, hnw]
                simp [hm, St.seg, o5, hsegTime, hw, hnw, e, hs1]
          · have hbb : (x.bits != nextM r l n) = true := by simp [hb]
            have e : fitsM r l x n now = 30 := by
              simp [fitsM, h1, h2', ← hpv, nd_at hn, hf, hb]
            simp [hbb, e, hs1]
      · have e : fitsM r l x n now = pv := by
          simp [fitsM, h1, h2', ← hpv, hp]
        have hpb : (pv != 0) = true := by simp [hp]
        simp [hpb, e, hs1]
end
end Go.Ab
set_option linter.unusedSimpArgs false
set_option linter.unusedVariables false
set_option maxRecDepth 10000
namespace Go.Ab
open Go Go.RowKit
theorem Wf.neNil {l : List Nd} (w : Wf l) : l ≠ [] := by
  have := w.ne
  rintro rfl
  simp at this
def setF (f : Nat → Bool) (l : List Nd) : List Nd := l.mapIdx fun j x => if f j then { x with failed := true } else x
section
variable {f : Nat → Bool} {l : List Nd}
@[simp] theorem setF_length : (setF f l).length = l.length := by simp [setF]
theorem setF_get {i : Nat} (hi : i < l.length) : (setF f l)[i]'(by simpa using hi) = if f i then { l[i] with failed := true } else l[i] := by simp [setF]
theorem setF_get? (i : Nat) : (setF f l)[i]? = (l[i]?).map fun x => if f i then { x with failed := true } else x := by simp [setF]
theorem setF_hgt (i : Nat) : hgt (setF f l) i = hgt l i := by
  unfold hgt
  rw [setF_get?]
  cases l[i]? with
  | none => rfl
  | some x => simp only [Option.map_some, Option.getD_some]; split <;> rfl
theorem setF_par (i : Nat) : par (setF f l) i = par l i := by
  unfold par
  rw [setF_get?]
  cases l[i]? with
  | none => rfl
  | some x => simp only [Option.map_some, Option.getD_some]; split <;> rfl
theorem setF_upN (n i : Nat) : upN (setF f l) n i = upN l n i := by
  induction n generalizing i with
  | zero => rfl
  | succ n ih => rw [upN, upN, setF_par, ih]
theorem setF_anc (i h : Nat) : anc (setF f l) i h = anc l i h := by rw [anc, anc, setF_hgt, setF_upN]
theorem setF_ancI (i h : Int) : ancI (setF f l) i h = ancI l i h := by simp [ancI, setF_hgt, setF_anc]
theorem setF_onB (i t : Int) : onB (setF f l) i t = onB l i t := by simp [onB, setF_hgt, setF_ancI]
theorem setF_wf (w : Wf l) : Wf (setF f l) := by
  refine ⟨by simpa using w.ne, fun x hx => ?_, fun i x hi hx => ?_, fun i x hi hx => ?_⟩
  · rw [setF_get?] at hx
    cases h : l[0]? with
    | none => rw [h] at hx; cases hx
    | some y =>
      rw [h] at hx
      have := w.zero y h
      simp at hx
      rw [← hx]
      split <;> exact this
  · rw [setF_get?] at hx
    cases h : l[i]? with
    | none => rw [h] at hx; cases hx
    | some y =>
      rw [h] at hx
      have := w.succ i y hi h
      simp at hx
      rw [← hx, setF_hgt]
      split <;> exact this
  · rw [setF_get?] at hx
    cases h : l[i]? with
    | none => rw [h] at hx; cases hx
    | some y =>
      rw [h] at hx
      have := w.skip i y hi h
      simp at hx
      rw [← hx, setF_anc]
      split <;> exact this
theorem setF_find (id : Id) : findM (setF f l) id = findM l id := by
  have : ∀ (l : List Nd) (f : Nat → Bool), findM (setF f l) id = findM l id := by
    intro l
    induction l with
    | nil => intro f; rfl
    | cons x l ih =>
      intro f
      have e : setF f (x :: l) = (if f 0 then { x with failed := true } else x) :: setF (fun j => f (j + 1)) l := by simp [setF, List.mapIdx_cons]
      rw [e, findM, findM, ih]
      split
      · rfl
      · split <;> rfl
  exact this l f
theorem setF_set {f : Nat → Bool} {l : List Nd} {k : Nat} (hk : k < l.length) {g : Nat → Bool} (hg : ∀ j, g j = (f j || (j == k))) : (setF f l).set k { (setF f l)[k]'(by simpa using hk) with failed := true } = setF g l := by
  apply List.ext_getElem?
  intro i
  rw [List.getElem?_set, setF_get?, setF_get?]
  by_cases e : k = i
  · subst e
    simp only [if_true, setF_length, hk, setF_get hk, hg, List.getElem?_eq_getElem hk, Option.map_some, beq_self_eq_true, Bool.or_true]
    split <;> rfl
  · have : (i == k) = false := by simp; omega
    simp [e, hg, this]
theorem setF_none : setF (fun _ => false) l = l := by
  apply List.ext_getElem?
  intro i
  rw [setF_get?]
  cases l[i]? <;> rfl
end
def failM (l : List Nd) (i : Int) : List Nd × Nat :=
  if i < 1 ∨ (l.length : Int) ≤ i then (l, 0)
  else (setF (fun k => onB l i k) l, ((List.range l.length).filter fun (k : Nat) => onB l i k && !(nd l k).failed).length)
def failTo (l : List Nd) (i : Int) (k : Nat) : List Nd := setF (fun j => decide (j < k) && onB l i j) l
def failN (l : List Nd) (i : Int) (k : Nat) : Nat := ((List.range k).filter fun (k : Nat) => onB l i k && !(nd l k).failed).length
theorem onB_self {l : List Nd} {i : Nat} (hi : i < l.length) : onB l i i = true := by
  have h1 : ¬ l.length ≤ i := by omega
  have h3 : ¬ ((i : Int) < 0) := by omega
  have h4 : ¬ ((hgt l i : Int) < 0) := by omega
  simp [onB, hi, ancI, h1, h3, h4, anc_self]
theorem onB_nat {l : List Nd} {i k : Nat} (hi : i < l.length) (hk : k < l.length) : onB l i k = decide (hgt l i ≤ hgt l k ∧ anc l k (hgt l i) = i) := by
  have h1 : ¬ l.length ≤ k := by omega
  have h3 : ¬ ((k : Int) < 0) := by omega
  have h4 : ¬ ((hgt l i : Int) < 0) := by omega
  by_cases h : hgt l i ≤ hgt l k
  · have h2 : ¬ hgt l k < hgt l i := by omega
    simp [onB, hi, ancI, h1, h2, h3, h4, h]
    rw [Bool.eq_iff_iff]; simp; omega
  · have h2 : hgt l k < hgt l i := by omega
    have : ¬ ((-1 : Int) = i) := by omega
    simp [onB, hi, ancI, h1, h2, h3, h4, h, this]
theorem onB_lt {l : List Nd} (w : Wf l) {i k : Nat} (hi : i < l.length) (hk : k < i) : onB l i k = false := by
  rw [onB_nat hi (by omega)]
  have := w.anc_le (i := k) (h := hgt l i) (by omega)
  simp; omega
theorem onB_par {l : List Nd} (w : Wf l) {i k : Nat} (hi : i < k) (hk : k < l.length) (h : onB l i k = true) : (i : Int) ≤ l[k].parent := by
  rw [onB_nat (by omega) hk] at h
  simp at h
  have hp := w.succ k _ (by omega) (List.getElem?_eq_getElem hk)
  by_cases e : hgt l i < hgt l k
  · have h2 := w.anc_par hk e
    have := w.anc_le (i := par l k) (h := hgt l i) (by have := w.par_lt (i := k) (by omega) hk; omega)
    have e2 := par_at hk
    omega
  · have : hgt l i = hgt l k := by omega
    rw [this, anc_self] at h
    omega
theorem failTo_start {l : List Nd} (w : Wf l) {n : Nat} (hn : n < l.length) : failTo l n n = l := by
  unfold failTo
  have : (fun j => decide (j < n) && onB l n (j : Nat)) = fun _ => false := by
    funext j
    by_cases h : j < n
    · simp [h, onB_lt w hn h]
    · simp [h]
  rw [this, setF_none]
theorem failTo_get {l : List Nd} {n : Int} {k : Nat} (hk : k < l.length) : (failTo l n k)[k]'(by simpa [failTo] using hk) = l[k] := by
  simp [failTo, setF_get hk]
theorem failTo_length (l : List Nd) (n : Int) (k : Nat) : (failTo l n k).length = l.length := by simp [failTo]
theorem failTo_on {l : List Nd} {n k : Nat} (hk : k < l.length) (h : onB l n k = true) : (failTo l n k).set k { l[k] with failed := true } = failTo l n (k + 1) := by
  have := setF_set (f := fun j => decide (j < k) && onB l n (j : Nat)) hk (g := fun j => decide (j < k + 1) && onB l n (j : Nat)) (fun j => by
    by_cases e : j = k
    · subst e; simp [h]
    · by_cases e2 : j < k
      · simp [e2, e, show j < k + 1 by omega]
      · simp [e2, e, show ¬ j < k + 1 by omega])
  have e := failTo_get (n := (n : Int)) hk
  unfold failTo at e ⊢
  rw [e] at this
  exact this
theorem failTo_off {l : List Nd} {n k : Nat} (hk : k < l.length) (h : onB l n k = false ∨ l[k].failed = true) : failTo l n (k + 1) = failTo l n k := by
  apply List.ext_getElem?
  intro j
  unfold failTo
  rw [setF_get?, setF_get?]
  by_cases e : j = k
  · subst e
    rw [List.getElem?_eq_getElem hk]
    rcases h with h | h
    · simp [h]
    · simp only [Option.map_some]
      have : { l[j] with failed := true } = l[j] := by
        cases hx : l[j]; rw [hx] at h; simp at h; rw [h]
      rw [this]
      simp
  · have : decide (j < k + 1) = decide (j < k) := by
      rw [decide_eq_decide]; omega
    rw [this]
theorem failN_start {l : List Nd} (w : Wf l) {n : Nat} (hn : n < l.length) : failN l n n = 0 := by
  unfold failN
  rw [List.length_eq_zero_iff, List.filter_eq_nil_iff]
  intro k hk
  simp at hk
  simp [onB_lt w hn hk]
theorem failN_succ {l : List Nd} {n k : Nat} (hk : k < l.length) : failN l n (k + 1) = failN l n k + if onB l n k = true ∧ l[k].failed = false then 1 else 0 := by
  unfold failN
  rw [List.range_succ, List.filter_append, List.length_append]
  congr 1
  have e := nd_at hk
  by_cases h1 : onB l n k = true
  · cases h2 : l[k].failed <;> simp [h1, h2, e]
  · simp [h1]
theorem failN_le (l : List Nd) (n : Int) (k : Nat) : failN l n k ≤ k := by
  unfold failN
  have := List.length_filter_le (fun (k : Nat) => onB l n k && !(nd l k).failed) (List.range k)
  simpa using this
section
variable {P : Program} {F : Fn}
set_option maxHeartbeats 1000000 in
theorem spec169 (ok : OkIndex P F) {g : St} {tid : Nat} {r : Rl} {l : List Nd} (T : TreeS tid r l g) (w : Wf l) (hl : l.length ≤ 16384) (hr : checkM r = 0) (x : Hdr) (now : Int) :
    ACalls P (F 169) [.ptr (some (tid, 0)), .agg (eHdr x), .int .i64 now] g fun v st' => v = .tup [.int .i64 (addM r l x now).2.1, .int .i64 (addM r l x now).2.2] ∧ TreeS tid r (addM r l x now).1 st' := by
  have okh := ok.toOkHead
  refine shows_call ok.mixed ok.h169 (by simp [k169]) ?_
  simp only [k169]
  simp
  intro i4 h4
  have S := (Sep.one T).new h4 (.cells (eHdr x))
  generalize g.upd i4 _ = st1 at S ⊢
  have TR := S.swap.treeR w.neNil
  obtain ⟨sid, mid, spare, es, ht⟩ := id TR
  have o1 := ht.top
  have o4 := S.get
  have hfin : ∃ s, St.sub s st1 ∧ TreeS tid r l s := by
    obtain ⟨h', k1, k2⟩ := S.swap.part
    exact ⟨h', k1, k2⟩
  have hlk := fun k => lookup_lk keyed_id (ev := kInt) ht.by_ (.int .i64 0) k
  simp only [ht.look, kId] at hlk
  simp [St.seg, o1, o4, tree_seg75, hsegAll]
  refine ⟨_, spec141 okh st1 x, ?_⟩
  simp [hlk]
  cases hf : findM l (hId x) with
  | some i =>
    have e : addM r l x now = (l, (i : Int), 5) := by simp [addM, hf]
    simp [e, kInt, hfin]
  | none =>
    simp [St.seg, o1, o4, tree_seg75, hsegPrev, hlk, kInt]
    cases hf2 : findM l x.prev with
    | none =>
      have e : addM r l x now = (l, -1, 100) := by simp [addM, hf, hf2]
      simp [e, hfin]
    | some p =>
      have hp := findM_lt hf2
      simp [St.seg, o4, hsegAll]
      refine (spec168 ok TR w hl hr x p now).mono ?_
      rintro v st1 ⟨rfl, rfl⟩
      obtain ⟨fv, hfv⟩ : ∃ fv, fv = fitsM r l x p now := ⟨_, rfl⟩
      rw [← hfv]
      by_cases hz : fv = 0
      · subst hz
        simp [St.seg, o1, tree_seg74]
        by_cases hfull : l.length = 16384
        · have e : addM r l x now = (l, -1, 3) := by simp [addM, hf, hf2, ← hfv, hfull]
          have hb : ((l.length : Int) == 16384) = true := by simp [hfull]
          simp [hb, e, hfin]
        · have e : addM r l x now = (l ++ [ndOf l x p], (l.length : Int), 0) := by simp [addM, hf, hf2, ← hfv, hfull]
          have hb : ((l.length : Int) == 16384) = false := by simp; omega
          simp [hb, e, St.seg, o4, hsegAll]
          have hpi : (p : Int) = -1 ∨ (0 ≤ (p : Int) ∧ (p : Int) < l.length) := by omega
          have hpm : putM l x p = ndOf l x p := by simp [putM]; omega
          refine (Sep.call S.swap (fun h hh => spec156 ok hh (fun _ => w) hl x p hpi)).mono ?_
          intro v st2 S2
          obtain ⟨h', k1, rfl, k2⟩ := S2.part
          rw [hpm] at k2
          simp
          exact ⟨h', k1, k2⟩
      · have e : addM r l x now = (l, -1, fv) := by simp [addM, hf, hf2, ← hfv, hz]
        have hb : (fv != 0) = true := by simp [hz]
        simp [hb, e, hfin]
set_option maxHeartbeats 1000000 in
theorem spec170 (ok : OkIndex P F) {g : St} {tid : Nat} {r : Rl} {l : List Nd} (T : TreeS tid r l g) (w : Wf l) (hl : l.length ≤ 16384) (i : Int) :
    ACalls P (F 170) [.ptr (some (tid, 0)), .int .i64 i] g fun v st' => v = .int .i64 ((failM l i).2 : Nat) ∧ TreeS tid r (failM l i).1 st' := by
  refine shows_call ok.mixed ok.h170 (by simp [k170]) ?_
  simp only [k170]
  have TR := T.toR w.neNil
  obtain ⟨sid0, mid0, spare0, es0, ht⟩ := id TR
  have o1 := ht.top
  have hfin : ∃ s, St.sub s g ∧ TreeS tid r l s := ⟨g, sub_self _, T⟩
  by_cases h1 : i < 1
  · have e : failM l i = (l, 0) := by simp [failM, h1]
    simp [h1, e, hfin]
  · by_cases h2 : (l.length : Int) ≤ i
    · have e : failM l i = (l, 0) := by simp [failM, h2]
      simp [h1, h2, St.seg, o1, tree_seg74, e, hfin]
    · obtain ⟨n, rfl⟩ : ∃ n : Nat, i = n := ⟨i.toNat, by omega⟩
      have hn : n < l.length := by omega
      have h2' : ¬ l.length ≤ n := by omega
      have e : failM l n = (failTo l n l.length, failN l n l.length) := by
        unfold failM failTo failN
        rw [if_neg (by omega)]
        congr 1
        apply List.ext_getElem?
        intro k
        rw [setF_get?, setF_get?]
        cases h : l[k]? with
        | none => rfl
        | some x =>
          have := (List.getElem?_eq_some_iff.1 h).1
          simp [this]
      rw [e]
      simp [h1, h2', St.seg, o1, tree_seg74]
      clear ht o1 e hfin TR
      obtain ⟨s, mid, es, S, hlk⟩ := T
      obtain ⟨sid, spare, rfl, hsp1, S⟩ := S.slObj w.neNil
      refine vc_loopJ (fun c env' st' => ∃ k : Nat, n ≤ k ∧ k ≤ l.length ∧ c = l.length - k ∧ env' 6 = .int .i64 (k : Nat) ∧ env' 5 = .int .i64 (failN l n k : Nat) ∧ Sep [pt sid (.cells (rowsOf eNd (failTo l n k) ++ spare)), pt tid (.cells (eRl r ++ [.hsl sid 0 108 l.length, .map (some mid)])), pt mid (.mp (encM kId kInt es))] st') (l.length - n)
        ⟨n, Nat.le_refl _, by omega, rfl, by simp, by simp [failN_start w hn], by rw [failTo_start w hn]; exact S⟩ ?_
      clear S
      rintro J hJ c env' st2 hsame ⟨k, hnk, hkl, rfl, g6, g5, S⟩
      have g0 := hsame.get 0 rfl
      have g1 := hsame.get 1 rfl
      simp at g0 g1
      clear hsame
      have o1 := S.mem (i := tid) (o := .cells (eRl r ++ [.hsl sid 0 108 l.length, .map (some mid)])) (by simp)
      have o2 := S.get
      have hfl := failTo_length l n k
      have hlk' : ∀ id, lk id es = (findM (failTo l n k) id).map fun (i : Nat) => (i : Int) := fun id => by rw [hlk]; unfold failTo; rw [setF_find]
      have TR : TreeR tid r (failTo l n k) st2 := ⟨sid, mid, spare, es, by rw [hfl]; exact o1, o2, S.mem (i := mid) (by simp), hsp1, hlk'⟩
      have wk : Wf (failTo l n k) := setF_wf w
      by_cases hlt : k < l.length
      · have hkf : k < (failTo l n k).length := by rw [hfl]; exact hlt
        have ek := failTo_get (n := (n : Int)) hlt
        have s1 := nd_fail (spare := spare) hkf
        have s2 := nd_par (spare := spare) hkf
        rw [ek] at s1 s2
        have hsucc := failN_succ (n := n) hlt
        have hle := failN_le l n k
        have hw6 : IntKind.i64.wrap ((k : Int) + 1) = (k : Int) + 1 := wrap64 (by omega) (by omega)
        have hw5 : IntKind.i64.wrap ((failN l n k : Int) + 1) = (failN l n k : Int) + 1 := wrap64 (by omega) (by omega)
        have hoff : (onB l n k = false ∨ l[k].failed = true) → J (l.length - (k + 1)) = J (l.length - (k + 1)) ∧ failTo l n (k + 1) = failTo l n k ∧ failN l n (k + 1) = failN l n k := by
          intro h
          refine ⟨rfl, failTo_off hlt h, ?_⟩
          rw [hsucc]
          rcases h with h | h <;> simp [h]
        have honB : ∀ t : Int, onB (failTo l n k) (n : Nat) t = onB l n t := fun t => setF_onB _ _
        have hrows := rowsOf_length eNd_len (failTo l n k)
        have p1 := rowsOf_splice eNd_len (failTo l n k) spare hkf (o := 107) (vs := [.bool true]) (by simp) (a := { l[k] with failed := true }) (by rw [ek, spl_fail])
        have hst : storeS st2 1 (.ptr (some (sid, k * 108 + 107))) (.bool true) = some (st2.upd sid (.cells (rowsOf eNd ((failTo l n k).set k { l[k] with failed := true }) ++ spare))) := by
          simp only [storeS, o2, cells_bool]
          rw [if_pos (by rw [List.length_append, hrows, hfl]; simp; omega), p1]
        cases hf : l[k].failed with
        | true =>
          obtain ⟨-, e1, e2⟩ := hoff (.inr hf)
          rw [hf] at s1
          simp [g0, g1, g6, hlt, St.seg, o1, o2, tree_seg74, s1, hw6]
          exact Round.mk (l.length - (k + 1)) _ (by omega) (sub_self _) (hJ _ _ _ ⟨k + 1, by omega, by omega, rfl, by simp, by simp [e2, g5], by rw [e1]; exact S⟩)
        | false =>
          rw [hf] at s1
          have hon : onB l n k = true → Sep [pt sid (.cells (rowsOf eNd (failTo l n (k + 1)) ++ spare)), pt tid (.cells (eRl r ++ [.hsl sid 0 108 l.length, .map (some mid)])), pt mid (.mp (encM kId kInt es))] (st2.upd sid (.cells (rowsOf eNd ((failTo l n k).set k { l[k] with failed := true }) ++ spare))) ∧ failN l n (k + 1) = failN l n k + 1 := by
            intro h
            refine ⟨?_, by rw [hsucc]; simp [h, hf]⟩
            rw [← failTo_on hlt h]
            exact S.set _
          by_cases hkn : k = n
          · obtain ⟨S2, e2⟩ := hon (by rw [hkn]; exact onB_self hn)
            have hb : ((k : Int) == (n : Int)) = true := by simp [hkn]
            simp [g0, g1, g6, hlt, St.seg, o1, o2, tree_seg74, s1, hw6, hb, hst, g5, hw5]
            exact Round.mk (l.length - (k + 1)) _ (by omega) (sub_self _) (hJ _ _ _ ⟨k + 1, by omega, by omega, rfl, by simp, by simp [e2], S2⟩)
          · have hb : ((k : Int) == (n : Int)) = false := by simp; omega
            by_cases hpar : (n : Int) ≤ l[k].parent
            · simp [g0, g1, g6, hlt, St.seg, o1, o2, tree_seg74, s1, s2, hw6, hb, hpar]
              refine (spec163 ok TR wk n k).mono ?_
              rintro v st2 ⟨rfl, rfl⟩
              rw [honB]
              cases hbn : onB l n k with
              | true =>
                obtain ⟨S2, e2⟩ := hon hbn
                simp [hst, g5, g6, hw5, hw6]
                exact Round.mk (l.length - (k + 1)) _ (by omega) (sub_self _) (hJ _ _ _ ⟨k + 1, by omega, by omega, rfl, by simp, by simp [e2], S2⟩)
              | false =>
                obtain ⟨-, e1, e2⟩ := hoff (.inl hbn)
                simp [g6, hw6]
                exact Round.mk (l.length - (k + 1)) _ (by omega) (sub_self _) (hJ _ _ _ ⟨k + 1, by omega, by omega, rfl, by simp, by simp [e2, g5], by rw [e1]; exact S⟩)
            · have hbn : onB l n k = false := by
                cases h : onB l n k with
                | false => rfl
                | true => exact absurd (onB_par w (by omega) hlt h) hpar
              obtain ⟨-, e1, e2⟩ := hoff (.inl hbn)
              simp [g0, g1, g6, hlt, St.seg, o1, o2, tree_seg74, s1, s2, hw6, hb, hpar]
              exact Round.mk (l.length - (k + 1)) _ (by omega) (sub_self _) (hJ _ _ _ ⟨k + 1, by omega, by omega, rfl, by simp, by simp [e2, g5], by rw [e1]; exact S⟩)
      · have hkl' : k = l.length := by omega
        subst hkl'
        simp [g0, g6, g5, St.seg, o1, tree_seg74]
        have hS := Sep.ofObj S hsp1
        rw [hfl] at hS
        refine ⟨_, sub_self _, _, mid, es, hS, hlk'⟩
end
end Go.Ab
set_option linter.unusedSimpArgs false
set_option linter.unusedVariables false
set_option maxRecDepth 10000
namespace Go.Ab
open Go Go.RowKit
theorem eRl_drop5 (r : Rl) : (eRl r).drop 5 = eHdr r.gen ++ [r.txs] := rfl
theorem rseg (r : Rl) {o n : Nat} {ys : List V} (h : ((eRl r).drop o).take n = ys) (hl : o + n ≤ 74) : segOf (eRl r) o n = some ys := by
  unfold segOf
  rw [if_pos (by rw [eRl_len]; exact hl), h]
theorem rsegLimit (r : Rl) : segOf (eRl r) 0 1 = some [w32 r.limit] := rseg r rfl (by omega)
theorem rsegEvery (r : Rl) : segOf (eRl r) 1 1 = some [.int .i64 r.every] := rseg r rfl (by omega)
theorem rsegSpacing (r : Rl) : segOf (eRl r) 2 1 = some [.int .i64 r.spacing] := rseg r rfl (by omega)
theorem rsegSubsidy (r : Rl) : segOf (eRl r) 3 1 = some [.int .i64 r.subsidy] := rseg r rfl (by omega)
theorem rsegWork (r : Rl) : segOf (eRl r) 4 1 = some [.int .i64 r.work] := rseg r rfl (by omega)
theorem rsegBits (r : Rl) : segOf (eRl r) 71 1 = some [w32 r.gen.bits] := rseg r (by
  rw [show 71 = 5 + 66 from rfl, ← List.drop_drop, eRl_drop5, List.drop_append_of_le_length (by rw [eHdr_len]; omega), hdrop66]; rfl) (by omega)
theorem rsegGen (r : Rl) : segOf (eRl r) 5 68 = some (eHdr r.gen) := rseg r (by
  rw [eRl_drop5, ← eHdr_len r.gen, List.take_left]) (by omega)
theorem rsegAll (r : Rl) : segOf (eRl r) 0 74 = some (eRl r) := rseg r (by rw [List.drop_zero, ← eRl_len r, List.take_length]) (by omega)
section
variable {P : Program} {F : Fn}
set_option maxHeartbeats 1000000 in
theorem spec154 (ok : OkIndex P F) (st : St) (r : Rl) : ACalls P (F 154) [.agg (eRl r)] st fun v st' => v = .int .i64 (checkM r) ∧ st' = st := by
  have okh := ok.toOkHead
  refine shows_call ok.mixed ok.h154 (by simp [k154]) ?_
  simp only [k154, eU_zero0]
  simp
  intro i1 h1
  have S := (Sep.start st).new h1 (.cells (eRl r))
  generalize st.upd i1 _ = st1 at S ⊢
  have o1 := S.get
  simp [St.seg, o1, rsegLimit]
  refine (spec135 okh st1 r.limit).mono ?_
  rintro v st1 ⟨rfl, rfl⟩
  obtain ⟨hA1, hA2⟩ := tgtR_get r.limit
  rw [hA1]
  have hspU : ∀ x y : U, spliceV (eU x) 0 (eU y) = eU y := fun _ _ => rfl
  simp
  intro i3 h3
  have S := S.new h3 (.cells (eU 0#256))
  simp [storeS, nU, eU_len, hspU]
  have S := S.setAt (.cells (eU (natU ((tgt r.limit).getD 0)))) 0 rfl
  simp at S
  generalize st1.upd i3 _ = st2 at S ⊢
  have o1 := S.mem (i := i1) (o := .cells (eRl r)) (by simp)
  have hs := S.was' (st0 := st) (by simp)
  cases ht : tgt r.limit with
  | none =>
    have e : checkM r = 30 := by simp [checkM, ht]
    simp [e, hs]
  | some T =>
    by_cases hb : r.gen.bits = r.limit
    · have hbb : (r.gen.bits != r.limit) = false := by simp [hb]
      by_cases c0 : r.every < 0
      · have e : checkM r = 1 := by simp [checkM, ht, hb, c0]
        simp [hbb, e, c0, St.seg, o1, rsegLimit, rsegEvery, rsegSpacing, rsegSubsidy, rsegWork, rsegBits, hs]
      by_cases c1 : 1000 < r.every
      · have e : checkM r = 1 := by simp [checkM, ht, hb, c1]
        simp [hbb, e, c0, c1, St.seg, o1, rsegLimit, rsegEvery, rsegSpacing, rsegSubsidy, rsegWork, rsegBits, hs]
      by_cases c2 : r.spacing < 1
      · have e : checkM r = 1 := by simp [checkM, ht, hb, c2]
        simp [hbb, e, c0, c1, c2, St.seg, o1, rsegLimit, rsegEvery, rsegSpacing, rsegSubsidy, rsegWork, rsegBits, hs]
      by_cases c3 : 1048576 < r.spacing
      · have e : checkM r = 1 := by simp [checkM, ht, hb, c3]
        simp [hbb, e, c0, c1, c2, c3, St.seg, o1, rsegLimit, rsegEvery, rsegSpacing, rsegSubsidy, rsegWork, rsegBits, hs]
      by_cases c4 : r.subsidy < 0
      · have e : checkM r = 1 := by simp [checkM, ht, hb, c4]
        simp [hbb, e, c0, c1, c2, c3, c4, St.seg, o1, rsegLimit, rsegEvery, rsegSpacing, rsegSubsidy, rsegWork, rsegBits, hs]
      by_cases c5 : 1125899906842624 < r.subsidy
      · have e : checkM r = 1 := by simp [checkM, ht, hb, c5]
        simp [hbb, e, c0, c1, c2, c3, c4, c5, St.seg, o1, rsegLimit, rsegEvery, rsegSpacing, rsegSubsidy, rsegWork, rsegBits, hs]
      by_cases c6 : r.work < 0
      · have e : checkM r = 1 := by simp [checkM, ht, hb, c6]
        simp [hbb, e, c0, c1, c2, c3, c4, c5, c6, St.seg, o1, rsegLimit, rsegEvery, rsegSpacing, rsegSubsidy, rsegWork, rsegBits, hs]
      by_cases c7 : 1000 < r.work
      · have e : checkM r = 1 := by simp [checkM, ht, hb, c7]
        simp [hbb, e, c0, c1, c2, c3, c4, c5, c6, c7, St.seg, o1, rsegLimit, rsegEvery, rsegSpacing, rsegSubsidy, rsegWork, rsegBits, hs]
      have e : checkM r = 0 := by simp [checkM, ht, hb, c0, c1, c2, c3, c4, c5, c6, c7]
      simp [hbb, e, c0, c1, c2, c3, c4, c5, c6, c7, St.seg, o1, rsegLimit, rsegEvery, rsegSpacing, rsegSubsidy, rsegWork, rsegBits, hs]
    · have hbb : (r.gen.bits != r.limit) = true := by simp [hb]
      have e : checkM r = 30 := by simp [checkM, hb]
      simp [hbb, e, St.seg, o1, rsegLimit, rsegBits, hs]
set_option maxHeartbeats 1000000 in
theorem spec155 (ok : OkIndex P F) (st : St) (r : Rl) : ACalls P (F 155) [.agg (eRl r)] st fun v st' =>
    if checkM r = 0 then ∃ tid, v = .tup [.ptr (some (tid, 0)), .int .i64 0] ∧ Sep [TreeS tid r (newM r), Was st] st' else v = .tup [.ptr none, .int .i64 (checkM r)] ∧ st' = st := by
  have okh := ok.toOkHead
  refine shows_call ok.mixed ok.h155 (by simp [k155]) ?_
  simp only [k155]
  simp
  intro i1 h1
  have S := (Sep.start st).new h1 (.cells (eRl r))
  generalize st.upd i1 _ = st1 at S ⊢
  have o1 := S.get
  have hs := S.was' (st0 := st) (by simp)
  simp [St.seg, o1, rsegAll]
  refine (spec154 ok st1 r).mono ?_
  rintro v st1 ⟨rfl, rfl⟩
  by_cases hc : checkM r = 0
  · simp [hc, St.seg, o1, rsegAll]
    intro i12 h12
    have S := S.new h12 (.mp [])
    generalize st1.upd i12 _ = st2 at S ⊢
    have hfl : fillV z76_2d2c [(0, 74, .agg (eRl r)), (75, 1, .map (some i12))] = some (eRl r ++ [.sl .nil [] 0, .map (some i12)]) := by
      have hz : z76_2d2c = z76_2d2c.take 74 ++ [.sl .nil [] 0, .map none] := rfl
      have hl : (z76_2d2c.take 74).length = 74 := rfl
      have e1 : spliceV z76_2d2c 0 (eRl r) = eRl r ++ [.sl .nil [] 0, .map none] := by
        unfold spliceV
        rw [List.take_zero, List.nil_append, Nat.zero_add, eRl_len]; rfl
      have e2 : spliceV (eRl r ++ [.sl .nil [] 0, .map none]) 75 [.map (some i12)] = eRl r ++ [.sl .nil [] 0, .map (some i12)] := by
        rw [show 75 = 74 + 1 from rfl, splice_right (eRl_len r)]; rfl
      have hz2 : z76_2d2c.length = 76 := rfl
      simp [fillV, eRl_len, hz2, e1, e2]
    simp [hfl]
    intro i14 h14
    have S := S.new h14 (.cells (eRl r ++ [.sl .nil [] 0, .map (some i12)]))
    generalize st2.upd i14 _ = st3 at S ⊢
    have o1 := S.mem (i := i1) (o := .cells (eRl r)) (by simp)
    have S := Sep.slNil (sz := 108) (f := eNd) S
    have S : Sep [All [Sl 108 eNd (.sl .nil [] 0) [], pt i14 (.cells (eRl r ++ [.sl .nil [] 0, .map (some i12)])), pt i12 (.mp [])], pt i1 (.cells (eRl r)), Was st] st3 := Sep.all (L1 := [_, _, _]) S
    have S : Sep [TreeS i14 r [], pt i1 (.cells (eRl r)), Was st] st3 := S.head fun h hh => ⟨_, i12, [], hh, fun k => rfl⟩
    simp [St.seg, o1, rsegGen]
    refine (Sep.call S (fun h hh => spec156 ok hh (fun h => absurd rfl h) (by simp) r.gen (-1) (.inl rfl))).mono ?_
    intro v st4 S
    have S := S.head (A' := TreeS i14 r (newM r)) fun h hh => hh.2
    simp
    exact ⟨_, sub_self _, Sep.tail (fun r hr => hr.drop) S⟩
  · have hcb : (checkM r != 0) = true := by simp [hc]
    simp [hc, hcb, hs]
end
end Go.Ab
set_option linter.unusedVariables false
namespace Go.Ab
open Go
end Go.Ab
set_option linter.unusedSimpArgs false
set_option linter.unusedVariables false
set_option maxRecDepth 10000
namespace Go.Ab
open Go Go.RowKit
def rowP (sz : Nat) (s : V) (i : Nat) : V := (idxSlV sz s (.int .i64 (i : Int))).getD .junk
def fldP (o : Nat) (p : V) : V := (fldAV o p).getD .junk
section
variable {α : Type} {f : α → List V} {sz : Nat}
theorem Rd.row (hf : ∀ a, (f a).length = sz) {s : V} {l : List α} {st : St} (h : Rd sz f s l st) {i : Nat} (hi : i < l.length) :
    idxSlV sz s (.int .i64 (i : Int)) = some (rowP sz s i) ∧ fldAV 0 (rowP sz s i) = some (rowP sz s i) ∧ ldCells st sz (rowP sz s i) = some (f l[i]) ∧
      ∀ o n, o + n ≤ sz → fldAV o (rowP sz s i) = some (fldP o (rowP sz s i)) ∧ ldCells st n (fldP o (rowP sz s i)) = some (((f l[i]).drop o).take n) := by
  have hli := hf l[i]
  rcases h with ⟨k, rfl⟩ | ⟨sid, off, rfl, hs⟩
  · have e : idxSlV sz (.sl k (rowsOf f l) l.length) (.int .i64 (i : Int)) = some (.eptr ((rowsOf f l).drop (i * sz))) := by simp [hi]
    have er : rowP sz (.sl k (rowsOf f l) l.length) i = .eptr ((rowsOf f l).drop (i * sz)) := by rw [rowP, e]; rfl
    have hd : (rowsOf f l).drop (i * sz) = f l[i] ++ rowsOf f (l.drop (i + 1)) := by
      rw [rowsOf_drop hf, List.drop_eq_getElem_cons hi, rowsOf_cons]
    rw [er]
    refine ⟨e, by simp, ?_, fun o n hon => ⟨by simp [fldP], ?_⟩⟩
    · rw [ld_eptr, rowsOf_eptr hf l hi]
    · simp only [fldP, fldAV, Option.getD_some, ld_eptr]
      unfold segOf
      rw [hd, if_pos (by simp; omega), List.drop_zero, List.drop_append_of_le_length (by omega), List.take_append_of_le_length (by simp; omega)]
  · have e : idxSlV sz (.hsl sid off sz l.length) (.int .i64 (i : Int)) = some (.ptr (some (sid, off + i * sz))) := by simp [hi]
    have er : rowP sz (.hsl sid off sz l.length) i = .ptr (some (sid, off + i * sz)) := by rw [rowP, e]; rfl
    have hrow : st.seg sid (off + i * sz) sz = some (f l[i]) := by
      rw [seg_at hs hi]
      have := rowsOf_row hf l [] hi
      rw [List.append_nil] at this
      rw [this]
    rw [er]
    refine ⟨e, by simp, by rw [ld_ptr, hrow], fun o n hon => ⟨by simp [fldP], ?_⟩⟩
    simp only [fldP, fldAV, Option.getD_some, ld_ptr]
    unfold St.seg at hrow ⊢
    have key : ∀ cs : List V, segOf cs (off + i * sz) sz = some (f l[i]) → segOf cs (off + i * sz + o) n = some (((f l[i]).drop o).take n) := fun cs hc => by
      unfold segOf at hc ⊢
      split at hc
      · rename_i hle
        have hx := Option.some.inj hc
        rw [if_pos (by omega), ← hx, List.drop_take, List.drop_drop, List.take_take, Nat.min_eq_left (by omega)]
      · cases hc
    split at hrow <;> first | exact key _ hrow | cases hrow
end
abbrev Rw := Nd × SK × List Bool
def eRw (r : Rw) : List V := eHdr r.1.hdr ++ (eId r.1.id ++ [.int .i64 r.1.parent, .int .i64 r.1.height, slK_ r.2.1 r.2.2, .bool r.1.failed])
def nds (l : List Rw) : List Nd := l.map (·.1)
@[simp] theorem nds_len (l : List Rw) : (nds l).length = l.length := by simp [nds]
def Okw (r : Rw) : Prop := valB r.2.2 = r.1.work ∧ r.2.2.length ≤ 512 + r.1.height
def Okws (l : List Rw) : Prop := ∀ r ∈ l, Okw r
abbrev RdN (s : V) (l : List Rw) (st : St) : Prop := Rd 104 eRw s l st
section
variable {P : Program} {F : Fn}
end
end Go.Ab
set_option linter.unusedSimpArgs false
set_option linter.unusedVariables false
namespace Go.Ab
open Go Go.RowKit
section
variable {s : List W32} (hs : ∀ (i j : Nat) (hi : i < s.length) (hj : j < s.length), i ≤ j → s[i] ≤ s[j])
include hs
end
end Go.Ab
set_option linter.unusedSimpArgs false
set_option linter.unusedVariables false
set_option maxRecDepth 10000
namespace Go.Ab
open Go Go.RowKit
section
variable {P : Program} {F : Fn}
end
end Go.Ab
set_option linter.unusedSimpArgs false
set_option linter.unusedVariables false
set_option maxRecDepth 10000
namespace Go.Ab
open Go Go.RowKit
section
variable {P : Program} {F : Fn}
end
end Go.Ab
set_option linter.unusedSimpArgs false
set_option linter.unusedVariables false
namespace Go.Ab
open Go Go.RowKit
def easyB : W32 := 545259519#32
def easyR : Rl := ⟨easyB, 0, 10, 50, 0, { hdr0 with bits := easyB }, .sl .nil [] 0⟩
end Go.Ab
set_option linter.unusedVariables false
namespace Go.Ab
open Go
end Go.Ab
set_option linter.unusedSimpArgs false
set_option linter.unusedVariables false
set_option maxRecDepth 10000
namespace Go.Ab
open Go Go.RowKit
theorem mineN_some {h : Hdr} {limit : W32} {n : Nat} {x : Hdr} (e : mineN h limit n = some x) : x.ver = h.ver ∧ x.prev = h.prev ∧ x.root = h.root ∧ x.time = h.time ∧ x.bits = h.bits ∧ provedN x limit = 0 := by
  induction n generalizing h with
  | zero => cases e
  | succ n ih =>
    unfold mineN at e
    split at e
    · cases e
      rename_i hp
      exact ⟨rfl, rfl, rfl, rfl, rfl, hp⟩
    · exact ih (h := { h with nonce := h.nonce + 1 }) e
theorem newM_wf (r : Rl) : Wf (newM r) := by
  refine ⟨by simp [newM], fun x h => ?_, fun i x h0 h => ?_, fun i x h0 h => ?_⟩
  · simp [newM] at h; rw [← h]; exact ⟨rfl, rfl⟩
  · have := (List.getElem?_eq_some_iff.1 h).1
    simp [newM] at this; omega
  · have := (List.getElem?_eq_some_iff.1 h).1
    simp [newM] at this; omega
theorem ndOf_wf {l : List Nd} (w : Wf l) {h : Hdr} {p : Nat} (hp : p < l.length) : Wf (l ++ [ndOf l h p]) := w.push hp rfl rfl rfl
theorem addM_cases (r : Rl) (l : List Nd) (h : Hdr) (now : Int) : (addM r l h now).1 = l ∧ (addM r l h now).2.2 ≠ 0 ∨ ∃ p, findM l h.prev = some p ∧ findM l (hId h) = none ∧ fitsM r l h p now = 0 ∧ l.length ≠ 16384 ∧ addM r l h now = (l ++ [ndOf l h p], (l.length : Int), 0) := by
  unfold addM
  cases h1 : findM l (hId h) with
  | some i => exact .inl ⟨rfl, by simp⟩
  | none =>
    cases h2 : findM l h.prev with
    | none => exact .inl ⟨rfl, by simp⟩
    | some p =>
      dsimp only
      by_cases h3 : fitsM r l h p now ≠ 0
      · rw [if_pos h3]; exact .inl ⟨rfl, h3⟩
      · rw [if_neg h3]
        by_cases h4 : l.length = 16384
        · rw [if_pos h4]; exact .inl ⟨rfl, by simp⟩
        · rw [if_neg h4]
          exact .inr ⟨p, rfl, rfl, by simpa using h3, h4, rfl⟩
theorem addM_ok {r : Rl} {l : List Nd} {h : Hdr} {now : Int} {p : Nat} (h1 : findM l (hId h) = none) (h2 : findM l h.prev = some p) (h3 : fitsM r l h p now = 0) (h4 : l.length ≠ 16384) : addM r l h now = (l ++ [ndOf l h p], (l.length : Int), 0) := by
  simp only [addM, h1, h2, h3, h4, if_false, ne_eq, not_true_eq_false]
theorem addM_twice {r : Rl} {l : List Nd} {h : Hdr} {now : Int} {i : Nat} (h1 : findM l (hId h) = some i) : addM r l h now = (l, (i : Int), 5) := by
  simp only [addM, h1]
theorem addM_wf {r : Rl} {l : List Nd} (w : Wf l) (hl : l.length ≤ 16384) (h : Hdr) (now : Int) : Wf (addM r l h now).1 ∧ (addM r l h now).1.length ≤ 16384 := by
  rcases addM_cases r l h now with ⟨e, _⟩ | ⟨p, h1, _, _, h2, e⟩
  · rw [e]; exact ⟨w, hl⟩
  · rw [e]
    exact ⟨ndOf_wf w (findM_lt h1), by simp; omega⟩
theorem median_one {l : List Nd} {i : Nat} (h : timesM l 11 i = [(nd l i).hdr.time]) : medianM l i = (nd l i).hdr.time := by
  unfold medianM middle32 sorted32
  rw [h]
  simp
theorem hspl_prev (h : Hdr) (p : Id) : spliceV (eHdr h) 1 (eId p) = eHdr { h with prev := p } := by
  have e : ∀ g : Hdr, eHdr g = [w32 g.ver] ++ (eId g.prev ++ (eId g.root ++ [w32 g.time, w32 g.bits, w32 g.nonce])) := fun g => rfl
  rw [e, show 1 = 1 + 0 from rfl, splice_right (n := 1) rfl]
  unfold spliceV
  rw [List.take_zero, List.nil_append, Nat.zero_add, show (eId p).length = (eId h.prev).length by rw [eId_len, eId_len], List.drop_left]; rfl
def eHpre65 (h : Hdr) : List V := w32 h.ver :: (eId h.prev ++ eId h.root)
theorem eHpre65_len (h : Hdr) : (eHpre65 h).length = 65 := by simp [eHpre65, eId_len]
theorem eHdr_pre65 (h : Hdr) : eHdr h = eHpre65 h ++ [w32 h.time, w32 h.bits, w32 h.nonce] := by simp [eHdr, eHpre65]
theorem hspl_time (h : Hdr) (x : W32) : spliceV (eHdr h) 65 [w32 x] = eHdr { h with time := x } := by
  rw [eHdr_pre65, show 65 = 65 + 0 from rfl, splice_right (eHpre65_len _), eHdr_pre65]; rfl
theorem hspl_bits (h : Hdr) (x : W32) : spliceV (eHdr h) 66 [w32 x] = eHdr { h with bits := x } := by
  rw [eHdr_pre65, show 66 = 65 + 1 from rfl, splice_right (eHpre65_len _), eHdr_pre65]; rfl
theorem build_h3 (p : Id) (t b : W32) : fillV (eHdr hdr0) [(1, 32, .agg (eId p)), (65, 1, w32 t), (66, 1, w32 b)] = some (eHdr { hdr0 with prev := p, time := t, bits := b }) := by
  simp [fillV, eHdr_len, eId_len, hspl_prev, hspl_time, hspl_bits]
section
variable {P : Program} {F : Fn} {tid : Nat} {r : Rl} {l : List Nd} {L : List Asn} {st : St}
theorem fldV_agg (ag : Bool) (o s : Nat) (cs : List V) : fldV ag o s (.agg cs) = (segOf cs o s).bind (packV ag) := rfl
theorem osegHdr (x : Nd) : segOf (eNd x) 0 68 = some (eHdr x.hdr) := seg_of_take (nsegHdr x) (by rw [eNd_len]; omega)
theorem mineR_get (h : Hdr) (limit : W32) (n : Nat) : mineR h limit n = .tup [.agg (eHdr ((mineN h limit n).getD hdr0)), .bool (mineN h limit n).isSome] := by
  unfold mineR
  cases mineN h limit n <;> rfl
def gen0 : Nd := ⟨easyR.gen, hId easyR.gen, -1, 0, 0, workN ((tgt easyB).getD 0), false⟩
theorem easy_next {l : List Nd} {i : Nat} : nextM easyR l i = (nd l i).hdr.bits := by simp [nextM, easyR]
end
end Go.Ab
set_option linter.unusedSimpArgs false
set_option linter.unusedVariables false
set_option maxRecDepth 10000
namespace Go.Ab
open Go Go.RowKit
def rw0 : Rw := (⟨hdr0, id0, 0, 0, 0, 0, false⟩, .nil, [])
section
variable {P : Program} {F : Fn}
end
end Go.Ab
set_option linter.unusedSimpArgs false
set_option linter.unusedVariables false
set_option maxRecDepth 10000
namespace Go.Ab
open Go Go.RowKit
section
variable {P : Program} {F : Fn}
end
end Go.Ab
set_option linter.unusedSimpArgs false
set_option linter.unusedVariables false
set_option maxRecDepth 10000
namespace Go.Ab
open Go Go.RowKit
section
variable {l : List Rw} {n k : Nat}
end
section
variable {P : Program} {F : Fn}
end
end Go.Ab
set_option linter.unusedSimpArgs false
set_option linter.unusedVariables false
set_option maxRecDepth 10000
namespace Go.Ab
open Go Go.RowKit
section
variable {P : Program} {F : Fn}
theorem spec160 (ok : OkIndexZ P F) {st : St} {tid : Nat} {r : Rl} {l : List Nd} (h : TreeR tid r l st) : ACalls P (F 160) [.ptr (some (tid, 0))] st fun v st' => v = .agg (eRl r) ∧ st' = st := by
  obtain ⟨sid, mid, spare, es, h⟩ := h
  refine shows_call ok.mixed ok.h160 (by simp [k160]) ?_
  simp only [k160]
  simp
  intro i2 h2
  have hz : z74_2f53.length = 74 := rfl
  have hsp : spliceV z74_2f53 0 (eRl r) = eRl r := by simp [spliceV, eRl_len, hz]
  have h' := h.sub (sub_upd (o := .cells z74_2f53) h2)
  have o1 := h'.top
  have hall : segOf (eRl r) 0 74 = some (eRl r) := by
    unfold segOf
    rw [if_pos (by rw [eRl_len]; omega), List.drop_zero, ← eRl_len r, List.take_length]
  have hst : storeS (st.upd i2 (.cells z74_2f53)) 74 (.ptr (some (i2, 0))) (.agg (eRl r)) = some (st.upd i2 (.cells (eRl r))) := by
    simp [storeS, eRl_len, hsp, hz]
  generalize hst1 : st.upd i2 (.cells z74_2f53) = st1 at h' hst o1 ⊢
  have hsub : ∀ x, St.sub st (st.upd i2 (.cells x)) := fun x => sub_upd h2
  simp [St.seg, o1, tree_seg0, hst, hall, hsub]
theorem spec162 (ok : OkIndexZ P F) {st : St} {tid : Nat} {r : Rl} {l : List Nd} (h : TreeR tid r l st) (k : Id) : ACalls P (F 162) [.ptr (some (tid, 0)), .agg (eId k)] st fun v st' => v = .tup [.int .i64 (((findM l k).getD 0 : Nat) : Int), .bool (findM l k).isSome] ∧ st' = st := by
  obtain ⟨sid, mid, spare, es, h⟩ := h
  refine shows_call ok.mixed ok.h162 (by simp [k162]) ?_
  simp only [k162]
  simp
  intro i3 h3
  have S := (Sep.start st).new h3 (.cells (eId k))
  generalize st.upd i3 _ = st1 at S ⊢
  have hs : St.sub st st1 := S.was' (by simp)
  have h := h.sub hs
  have o3 := S.mem (i := i3) (o := .cells (eId k)) (by simp)
  have hk : segOf (eId k) 0 32 = some (eId k) := by
    unfold segOf
    rw [if_pos (by rw [eId_len]; omega), List.drop_zero, ← eId_len k, List.take_length]
  have hl := lookup_lk keyed_id (ev := kInt) h.by_ (.int .i64 0) k
  rw [h.look] at hl
  simp only [kId] at hl
  simp [St.seg, h.top, tree_seg75, o3, hk, hl]
  cases e : findM l k <;> simp [kInt, hs]
end
end Go.Ab
set_option linter.unusedVariables false
namespace Go.Ab
open Go
end Go.Ab
set_option linter.unusedSimpArgs false
set_option linter.unusedVariables false
set_option maxRecDepth 10000
namespace Go.Ab
open Go Go.RowKit
section
end
section
variable {P : Program} {F : Fn}
end
end Go.Ab
set_option linter.unusedSimpArgs false
set_option linter.unusedVariables false
namespace Go.Ab
open Go Go.RowKit Go.ChangeShapes Go.WideShapes Go.Deep
section
variable {P : Program} {t : TypeId} {vs : List V}
end
end Go.Ab
set_option linter.unusedSimpArgs false
set_option linter.unusedVariables false
set_option maxRecDepth 10000
namespace Go.Ab
open Go Go.RowKit
def byteAt (x : BitVec 64) (i : Nat) : UInt8 := UInt8.ofBitVec ((x >>> (8 * i)).setWidth 8)
def putB (size : Nat) (x : BitVec 64) : List UInt8 := (List.range (min size 8)).map (byteAt x)
theorem putB_len (size : Nat) (x : BitVec 64) : (putB size x).length = min size 8 := by simp [putB]
def countB (x : BitVec 64) : List UInt8 :=
  if x < 253#64 then putB 1 x else if x < 65536#64 then putB 1 253#64 ++ putB 2 x else if x < 4294967296#64 then putB 1 254#64 ++ putB 4 x else putB 1 255#64 ++ putB 8 x
theorem countB_len (x : BitVec 64) : (countB x).length ≤ 9 := by
  unfold countB
  split
  · rw [putB_len]; omega
  · split
    · rw [List.length_append, putB_len, putB_len]; omega
    · split <;> rw [List.length_append, putB_len, putB_len] <;> omega
def textB (l : List UInt8) : List UInt8 := countB (BitVec.ofNat 64 l.length) ++ l
theorem of64_nat {n : Nat} (h : n < 18446744073709551616) : (BitVec.ofInt 64 (n : Int)).toNat = n := by
  rw [BitVec.ofInt_natCast, BitVec.toNat_ofNat]
  exact Nat.mod_eq_of_lt h
abbrev Wr (wid : Nat) (s : V) (l : List UInt8) (L : List Asn) (st : St) : Prop := Sep (pt wid (.cells [s]) :: Slx 1 e8 s l :: L) st
def WrR (wid : Nat) (l : List UInt8) (L : List Asn) (st : St) : Prop := ∃ s, Wr wid s l L st
theorem WrR.imp {wid : Nat} {l l' : List UInt8} {L : List Asn} {st : St} (h : WrR wid l L st) (e : l = l') : WrR wid l' L st := e ▸ h
theorem slx_cells {s : V} {l : List UInt8} {h : St} (hs : Slx 1 e8 s l h) : s.cells? = some [s] := by
  rcases hs with ⟨hs | hs, _⟩ | ⟨sid, rfl, _⟩
  · rw [hs]; rfl
  · rw [hs]; rfl
  · rfl
theorem Sep.cells {s : V} {l : List UInt8} {L : List Asn} {st : St} (h : Sep (Slx 1 e8 s l :: L) st) : s.cells? = some [s] := by
  obtain ⟨h', h1, h2⟩ := h.part
  exact slx_cells h2
theorem Wr.app {wid : Nat} {s : V} {l : List UInt8} {L : List Asn} {st : St} (S : Wr wid s l L st) (m : List UInt8) {ys : List V} {n : Nat} (hys : ys = rowsOf e8 m) (hn : n = m.length) (hb : l.length + n ≤ 1000000) {K : V → St → Prop}
    (hK : ∀ s' st' st2, s'.cells? = some [s'] → storeS st' 1 (.ptr (some (wid, 0))) s' = some st2 → WrR wid (l ++ m) L st2 → K s' st') : appS 1 1 s (some (ys, n)) st K := by
  refine Sep.appx' (b := 1) e8_len (by omega) S.swap m hys hn (by omega) ?_
  intro s' st' S'
  have hc := S'.cells
  have o := S'.swap.get
  refine hK s' st' (st'.upd wid (.cells [s'])) hc ?_ ⟨s', S'.swap.set _⟩
  simp [storeS, o, hc, spliceV]
section
variable {P : Program} {F : Fn}
set_option maxHeartbeats 1000000 in
theorem spec205 (ok : OkTx P F) {st : St} {wid : Nat} {l : List UInt8} {L : List Asn} (S : WrR wid l L st) (hl : l.length ≤ 900000) (size : Nat) (hs : size ≤ 100) (x : BitVec 64) :
    ACalls P (F 205) [.ptr (some (wid, 0)), .int .i64 (size : Int), .sl .full [w64 x] 1] st fun v st' => v = .tup [] ∧ WrR wid (l ++ putB size x) L st' := by
  refine shows_call ok.mixed ok.h205 (by simp [k205]) ?_
  simp only [k205]
  have hsg : segOf [w64 x] 0 1 = some [w64 x] := rfl
  simp
  refine vc_unroll 2 ?_
  simp [unr_succ, hsg]
  refine vc_loopJ (fun c env' st' => ∃ i, i ≤ min size 8 ∧ c = min size 8 - i ∧ env' 8 = .int .i64 (i : Nat) ∧ WrR wid (l ++ (List.range i).map (byteAt x)) L st') (min size 8)
    ⟨0, by omega, by omega, by simp, S.imp (by simp)⟩ ?_
  rintro J hJ c env' st1 hsame ⟨i, hi, rfl, h8, s, S⟩
  have g0 := (hsame.get 0 rfl).trans (by simp : _ = V.ptr (some (wid, 0)))
  have g1 := (hsame.get 1 rfl).trans (by simp : _ = V.int .i64 (size : Int))
  have g7 := (hsame.get 7 rfl).trans (by simp : _ = w64 x)
  have g10 := (hsame.get 10 rfl).trans (by simp : _ = V.int .i64 1)
  have g11 := (hsame.get 11 rfl).trans (by simp : _ = V.int .i64 0)
  clear hsame
  by_cases hlt : i < min size 8
  · have h1 : (i : Int) < (size : Int) := by omega
    have h2 : (i : Int) < 8 := by omega
    have h1' : i < size := by omega
    have w1 : IntKind.i64.wrap ((i : Int) + 1) = (i : Int) + 1 := wrap64 (by omega) (by omega)
    have w2 : IntKind.i64.wrap (8 * (i : Int)) = ((8 * i : Nat) : Int) := by rw [wrap64 (by omega) (by omega)]; omega
    have w3 : (BitVec.ofInt 64 ((8 * i : Nat) : Int)).toNat = 8 * i := of64_nat (by omega)
    have o := S.get
    have hc := S.drop.cells
    have hsg0 : segOf [s] 0 1 = some [s] := rfl
    obtain ⟨Z, hZ⟩ : ∃ Z : Int, Z = ((8 * i : Nat) : Int) := ⟨_, rfl⟩
    rw [← hZ] at w2 w3
    have hby : UInt8.ofBitVec ((x >>> (8 * i)).setWidth 8) = byteAt x i := rfl
    have hf8 : fillV (repV [w8 0] 1) [(0, 1, w8 (byteAt x i))] = some (rowsOf e8 [byteAt x i]) := rfl
    have hel : elems st1 1 (.sl .full (e8 (byteAt x i)) 1) = some (e8 (byteAt x i), 1) := rfl
    simp [unr_succ, g0, g1, g7, h8, h1', h2, St.seg, o, hsg0, w2, w3, hby, hf8, hel]
    refine Wr.app S [byteAt x i] (by simp) rfl (by simp; omega) ?_
    intro s' st2 st3 hc' hst S'
    simp [g0, hst, h8, w1]
    refine Round.mk (min size 8 - (i + 1)) _ (by omega) (sub_self _) (hJ _ _ _ ⟨i + 1, by omega, rfl, by simp, S'.imp ?_⟩)
    rw [List.range_succ, List.map_append, List.append_assoc]; rfl
  · have : i = min size 8 := by omega
    subst this
    have fin : WrR wid (l ++ putB size x) L st1 := ⟨s, S⟩
    by_cases h1 : (size : Int) ≤ 8
    · have e : min size 8 = size := by omega
      have h8' : env' 8 = .int .i64 (size : Int) := by rw [h8, e]
      simp [unr_succ, g1, h8', g10, g11]
      exact ⟨st1, sub_self _, fin⟩
    · have e : min size 8 = 8 := by omega
      have h8' : env' 8 = .int .i64 8 := by rw [h8, e]; rfl
      have h3 : (8 : Int) < (size : Int) := by omega
      have h3' : 8 < size := by omega
      simp [unr_succ, g1, h8', h3, h3', g10, g11]
      exact ⟨st1, sub_self _, fin⟩
theorem w64_fill (x : BitVec 64) : fillV (repV [w64 0#64] 1) [(0, 1, w64 x)] = some [w64 x] := rfl
theorem spec203 (ok : OkTx P F) {st : St} {wid : Nat} {l : List UInt8} {L : List Asn} (S : WrR wid l L st) (hl : l.length ≤ 800000) (x : BitVec 64) :
    ACalls P (F 203) [.ptr (some (wid, 0)), w64 x] st fun v st' => v = .tup [] ∧ WrR wid (l ++ countB x) L st' := by
  refine shows_call ok.mixed ok.h203 (by simp [k203]) ?_
  simp only [k203]
  by_cases c1 : x < 253#64
  · have e : countB x = putB 1 x := by rw [countB, if_pos c1]
    rw [e]
    simp [c1, w64_fill]
    refine (spec205 ok S (by omega) 1 (by omega) x).mono ?_
    rintro v st1 ⟨rfl, S⟩
    simp
    exact ⟨st1, sub_self _, S⟩
  · have two : ∀ (a : BitVec 64) (n : Nat), n ≤ 8 → countB x = putB 1 a ++ putB n x → ACalls P (F 205) [.ptr (some (wid, 0)), .int .i64 1, .sl .full [w64 a] 1] st fun v st' => v = .tup [] ∧ ACalls P (F 205) [.ptr (some (wid, 0)), .int .i64 (n : Int), .sl .full [w64 x] 1] st' fun v st' => v = .tup [] ∧ WrR wid (l ++ countB x) L st' := fun a n hn e =>
      (spec205 ok S (by omega) 1 (by omega) a).mono fun v st1 hv => ⟨hv.1, (spec205 ok hv.2 (by rw [List.length_append, putB_len]; omega) n (by omega) x).mono fun v st2 hv2 =>
        ⟨hv2.1, hv2.2.imp (by rw [e, List.append_assoc])⟩⟩
    by_cases c2 : x < 65536#64
    · have e : countB x = putB 1 253#64 ++ putB 2 x := by rw [countB, if_neg c1, if_pos c2]
      simp [c1, c2, w64_fill]
      refine (two 253#64 2 (by omega) e).mono ?_
      rintro v st1 ⟨rfl, h⟩
      simp [w64_fill]
      refine h.mono ?_
      rintro v st2 ⟨rfl, h⟩
      simp
      exact ⟨st2, sub_self _, h⟩
    · by_cases c3 : x < 4294967296#64
      · have e : countB x = putB 1 254#64 ++ putB 4 x := by rw [countB, if_neg c1, if_neg c2, if_pos c3]
        simp [c1, c2, c3, w64_fill]
        refine (two 254#64 4 (by omega) e).mono ?_
        rintro v st1 ⟨rfl, h⟩
        simp [w64_fill]
        refine h.mono ?_
        rintro v st2 ⟨rfl, h⟩
        simp
        exact ⟨st2, sub_self _, h⟩
      · have e : countB x = putB 1 255#64 ++ putB 8 x := by rw [countB, if_neg c1, if_neg c2, if_neg c3]
        simp [c1, c2, c3, w64_fill]
        refine (two 255#64 8 (by omega) e).mono ?_
        rintro v st1 ⟨rfl, h⟩
        simp [w64_fill]
        refine h.mono ?_
        rintro v st2 ⟨rfl, h⟩
        simp
        exact ⟨st2, sub_self _, h⟩
end
end Go.Ab
set_option linter.unusedSimpArgs false
set_option linter.unusedVariables false
set_option maxRecDepth 10000
namespace Go.Ab
open Go Go.RowKit
def keyV (k : SK) (m : List UInt8) : V := .sl k (rowsOf e8 m) m.length
section
variable {P : Program} {F : Fn}
set_option maxHeartbeats 1000000 in
theorem spec204 (ok : OkTx P F) {st : St} {wid : Nat} {l : List UInt8} {L : List Asn} (S : WrR wid l L st) (k : SK) (m : List UInt8) (hl : l.length + m.length ≤ 900000) :
    ACalls P (F 204) [.ptr (some (wid, 0)), .sl .full [keyV k m] 1] st fun v st' => v = .tup [] ∧ WrR wid (l ++ m) L st' := by
  refine shows_call ok.mixed ok.h204 (by simp [k204]) ?_
  simp only [k204]
  simp
  obtain ⟨s, S⟩ := S
  have o := S.get
  have hsg : segOf [keyV k m] 0 1 = some [keyV k m] := rfl
  have hsg0 : segOf [s] 0 1 = some [s] := rfl
  have hel : elems st 1 (keyV k m) = some (rowsOf e8 m, m.length) := by simp [keyV, elems, rowsOf_length e8_len]
  refine vc_unroll 2 ?_
  simp [unr_succ, hsg, St.seg, o, hsg0, hel]
  refine Wr.app S m rfl rfl (by omega) ?_
  intro s' st2 st3 hc' hst S'
  simp [hst, unr_succ]
  exact ⟨st3, sub_self _, S'⟩
set_option maxHeartbeats 1000000 in
theorem spec206 (ok : OkTx P F) {st : St} {wid : Nat} {l : List UInt8} {L : List Asn} (S : WrR wid l L st) (k : SK) (m : List UInt8) (hl : l.length + m.length ≤ 700000) :
    ACalls P (F 206) [.ptr (some (wid, 0)), keyV k m] st fun v st' => v = .tup [] ∧ WrR wid (l ++ textB m) L st' := by
  refine shows_call ok.mixed ok.h206 (by simp [k206]) ?_
  simp only [k206]
  have hln : lenSlV (keyV k m) = some (.int .i64 m.length) := rfl
  simp [hln]
  refine (spec203 ok S (by omega) (BitVec.ofNat 64 m.length)).mono ?_
  rintro v st1 ⟨rfl, S⟩
  have hf : fillV (repV [V.sl .nil [] 0] 1) [(0, 1, keyV k m)] = some [keyV k m] := rfl
  simp [hf]
  refine (spec204 ok S k m (by have := countB_len (BitVec.ofNat 64 m.length); rw [List.length_append]; omega)).mono ?_
  rintro v st2 ⟨rfl, S⟩
  simp
  exact ⟨st2, sub_self _, S.imp (by rw [textB, List.append_assoc])⟩
set_option maxHeartbeats 1000000 in
theorem spec202 (ok : OkTx P F) {st : St} {wid : Nat} {l : List UInt8} {L : List Asn} (S : WrR wid l L st) (hl : l.length ≤ 900000) :
    ACalls P (F 202) [.ptr (some (wid, 0))] st fun v st' => ∃ s, Sep (Slx 1 e8 v l :: pt wid (.cells [s]) :: Slx 1 e8 s l :: L) st' := by
  refine shows_call ok.mixed ok.h202 (by simp [k202]) ?_
  simp only [k202]
  obtain ⟨s, S⟩ := S
  have o := S.get
  have hsg0 : segOf [s] 0 1 = some [s] := rfl
  have hel := (Sep.rd e8_len (S.drop.head fun h hh => hh.sl)).elems e8_len
  have hf : fillV (repV [w8 0] 0) [] = some [] := rfl
  simp [St.seg, o, hsg0, hel, hf]
  refine Sep.appx' (b := 1) e8_len (by omega) S.slxFull l rfl rfl (by simp; omega) ?_
  intro s' st2 S
  simp
  exact ⟨st2, sub_self _, s, by simpa using S⟩
end
end Go.Ab
set_option linter.unusedSimpArgs false
set_option linter.unusedVariables false
set_option maxRecDepth 10000
namespace Go.Ab
open Go Go.RowKit
structure In1 where
  tx : Id
  ix : W32
  kk : SK
  key : List UInt8
structure Out1 where
  amt : Int
  lock : Id
structure Tx1 where
  ik : SK
  ins : List In1
  uk : SK
  outs : List Out1
def eIn (x : In1) : List V := eId x.tx ++ [w32 x.ix, keyV x.kk x.key]
def eOut (x : Out1) : List V := .int .i64 x.amt :: eId x.lock
theorem eIn_len (x : In1) : (eIn x).length = 34 := by simp [eIn, eId_len]
theorem eOut_len (x : Out1) : (eOut x).length = 33 := by simp [eOut, eId_len]
def insV (t : Tx1) : V := .sl t.ik (rowsOf eIn t.ins) t.ins.length
def outsV (t : Tx1) : V := .sl t.uk (rowsOf eOut t.outs) t.outs.length
def eTx (t : Tx1) : List V := [insV t, outsV t]
theorem eTx_len (t : Tx1) : (eTx t).length = 2 := rfl
def inB (x : In1) : List UInt8 := x.tx.toList ++ (putB 4 (x.ix.setWidth 64) ++ textB x.key)
def outB (x : Out1) : List UInt8 := putB 8 (BitVec.ofInt 64 x.amt) ++ x.lock.toList
def txB (t : Tx1) : List UInt8 := countB (BitVec.ofNat 64 t.ins.length) ++ (t.ins.flatMap inB ++ (countB (BitVec.ofNat 64 t.outs.length) ++ t.outs.flatMap outB))
def txIdM (t : Tx1) : Id := sha2 (txB t)
theorem rd_ins (t : Tx1) (st : St) : Rd 34 eIn (insV t) t.ins st := .inl ⟨t.ik, rfl⟩
theorem rd_outs (t : Tx1) (st : St) : Rd 33 eOut (outsV t) t.outs st := .inl ⟨t.uk, rfl⟩
theorem textB_len (l : List UInt8) : (textB l).length ≤ l.length + 9 := by
  have := countB_len (BitVec.ofNat 64 l.length)
  rw [textB, List.length_append]; omega
def Tx1.ok (t : Tx1) (n : Nat) : Prop := t.ins.length ≤ n ∧ t.outs.length ≤ n ∧ ∀ x ∈ t.ins, x.key.length ≤ 1000
theorem fm_len {α β : Type} (f : α → List β) (n : Nat) (l : List α) (h : ∀ x ∈ l, (f x).length ≤ n) : (l.flatMap f).length ≤ l.length * n := by
  induction l with
  | nil => simp
  | cons a l ih =>
    have h1 := h a (by simp)
    have h2 := ih fun x hx => h x (by simp [hx])
    rw [List.flatMap_cons, List.length_append, List.length_cons, Nat.add_mul]
    omega
theorem inB_len (x : In1) (h : x.key.length ≤ 1000) : (inB x).length ≤ 1045 := by
  have := textB_len x.key
  simp [inB, putB_len]
  omega
theorem outB_len (x : Out1) : (outB x).length = 40 := by simp [outB, putB_len]
theorem insegTx (x : In1) : segOf (eIn x) 0 32 = some (eId x.tx) := seg_of_drop (zs := [w32 x.ix, keyV x.kk x.key]) rfl (eId_len _) (by omega)
theorem indrop (x : In1) : (eIn x).drop 32 = [w32 x.ix, keyV x.kk x.key] := by rw [eIn, List.drop_left' (eId_len _)]
theorem insegKey (x : In1) : segOf (eIn x) 33 1 = some [keyV x.kk x.key] := seg_of_drop (zs := []) (by rw [show 33 = 32 + 1 from rfl, ← List.drop_drop, indrop]; rfl) rfl (by omega)
theorem indrop33 (x : In1) : (eIn x).drop 33 = [keyV x.kk x.key] := by rw [show 33 = 32 + 1 from rfl, ← List.drop_drop, indrop]; rfl
theorem idFill (x : Id) : fillV (repV [V.sl SK.nil [] 0] 1) [(0, 1, V.sl SK.full (List.take 32 (eId x)) 32)] = some [keyV .full x.toList] := by
  have e : x.toList.length = 32 := by simp
  rw [List.take_of_length_le (by rw [eId_len]; omega), eId_rows, keyV, e]
  rfl
theorem ousegAmt (x : Out1) : segOf (eOut x) 0 1 = some [.int .i64 x.amt] := by simp [segOf, eOut, eId_len]
section
variable {P : Program} {F : Fn}
theorem WrR.new {wid : Nat} {l : List UInt8} {L : List Asn} {st : St} (h : WrR wid l L st) {i : Nat} (hi : st i = none) (o : AObj) : WrR wid l (pt i o :: L) (st.upd i o) := by
  obtain ⟨s, S⟩ := h
  exact ⟨s, (S.new hi o).swap.tail fun r h => h.swap⟩
theorem WrR.mem {wid : Nat} {l : List UInt8} {L : List Asn} {st : St} (h : WrR wid l L st) {i : Nat} {o : AObj} (hm : pt i o ∈ L) : st i = some o := by
  obtain ⟨s, S⟩ := h
  exact S.mem (by simp [hm])
theorem WrR.memA {wid : Nat} {l : List UInt8} {L : List Asn} {st : St} (h : WrR wid l L st) {A : Asn} (hm : A ∈ L) : ∃ h', St.sub h' st ∧ A h' := by
  obtain ⟨s, S⟩ := h
  exact S.memA (by simp [hm])
theorem WrR.setAt {wid : Nat} {l : List UInt8} {L : List Asn} {st : St} (h : WrR wid l L st) {i : Nat} {o : AObj} (o' : AObj) (n : Nat) (hn : L[n]? = some (pt i o)) : WrR wid l (L.set n (pt i o')) (st.upd i o') := by
  obtain ⟨s, S⟩ := h
  exact ⟨s, S.setAt o' (n + 2) hn⟩
theorem WrR.tail {wid : Nat} {l : List UInt8} {L L' : List Asn} {st : St} (h : WrR wid l L st) (hL : ∀ r, Sep L r → Sep L' r) : WrR wid l L' st := by
  obtain ⟨s, S⟩ := h
  exact ⟨s, S.tail fun r h => h.tail hL⟩
set_option maxHeartbeats 4000000 in
theorem spec201 (ok : OkTx P F) {st : St} {wid : Nat} {l : List UInt8} {L : List Asn} (S : WrR wid l L st) (t : Tx1) (ht : t.ok 100) (hl : l.length ≤ 400000) :
    ACalls P (F 201) [.ptr (some (wid, 0)), .agg (eTx t)] st fun v st' => v = .tup [] ∧ WrR wid (l ++ txB t) L st' := by
  refine shows_call ok.mixed ok.h201 (by simp [k201]) ?_
  simp only [k201]
  simp
  intro bid hb
  have S := S.new hb (.cells (eTx t))
  generalize st.upd bid _ = st1 at S ⊢
  have o := S.mem (i := bid) (o := .cells (eTx t)) (by simp)
  have hs0 : segOf (eTx t) 0 1 = some [insV t] := rfl
  have hs1 : segOf (eTx t) 1 1 = some [outsV t] := rfl
  have hn0 : lenSlV (insV t) = some (.int .i64 t.ins.length) := rfl
  have hn1 : lenSlV (outsV t) = some (.int .i64 t.outs.length) := rfl
  simp [St.seg, o, hs0, hn0]
  obtain ⟨hti, hto, htk⟩ := ht
  have hc1 := countB_len (BitVec.ofNat 64 t.ins.length)
  have hc2 := countB_len (BitVec.ofNat 64 t.outs.length)
  refine (spec203 ok S (by omega) (BitVec.ofNat 64 t.ins.length)).mono ?_
  rintro v st2 ⟨rfl, S⟩
  have o := S.mem (i := bid) (o := .cells (eTx t)) (by simp)
  simp [St.seg, o, hs0, hn0]
  have hfl : ∀ i, ((t.ins.take i).flatMap inB).length ≤ 104500 := fun i => by
    have := fm_len inB 1045 (t.ins.take i) fun x hx => inB_len x (htk x (List.mem_of_mem_take hx))
    rw [List.length_take] at this
    omega
  have hfo : ∀ i, ((t.outs.take i).flatMap outB).length ≤ 4000 := fun i => by
    have := fm_len outB 40 (t.outs.take i) fun x hx => by rw [outB_len]; omega
    rw [List.length_take] at this
    omega
  refine vc_loopJ (fun c env' st' => ∃ i, i ≤ t.ins.length ∧ c = t.ins.length - i ∧ env' 17 = .int .i64 (i : Nat) ∧ WrR wid (l ++ countB (BitVec.ofNat 64 t.ins.length) ++ (t.ins.take i).flatMap inB) (pt bid (.cells (eTx t)) :: L) st') t.ins.length
    ⟨0, by omega, by omega, by simp, S.imp (by simp)⟩ ?_
  rintro J hJ c env' st3 hsame ⟨i, hi, rfl, h17, S⟩
  have g0 := (hsame.get 0 rfl).trans (by simp : _ = V.ptr (some (wid, 0)))
  have g3 := (hsame.get 3 rfl).trans (by simp : _ = V.ptr (some (bid, 0)))
  have g15 := (hsame.get 15 rfl).trans (by simp : _ = insV t)
  have g16 := (hsame.get 16 rfl).trans (by simp : _ = V.int .i64 (t.ins.length : Int))
  clear hsame
  by_cases hlt : i < t.ins.length
  · have w1 : IntKind.i64.wrap ((i : Int) + 1) = (i : Int) + 1 := wrap64 (by omega) (by omega)
    obtain ⟨r1, r2, r3, r4⟩ := (rd_ins t st3).row eIn_len hlt
    obtain ⟨A, hA⟩ : ∃ A, A = l ++ countB (BitVec.ofNat 64 t.ins.length) ++ (t.ins.take i).flatMap inB := ⟨_, rfl⟩
    have hAl : A.length ≤ 505000 := by rw [hA, List.length_append, List.length_append]; have := hfl i; omega
    rw [← hA] at S
    obtain ⟨x, hx⟩ : ∃ x, x = t.ins[i] := ⟨_, rfl⟩
    have hxk := htk t.ins[i] (List.getElem_mem hlt)
    rw [← hx] at r3 hxk
    simp [g0, g3, g15, g16, h17, hlt, r1, r3]
    intro iid hiid
    have S := S.new hiid (.cells z34_1838)
    have hst : storeS (st3.upd iid (.cells z34_1838)) 34 (.ptr (some (iid, 0))) (.agg (eIn x)) = some ((st3.upd iid (.cells z34_1838)).upd iid (.cells (spliceV z34_1838 0 (eIn x)))) := store_pt (by simp) rfl (eIn_len x) (by simp)
    rw [show spliceV z34_1838 0 (eIn x) = eIn x by simp [spliceV, eIn_len]] at hst
    have S := S.setAt (.cells (eIn x)) 0 rfl
    simp [hst]
    simp at S
    generalize st3.upd iid (.cells (eIn x)) = st4 at S ⊢
    have o5 := S.mem (i := iid) (o := .cells (eIn x)) (by simp)
    have S := S.setAt (.ro (eIn x)) 0 rfl
    simp [frzP, frzV, frzOb, o5]
    simp at S
    generalize st4.upd iid (.ro (eIn x)) = st5 at S ⊢
    have o5 := S.mem (i := iid) (o := .ro (eIn x)) (by simp)
    simp [slArrV, bounds, o5, insegTx, St.seg, g0]
    simp [idFill]
    have hxl : x.tx.toList.length = 32 := by simp
    refine (spec204 ok S .full x.tx.toList (by omega)).mono ?_
    rintro v st6 ⟨rfl, S⟩
    have hsx : segOf [w32 x.ix, keyV x.kk x.key] 0 1 = some [w32 x.ix] := rfl
    have hsk : segOf [keyV x.kk x.key] 0 1 = some [keyV x.kk x.key] := rfl
    simp [g0, indrop, indrop33, hsx, hsk, w64_fill]
    refine (spec205 ok S (by rw [List.length_append]; omega) 4 (by omega) (x.ix.setWidth 64)).mono ?_
    rintro v st7 ⟨rfl, S⟩
    simp [g0, indrop33, hsk]
    refine (spec206 ok S x.kk x.key (by rw [List.length_append, List.length_append, putB_len]; omega)).mono ?_
    rintro v st8 ⟨rfl, S⟩
    simp [h17, w1]
    refine Round.mk (t.ins.length - (i + 1)) _ (by omega) (sub_self _) (hJ _ _ _ ⟨i + 1, by omega, rfl, by simp, ?_⟩)
    refine WrR.imp (S.tail fun r h => h.drop) ?_
    rw [List.take_succ_eq_append_getElem hlt, List.flatMap_append, List.flatMap_singleton, ← hx, hA]
    simp [inB]
  · have : i = t.ins.length := by omega
    subst this
    have hni : ¬ ((t.ins.length : Int) < (t.ins.length : Int)) := by omega
    rw [List.take_length] at S
    have hf1 := hfl t.ins.length
    rw [List.take_length] at hf1
    obtain ⟨A, hA⟩ : ∃ A, A = l ++ countB (BitVec.ofNat 64 t.ins.length) ++ t.ins.flatMap inB := ⟨_, rfl⟩
    have hAl : A.length ≤ 505000 := by rw [hA, List.length_append, List.length_append]; omega
    rw [← hA] at S
    have o := S.mem (i := bid) (o := .cells (eTx t)) (by simp)
    simp [g0, g3, g15, g16, h17, St.seg, o, hs1, hn1]
    refine (spec203 ok S (by omega) (BitVec.ofNat 64 t.outs.length)).mono ?_
    rintro v st4 ⟨rfl, S⟩
    have o := S.mem (i := bid) (o := .cells (eTx t)) (by simp)
    simp [g3, St.seg, o, hs1, hn1]
    clear hJ J
    refine vc_loopJ (fun c env' st' => ∃ i, i ≤ t.outs.length ∧ c = t.outs.length - i ∧ env' 48 = .int .i64 (i : Nat) ∧ WrR wid (A ++ countB (BitVec.ofNat 64 t.outs.length) ++ (t.outs.take i).flatMap outB) (pt bid (.cells (eTx t)) :: L) st') t.outs.length
      ⟨0, by omega, by omega, by simp, S.imp (by simp)⟩ ?_
    rintro J hJ c env2 st5 hsame ⟨i, hi, rfl, h48, S⟩
    have q0 := (hsame.get 0 rfl).trans (by simp [g0] : _ = V.ptr (some (wid, 0)))
    have q46 := (hsame.get 46 rfl).trans (by simp : _ = outsV t)
    have q47 := (hsame.get 47 rfl).trans (by simp : _ = V.int .i64 (t.outs.length : Int))
    clear hsame
    by_cases hlt : i < t.outs.length
    · have w1 : IntKind.i64.wrap ((i : Int) + 1) = (i : Int) + 1 := wrap64 (by omega) (by omega)
      obtain ⟨r1, r2, r3, r4⟩ := (rd_outs t st5).row eOut_len hlt
      obtain ⟨x, hx⟩ : ∃ x, x = t.outs[i] := ⟨_, rfl⟩
      rw [← hx] at r3
      obtain ⟨B, hB⟩ : ∃ B, B = A ++ countB (BitVec.ofNat 64 t.outs.length) ++ (t.outs.take i).flatMap outB := ⟨_, rfl⟩
      have hBl : B.length ≤ 510000 := by rw [hB, List.length_append, List.length_append]; have := hfo i; omega
      rw [← hB] at S
      simp [q0, q46, q47, h48, hlt, r1, r3]
      intro iid hiid
      have S := S.new hiid (.cells z33_0be4)
      have hst : storeS (st5.upd iid (.cells z33_0be4)) 33 (.ptr (some (iid, 0))) (.agg (eOut x)) = some ((st5.upd iid (.cells z33_0be4)).upd iid (.cells (spliceV z33_0be4 0 (eOut x)))) := store_pt (by simp) rfl (eOut_len x) (by simp)
      rw [show spliceV z33_0be4 0 (eOut x) = eOut x by simp [spliceV, eOut_len]] at hst
      have S := S.setAt (.cells (eOut x)) 0 rfl
      simp [hst]
      simp at S
      generalize st5.upd iid (.cells (eOut x)) = st6 at S ⊢
      have o7 := S.mem (i := iid) (o := .cells (eOut x)) (by simp)
      simp [St.seg, o7, ousegAmt, w64_fill, q0]
      refine (spec205 ok S (by omega) 8 (by omega) (BitVec.ofInt 64 x.amt)).mono ?_
      rintro v st7 ⟨rfl, S⟩
      have o7 := S.mem (i := iid) (o := .cells (eOut x)) (by simp)
      have S := S.setAt (.ro (eOut x)) 0 rfl
      simp [frzP, frzV, frzOb, o7]
      simp only [List.set_cons_zero] at S
      generalize st7.upd iid (.ro (eOut x)) = st8 at S ⊢
      have o7 := S.mem (i := iid) (o := .ro (eOut x)) (by simp)
      have hd1 : (eOut x).tail = eId x.lock := rfl
      have hsi := segId0 x.lock
      simp [slArrV, bounds, o7, hd1, hsi, q0, idFill]
      have hxl : x.lock.toList.length = 32 := by simp
      refine (spec204 ok S .full x.lock.toList (by rw [List.length_append, putB_len]; omega)).mono ?_
      rintro v st9 ⟨rfl, S⟩
      simp [h48, w1]
      refine Round.mk (t.outs.length - (i + 1)) _ (by omega) (sub_self _) (hJ _ _ _ ⟨i + 1, by omega, rfl, by simp, ?_⟩)
      refine WrR.imp (S.tail fun r h => h.drop) ?_
      rw [List.take_succ_eq_append_getElem hlt, List.flatMap_append, List.flatMap_singleton, ← hx, hB]
      simp [outB]
    · have : i = t.outs.length := by omega
      subst this
      simp [q0, q46, q47, h48]
      rw [List.take_length] at S
      exact ⟨st5, sub_self _, WrR.imp (S.tail fun r h => h.drop) (by rw [hA, txB]; simp)⟩
end
end Go.Ab
set_option linter.unusedSimpArgs false
set_option linter.unusedVariables false
set_option maxRecDepth 10000
namespace Go.Ab
open Go Go.RowKit
theorem txB_len (t : Tx1) (h : t.ok 100) : (txB t).length ≤ 200000 := by
  have hc1 := countB_len (BitVec.ofNat 64 t.ins.length)
  have hc2 := countB_len (BitVec.ofNat 64 t.outs.length)
  have h1 := fm_len inB 1045 t.ins fun x hx => inB_len x (h.2.2 x hx)
  have h2 := fm_len outB 40 t.outs fun x hx => by rw [outB_len]; omega
  have h3 := h.1
  have h4 := h.2.1
  rw [txB, List.length_append, List.length_append, List.length_append]
  omega
theorem partFill {s : V} (h : s.cells? = some [s]) : fillV (repV [V.sl SK.nil [] 0] 1) [(0, 1, s)] = some [s] := by
  simp [fillV, h, spliceV, repV]
theorem idFill2 (a b : Id) : fillV (repV [V.sl SK.nil [] 0] 2) [(0, 1, V.sl SK.full (List.take 32 (eId a)) 32), (1, 1, V.sl SK.full (List.take 32 (eId b)) 32)] = some [keyV .full a.toList, keyV .full b.toList] := by
  have e1 : a.toList.length = 32 := by simp
  have e2 : b.toList.length = 32 := by simp
  rw [List.take_of_length_le (by rw [eId_len]; omega), List.take_of_length_le (by rw [eId_len]; omega), eId_rows, eId_rows, keyV, keyV, e1, e2]
  rfl
theorem Sep.ov {A : Asn} {L : List Asn} {st st' : St} (h : Sep [A, Was st] st') (S : Sep L st) : Sep (A :: L) st' := by
  obtain ⟨a, r, h1, h2, h3, h4⟩ := h
  exact ⟨a, r, h1, h2, h3, S.sub (Sep.was h4)⟩
section
variable {P : Program} {F : Fn}
set_option maxHeartbeats 1000000 in
theorem spec200 (ok : OkTx P F) (st : St) (t : Tx1) (ht : t.ok 100) : ACalls P (F 200) [.agg (eTx t)] st fun v st' => Sep [Slx 1 e8 v (txB t), Was st] st' := by
  refine shows_call ok.mixed ok.h200 (by simp [k200]) ?_
  simp only [k200]
  simp
  intro bid hb
  have S := (Sep.start st).new hb (.cells (eTx t))
  generalize st.upd bid _ = st1 at S ⊢
  simp
  intro wid hw
  have S := S.slxNil (sz := 1) (f := e8)
  have S := S.new hw (.cells [.sl .nil [] 0])
  generalize st1.upd wid _ = st2 at S ⊢
  have o := S.mem (i := bid) (o := .cells (eTx t)) (by simp)
  have hsg : segOf (eTx t) 0 2 = some (eTx t) := rfl
  simp [St.seg, o, hsg]
  refine (spec201 ok ⟨_, S⟩ t ht (by simp)).mono ?_
  rintro v st3 ⟨rfl, S⟩
  simp
  have hl := txB_len t ht
  refine (spec202 ok S (by simp; omega)).mono ?_
  rintro v st4 ⟨s, S⟩
  simp
  refine ⟨st4, sub_self _, ?_⟩
  simp at S
  exact S.tail fun r h => h.drop.drop.drop
set_option maxHeartbeats 1000000 in
theorem spec198 (ok : OkTx P F) (st : St) (t : Tx1) (ht : t.ok 100) : ACalls P (F 198) [.agg (eTx t)] st fun v st' => v = .agg (eId (txIdM t)) ∧ st' = st := by
  refine shows_call ok.mixed ok.h198 (by simp [k198]) ?_
  simp only [k198]
  simp
  intro bid hb
  have S := (Sep.start st).new hb (.cells (eTx t))
  generalize st.upd bid _ = st1 at S ⊢
  simp
  intro rid hr
  have S := S.new hr (.cells zR32_w80)
  generalize st1.upd rid _ = st2 at S ⊢
  have o := S.mem (i := bid) (o := .cells (eTx t)) (by simp)
  have hsg : segOf (eTx t) 0 2 = some (eTx t) := rfl
  simp [St.seg, o, hsg]
  refine (spec200 ok st2 t ht).mono ?_
  rintro v st3 S1
  have S := S1.ov S
  have hf := partFill S.cells
  simp [hf]
  have hp : Parts st3 [v] [txB t] := .cons (Sep.rd e8_len (S.head fun h hh => hh.sl)) .nil
  have hl := txB_len t ht
  refine (spec104 ok.toOkHead.toOkHash st3 hp .full (by simp; omega) (by simp)).mono ?_
  rintro v st4 ⟨rfl, rfl⟩
  have S := S.drop
  have hst := store_z32 S.get (txIdM t)
  have e : sha2 [txB t].flatten = txIdM t := by simp [txIdM]
  rw [e]
  have S := S.set (.cells (eId (txIdM t)))
  have hsg := segId0 (txIdM t)
  simp [hst, St.seg, hsg]
  exact S.was' (by simp)
set_option maxHeartbeats 1000000 in
theorem spec207 (ok : OkTx P F) (st : St) (a b : Id) : ACalls P (F 207) [.agg (eId a), .agg (eId b)] st fun v st' => v = .agg (eId (sha2 (a.toList ++ b.toList))) ∧ st' = st := by
  refine shows_call ok.mixed ok.h207 (by simp [k207]) ?_
  simp only [k207]
  simp
  intro i2 h2
  have S := (Sep.start st).new h2 (.cells (eId a))
  generalize st.upd i2 _ = st1 at S ⊢
  simp
  intro i3 h3
  have S := S.new h3 (.cells (eId b))
  generalize st1.upd i3 _ = st2 at S ⊢
  simp
  intro i4 h4
  have S := S.new h4 (.cells zR32_w80)
  generalize st2.upd i4 _ = st3 at S ⊢
  have o2 := S.mem (i := i2) (o := .cells (eId a)) (by simp)
  have o3 := S.mem (i := i3) (o := .cells (eId b)) (by simp)
  have n32 := S.neq 1 2 rfl rfl (by omega)
  have S := S.setAt (.ro (eId a)) 2 rfl
  have S := S.setAt (.ro (eId b)) 1 rfl
  simp [frzP, frzV, frzOb, o2, o3, n32]
  simp only [List.set_cons_succ, List.set_cons_zero] at S
  generalize (st3.upd i2 (.ro (eId a))).upd i3 (.ro (eId b)) = st5 at S ⊢
  have ha : (eId a).length = 32 := eId_len a
  have hb : (eId b).length = 32 := eId_len b
  have hsa := segId0 a
  have hsb := segId0 b
  simp [slArrV, bounds, hsa, hsb]
  simp [idFill2]
  have hp : Parts st5 [keyV .full a.toList, keyV .full b.toList] [a.toList, b.toList] := .cons (.inl ⟨.full, rfl⟩) (.cons (.inl ⟨.full, rfl⟩) .nil)
  refine (spec104 ok.toOkHead.toOkHash st5 hp .full (by simp) (by simp)).mono ?_
  rintro v st6 ⟨rfl, rfl⟩
  have e : [a.toList, b.toList].flatten = a.toList ++ b.toList := by simp
  rw [e]
  obtain ⟨x, hx⟩ : ∃ x, x = sha2 (a.toList ++ b.toList) := ⟨_, rfl⟩
  rw [← hx]
  have hst := store_z32 S.get x
  have S := S.set (.cells (eId x))
  have hsg := segId0 x
  simp [hst, St.seg, hsg]
  exact S.was' (by simp)
end
end Go.Ab
set_option linter.unusedSimpArgs false
set_option linter.unusedVariables false
set_option maxRecDepth 10000
namespace Go.Ab
open Go Go.RowKit
def pairM (a b : Id) : Id := sha2 (a.toList ++ b.toList)
def upM : List Id → List Id
  | a :: b :: r => pairM a b :: upM r
  | [a] => [pairM a a]
  | [] => []
def twinM : List Id → Bool
  | a :: b :: r => decide (a = b) || twinM r
  | _ => false
theorem upM_len (l : List Id) : (upM l).length = (l.length + 1) / 2 := by
  fun_induction upM l with
  | case1 a b r ih => simp [ih]; omega
  | case2 a => simp
  | case3 => simp
def rootF : Nat → List Id → Bool → Id × Bool
  | 0, l, tw => (l.headD id0, tw)
  | n + 1, l, tw => if l.length ≤ 1 then (l.headD id0, tw) else rootF n (upM l) (tw || twinM l)
theorem rootF_done (n : Nat) (l : List Id) (tw : Bool) (h : l.length ≤ 1) : rootF n l tw = (l.headD id0, tw) := by
  cases n with
  | zero => rfl
  | succ n => rw [rootF, if_pos h]
theorem rootF_more : ∀ (n m : Nat) (l : List Id) (tw : Bool), l.length ≤ n + 1 → l.length ≤ m + 1 → rootF n l tw = rootF m l tw
  | 0, m, l, tw, h, _ => by rw [rootF_done _ _ _ (by omega), rootF_done _ _ _ (by omega)]
  | n + 1, 0, l, tw, _, h => by rw [rootF_done _ _ _ (by omega), rootF_done _ _ _ (by omega)]
  | n + 1, m + 1, l, tw, h1, h2 => by
    rw [rootF, rootF]
    split
    · rfl
    · have := upM_len l
      exact rootF_more n m _ _ (by omega) (by omega)
def rootM (l : List Id) : Id × Bool := rootF l.length l false
theorem rootF_step {n : Nat} {l : List Id} {tw : Bool} (h : 1 < l.length) (hn : l.length ≤ n + 1) : rootF n l tw = rootF n (upM l) (tw || twinM l) := by
  cases n with
  | zero => omega
  | succ n =>
    have := upM_len l
    rw [rootF, if_neg (by omega)]
    exact rootF_more _ _ _ _ (by omega) (by omega)
theorem splIdT (x : Id) : spliceV zR32_w80 0 (eId x) = eId x := by
  unfold spliceV
  rw [List.take_zero, List.nil_append, Nat.zero_add, eId_len, ← zR32_w80_len, List.drop_length, List.append_nil]
theorem fillIdT (x : Id) : fillV (repV zR32_w80 1) [(0, 32, .agg (eId x))] = some (eId x) := by
  have h0 : repV zR32_w80 1 = zR32_w80 := by simp [repV]
  rw [h0]
  have hc : (V.agg (eId x)).cells? = some (eId x) := rfl
  simp only [fillV, hc]
  rw [if_pos ⟨eId_len x, by rw [zR32_w80_len]; omega⟩, splIdT]
theorem fillNoT : fillV zR32_w80 [] = some (eId id0) := rfl
section
variable {P : Program} {F : Fn}
set_option maxHeartbeats 4000000 in
theorem spec199 (ok : OkTx P F) (st : St) {s : V} {l : List Id} (hr : Rd 32 eId s l st) (hl : l.length ≤ 1000) : ACalls P (F 199) [s] st fun v st' => v = .tup [.agg (eId (rootM l).1), .bool (rootM l).2] ∧ st' = st := by
  refine shows_call ok.mixed ok.h199 (by simp [k199]) ?_
  simp only [k199]
  have hlen := hr.len
  simp
  intro rid hrid
  have S := (Sep.start st).new hrid (.cells zR32_w80)
  generalize st.upd rid _ = st1 at S ⊢
  by_cases h0 : l.length = 0
  · have hl0 : l = [] := List.length_eq_zero_iff.1 h0
    subst hl0
    simp [hlen, fillNoT]
    have hst := store_z32 S.get id0
    have S := S.set (.cells (eId id0))
    have hsg := segId0 id0
    simp [hst, St.seg, hsg]
    exact ⟨S.was' (by simp), rfl, rfl⟩
  · have h0' : ((l.length : Int) == 0) = false := by rw [beq_eq_false_iff_ne]; omega
    simp [hlen, h0']
    have hel := (hr.sub (S.was' (st0 := st) (by simp))).elems eId_len
    have hf0 : fillV (repV zR32_w80 0) [] = some [] := rfl
    simp [hf0, hel]
    refine Sep.appx' (b := 32) eId_len (by omega) S.slxFull l rfl rfl (by simp; omega) ?_
    intro s1 st2 S
    rw [List.nil_append] at S
    simp
    refine vc_loopJ (fun c env' st' => ∃ s5 row tw, c = row.length ∧ row ≠ [] ∧ row.length ≤ 1000 ∧ env' 5 = s5 ∧ env' 4 = .bool tw ∧ rootF row.length row tw = rootM l ∧ Sep [Slx 32 eId s5 row, pt rid (.cells zR32_w80), Was st] st') l.length
      ⟨s1, l, false, rfl, fun e => h0 (by rw [e]; rfl), hl, by simp, by simp, rfl, S⟩ ?_
    rintro J hJ c env' st3 hsame ⟨s5, row, tw, rfl, hne, hrl, h5, h4, hrt, S⟩
    have g2 := (hsame.get 2 rfl).trans (by simp : _ = V.ptr (some (rid, 0)))
    clear hsame
    have rd5 := Sep.rd eId_len (S.head fun h hh => hh.sl)
    have hln := rd5.len
    by_cases h1 : 1 < row.length
    · have h1' : (1 : Int) < row.length := by omega
      simp [h5, hln, h1']
      have hul := upM_len row
      refine vc_loopJ (fun c env2 st' => ∃ i s6 up tw', i ≤ row.length ∧ c = row.length - i ∧ env2 7 = .int .i64 (i : Nat) ∧ env2 6 = s6 ∧ env2 4 = .bool tw' ∧ up ++ upM (row.drop i) = upM row ∧ up.length ≤ 1000 ∧ (tw' || twinM (row.drop i)) = (tw || twinM row) ∧ Sep [Slx 32 eId s6 up, Slx 32 eId s5 row, pt rid (.cells zR32_w80), Was st] st') row.length
        ⟨0, _, [], tw, by omega, by omega, by simp, by simp, by simp [h4], by simp, by simp, by simp, S.slxNil⟩ ?_
      clear S
      rintro J2 hJ2 c env2 st4 hsame ⟨i, s6, up, tw', hi, rfl, h7, h6, h4', hup, hupl, htw, S⟩
      have q2 := (hsame.get 2 rfl).trans (by simp [g2] : _ = V.ptr (some (rid, 0)))
      have q5 := (hsame.get 5 rfl).trans (by simp [h5] : _ = s5)
      clear hsame
      have rd5 := Sep.rd eId_len (S.drop.head fun h hh => hh.sl)
      have w1 : IntKind.i64.wrap ((i : Int) + 1) = (i : Int) + 1 := wrap64 (by omega) (by omega)
      have w2 : IntKind.i64.wrap ((i : Int) + 2) = (i : Int) + 2 := wrap64 (by omega) (by omega)
      by_cases hlt : i < row.length
      · obtain ⟨r1, r2, r3, r4⟩ := rd5.row eId_len hlt
        have hpa : ∀ x y : Id, sha2 (x.toList ++ y.toList) = pairM x y := fun _ _ => rfl
        by_cases hlast : i + 1 = row.length
        · have hd : row.drop i = [row[i]] := by rw [List.drop_eq_getElem_cons hlt, hlast, List.drop_length]
          rw [hd] at hup htw
          have he : ((i : Int) + 1 == (row.length : Int)) = true := by rw [beq_iff_eq]; omega
          simp [h7, q5, hln, hlt, w1, he, h6, r1, r3]
          refine (spec207 ok st4 row[i] row[i]).mono ?_
          rintro v st4 ⟨rfl, rfl⟩
          rw [hpa]
          have hel1 : elems st4 32 (.sl .full (eId (pairM row[i] row[i])) 1) = some (rowsOf eId [pairM row[i] row[i]], 1) := by simp [elems, eId_len]
          simp [fillIdT, hel1]
          refine Sep.appx' (b := 32) eId_len (by omega) S [pairM row[i] row[i]] (by simp) rfl (by rw [List.length_singleton]; omega) ?_
          intro s7 st5 S
          simp
          have e : up ++ [pairM row[i] row[i]] = upM row := by rw [← hup]; rfl
          have et : tw' = (tw || twinM row) := by rw [← htw]; simp [twinM]
          rw [e] at S
          refine Round.mk (upM row).length _ (by omega) (sub_self _) (hJ _ _ _ ⟨s7, upM row, tw', rfl, fun e => by rw [e] at hul; simp at hul; omega, by omega, by simp, by simp [h4'], ?_, S.tail fun r h => h.drop⟩)
          rw [← hrt, et, rootF_step h1 (by omega)]
          exact rootF_more _ _ _ _ (by omega) (by omega)
        · have hlt2 : i + 1 < row.length := by omega
          have hd : row.drop i = row[i] :: row[i + 1] :: row.drop (i + 2) := by rw [List.drop_eq_getElem_cons hlt, List.drop_eq_getElem_cons hlt2]
          rw [hd] at hup htw
          obtain ⟨p1, p2, p3, p4⟩ := rd5.row eId_len hlt2
          rw [Int.natCast_add, Int.natCast_one] at p1
          have he : ((i : Int) + 1 == (row.length : Int)) = false := by rw [beq_eq_false_iff_ne]; omega
          have htw2 : ((tw' || decide (row[i] = row[i + 1])) || twinM (row.drop (i + 2))) = (tw || twinM row) := by
            rw [← htw, twinM, Bool.or_assoc]
          have hup2 : (up ++ [pairM row[i] row[i + 1]]) ++ upM (row.drop (i + 2)) = upM row := by rw [← hup, List.append_assoc]; rfl
          have hul2 : (up ++ [pairM row[i] row[i + 1]]).length ≤ 1000 := by
            have := congrArg List.length hup2
            rw [List.length_append] at this
            omega
          have hel1 : elems st4 32 (.sl .full (eId (pairM row[i] row[i + 1])) 1) = some (rowsOf eId [pairM row[i] row[i + 1]], 1) := by simp [elems, eId_len]
          have hq : eqK (.agg 32) (.agg (eId row[i])) (.agg (eId row[i + 1])) = some (decide (row[i] = row[i + 1])) := by simp [eqK, eId_len, eqL_id]
          cases tw' with
          | true =>
            simp [h7, q5, hln, hlt, w1, he, h6, h4', r1, r3, p1, p3]
            refine (spec207 ok st4 row[i] row[i + 1]).mono ?_
            rintro v st4 ⟨rfl, rfl⟩
            rw [hpa]
            simp [fillIdT, hel1]
            refine Sep.appx' (b := 32) eId_len (by omega) S [pairM row[i] row[i + 1]] (by simp) rfl (by rw [List.length_singleton]; omega) ?_
            intro s7 st5 S
            simp [h7, w2]
            exact Round.mk (row.length - (i + 2)) _ (by omega) (sub_self _) (hJ2 _ _ _ ⟨i + 2, s7, _, true, by omega, rfl, by simp, by simp, by simp [h4'], hup2, hul2, by simpa using htw2, S⟩)
          | false =>
            simp [h7, q5, hln, hlt, w1, he, h6, h4', r1, r3, p1, p3, hq]
            refine (spec207 ok st4 row[i] row[i + 1]).mono ?_
            rintro v st4 ⟨rfl, rfl⟩
            rw [hpa]
            simp [fillIdT, hel1]
            refine Sep.appx' (b := 32) eId_len (by omega) S [pairM row[i] row[i + 1]] (by simp) rfl (by rw [List.length_singleton]; omega) ?_
            intro s7 st5 S
            simp [h7, w2]
            exact Round.mk (row.length - (i + 2)) _ (by omega) (sub_self _) (hJ2 _ _ _ ⟨i + 2, s7, _, decide (row[i] = row[i + 1]), by omega, rfl, by simp, by simp, by simp, hup2, hul2, by simpa using htw2, S⟩)
      · have : i = row.length := by omega
        subst this
        rw [List.drop_length] at hup htw
        have e : up = upM row := by rw [← hup]; simp [upM]
        have et : tw' = (tw || twinM row) := by rw [← htw]; simp [twinM]
        simp [h7, q5, hln, h6]
        rw [e] at S
        refine Round.mk (upM row).length _ (by omega) (sub_self _) (hJ _ _ _ ⟨s6, upM row, tw', rfl, fun e => by rw [e] at hul; simp at hul; omega, by omega, by simp [h6], by simp [h4'], ?_, S.tail fun r h => h.drop⟩)
        rw [← hrt, et, rootF_step h1 (by omega)]
        exact rootF_more _ _ _ _ (by omega) (by omega)
    · have h1' : ¬ (1 : Int) < row.length := by omega
      have h0l : 0 < row.length := List.length_pos_iff.2 hne
      obtain ⟨r1, r2, r3, r4⟩ := rd5.row eId_len h0l
      have r1' : idxSlV 32 s5 (.int .i64 0) = some (rowP 32 s5 0) := r1
      simp [h5, hln, h1', h4, g2, r1', r3]
      have hrm : rootM l = (row[0], tw) := by
        rw [← hrt, rootF_done _ _ _ (by omega)]
        congr 1
        cases row with
        | nil => exact absurd rfl hne
        | cons a r => rfl
      obtain ⟨x, hx⟩ : ∃ x, x = row[0] := ⟨_, rfl⟩
      rw [hrm, ← hx]
      have S := S.drop
      have hst := store_z32 S.get x
      have S := S.set (.cells (eId x))
      have hsg := segId0 x
      simp [hst, St.seg, hsg, g2]
      exact S.was' (st0 := st) (by simp)
theorem spec197 (ok : OkTx P F) (st : St) : ACalls P (F 197) [] st fun v st' => v = .agg (eId id0 ++ [w32 4294967295#32]) ∧ st' = st := by
  refine shows_call ok.mixed ok.h197 (by simp [k197]) ?_
  simp only [k197]
  simp
  intro rid hrid
  have S := (Sep.start st).new hrid (.cells z33_1371)
  generalize st.upd rid _ = st1 at S ⊢
  have hf : fillV z33_1371 [(32, 1, w32 4294967295#32)] = some (eId id0 ++ [w32 4294967295#32]) := rfl
  obtain ⟨c, hc⟩ : ∃ c, c = eId id0 ++ [w32 4294967295#32] := ⟨_, rfl⟩
  have hl : c.length = 33 := by rw [hc, List.length_append, eId_len]; rfl
  rw [← hc] at hf ⊢
  have hst := store_pt (sz := 33) (o := 0) S.get (v := .agg c) (vs := c) rfl hl (by simp)
  rw [show spliceV z33_1371 0 c = c by simp [spliceV, hl]] at hst
  have S := S.set (.cells c)
  have hsg : segOf c 0 33 = some c := by simp [segOf, hl, List.take_of_length_le]
  simp [hf, hst, St.seg, hsg]
  exact S.was' (by simp)
end
end Go.Ab
set_option linter.unusedSimpArgs false
set_option linter.unusedVariables false
set_option maxRecDepth 10000
namespace Go.Ab
open Go Go.RowKit
section
variable {P : Program} {F : Fn}
def rowsIds (l : List Tx1) : List Id := l.map txIdM
set_option maxHeartbeats 4000000 in
theorem spec192 (ok : OkTx P F) (st : St) {s : V} {l : List Tx1} (hr : Rd 2 eTx s l st) (hl : l.length ≤ 1000) (ht : ∀ t ∈ l, t.ok 100) : ACalls P (F 192) [s] st fun v st' => v = .tup [.agg (eId (rootM (rowsIds l)).1), .bool (rootM (rowsIds l)).2] ∧ st' = st := by
  refine shows_call ok.mixed ok.h192 (by simp [k192]) ?_
  simp only [k192]
  have hlen := hr.len
  simp
  intro rid hrid
  have S := (Sep.start st).new hrid (.cells zR32_w80)
  generalize st.upd rid _ = st1 at S ⊢
  simp [hlen]
  refine vc_loopJ (fun c env' st' => ∃ i s4, i ≤ l.length ∧ c = l.length - i ∧ env' 9 = .int .i64 (i : Nat) ∧ env' 4 = s4 ∧ Sep [Slx 32 eId s4 (rowsIds (l.take i)), pt rid (.cells zR32_w80), Was st] st') l.length
    ⟨0, _, by omega, by omega, by simp, by simp, S.slxNil⟩ ?_
  rintro J hJ c env' st2 hsame ⟨i, s4, hi, rfl, h9, h4, S⟩
  have g2 := (hsame.get 2 rfl).trans (by simp : _ = V.ptr (some (rid, 0)))
  have g7 := (hsame.get 7 rfl).trans (by simp : _ = s)
  have g8 := (hsame.get 8 rfl).trans (by simp : _ = V.int .i64 (l.length : Int))
  clear hsame
  by_cases hlt : i < l.length
  · have w1 : IntKind.i64.wrap ((i : Int) + 1) = (i : Int) + 1 := wrap64 (by omega) (by omega)
    obtain ⟨r1, r2, r3, r4⟩ := (hr.sub (S.was' (st0 := st) (by simp))).row eTx_len hlt
    have htx := ht l[i] (List.getElem_mem hlt)
    have hmp : rowsIds (l.take (i + 1)) = rowsIds (l.take i) ++ [txIdM l[i]] := by rw [rowsIds, List.take_succ_eq_append_getElem hlt, List.map_append]; rfl
    have hml : (rowsIds (l.take i)).length = i := by rw [rowsIds, List.length_map, List.length_take]; omega
    obtain ⟨x, hx⟩ : ∃ x, x = l[i] := ⟨_, rfl⟩
    rw [← hx] at r3 htx hmp
    simp [g7, g8, h9, hlt, r1, r3]
    intro iid hiid
    have S := S.new hiid (.cells [.sl .nil [] 0, .sl .nil [] 0])
    have hst := store_pt (id := iid) (o := 0) (sz := 2) (v := .agg (eTx x)) (vs := eTx x) (S.mem (i := iid) (o := .cells [.sl .nil [] 0, .sl .nil [] 0]) (by simp)) rfl rfl (by simp)
    rw [show spliceV [V.sl .nil [] 0, V.sl .nil [] 0] 0 (eTx x) = eTx x from rfl] at hst
    have S := S.setAt (.cells (eTx x)) 0 rfl
    simp [hst] at S ⊢
    generalize st2.upd iid (.cells (eTx x)) = st3 at S ⊢
    have o6 := S.mem (i := iid) (o := .cells (eTx x)) (by simp)
    have hsg : segOf (eTx x) 0 2 = some (eTx x) := rfl
    simp [h4, St.seg, o6, hsg]
    refine (spec198 ok st3 x htx).mono ?_
    rintro v st3 ⟨rfl, rfl⟩
    have hel1 : elems st3 32 (.sl .full (eId (txIdM x)) 1) = some (rowsOf eId [txIdM x], 1) := by simp [elems, eId_len]
    simp [fillIdT, hel1]
    refine Sep.appx' (b := 32) eId_len (by omega) S.drop [txIdM x] (by simp) rfl (by rw [hml, List.length_singleton]; omega) ?_
    intro s7 st5 S
    rw [← hmp] at S
    simp [h9, w1]
    exact Round.mk (l.length - (i + 1)) _ (by omega) (sub_self _) (hJ _ _ _ ⟨i + 1, s7, by omega, rfl, by simp, by simp, S⟩)
  · have : i = l.length := by omega
    subst this
    rw [List.take_length] at S
    simp [g7, g8, h9, h4]
    have rd := Sep.rd eId_len (S.head fun h hh => hh.sl)
    refine (spec199 ok st2 rd (by rw [rowsIds, List.length_map]; omega)).mono ?_
    rintro v st2 ⟨rfl, rfl⟩
    obtain ⟨x, hx⟩ : ∃ x, x = (rootM (rowsIds l)).1 := ⟨_, rfl⟩
    obtain ⟨b, hb⟩ : ∃ b, b = (rootM (rowsIds l)).2 := ⟨_, rfl⟩
    rw [← hx, ← hb]
    have S := S.drop
    have hst := store_z32 S.get x
    have S := S.set (.cells (eId x))
    have hsg := segId0 x
    simp [hst, St.seg, hsg, g2]
    exact S.was' (st0 := st) (by simp)
end
end Go.Ab
set_option linter.unusedSimpArgs false
set_option linter.unusedVariables false
namespace Go.Ab
open Go Go.RowKit
theorem vc_joinB {P : Program} {c rest : PC} {id : Nat} {Q : Ex → Env → St → Prop} {env : Env} {st : St} (M : Env → St → Prop)
    (h : vc P c (blkK id (unrK M Q)) env st) (k : ∀ env' st', Same c.writes env env' → M env' st' → vc P rest Q env' st') : vc P c (blkK id (seqK P rest Q)) env st := by
  refine vc_frame c _ _ env st (fun ex env' st' hs hq => ?_) h
  cases ex with
  | normal => exact k env' st' hs hq
  | exit j =>
    unfold blkK at hq ⊢
    by_cases hj : j = id
    · simp only [hj, if_true] at hq ⊢
      exact k env' st' hs hq
    · simp only [hj, if_false] at hq ⊢
      exact hq
  | ret => exact hq
end Go.Ab
set_option linter.unusedSimpArgs false
set_option linter.unusedVariables false
set_option maxRecDepth 10000
namespace Go.Ab
open Go Go.RowKit
def sumGo : Int → List Out1 → Int × Bool
  | n, [] => (n, true)
  | n, o :: l => if o.amt < 0 ∨ 1125899906842624 < o.amt then (0, false) else if 1125899906842624 < n + o.amt then (0, false) else sumGo (n + o.amt) l
def sumM (l : List Out1) : Int × Bool := sumGo 0 l
theorem sumGo_range : ∀ (l : List Out1) (n : Int), 0 ≤ n → n ≤ 1125899906842624 → 0 ≤ (sumGo n l).1 ∧ (sumGo n l).1 ≤ 1125899906842624
  | [], n, h1, h2 => ⟨h1, h2⟩
  | o :: l, n, h1, h2 => by
    rw [sumGo]
    split
    · exact ⟨Int.le_refl _, by decide⟩
    · split
      · exact ⟨Int.le_refl _, by decide⟩
      · exact sumGo_range l _ (by omega) (by omega)
theorem sumM_range (l : List Out1) : 0 ≤ (sumM l).1 ∧ (sumM l).1 ≤ 1125899906842624 := sumGo_range l 0 (by decide) (by decide)
abbrev Pt := Id × W32
def ePt (p : Pt) : List V := eId p.1 ++ [w32 p.2]
theorem ePt_len (p : Pt) : (ePt p).length = 33 := by simp [ePt, eId_len]
def kPt (p : Pt) : V := .agg (ePt p)
theorem eqL_app : ∀ (a b c d : List V) (r s : Bool), eqL a b = some r → eqL c d = some s → eqL (a ++ c) (b ++ d) = some (r && s)
  | [], [], c, d, r, s, h1, h2 => by
    cases h1
    simpa using h2
  | [], b :: bs, c, d, r, s, h1, h2 => by cases h1
  | a :: as, [], c, d, r, s, h1, h2 => by cases a <;> cases h1
  | .int k a :: as, .int k' b :: bs, c, d, r, s, h1, h2 => by
    simp only [eqL, List.cons_append] at h1 ⊢
    split at h1
    · rename_i hk
      rw [if_pos hk]
      obtain ⟨t, h3, h4⟩ := Option.map_eq_some_iff.1 h1
      rw [eqL_app as bs c d t s h3 h2]
      subst h4
      simp [Bool.and_assoc]
    · cases h1
  | .bool _ :: _, _ :: _, _, _, _, _, h1, _ => by simp [eqL] at h1
  | .str _ :: _, _ :: _, _, _, _, _, h1, _ => by simp [eqL] at h1
  | .ptr _ :: _, _ :: _, _, _, _, _, h1, _ => by simp [eqL] at h1
  | .eptr _ :: _, _ :: _, _, _, _, _, h1, _ => by simp [eqL] at h1
  | .sl _ _ _ :: _, _ :: _, _, _, _, _, h1, _ => by simp [eqL] at h1
  | .hsl _ _ _ _ :: _, _ :: _, _, _, _, _, h1, _ => by simp [eqL] at h1
  | .map _ :: _, _ :: _, _, _, _, _, h1, _ => by simp [eqL] at h1
  | .func _ _ :: _, _ :: _, _, _, _, _, h1, _ => by simp [eqL] at h1
  | .nilf :: _, _ :: _, _, _, _, _, h1, _ => by simp [eqL] at h1
  | .agg _ :: _, _ :: _, _, _, _, _, h1, _ => by simp [eqL] at h1
  | .tup _ :: _, _ :: _, _, _, _, _, h1, _ => by simp [eqL] at h1
  | .junk :: _, _ :: _, _, _, _, _, h1, _ => by simp [eqL] at h1
  | .int _ _ :: _, .bool _ :: _, _, _, _, _, h1, _ => by simp [eqL] at h1
  | .int _ _ :: _, .str _ :: _, _, _, _, _, h1, _ => by simp [eqL] at h1
  | .int _ _ :: _, .ptr _ :: _, _, _, _, _, h1, _ => by simp [eqL] at h1
  | .int _ _ :: _, .eptr _ :: _, _, _, _, _, h1, _ => by simp [eqL] at h1
  | .int _ _ :: _, .sl _ _ _ :: _, _, _, _, _, h1, _ => by simp [eqL] at h1
  | .int _ _ :: _, .hsl _ _ _ _ :: _, _, _, _, _, h1, _ => by simp [eqL] at h1
  | .int _ _ :: _, .map _ :: _, _, _, _, _, h1, _ => by simp [eqL] at h1
  | .int _ _ :: _, .func _ _ :: _, _, _, _, _, h1, _ => by simp [eqL] at h1
  | .int _ _ :: _, .nilf :: _, _, _, _, _, h1, _ => by simp [eqL] at h1
  | .int _ _ :: _, .agg _ :: _, _, _, _, _, h1, _ => by simp [eqL] at h1
  | .int _ _ :: _, .tup _ :: _, _, _, _, _, h1, _ => by simp [eqL] at h1
  | .int _ _ :: _, .junk :: _, _, _, _, _, h1, _ => by simp [eqL] at h1
theorem eqL_w32 (x y : W32) : eqL [w32 x] [w32 y] = some (decide (x = y)) := by
  show eqL [.int .u32 (x.toNat : Int)] [.int .u32 (y.toNat : Int)] = _
  simp only [eqL, if_true, Option.map_some, Bool.and_true, Option.some.injEq]
  rw [Bool.eq_iff_iff]
  simp only [beq_iff_eq, decide_eq_true_eq]
  constructor
  · intro h
    exact BitVec.eq_of_toNat_eq (by omega)
  · intro h
    rw [h]
theorem eqL_pt (a b : Pt) : eqL (ePt a) (ePt b) = some (decide (a = b)) := by
  rw [ePt, ePt, eqL_app _ _ _ _ _ _ (eqL_id a.1 b.1) (eqL_w32 a.2 b.2)]
  congr 1
  rw [Bool.eq_iff_iff]
  simp only [Bool.and_eq_true, decide_eq_true_eq, Prod.ext_iff]
theorem keyed_pt : Keyed kPt (.agg 33) := ⟨fun k => by simp [isKey, kPt, ePt_len], fun a b => by
  simp only [keyEq, kPt]
  rw [if_pos (ePt_len a), eqL_pt]⟩
theorem lookup_lk0 {K A : Type} [DecidableEq K] {ek : K → V} {ev : A → V} {kk : KK} (hk : Keyed ek kk) {st : St} {id : Nat} {l : List (K × A)} (h : st id = some (.mp (encM ek ev l))) (z : V) (k : K) :
    lookupV st kk z false (.map (some id)) (ek k) = some (((lk k l).map ev).getD z) := by
  rw [lookup_enc hk h, if_neg (by simp)]; rfl
def In1.pt (x : In1) : Pt := (x.tx, x.ix)
def makerP : Pt := (id0, 4294967295#32)
theorem insegPt (x : In1) : segOf (eIn x) 0 33 = some (ePt x.pt) := seg_of_drop (zs := [keyV x.kk x.key]) (by rw [List.drop_zero]; simp [eIn, ePt, In1.pt]) (ePt_len _) (by omega)
def insGo (first : Bool) : List Pt → List In1 → Option Int
  | _, [] => none
  | seen, x :: l => if 100 < x.key.length then some 2 else if decide (x.pt = makerP) ≠ first then some 120 else if x.pt ∈ seen then some 5 else insGo first (x.pt :: seen) l
def txM (t : Tx1) (first : Bool) : Int :=
  if t.ins.length = 0 ∨ t.outs.length = 0 ∨ 32 < t.ins.length ∨ 32 < t.outs.length then 120 else
  match insGo first [] t.ins with
  | some e => e
  | none => if (sumM t.outs).2 = true then 0 else 121
theorem insV_len (t : Tx1) : lenSlV (insV t) = some (.int .i64 t.ins.length) := rfl
theorem outsV_len (t : Tx1) : lenSlV (outsV t) = some (.int .i64 t.outs.length) := rfl
theorem tsegIns (t : Tx1) : segOf (eTx t) 0 1 = some [insV t] := rfl
theorem tsegOuts (t : Tx1) : segOf (eTx t) 1 1 = some [outsV t] := rfl
theorem tsegAll (t : Tx1) : segOf (eTx t) 0 2 = some (eTx t) := rfl
section
variable {P : Program} {F : Fn}
set_option maxHeartbeats 2000000 in
theorem spec250 (ok : OkCheck P F) (st : St) {s : V} {l : List Out1} (hr : Rd 33 eOut s l st) (hl : l.length ≤ 100000) : ACalls P (F 250) [s] st fun v st' => v = .tup [.int .i64 (sumM l).1, .bool (sumM l).2] ∧ st' = st := by
  refine shows_call ok.mixed ok.h250 (by simp [k250]) ?_
  simp only [k250]
  have hlen := hr.len
  simp [hlen]
  refine vc_loopJ (fun c env' st' => ∃ (i : Nat) (n : Int), i ≤ l.length ∧ c = l.length - i ∧ env' 9 = .int .i64 (i : Nat) ∧ env' 4 = .int .i64 n ∧ 0 ≤ n ∧ n ≤ 1125899906842624 ∧ sumGo n (l.drop i) = sumM l ∧ Sep [Was st] st') l.length
    ⟨0, 0, by omega, by omega, by simp, by simp, by omega, by omega, by simp [sumM], Sep.start st⟩ ?_
  rintro J hJ c env' st2 hsame ⟨i, n, hi, rfl, h9, h4, hn0, hn1, hgo, S⟩
  have g7 := (hsame.get 7 rfl).trans (by simp : _ = s)
  have g8 := (hsame.get 8 rfl).trans (by simp : _ = V.int .i64 (l.length : Int))
  clear hsame
  have hsub : St.sub st st2 := S.was' (st0 := st) (by simp)
  by_cases hlt : i < l.length
  · obtain ⟨r1, r2, r3, r4⟩ := (hr.sub hsub).row eOut_len hlt
    rw [List.drop_eq_getElem_cons hlt, sumGo] at hgo
    obtain ⟨o, ho⟩ : ∃ o, o = l[i] := ⟨_, rfl⟩
    rw [← ho] at r3 hgo
    have w1 : IntKind.i64.wrap ((i : Int) + 1) = (i : Int) + 1 := wrap64 (by omega) (by omega)
    simp [g7, g8, h9, hlt, r1, r3]
    intro i6 h6
    have S := S.new h6 (.cells z33_0be4)
    have hst := store_pt (sz := 33) (o := 0) S.get (v := .agg (eOut o)) (vs := eOut o) rfl (eOut_len _) (by simp)
    rw [show spliceV z33_0be4 0 (eOut o) = eOut o by simp [spliceV, eOut_len]] at hst
    have S := S.set (.cells (eOut o))
    simp [hst] at S ⊢
    generalize st2.upd i6 (.cells (eOut o)) = st3 at S ⊢
    have o6 := S.get
    have hsa := ousegAmt o
    by_cases h1 : o.amt < 0
    · rw [if_pos (.inl h1)] at hgo
      simp [St.seg, o6, hsa, h1, ← hgo]
      exact S.was' (st0 := st) (by simp)
    · by_cases h2 : 1125899906842624 < o.amt
      · rw [if_pos (.inr h2)] at hgo
        simp [St.seg, o6, hsa, h1, h2, ← hgo]
        exact S.was' (st0 := st) (by simp)
      · rw [if_neg (by omega)] at hgo
        have w2 : IntKind.i64.wrap (n + o.amt) = n + o.amt := wrap64 (by omega) (by omega)
        by_cases h3 : 1125899906842624 < n + o.amt
        · rw [if_pos h3] at hgo
          simp [St.seg, o6, hsa, h1, h2, h3, h4, w2, ← hgo]
          exact S.was' (st0 := st) (by simp)
        · rw [if_neg h3] at hgo
          simp [St.seg, o6, hsa, h1, h2, h3, h4, h9, w1, w2]
          exact Round.mk (l.length - (i + 1)) _ (by omega) (sub_self _) (hJ _ _ _ ⟨i + 1, n + o.amt, by omega, rfl, by simp, by simp, by omega, by omega, hgo, S.drop⟩)
  · have : i = l.length := by omega
    subst this
    rw [List.drop_length, sumGo] at hgo
    simp [g7, g8, h9, h4, ← hgo]
    exact hsub
set_option maxHeartbeats 4000000 in
theorem spec249 (ok : OkCheck P F) (st : St) (t : Tx1) (first : Bool) (h1 : t.ins.length ≤ 100000) (h2 : t.outs.length ≤ 100000) (h3 : ∀ x ∈ t.ins, x.key.length ≤ 1000000) :
    ACalls P (F 249) [.agg (eTx t), .bool first] st fun v st' => v = .int .i64 (txM t first) ∧ st' = st := by
  have okt := ok.toOkTx
  refine shows_call ok.mixed ok.h249 (by simp [k249]) ?_
  simp only [k249]
  simp
  intro i2 hi2
  have S := (Sep.start st).new hi2 (.cells (eTx t))
  generalize st.upd i2 _ = st1 at S ⊢
  have o2 := S.get
  have li := insV_len t
  have lo := outsV_len t
  have si := tsegIns t
  have so := tsegOuts t
  by_cases c1 : t.ins.length = 0
  · have e : txM t first = 120 := by rw [txM, if_pos (.inl c1)]
    simp [St.seg, o2, si, so, li, lo, c1, e]
    exact S.was' (st0 := st) (by simp)
  have b1 : ((t.ins.length : Int) == 0) = false := by simpa using c1
  by_cases c2 : t.outs.length = 0
  · have e : txM t first = 120 := by rw [txM, if_pos (.inr (.inl c2))]
    simp [St.seg, o2, si, so, li, lo, b1, c2, e]
    exact S.was' (st0 := st) (by simp)
  have b2 : ((t.outs.length : Int) == 0) = false := by simpa using c2
  by_cases c3 : 32 < t.ins.length
  · have e : txM t first = 120 := by rw [txM, if_pos (.inr (.inr (.inl c3)))]
    have c3' : 32 < (t.ins.length : Int) := by omega
    simp [St.seg, o2, si, so, li, lo, b1, b2, c3', e]
    exact S.was' (st0 := st) (by simp)
  by_cases c4 : 32 < t.outs.length
  · have e : txM t first = 120 := by rw [txM, if_pos (.inr (.inr (.inr c4)))]
    have c3' : ¬ 32 < (t.ins.length : Int) := by omega
    have c4' : 32 < (t.outs.length : Int) := by omega
    simp [St.seg, o2, si, so, li, lo, b1, b2, c3', c4', e]
    exact S.was' (st0 := st) (by simp)
  have e0 : txM t first = match insGo first [] t.ins with | some e => e | none => if (sumM t.outs).2 = true then 0 else 121 := by rw [txM, if_neg (by omega)]
  have c3' : ¬ 32 < (t.ins.length : Int) := by omega
  have c4' : ¬ 32 < (t.outs.length : Int) := by omega
  simp [St.seg, o2, si, so, li, lo, b1, b2, c3', c4']
  intro i5 hi5
  have S := S.new hi5 (.mp [])
  generalize st1.upd i5 _ = st2 at S ⊢
  have o2 := S.mem (i := i2) (o := .cells (eTx t)) (by simp)
  simp [St.seg, o2, si, so, li, lo]
  refine vc_joinB (M := fun env' st' => insGo first [] t.ins = none ∧ Sep [pt i2 (.cells (eTx t)), Was st] st') ?_ ?_
  · refine vc_loopJ (fun c env' st' => ∃ (i : Nat) (seen : List Pt) (es : List (Pt × Bool)), i ≤ t.ins.length ∧ c = t.ins.length - i ∧ env' 36 = .int .i64 (i : Nat) ∧ insGo first seen (t.ins.drop i) = insGo first [] t.ins ∧ (∀ p, (lk p es).getD false = decide (p ∈ seen)) ∧
        Sep [pt i5 (.mp (encM kPt V.bool es)), pt i2 (.cells (eTx t)), Was st] st') t.ins.length
      ⟨0, [], [], by omega, by omega, by simp, by simp, by simp [lk], S⟩ ?_
    rintro J hJ c env' st3 hsame ⟨i, seen, es, hi, rfl, h36, hgo, hes, S⟩
    have g1 := (hsame.get 1 rfl).trans (by simp : _ = V.bool first)
    have g5 := (hsame.get 5 rfl).trans (by simp : _ = V.map (some i5))
    have g34 := (hsame.get 34 rfl).trans (by simp : _ = insV t)
    have g35 := (hsame.get 35 rfl).trans (by simp : _ = V.int .i64 (t.ins.length : Int))
    clear hsame
    by_cases hlt : i < t.ins.length
    · obtain ⟨r1, r2, r3, r4⟩ := (rd_ins t st3).row eIn_len hlt
      rw [List.drop_eq_getElem_cons hlt, insGo] at hgo
      have hkl := h3 t.ins[i] (List.getElem_mem hlt)
      obtain ⟨x, hx⟩ : ∃ x, x = t.ins[i] := ⟨_, rfl⟩
      rw [← hx] at r3 hgo hkl
      have w1 : IntKind.i64.wrap ((i : Int) + 1) = (i : Int) + 1 := wrap64 (by omega) (by omega)
      simp [g34, g35, h36, hlt, r1, r3]
      intro i7 hi7
      have S := S.new hi7 (.cells z34_1838)
      have hst := store_pt (sz := 34) (o := 0) S.get (v := .agg (eIn x)) (vs := eIn x) rfl (eIn_len _) (by simp)
      rw [show spliceV z34_1838 0 (eIn x) = eIn x by simp [spliceV, eIn_len]] at hst
      have S := S.set (.cells (eIn x))
      simp [hst] at S ⊢
      generalize st3.upd i7 (.cells (eIn x)) = st4 at S ⊢
      have o7 := S.get
      have o5 := S.mem (i := i5) (o := .mp (encM kPt V.bool es)) (by simp)
      have hsk := insegKey x
      have hsp := insegPt x
      have hlk : lenSlV (keyV x.kk x.key) = some (.int .i64 x.key.length) := rfl
      by_cases k1 : 100 < x.key.length
      · have k1' : 100 < (x.key.length : Int) := by omega
        rw [if_pos k1] at hgo
        rw [← hgo] at e0
        simp [St.seg, o7, hsk, hlk, k1', e0]
        exact S.was' (st0 := st) (by simp)
      · have k1' : ¬ 100 < (x.key.length : Int) := by omega
        rw [if_neg k1] at hgo
        have hm : eqK (.agg 33) (.agg (ePt x.pt)) (.agg (eId id0 ++ [w32 4294967295#32])) = some (decide (x.pt = makerP)) := by
          show eqK (.agg 33) (.agg (ePt x.pt)) (.agg (ePt makerP)) = _
          rw [eqK, if_pos (ePt_len _), eqL_pt]
        simp [St.seg, o7, hsk, hlk, k1', hsp, g1]
        refine ⟨_, spec197 okt st4, ?_⟩
        by_cases k2 : decide (x.pt = makerP) = first
        · rw [if_neg (by simpa using k2)] at hgo
          have hlu := lookup_lk0 keyed_pt (ev := V.bool) o5 (.bool false) x.pt
          have hge : ((lk x.pt es).map V.bool).getD (.bool false) = .bool (decide (x.pt ∈ seen)) := by
            rw [← hes x.pt]
            cases lk x.pt es <;> rfl
          simp only [hge, kPt] at hlu
          rw [k2] at hm
          have hb : eqK .bool (.bool first) (.bool first) = some true := by simp [eqK]
          simp [St.seg, o7, hsp, hm, hb, g1, g5, hlu]
          by_cases k3 : x.pt ∈ seen
          · rw [if_pos k3] at hgo
            rw [← hgo] at e0
            simp [k3, e0]
            exact S.was' (st0 := st) (by simp)
          · rw [if_neg k3] at hgo
            have hms := mset_enc keyed_pt (ev := V.bool) o5 x.pt true
            simp only [kPt] at hms
            simp [k3, St.seg, o7, hsp, g5, hms]
            have S := S.setAt (.mp (encM kPt V.bool (aSet x.pt true es))) 1 rfl
            simp at S
            simp [h36, w1]
            refine Round.mk (t.ins.length - (i + 1)) _ (by omega) (sub_self _) (hJ _ _ _ ⟨i + 1, x.pt :: seen, _, by omega, rfl, by simp, hgo, ?_, S.drop⟩)
            intro p
            rw [lk_aSet]
            by_cases hp : p = x.pt
            · simp [hp]
            · rw [if_neg hp, hes p]
              simp [hp]
        · rw [if_pos k2] at hgo
          rw [← hgo] at e0
          have hb : eqK .bool (.bool (decide (x.pt = makerP))) (.bool first) = some false := by
            show some (decide (x.pt = makerP) == first) = some false
            rw [beq_eq_false_iff_ne.2 k2]
          simp [St.seg, o7, hsp, hm, g1, hb, e0]
          exact S.was' (st0 := st) (by simp)
    · have : i = t.ins.length := by omega
      subst this
      rw [List.drop_length, insGo] at hgo
      simp [g35, h36]
      exact ⟨hgo.symm, S.drop⟩
  · rintro env' st3 hsame ⟨hno, S⟩
    have g2 := (hsame.get 2 rfl).trans (by simp : _ = V.ptr (some (i2, 0)))
    clear hsame
    rw [hno] at e0
    have o2 := S.get
    simp [g2, St.seg, o2, so]
    refine (spec250 ok st3 (rd_outs t st3) h2).mono ?_
    rintro v st3 ⟨rfl, rfl⟩
    cases hs : (sumM t.outs).2 with
    | true =>
      rw [hs] at e0
      simp [hs, e0]
      exact S.was' (st0 := st) (by simp)
    | false =>
      rw [hs] at e0
      simp [hs, e0]
      exact S.was' (st0 := st) (by simp)
end
end Go.Ab
set_option linter.unusedSimpArgs false
set_option linter.unusedVariables false
namespace Go.Ab
open Go Go.RowKit Go.ChangeShapes Go.WideShapes Go.Deep
section
variable {H : Type} {enc : TypeId × Value → H} {P : Program} {w : World} {base : Nat} {spare : Nat → Bool} {held : Bool}
end
end Go.Ab
set_option linter.unusedSimpArgs false
set_option linter.unusedVariables false
namespace Go.Ab
open Go Go.RowKit
structure CloneC (P : Program) (f : FuncId) : Prop where
  nil : ∀ st : St, ACalls P f [.map none] st fun v st' => v = .map none ∧ st' = st
  some : ∀ (st : St) (m : Nat) (es : List (V × V)), st m = some (.mp es) → ACalls P f [.map (some m)] st fun v st' => ∃ n, v = .map (some n) ∧ st n = none ∧ st' = st.upd n (.mp es)
theorem lrel_one {G : Gh} {v : V} {xs : List Value} (h : LRel G [v] xs) : ∃ x, xs = [x] ∧ VRel G v x := by
  obtain ⟨h1, h2⟩ := h
  match xs, h1 with
  | [x], _ => exact ⟨x, rfl, by simpa using h2 0 (by simp)⟩
theorem cloneC_of {P : Program} {f : FuncId} (h0 : ∀ w : World, Calls P f #[.map none] w fun e w' => e = .returned (.map none) ∧ w' = w)
    (h1 : ∀ (w : World) (b : Nat) (E : Array MapEntry) (clk : Nat), w.heap[b]? = some (.map E clk) → Calls P f #[.map (some b)] w fun e w' => e = .returned (.map (some w.heap.size)) ∧ w' = w.alloc (.map E clk)) : CloneC P f := by
  constructor
  · intro st fr hd B w0 G w xs hs ha
    obtain ⟨x, rfl, hx⟩ := lrel_one ha
    cases hx
    refine (h0 w).mono ?_
    rintro e w' ⟨rfl, rfl⟩
    exact ⟨_, _, G, st, rfl, G.le_refl, .nilmap, hd, hs, rfl, rfl⟩
  · intro st m es hm fr hd B w0 G w xs hs ha
    obtain ⟨x, rfl, hx⟩ := lrel_one ha
    cases hx with
    | map id b l k hι =>
      obtain ⟨b', l', m', k1, k2, E, clk, k3, k4, k5, k6, k7⟩ := hs.obj m _ (add_some hm)
      rw [hι] at k1
      cases k1
      refine (h1 w b E clk k3).mono ?_
      rintro e w' ⟨rfl, rfl⟩
      obtain ⟨g1, g2⟩ := hs.addObj (.map E clk) (.mp es) 0 0 ⟨E, clk, heap_alloc_self _ _, k4, fun i hi => ⟨(k5 i hi).1.mono (G.addObj_le _), (k5 i hi).2.mono (G.addObj_le _)⟩, k6, k7⟩
      have hN : st G.N = none ∧ fr G.N = none := by
        simp only [St.add] at g1
        cases h : st G.N with
        | none => exact ⟨rfl, by simpa [h] using g1⟩
        | some o => simp [h] at g1
      rw [← upd_add] at g2
      exact ⟨_, _, _, _, rfl, G.addObj_le _, .map _ _ _ _ (G.addObj_new _), hd.upd hN.2 _, g2, G.N, rfl, hN.1, rfl⟩
end Go.Ab
set_option linter.unusedVariables false
namespace Go.Ab
open Go
end Go.Ab
set_option linter.unusedSimpArgs false
set_option linter.unusedVariables false
set_option maxRecDepth 10000
namespace Go.Ab
open Go Go.RowKit
def stp (k : Nat) : Int := ((2 ^ (k - 10) : Nat) : Int)
section
variable {P : Program} {F : Fn}
theorem fill1 (x : Int) : fillV (repV [.int .i64 0] 1) [(0, 1, .int .i64 x)] = some (e1 x) := rfl
theorem el1 (st : St) (k : SK) (x : Int) : elems st 1 (.sl k (e1 x) 1) = some (e1 x, 1) := by simp [elems, e1]
end
end Go.Ab
set_option linter.unusedSimpArgs false
set_option linter.unusedVariables false
set_option linter.unusedSectionVars false
namespace Go.Ab
open Go Go.RowKit
def On (l : List Nd) (i k : Nat) : Prop := hgt l i ≤ hgt l k ∧ anc l k (hgt l i) = i
theorem onB_on {l : List Nd} {i k : Nat} (hi : i < l.length) (hk : k < l.length) : onB l i k = true ↔ On l i k := by
  rw [onB_nat hi hk]; simp [On]
theorem ancI_nat {l : List Nd} {i h : Nat} (hi : i < l.length) (hh : h ≤ hgt l i) : ancI l i h = (anc l i h : Nat) := by
  unfold ancI
  rw [if_neg (by simp only [Int.toNat_natCast]; omega), Int.toNat_natCast, Int.toNat_natCast]
theorem onB_range {l : List Nd} {i k : Int} (h : onB l i k = true) : ∃ a b : Nat, i = a ∧ k = b ∧ a < l.length ∧ b < l.length := by
  unfold onB at h
  simp only [Bool.and_eq_true, decide_eq_true_eq, beq_iff_eq] at h
  obtain ⟨⟨h1, h2⟩, h3⟩ := h
  unfold ancI at h3
  split at h3
  · omega
  · exact ⟨i.toNat, k.toNat, by omega, by omega, by omega, by omega⟩
section
variable {l : List Nd} (w : Wf l)
include w
theorem On.refl' (i : Nat) : On l i i := ⟨Nat.le_refl _, anc_self i⟩
theorem On.le {i k : Nat} (hk : k < l.length) (h : On l i k) : i ≤ k := by
  have := w.anc_le (h := hgt l i) hk
  rw [h.2] at this
  exact this
theorem On.of {k h : Nat} (hk : k < l.length) (hh : h ≤ hgt l k) : On l (anc l k h) k := by
  have e := w.anc_hgt hk hh
  refine ⟨by omega, by rw [e]⟩
theorem On.trans {i j k : Nat} (hk : k < l.length) (h1 : On l i j) (h2 : On l j k) : On l i k := by
  refine ⟨Nat.le_trans h1.1 h2.1, ?_⟩
  have := w.anc_anc hk h1.1 h2.1
  rw [h2.2, h1.2] at this
  exact this.symm
theorem On.chain {i j k : Nat} (hk : k < l.length) (h1 : On l i k) (h2 : On l j k) (h : hgt l i ≤ hgt l j) : On l i j := by
  refine ⟨h, ?_⟩
  have := w.anc_anc hk h h2.1
  rw [h2.2, h1.2] at this
  exact this
theorem hgt_zero_iff {i : Nat} (hi : i < l.length) (h : hgt l i = 0) : i = 0 := by
  rcases Nat.eq_zero_or_pos i with e | e
  · exact e
  · have := w.hgt_par e hi; omega
theorem On.zero {k : Nat} (hk : k < l.length) : On l 0 k := by
  have h0 := w.hgt_zero
  have e := w.anc_hgt hk (h := 0) (by omega)
  refine ⟨by omega, ?_⟩
  rw [h0]
  exact hgt_zero_iff w (w.anc_lt hk) e
theorem On.index {i j k : Nat} (hk : k < l.length) (hj : j < l.length) (h1 : On l i k) (h2 : On l j k) (h : i < j) : hgt l i < hgt l j := by
  rcases Nat.lt_or_ge (hgt l i) (hgt l j) with g | g
  · exact g
  · have := On.le w (by omega) (On.chain w hk h2 h1 g)
    omega
theorem On.par {i k : Nat} (hk : k < l.length) (h : On l i k) (hne : i ≠ k) : On l i (par l k) ∧ 0 < k := by
  have hlt : hgt l i < hgt l k := by
    rcases Nat.lt_or_ge (hgt l i) (hgt l k) with g | g
    · exact g
    · have e : hgt l i = hgt l k := by have := h.1; omega
      have := h.2
      rw [e, anc_self] at this
      exact absurd this.symm hne
  have hp := w.pos_of_hgt (i := k) (by omega)
  have h2 := w.hgt_par hp hk
  refine ⟨⟨by omega, ?_⟩, hp⟩
  rw [← w.anc_par hk hlt]
  exact h.2
theorem On.up {k : Nat} (hp : 0 < k) (hk : k < l.length) : On l (Ab.par l k) k := by
  have h1 := w.hgt_par hp hk
  have h2 := w.anc_par hk (h := hgt l (Ab.par l k)) (by omega)
  refine ⟨by omega, ?_⟩
  rw [h2, anc_self]
end
def meetGo (l : List Nd) : Nat → Nat → Nat → Nat
  | 0, a, _ => a
  | n + 1, a, b => if a = b then a else meetGo l n (par l a) (par l b)
def meetM (l : List Nd) (a b : Nat) : Nat := meetGo l (min (hgt l a) (hgt l b)) (anc l a (min (hgt l a) (hgt l b))) (anc l b (min (hgt l a) (hgt l b)))
structure Meets (l : List Nd) (a b m : Nat) : Prop where
  lt : m < l.length
  on1 : On l m a
  on2 : On l m b
  top : ∀ i, On l i a → On l i b → On l i m
theorem meetGo_spec {l : List Nd} (w : Wf l) : ∀ (n a b : Nat), a < l.length → b < l.length → hgt l a = n → hgt l b = n → Meets l a b (meetGo l n a b)
  | 0, a, b, ha, hb, e1, e2 => by
    have h1 := hgt_zero_iff w ha e1
    have h2 := hgt_zero_iff w hb e2
    subst h1 h2
    exact ⟨ha, On.refl' w _, On.refl' w _, fun i h _ => h⟩
  | n + 1, a, b, ha, hb, e1, e2 => by
    unfold meetGo
    by_cases h : a = b
    · subst h
      rw [if_pos rfl]
      exact ⟨ha, On.refl' w _, On.refl' w _, fun i h _ => h⟩
    · rw [if_neg h]
      have pa := w.pos_of_hgt (i := a) (by omega)
      have pb := w.pos_of_hgt (i := b) (by omega)
      have ia := w.par_lt pa ha
      have ib := w.par_lt pb hb
      have ga := w.hgt_par pa ha
      have gb := w.hgt_par pb hb
      have ih := meetGo_spec w n (par l a) (par l b) (by omega) (by omega) (by omega) (by omega)
      refine ⟨ih.lt, On.trans w ha ih.on1 (On.up w pa ha), On.trans w hb ih.on2 (On.up w pb hb), fun i h1 h2 => ?_⟩
      have na : i ≠ a := fun e => by
        subst e
        have := h2.2
        rw [e1, ← e2, anc_self] at this
        exact h this.symm
      have nb : i ≠ b := fun e => by
        subst e
        have := h1.2
        rw [e2, ← e1, anc_self] at this
        exact h this
      exact ih.top i (On.par w ha h1 na).1 (On.par w hb h2 nb).1
theorem meet_spec {l : List Nd} (w : Wf l) {a b : Nat} (ha : a < l.length) (hb : b < l.length) : Meets l a b (meetM l a b) := by
  obtain ⟨h, hh⟩ : ∃ h, h = min (hgt l a) (hgt l b) := ⟨_, rfl⟩
  have i1 := w.anc_lt (h := h) ha
  have i2 := w.anc_lt (h := h) hb
  have g1 := w.anc_hgt ha (h := h) (by omega)
  have g2 := w.anc_hgt hb (h := h) (by omega)
  have m := meetGo_spec w h (anc l a h) (anc l b h) i1 i2 g1 g2
  have o1 := On.of w ha (h := h) (by omega)
  have o2 := On.of w hb (h := h) (by omega)
  have e : meetM l a b = meetGo l h (anc l a h) (anc l b h) := by rw [meetM, ← hh]
  rw [e]
  refine ⟨m.lt, On.trans w ha m.on1 o1, On.trans w hb m.on2 o2, fun i k1 k2 => ?_⟩
  have hi : hgt l i ≤ h := by have := k1.1; have := k2.1; omega
  exact m.top i (On.chain w ha k1 o1 (by omega)) (On.chain w hb k2 o2 (by omega))
theorem On.anti {l : List Nd} (w : Wf l) {a b : Nat} (ha : a < l.length) (hb : b < l.length) (h1 : On l a b) (h2 : On l b a) : a = b := by
  have := On.le w hb h1
  have := On.le w ha h2
  omega
theorem Meets.uniq {l : List Nd} (w : Wf l) {a b m m' : Nat} (h : Meets l a b m) (h' : Meets l a b m') : m = m' :=
  On.anti w h.lt h'.lt (h'.top m h.on1 h.on2) (h.top m' h'.on1 h'.on2)
def wayM (l : List Nd) (a b : Nat) : List Int := (List.range (hgt l b - hgt l a)).map fun k => ((anc l b (hgt l a + 1 + k) : Nat) : Int)
def wayI (l : List Nd) (a b : Int) : List Int := if onB l a b = true then wayM l a.toNat b.toNat else []
theorem wayM_len (l : List Nd) (a b : Nat) : (wayM l a b).length = hgt l b - hgt l a := by simp [wayM]
theorem wayM_rev {l : List Nd} (a b : Nat) : ((List.range (hgt l b - hgt l a)).map fun k => ((anc l b (hgt l b - k) : Nat) : Int)).reverse = wayM l a b := by
  apply List.ext_getElem
  · simp [wayM]
  · intro i h1 h2
    have hi : i < hgt l b - hgt l a := by simpa [wayM] using h2
    rw [List.getElem_reverse]
    simp only [wayM, List.getElem_map, List.getElem_range, List.length_map, List.length_range]
    congr 2
    omega
end Go.Ab
set_option linter.unusedSimpArgs false
set_option linter.unusedVariables false
set_option maxRecDepth 10000
namespace Go.Ab
open Go Go.RowKit
section
variable {P : Program} {F : Fn}
end
end Go.Ab
set_option linter.unusedSimpArgs false
set_option linter.unusedVariables false
set_option maxRecDepth 10000
namespace Go.Ab
open Go Go.RowKit
def revTo (l : List Int) (i : Nat) : List Int := (List.range l.length).map fun k => if k < i ∨ l.length - 1 - k < i then l.getD (l.length - 1 - k) 0 else l.getD k 0
@[simp] theorem revTo_len (l : List Int) (i : Nat) : (revTo l i).length = l.length := by simp [revTo]
theorem revTo_get (l : List Int) (i k : Nat) (h : k < l.length) : (revTo l i)[k]'(by simpa using h) = if k < i ∨ l.length - 1 - k < i then l.getD (l.length - 1 - k) 0 else l.getD k 0 := by simp [revTo]
theorem revTo_zero (l : List Int) : revTo l 0 = l := by
  apply List.ext_getElem
  · simp
  · intro k h1 h2
    rw [revTo_get _ _ _ h2, if_neg (by omega)]
    simp [h2]
theorem revTo_all (l : List Int) {i : Nat} (h : l.length ≤ 2 * i + 1) : revTo l i = l.reverse := by
  apply List.ext_getElem
  · simp
  · intro k h1 h2
    have hk : k < l.length := by simpa using h1
    rw [revTo_get _ _ _ hk, List.getElem_reverse]
    have e : ∀ j (hj : j < l.length), l.getD j 0 = l[j] := fun j hj => by simp [hj]
    split
    · exact e _ (by omega)
    · have : k = l.length - 1 - k := by omega
      rw [e k hk]
      congr 1
theorem revTo_succ (l : List Int) {i : Nat} (h : 2 * i + 1 < l.length) : ((revTo l i).set i ((revTo l i)[l.length - 1 - i]'(by simp; omega))).set (l.length - 1 - i) ((revTo l i)[i]'(by simp; omega)) = revTo l (i + 1) := by
  apply List.ext_getElem
  · simp
  · intro k h1 h2
    have hk : k < l.length := by simpa using h2
    rw [List.getElem_set, List.getElem_set, revTo_get _ _ _ hk, revTo_get _ _ _ (show i < l.length by omega), revTo_get _ _ _ (show l.length - 1 - i < l.length by omega), revTo_get _ _ _ hk]
    by_cases c1 : l.length - 1 - i = k
    · rw [if_pos c1, if_neg (by omega), if_pos (by omega)]
      congr 1; omega
    · rw [if_neg c1]
      by_cases c2 : i = k
      · rw [if_pos c2, if_neg (by omega), if_pos (by omega)]
        congr 1; omega
      · rw [if_neg c2]
        by_cases c3 : k < i ∨ l.length - 1 - k < i
        · rw [if_pos c3, if_pos (by omega)]
        · rw [if_neg c3, if_neg (by omega)]
section
variable {P : Program} {F : Fn}
theorem e1_read {st : St} {id : Nat} {xs : List Int} {sp : List V} (h : st id = some (.cells (rowsOf e1 xs ++ sp))) {i : Nat} (hi : i < xs.length) : st.seg id i 1 = some [.int .i64 xs[i]] := by
  have := rowsOf_seg e1_len xs sp hi
  rw [Nat.mul_one] at this
  simp only [St.seg, h]
  exact this
theorem e1_store {st : St} {id : Nat} {xs : List Int} {sp : List V} (h : st id = some (.cells (rowsOf e1 xs ++ sp))) {i : Nat} (hi : i < xs.length) (x : Int) : storeS st 1 (.ptr (some (id, i))) (.int .i64 x) = some (st.upd id (.cells (rowsOf e1 (xs.set i x) ++ sp))) := by
  have hs := rowsOf_splice e1_len xs sp hi (o := 0) (vs := [.int .i64 x]) (by simp) (a := x) rfl
  rw [Nat.mul_one, Nat.add_zero] at hs
  simp only [storeS, h, cells_int]
  rw [if_pos ⟨rfl, by rw [List.length_append, rowsOf_length e1_len]; omega⟩, hs]
set_option maxHeartbeats 1000000 in
theorem spec230 (ok : OkLocate P F) {st : St} {s : V} {l : List Int} {L : List Asn} (S : Sep (Sl 1 e1 s l :: L) st) (hl : l.length ≤ 1000000) : ACalls P (F 230) [s] st fun v st' => Sep (Sl 1 e1 s l.reverse :: L) st' := by
  refine shows_call ok.mixed ok.h230 (by simp [k230]) ?_
  simp only [k230]
  have hlen := (Sep.rd e1_len S).len
  by_cases hne : l = []
  · subst hne
    have w0 : IntKind.i64.wrap (-1) = -1 := rfl
    simp at hlen
    simp [hlen, w0]
    refine vc_loopJ (fun c env' st' => env' 2 = .int .i64 0 ∧ env' 3 = .int .i64 (-1) ∧ st' = st) 0 ⟨by simp, by simp, rfl⟩ ?_
    rintro J hJ c env' st1 hsame ⟨h2, h3, rfl⟩
    simp [h2, h3]
    exact ⟨st1, sub_self _, by simpa using S⟩
  · obtain ⟨sid, spare, rfl, hsp, S⟩ := S.slObj hne
    have hp := List.length_pos_iff.2 hne
    have w0 : IntKind.i64.wrap ((l.length : Int) - 1) = (l.length : Int) - 1 := wrap64 (by omega) (by omega)
    simp [w0]
    have S : Sep (pt sid (.cells (rowsOf e1 (revTo l 0) ++ spare)) :: L) st := by rw [revTo_zero]; exact S
    refine vc_loopJ (fun c env' st' => ∃ i : Nat, 2 * i ≤ l.length ∧ c = l.length - i ∧ env' 2 = .int .i64 (i : Nat) ∧ env' 3 = .int .i64 ((l.length : Int) - 1 - i) ∧ Sep (pt sid (.cells (rowsOf e1 (revTo l i) ++ spare)) :: L) st') l.length
      ⟨0, by omega, by omega, by simp, by simp, S⟩ ?_
    clear S
    rintro J hJ c env' st1 hsame ⟨i, hi, rfl, h2, h3, S⟩
    have g0 := (hsame.get 0 rfl).trans (by simp : _ = V.hsl sid 0 1 l.length)
    clear hsame
    by_cases hlt : (i : Int) < (l.length : Int) - 1 - i
    · obtain ⟨j, hj⟩ : ∃ j, j = l.length - 1 - i := ⟨_, rfl⟩
      have ej : (l.length : Int) - 1 - i = (j : Int) := by omega
      rw [ej] at h3 hlt
      have hil : i < (revTo l i).length := by simp; omega
      have hjl : j < (revTo l i).length := by simp; omega
      have hin : (i : Int) < l.length := by omega
      have hjn : (j : Int) < l.length := by omega
      have ri := e1_read S.get hil
      have rj := e1_read S.get hjl
      have hst1 := e1_store S.get hil ((revTo l i)[j])
      have S1 := S.set (.cells (rowsOf e1 ((revTo l i).set i ((revTo l i)[j])) ++ spare))
      have hst2 := e1_store (i := j) S1.get (by simpa using hjl) ((revTo l i)[i])
      have S2 := S1.set (.cells (rowsOf e1 (((revTo l i).set i ((revTo l i)[j])).set j ((revTo l i)[i])) ++ spare))
      have hsu := revTo_succ l (i := i) (by omega)
      have e1' : (revTo l i)[l.length - 1 - i]'(by simp; omega) = (revTo l i)[j] := by congr 1; omega
      rw [e1', ← hj] at hsu
      rw [hsu] at hst2 S2
      have w1 : IntKind.i64.wrap ((i : Int) + 1) = (i : Int) + 1 := wrap64 (by omega) (by omega)
      have w2 : IntKind.i64.wrap ((j : Int) - 1) = (j : Int) - 1 := wrap64 (by omega) (by omega)
      generalize st1.upd sid (.cells (rowsOf e1 ((revTo l i).set i ((revTo l i)[j])) ++ spare)) = st2 at hst1 hst2 S2
      have hlt' : i < j := by omega
      have hin' : i < l.length := by omega
      have hjn' : j < l.length := by omega
      simp [g0, h2, h3, hlt', hin', hjn', ri, rj, hst1, hst2, w1, w2]
      refine Round.mk (l.length - (i + 1)) _ (by omega) (sub_self _) (hJ _ _ _ ⟨i + 1, by omega, rfl, by simp, ?_, S2⟩)
      simp
      omega
    · have S := S
      rw [revTo_all l (by omega)] at S
      simp [h2, h3, hlt]
      refine ⟨st1, sub_self _, ?_⟩
      have := Sep.ofObj S hsp
      simpa using this
theorem min_cl {l : List Nd} (w : Wf l) (hl : l.length ≤ 16384) (i : Int) : foldV min2V (.int .i64 i) [.int .i64 ((l.length : Int) - 1)] = some (.int .i64 (min i ((l.length : Int) - 1))) ∧ foldV max2V (.int .i64 0) [.int .i64 (min i ((l.length : Int) - 1))] = some (.int .i64 (clI l i : Nat)) ∧ IntKind.i64.wrap ((l.length : Int) - 1) = (l.length : Int) - 1 := by
  have hp := w.ne
  refine ⟨?_, ?_, wrap64 (by omega) (by omega)⟩
  · simp only [foldV, min2V, if_true, Option.bind_some]
    congr 2
    split <;> omega
  · simp only [foldV, max2V, if_true, Option.bind_some]
    unfold clI
    congr 2
    split <;> omega
end
end Go.Ab
set_option linter.unusedSimpArgs false
set_option linter.unusedVariables false
set_option maxRecDepth 10000
namespace Go.Ab
open Go Go.RowKit
theorem osegPar (x : Nd) : segOf (eNd x) 100 1 = some [.int .i64 x.parent] := seg_of_take (nsegPar x) (by rw [eNd_len]; omega)
inductive Made (r : Rl) : List Nd → Prop
  | new : Made r (newM r)
  | add {l : List Nd} (h : Made r l) (x : Hdr) (now : Int) : Made r (addM r l x now).1
  | fail {l : List Nd} (h : Made r l) (i : Int) : Made r (failM l i).1
theorem failM_wf {l : List Nd} (w : Wf l) (i : Int) : Wf (failM l i).1 ∧ (failM l i).1.length = l.length := by
  unfold failM
  split
  · exact ⟨w, rfl⟩
  · exact ⟨setF_wf w, setF_length⟩
section
variable {P : Program} {F : Fn}
end
end Go.Ab
set_option linter.unusedVariables false
namespace Go.Ab
open Go
end Go.Ab
set_option linter.unusedSimpArgs false
set_option linter.unusedVariables false
set_option maxRecDepth 10000
namespace Go.Ab
open Go Go.RowKit
theorem inI_of {l : List Nd} {i : Nat} (h : i < l.length) : inI l i = i := by unfold inI; rw [if_neg (by omega)]; omega
theorem par_int {l : List Nd} (w : Wf l) {i : Nat} (h0 : 0 < i) (hi : i < l.length) : (nd l i).parent = (par l i : Nat) := by
  have := w.succ i _ h0 (List.getElem?_eq_getElem hi)
  rw [par_at hi, nd_at hi]
  omega
theorem nd_hgt_eq {l : List Nd} {i : Nat} (hi : i < l.length) : (nd l i).height = hgt l i := by rw [nd_at hi, hgt_at hi]
section
variable {P : Program} {F : Fn}
set_option maxHeartbeats 1000000 in
theorem spec229 (ok : OkLocate P F) {st : St} {tid : Nat} {r : Rl} {l : List Nd} (h : TreeR tid r l st) (w : Wf l) (hl : l.length ≤ 16384) (a b : Int) :
    ACalls P (F 229) [.ptr (some (tid, 0)), .int .i64 a, .int .i64 b] st fun v st' => Sep [Sl 1 e1 v (wayI l a b), Was st] st' := by
  have okz := ok.toOkIndexZ
  have oki := okz.toOkIndex
  refine shows_call ok.mixed ok.h229 (by simp [k229]) ?_
  simp only [k229]
  have fin : onB l a b = false → ∃ s, St.sub s st ∧ Sep [Sl 1 e1 (.sl .nil [] 0) (wayI l a b), Was st] s := fun hb => by
    rw [wayI, hb]
    exact ⟨st, sub_self _, (Sep.start st).slNil⟩
  by_cases hb0 : b < 0
  · have hb : onB l a b = false := by
      cases e : onB l a b with
      | false => rfl
      | true => obtain ⟨x, y, _, rfl, _, _⟩ := onB_range e; omega
    simp [hb0]
    exact fin hb
  · simp [hb0]
    refine (spec159 oki h).mono ?_
    rintro v st ⟨rfl, rfl⟩
    by_cases hbl : (l.length : Int) ≤ b
    · have hb : onB l a b = false := by
        cases e : onB l a b with
        | false => rfl
        | true => obtain ⟨x, y, _, rfl, _, _⟩ := onB_range e; omega
      simp [hbl]
      exact fin hb
    · simp [hbl]
      refine (spec163 oki h w a b).mono ?_
      rintro v st ⟨rfl, rfl⟩
      cases hb : onB l a b with
      | false =>
        simp
        exact fin hb
      | true =>
        clear fin
        obtain ⟨A, B, rfl, rfl, hA, hB⟩ := onB_range hb
        have on := (onB_on hA hB).1 hb
        have hway : wayI l A B = wayM l A B := by rw [wayI, if_pos hb, Int.toNat_natCast, Int.toNat_natCast]
        rw [hway]
        have hgl := w.hgt_le hB
        obtain ⟨D, hD⟩ : ∃ D, D = hgt l B - hgt l A := ⟨_, rfl⟩
        simp
        refine vc_loopJ (fun c env' st' => ∃ (k : Nat) (s : V), k ≤ D ∧ c = D - k ∧ env' 8 = .int .i64 (anc l B (hgt l B - k) : Nat) ∧ env' 7 = s ∧ Sep [Sl 1 e1 s ((List.range k).map fun k => ((anc l B (hgt l B - k) : Nat) : Int)), Was st] st') D
          ⟨0, .sl .nil [] 0, by omega, by omega, by simp [anc_self], by simp, (Sep.start st).slNil⟩ ?_
        rintro J hJ c env' st1 hsame ⟨k, s, hk, rfl, h8, h7, S⟩
        have g0 := (hsame.get 0 rfl).trans (by simp : _ = V.ptr (some (tid, 0)))
        have g1 := (hsame.get 1 rfl).trans (by simp : _ = V.int .i64 (A : Int))
        clear hsame
        have hhk := w.anc_hgt hB (h := hgt l B - k) (by omega)
        have hlk := w.anc_lt (h := hgt l B - k) hB
        by_cases hlt : k < D
        · have hne : anc l B (hgt l B - k) ≠ A := fun e => by
            rw [e] at hhk; omega
          have hpos := w.pos_of_hgt (i := anc l B (hgt l B - k)) (by omega)
          have hpar : par l (anc l B (hgt l B - k)) = anc l B (hgt l B - (k + 1)) := by
            have h1 := w.anc_par hlk (h := hgt l B - (k + 1)) (by omega)
            have h2 := w.anc_anc hB (h := hgt l B - (k + 1)) (h' := hgt l B - k) (by omega) (by omega)
            have h3 := w.hgt_par hpos hlk
            rw [h2] at h1
            rw [h1, show hgt l B - (k + 1) = hgt l (par l (anc l B (hgt l B - k))) by omega, anc_self]
          have hpi := par_int w hpos hlk
          rw [hpar] at hpi
          obtain ⟨X, hX⟩ : ∃ X, X = anc l B (hgt l B - k) := ⟨_, rfl⟩
          rw [← hX] at h8 hlk hne hpi
          have hXb : ((X : Int) != (A : Int)) = true := by simp; omega
          simp [g1, h8, h7, hXb, fill1, el1]
          refine Sep.app1 e1_len (by omega) S (a := (X : Int)) rfl (by simp; omega) ?_
          intro s' st2 S
          have TR := h.sub (S.was' (st0 := st) (by simp))
          simp [g0, h8]
          refine (spec161 oki TR w X).mono ?_
          rintro v st2 ⟨rfl, rfl⟩
          have oP := osegPar (nd l X)
          rw [inI_of hlk]
          rw [hpi] at oP
          simp [fldV_agg, oP]
          refine Round.mk (D - (k + 1)) _ (by omega) (sub_self _) (hJ _ _ _ ⟨k + 1, s', by omega, rfl, by simp, by simp, ?_⟩)
          rw [List.range_succ, List.map_append]
          have : [((X : Nat) : Int)] = List.map (fun k => ((anc l B (hgt l B - k) : Nat) : Int)) [k] := by simp [hX]
          rw [← this]
          exact S
        · have hkD : k = D := by omega
          have e : anc l B (hgt l B - k) = A := by
            rw [hkD, hD, show hgt l B - (hgt l B - hgt l A) = hgt l A by have := on.1; omega]
            exact on.2
          rw [e] at h8
          simp [g1, h8, h7]
          refine (spec230 ok S (by simp; omega)).mono ?_
          intro v st2 S
          rw [hkD, hD, wayM_rev] at S
          simp [h7]
          exact ⟨st2, sub_self _, S⟩
set_option maxHeartbeats 1000000 in
theorem spec228 (ok : OkLocate P F) {st : St} {tid : Nat} {r : Rl} {l : List Nd} (h : TreeR tid r l st) (w : Wf l) (hl : l.length ≤ 16384) (a b : Int) :
    ACalls P (F 228) [.ptr (some (tid, 0)), .int .i64 a, .int .i64 b] st fun v st' => v = .int .i64 (meetM l (clI l a) (clI l b) : Nat) ∧ st' = st := by
  have okz := ok.toOkIndexZ
  have oki := okz.toOkIndex
  refine shows_call ok.mixed ok.h228 (by simp [k228]) ?_
  simp only [k228]
  obtain ⟨a1, a2, a3⟩ := min_cl w hl a
  obtain ⟨b1, b2, _⟩ := min_cl w hl b
  obtain ⟨A, hA⟩ : ∃ A, A = clI l a := ⟨_, rfl⟩
  obtain ⟨B, hB⟩ : ∃ B, B = clI l b := ⟨_, rfl⟩
  have hAl : A < l.length := hA ▸ clI_lt w a
  have hBl : B < l.length := hB ▸ clI_lt w b
  rw [← hA] at a2 ⊢
  rw [← hB] at b2 ⊢
  simp
  refine (spec159 oki h).mono ?_
  rintro v st ⟨rfl, rfl⟩
  simp [a1, a2, a3]
  refine (spec159 oki h).mono ?_
  rintro v st ⟨rfl, rfl⟩
  simp [b1, b2, a3]
  refine (spec161 oki h w A).mono ?_
  rintro v st ⟨rfl, rfl⟩
  have oA := osegHgt (nd l A)
  rw [nd_hgt_eq hAl] at oA
  rw [inI_of hAl]
  simp [fldV_agg, oA]
  refine (spec161 oki h w B).mono ?_
  rintro v st ⟨rfl, rfl⟩
  have oB := osegHgt (nd l B)
  rw [nd_hgt_eq hBl] at oB
  rw [inI_of hBl]
  obtain ⟨M, hM⟩ : ∃ M, M = min (hgt l A) (hgt l B) := ⟨_, rfl⟩
  have hmin : foldV min2V (.int .i64 (hgt l A : Nat)) [.int .i64 (hgt l B : Nat)] = some (.int .i64 (M : Nat)) := by
    simp only [foldV, min2V, if_true, Option.bind_some]
    congr 2
    split <;> omega
  simp [fldV_agg, oB, hmin]
  refine (spec158 oki h w A M).mono ?_
  rintro v st ⟨rfl, rfl⟩
  rw [ancI_nat hAl (by omega)]
  simp
  refine (spec158 oki h w B M).mono ?_
  rintro v st ⟨rfl, rfl⟩
  rw [ancI_nat hBl (by omega)]
  have e : meetM l A B = meetGo l M (anc l A M) (anc l B M) := by rw [meetM, ← hM]
  have g1 := w.anc_hgt hAl (h := M) (by omega)
  have g2 := w.anc_hgt hBl (h := M) (by omega)
  have i1 := w.anc_lt (h := M) hAl
  have i2 := w.anc_lt (h := M) hBl
  rw [e]
  obtain ⟨X, hX⟩ : ∃ X, X = anc l A M := ⟨_, rfl⟩
  obtain ⟨Y, hY⟩ : ∃ Y, Y = anc l B M := ⟨_, rfl⟩
  rw [← hX] at g1 i1 ⊢
  rw [← hY] at g2 i2 ⊢
  simp
  refine vc_loopJ (fun c env' st' => ∃ (x y : Nat), x < l.length ∧ y < l.length ∧ hgt l x = c ∧ hgt l y = c ∧ meetGo l c x y = meetGo l M X Y ∧ env' 1 = .int .i64 (x : Nat) ∧ env' 2 = .int .i64 (y : Nat) ∧ st' = st) M
    ⟨X, Y, i1, i2, g1, g2, rfl, by simp, by simp, rfl⟩ ?_
  rintro J hJ c env' st1 hsame ⟨x, y, hx, hy, ex, ey, hm, h1, h2, rfl⟩
  have g0 := (hsame.get 0 rfl).trans (by simp : _ = V.ptr (some (tid, 0)))
  clear hsame
  by_cases hxy : x = y
  · have : meetGo l c x y = x := by
      cases c with
      | zero => rfl
      | succ c => rw [meetGo, if_pos hxy]
    rw [this] at hm
    simp [h1, h2, hxy, ← hm]
  · have hb : ((x : Int) != (y : Int)) = true := by simp; omega
    cases c with
    | zero =>
      exact absurd ((hgt_zero_iff w hx ex).trans (hgt_zero_iff w hy ey).symm) hxy
    | succ c =>
      rw [meetGo, if_neg hxy] at hm
      have px := w.pos_of_hgt (i := x) (by omega)
      have py := w.pos_of_hgt (i := y) (by omega)
      have hpx := par_int w px hx
      have hpy := par_int w py hy
      have lx := w.par_lt px hx
      have ly := w.par_lt py hy
      have hhx := w.hgt_par px hx
      have hhy := w.hgt_par py hy
      have ox := osegPar (nd l x)
      have oy := osegPar (nd l y)
      rw [hpx] at ox
      rw [hpy] at oy
      simp [g0, h1, h2, hb]
      refine (spec161 oki h w x).mono ?_
      rintro v st1 ⟨rfl, rfl⟩
      rw [inI_of hx]
      simp [fldV_agg, ox, g0, h2]
      refine (spec161 oki h w y).mono ?_
      rintro v st1 ⟨rfl, rfl⟩
      rw [inI_of hy]
      simp [fldV_agg, oy]
      exact Round.mk c _ (by omega) (sub_self _) (hJ _ _ _ ⟨par l x, par l y, by omega, by omega, by omega, by omega, hm, by simp, by simp, rfl⟩)
end
end Go.Ab
set_option linter.unusedSimpArgs false
set_option linter.unusedVariables false
set_option maxRecDepth 10000
namespace Go.Ab
open Go Go.RowKit
theorem Made.wf {r : Rl} {l : List Nd} (h : Made r l) (hl : l.length ≤ 16384) : Wf l := by
  have key : ∀ {l : List Nd}, Made r l → l.length ≤ 16384 → Wf l := by
    intro l h
    induction h with
    | new => exact fun _ => newM_wf r
    | add h x now ih =>
      intro hl
      rename_i l0
      rcases addM_cases r l0 x now with ⟨e, _⟩ | ⟨p, h1, _, _, h2, e⟩
      · rw [e] at hl ⊢; exact ih hl
      · rw [e] at hl ⊢
        have : l0.length ≤ 16384 := by simp at hl; omega
        exact ndOf_wf (ih this) (findM_lt h1)
    | fail h i ih =>
      intro hl
      rename_i l0
      have hw : l0.length ≤ 16384 := by
        have : (failM l0 i).1.length = l0.length := by
          unfold failM; split <;> simp
        omega
      exact (failM_wf (ih hw) i).1
  exact key h hl
theorem addM_len (r : Rl) (l : List Nd) (x : Hdr) (now : Int) : (addM r l x now).1.length ≤ l.length + 1 := by
  rcases addM_cases r l x now with ⟨e, _⟩ | ⟨p, _, _, _, _, e⟩ <;> rw [e] <;> simp
section
variable {P : Program} {F : Fn}
end
end Go.Ab
set_option linter.unusedSimpArgs false
set_option linter.unusedVariables false
set_option maxRecDepth 10000
namespace Go.Ab
open Go Go.RowKit
section
variable {P : Program} {F : Fn}
end
end Go.Ab
set_option linter.unusedSimpArgs false
set_option linter.unusedVariables false
namespace Go.Ab
open Go Go.RowKit
section
variable {α : Type}
def flg (l : List (α × Bool)) : List α := (l.filter (·.2)).map (·.1)
theorem flg_set {l : List (α × Bool)} {i : Nat} (hi : i < l.length) (hf : l[i].2 = false) : (flg (l.set i (l[i].1, true))).Perm (flg l ++ [l[i].1]) := by
  have e : l = l.take i ++ l[i] :: l.drop (i + 1) := by rw [← List.drop_eq_getElem_cons hi, List.take_append_drop]
  have e2 : l.set i (l[i].1, true) = l.take i ++ (l[i].1, true) :: l.drop (i + 1) := List.set_eq_take_append_cons_drop.trans (if_pos hi)
  have h1 : flg (l.set i (l[i].1, true)) = flg (l.take i) ++ l[i].1 :: flg (l.drop (i + 1)) := by rw [e2]; simp [flg]
  have h2 : flg l = flg (l.take i) ++ flg (l.drop (i + 1)) := by
    refine (congrArg flg e).trans ?_
    simp only [flg, List.filter_append, List.filter_cons, hf, Bool.false_eq_true, if_false, List.map_append]
  rw [h1, h2, List.append_assoc]
  exact List.Perm.append_left _ (List.perm_append_comm (l₁ := [l[i].1]))
theorem flg_all {l : List (α × Bool)} (h : ∀ x ∈ l, x.2 = true) : flg l = l.map (·.1) := by
  unfold flg
  rw [List.filter_eq_self.2 h]
theorem flg_none (l : List α) : flg (l.map fun x => (x, false)) = [] := by simp [flg]
theorem fst_set {l : List (α × Bool)} {i : Nat} (hi : i < l.length) : (l.set i (l[i].1, true)).map (·.1) = l.map (·.1) := by
  apply List.ext_getElem
  · simp
  · intro j q1 q2
    simp only [List.getElem_map, List.getElem_set]
    split
    · rename_i e; subst e; rfl
    · rfl
end
section
variable {K A : Type} (ek : K → V) (ev : A → V)
def encG (fl : List ((K × A) × Bool)) : List ((V × V) × Bool) := fl.map fun p => ((ek p.1.1, ev p.1.2), p.2)
theorem encG_len (fl : List ((K × A) × Bool)) : (encG ek ev fl).length = fl.length := by simp [encG]
theorem encG_start (es : List (K × A)) : (encM ek ev es).map (fun e => (e, false)) = encG ek ev (es.map fun x => (x, false)) := by simp [encG, encM, Function.comp_def]
theorem encG_map (fl : List ((K × A) × Bool)) : (encG ek ev fl).map (·.1) = encM ek ev (fl.map (·.1)) := by simp [encG, encM, Function.comp_def]
theorem encG_set (fl : List ((K × A) × Bool)) {i : Nat} (hi : i < fl.length) (h : i < (encG ek ev fl).length) : (encG ek ev fl).set i ((encG ek ev fl)[i].1, true) = encG ek ev (fl.set i (fl[i].1, true)) := by
  simp [encG, List.map_set]
theorem encG_all {fl : List ((K × A) × Bool)} (h : ∀ x ∈ encG ek ev fl, x.2 = true) : ∀ x ∈ fl, x.2 = true := fun x hx => h ((ek x.1.1, ev x.1.2), x.2) (List.mem_map.2 ⟨x, hx, rfl⟩)
end
end Go.Ab

import Derived.Test.YtgodabkifdmfcaaJ4
import Derived.Test.YtgodabkifdmfcaaJ6
/-
  index: a tree on the heap; the functions that only look.
-/
set_option linter.unusedSimpArgs false
set_option linter.unusedVariables false
set_option maxRecDepth 10000
namespace Go.Ab
open Go Go.RowKit

def eNd (x : Nd) : List V := eHdr x.hdr ++ (eId x.id ++ (.int .i64 x.parent :: .int .i64 x.skip :: .int .i64 x.height :: (eU (natU x.work) ++ [.bool x.failed])))
theorem eNd_len (x : Nd) : (eNd x).length = 108 := by simp [eNd, eHdr_len, eId_len, eU_len]
def eRl (r : Rl) : List V := w32 r.limit :: .int .i64 r.every :: .int .i64 r.spacing :: .int .i64 r.subsidy :: .int .i64 r.work :: (eHdr r.gen ++ [r.txs])
theorem eRl_len (r : Rl) : (eRl r).length = 74 := by simp [eRl, eHdr_len]

theorem eNd_drop68 (x : Nd) : (eNd x).drop 68 = eId x.id ++ (.int .i64 x.parent :: .int .i64 x.skip :: .int .i64 x.height :: (eU (natU x.work) ++ [.bool x.failed])) := by
  rw [eNd, ← eHdr_len x.hdr, List.drop_left]
theorem eNd_drop100 (x : Nd) : (eNd x).drop 100 = .int .i64 x.parent :: .int .i64 x.skip :: .int .i64 x.height :: (eU (natU x.work) ++ [.bool x.failed]) := by
  rw [show 100 = 68 + 32 from rfl, ← List.drop_drop, eNd_drop68]
  rw [show 32 = (eId x.id).length from (eId_len _).symm, List.drop_left]
theorem nsegHdr (x : Nd) : ((eNd x).drop 0).take 68 = eHdr x.hdr := by rw [List.drop_zero, eNd, ← eHdr_len x.hdr, List.take_left]
theorem nsegId (x : Nd) : ((eNd x).drop 68).take 32 = eId x.id := by rw [eNd_drop68, ← eId_len x.id, List.take_left]
theorem nsegPar (x : Nd) : ((eNd x).drop 100).take 1 = [.int .i64 x.parent] := by rw [eNd_drop100]; rfl
theorem nsegSkip (x : Nd) : ((eNd x).drop 101).take 1 = [.int .i64 x.skip] := by rw [show 101 = 100 + 1 from rfl, ← List.drop_drop, eNd_drop100]; rfl
theorem nsegHgt (x : Nd) : ((eNd x).drop 102).take 1 = [.int .i64 x.height] := by rw [show 102 = 100 + 2 from rfl, ← List.drop_drop, eNd_drop100]; rfl
theorem nsegWork (x : Nd) : ((eNd x).drop 103).take 4 = eU (natU x.work) := by rw [show 103 = 100 + 3 from rfl, ← List.drop_drop, eNd_drop100]; rfl
theorem nsegFail (x : Nd) : ((eNd x).drop 107).take 1 = [.bool x.failed] := by rw [show 107 = 100 + 7 from rfl, ← List.drop_drop, eNd_drop100]; rfl
theorem take_drop_take {cs : List V} {a n o k : Nat} (h : o + k ≤ n) : ((cs.drop (a + o)).take k) = ((((cs.drop a).take n).drop o).take k) := by
  rw [List.drop_take, List.drop_drop, List.take_take, Nat.min_eq_left (by omega)]
theorem nsegTime (x : Nd) : ((eNd x).drop 65).take 1 = [w32 x.hdr.time] := by
  have := take_drop_take (cs := eNd x) (a := 0) (n := 68) (o := 65) (k := 1) (by omega)
  rw [Nat.zero_add] at this
  rw [this, nsegHdr, hdrop65]; rfl
theorem nsegBits (x : Nd) : ((eNd x).drop 66).take 1 = [w32 x.hdr.bits] := by
  have := take_drop_take (cs := eNd x) (a := 0) (n := 68) (o := 66) (k := 1) (by omega)
  rw [Nat.zero_add] at this
  rw [this, nsegHdr, hdrop66]; rfl

section
variable {K A : Type} [DecidableEq K]
def lk (k : K) (l : List (K × A)) : Option A := l.lookup k
theorem lk_cons (k : K) (p : K × A) (l : List (K × A)) : lk k (p :: l) = if k = p.1 then some p.2 else lk k l := by
  obtain ⟨a, b⟩ := p
  unfold lk
  rw [List.lookup_cons]
  by_cases h : k = a
  · have : (k == a) = true := by simp [h]
    simp [h]
  · have : (k == a) = false := by simp [h]
    simp [h, this]
theorem lk_aSet (k k' : K) (v : A) (l : List (K × A)) : lk k (aSet k' v l) = if k = k' then some v else lk k l := by
  induction l with
  | nil => simp [aSet, lk_cons]
  | cons p l ih =>
    unfold aSet
    by_cases h1 : k' = p.1
    · rw [if_pos h1, lk_cons, lk_cons, ← h1]
      by_cases h : k = k' <;> simp [h]
    · rw [if_neg h1, lk_cons, lk_cons, ih]
      by_cases h2 : k = p.1
      · have : ¬ k = k' := by rw [h2]; exact fun e => h1 e.symm
        simp [h2, Ne.symm h1]
      · simp [h2]
theorem lookup_lk {ek : K → V} {ev : A → V} {kk : KK} (hk : Keyed ek kk) {st : St} {id : Nat} {l : List (K × A)} (h : st id = some (.mp (encM ek ev l))) (z : V) (k : K) :
    lookupV st kk z true (.map (some id)) (ek k) = some (.tup [((lk k l).map ev).getD z, .bool (lk k l).isSome]) := by
  rw [lookup_enc hk h, if_pos rfl]; rfl
end

/-- The cells of a tree: its rules, its headers, and which has which name. -/
structure TreeAt (tid sid mid : Nat) (spare : List V) (es : List (Id × Int)) (r : Rl) (l : List Nd) (st : St) : Prop where
  top : st tid = some (.cells (eRl r ++ [.hsl sid 0 108 l.length, .map (some mid)]))
  rows : st sid = some (.cells (rowsOf eNd l ++ spare))
  by_ : st mid = some (.mp (encM kId kInt es))
  room : 108 ∣ spare.length
  look : ∀ k, lk k es = (findM l k).map fun (i : Nat) => (i : Int)
def TreeR (tid : Nat) (r : Rl) (l : List Nd) (st : St) : Prop := ∃ sid mid spare es, TreeAt tid sid mid spare es r l st
theorem TreeAt.sub {tid sid mid : Nat} {spare : List V} {es : List (Id × Int)} {r : Rl} {l : List Nd} {st st' : St} (h : TreeAt tid sid mid spare es r l st) (hs : St.sub st st') : TreeAt tid sid mid spare es r l st' :=
  ⟨hs _ _ h.top, hs _ _ h.rows, hs _ _ h.by_, h.room, h.look⟩
theorem TreeR.sub {tid : Nat} {r : Rl} {l : List Nd} {st st' : St} (h : TreeR tid r l st) (hs : St.sub st st') : TreeR tid r l st' := by
  obtain ⟨sid, mid, spare, es, h⟩ := h
  exact ⟨sid, mid, spare, es, h.sub hs⟩

theorem tree_seg74 (r : Rl) (a b : V) : segOf (eRl r ++ [a, b]) 74 1 = some [a] := by
  have h := eRl_len r
  unfold segOf
  rw [if_pos (by simp [h]), ← h, List.drop_left]; rfl
theorem tree_seg75 (r : Rl) (a b : V) : segOf (eRl r ++ [a, b]) 75 1 = some [b] := by
  have h := eRl_len r
  unfold segOf
  rw [if_pos (by simp [h]), show 75 = 74 + 1 from rfl, ← List.drop_drop, ← h, List.drop_left]; rfl
theorem tree_seg0 (r : Rl) (a b : V) : segOf (eRl r ++ [a, b]) 0 74 = some (eRl r) := by
  have h := eRl_len r
  unfold segOf
  rw [if_pos (by simp [h]), List.drop_zero, ← h, List.take_left]
theorem tree_limit (r : Rl) (a b : V) : segOf (eRl r ++ [a, b]) 0 1 = some [w32 r.limit] := by
  unfold segOf; rw [if_pos (by simp)]; rfl
theorem tree_every (r : Rl) (a b : V) : segOf (eRl r ++ [a, b]) 1 1 = some [.int .i64 r.every] := by
  unfold segOf; rw [if_pos (by simp [eRl])]; rfl
theorem tree_spacing (r : Rl) (a b : V) : segOf (eRl r ++ [a, b]) 2 1 = some [.int .i64 r.spacing] := by
  unfold segOf; rw [if_pos (by simp [eRl])]; rfl

section
variable {l : List Nd} {i : Nat} {spare : List V}
theorem nd_part (hi : i < l.length) {o n : Nat} (h : o + n ≤ 108) : segOf (rowsOf eNd l ++ spare) (i * 108 + o) n = some (((eNd l[i]).drop o).take n) := rowsOf_part eNd_len l spare hi h
theorem nd_all (hi : i < l.length) : segOf (rowsOf eNd l ++ spare) (i * 108) 108 = some (eNd l[i]) := rowsOf_seg eNd_len l spare hi
theorem nd_par (hi : i < l.length) : segOf (rowsOf eNd l ++ spare) (i * 108 + 100) 1 = some [.int .i64 l[i].parent] := by rw [nd_part hi (by omega), nsegPar]
theorem nd_skip (hi : i < l.length) : segOf (rowsOf eNd l ++ spare) (i * 108 + 101) 1 = some [.int .i64 l[i].skip] := by rw [nd_part hi (by omega), nsegSkip]
theorem nd_hgt (hi : i < l.length) : segOf (rowsOf eNd l ++ spare) (i * 108 + 102) 1 = some [.int .i64 l[i].height] := by rw [nd_part hi (by omega), nsegHgt]
theorem nd_fail (hi : i < l.length) : segOf (rowsOf eNd l ++ spare) (i * 108 + 107) 1 = some [.bool l[i].failed] := by rw [nd_part hi (by omega), nsegFail]
theorem nd_time (hi : i < l.length) : segOf (rowsOf eNd l ++ spare) (i * 108 + 65) 1 = some [w32 l[i].hdr.time] := by rw [nd_part hi (by omega), nsegTime]
theorem hgt_at (hi : i < l.length) : hgt l i = l[i].height := by simp [hgt, hi]
theorem par_at (hi : i < l.length) : par l i = l[i].parent.toNat := by simp [par, hi]
end

theorem bits_and_nat {a b : Nat} (ha : a < 2 ^ 62) (hb : b < 2 ^ 62) : bits .and .i64 (a : Int) (b : Int) = ((a &&& b : Nat) : Int) := by
  have h1 : BitVec.ofInt IntKind.i64.bits (a : Int) = BitVec.ofNat 64 a := BitVec.ofInt_natCast _ _
  have h2 : BitVec.ofInt IntKind.i64.bits (b : Int) = BitVec.ofNat 64 b := BitVec.ofInt_natCast _ _
  have h3 : a &&& b ≤ a := Nat.and_le_left
  unfold bits
  rw [h1, h2]
  show IntKind.i64.wrap (((BitVec.ofNat 64 a &&& BitVec.ofNat 64 b).toNat : Nat) : Int) = _
  rw [BitVec.toNat_and, BitVec.toNat_ofNat, BitVec.toNat_ofNat, Nat.mod_eq_of_lt (by omega), Nat.mod_eq_of_lt (by omega)]
  exact wrap64 (by omega) (by omega)

section
variable {P : Program} {F : Fn}

/-- skip -/
theorem spec157 (ok : OkIndex P F) (st : St) (h : Nat) (hh : h < 2 ^ 61) : ACalls P (F 157) [.int .i64 (h : Nat)] st fun v st' => v = .int .i64 (skipH h : Nat) ∧ st' = st := by
  refine shows_call ok.mixed ok.h157 (by simp [k157]) ?_
  simp only [k157]
  by_cases h2 : h < 2
  · have e : skipH h = 0 := by simp [skipH, h2]
    have : (h : Int) < 2 := by omega
    simp [this, e]
  · obtain ⟨m, rfl⟩ : ∃ m, h = m + 2 := ⟨h - 2, by omega⟩
    have a1 : ¬ ((m : Int) + 2 < 2) := by omega
    have w1 : IntKind.i64.wrap ((m : Int) + 2 - 1) = ((m + 1 : Nat) : Int) := by rw [wrap64 (by omega) (by omega)]; omega
    have w2 : IntKind.i64.wrap (m : Int) = (m : Int) := wrap64 (by omega) (by omega)
    have b1 : bits .and .i64 ((m + 1 : Nat) : Int) (m : Int) = ((m + 1 &&& m : Nat) : Int) := bits_and_nat (by omega) (by omega)
    have b2 : bits .and .i64 ((m : Int) + 2) ((m + 1 : Nat) : Int) = ((m + 2 &&& m + 1 : Nat) : Int) := by
      have := bits_and_nat (a := m + 2) (b := m + 1) (by omega) (by omega)
      rw [← this]
      congr 1
    have l1 : m + 1 &&& m ≤ m := Nat.and_le_right
    have w3 : IntKind.i64.wrap ((m + 1 &&& m : Nat) + 1) = ((m + 1 &&& m : Nat) : Int) + 1 := wrap64 (by omega) (by omega)
    obtain ⟨A, hA⟩ : ∃ A, A = (m + 1 &&& m) := ⟨_, rfl⟩
    obtain ⟨B, hB⟩ : ∃ B, B = (m + 2 &&& m + 1) := ⟨_, rfl⟩
    obtain ⟨M, hM⟩ : ∃ M, M = ((m + 1 : Nat) : Int) := ⟨_, rfl⟩
    rw [← hA] at b1 w3
    rw [← hB] at b2
    rw [← hM] at w1 b1 b2
    have es : skipH (m + 2) = if m % 2 = 1 then A + 1 else B := by
      unfold skipH
      rw [if_neg h2, hA, hB]
      have : (m + 2) % 2 = m % 2 := by omega
      rw [this]
      rfl
    have em : ((m : Int) + 2) % 2 = ((m % 2 : Nat) : Int) := by omega
    have e2 : ((m : Int) + 2).tmod 2 = ((m % 2 : Nat) : Int) := by rw [Int.tmod_eq_emod_of_nonneg (by omega)]; exact em
    have hm2 : m % 2 < 2 := Nat.mod_lt _ (by omega)
    have wr : IntKind.i64.wrap (((m % 2 : Nat)) : Int) = ((m % 2 : Nat) : Int) := wrap64 (by omega) (by omega)
    obtain ⟨R, hR⟩ : ∃ R, R = m % 2 := ⟨_, rfl⟩
    rw [← hR] at es em e2 wr hm2
    rw [es]
    by_cases hm : R = 1
    · subst hm
      simp [a1, em, e2, wr, w1, w2, b1, w3]
    · have hz : R = 0 := by omega
      subst hz
      simp [a1, em, e2, wr, w1, w2, b2, hm]

theorem spec159 (ok : OkIndex P F) {st : St} {tid : Nat} {r : Rl} {l : List Nd} (h : TreeR tid r l st) : ACalls P (F 159) [.ptr (some (tid, 0))] st fun v st' => v = .int .i64 (l.length : Nat) ∧ st' = st := by
  obtain ⟨sid, mid, spare, es, h⟩ := h
  refine shows_call ok.mixed ok.h159 (by simp [k159]) ?_
  simp only [k159]
  simp [St.seg, h.top, tree_seg74]
theorem nd_at {l : List Nd} {j : Nat} (hj : j < l.length) : nd l j = l[j] := by simp [nd, hj]
/-- Which header a number means: the genesis if there isn't such a one. -/
def inI (l : List Nd) (i : Int) : Nat := if i < 0 ∨ (l.length : Int) ≤ i then 0 else i.toNat
theorem inI_lt {l : List Nd} (w : Wf l) (i : Int) : inI l i < l.length := by
  have := w.ne
  unfold inI
  split
  · exact this
  · omega
theorem spec161 (ok : OkIndex P F) {st : St} {tid : Nat} {r : Rl} {l : List Nd} (h : TreeR tid r l st) (w : Wf l) (i : Int) : ACalls P (F 161) [.ptr (some (tid, 0)), .int .i64 i] st fun v st' => v = .agg (eNd (nd l (inI l i))) ∧ st' = st := by
  obtain ⟨sid, mid, spare, es, h⟩ := h
  refine shows_call ok.mixed ok.h161 (by simp [k161]) ?_
  simp only [k161]
  simp
  intro i4 h4
  have hz : z108_9b14.length = 108 := rfl
  have hsp : ∀ x, spliceV z108_9b14 0 (eNd x) = eNd x := fun x => by simp [spliceV, eNd_len, hz]
  have hst : ∀ (x : Nd), storeS (st.upd i4 (.cells z108_9b14)) 108 (.ptr (some (i4, 0))) (.agg (eNd x)) = some (st.upd i4 (.cells (eNd x))) := fun x => by
    simp [storeS, eNd_len, hsp, hz]
  have hall' : ∀ x, segOf (eNd x) 0 108 = some (eNd x) := fun x => by
    unfold segOf
    rw [if_pos (by rw [eNd_len]; omega), List.drop_zero, ← eNd_len x, List.take_length]
  have h' := h.sub (sub_upd (o := .cells z108_9b14) h4)
  generalize hst1 : st.upd i4 (.cells z108_9b14) = st1 at h' hst ⊢
  have o1 := h'.top
  have o2 := h'.rows
  simp [St.seg, o1, tree_seg74]
  have hl0 := w.ne
  have hsub : ∀ x, St.sub st (st.upd i4 (.cells x)) := fun x => sub_upd h4
  by_cases h1 : i < 0
  · have e : inI l i = 0 := by simp [inI, h1]
    have hall := nd_all (spare := spare) hl0
    simp at hall
    rw [e, nd_at hl0]
    simp [h1, e, hl0, o1, o2, hall, hst, St.seg, hall', hsub, tree_seg74]
  · by_cases h2 : (l.length : Int) ≤ i
    · have e : inI l i = 0 := by simp [inI, h2]
      have hall := nd_all (spare := spare) hl0
      simp at hall
      rw [e, nd_at hl0]
      simp [h1, h2, e, hl0, o1, o2, hall, hst, St.seg, hall', hsub, tree_seg74]
    · obtain ⟨n, rfl⟩ : ∃ n : Nat, i = n := ⟨i.toNat, by omega⟩
      have hn : n < l.length := by omega
      have e : inI l n = n := by simp [inI]; omega
      have e2 : ¬ l.length ≤ n := by omega
      have hall := nd_all (spare := spare) hn
      rw [e, nd_at hn]
      simp [h1, e, e2, hn, o1, o2, hall, hst, St.seg, hall', hsub, tree_seg74]

/-- Ancestor -/
theorem anc_step {l : List Nd} (w : Wf l) {i h : Nat} (hi : i < l.length) (hh : h < hgt l i) :
    ∃ p s, l[i].parent = (p : Nat) ∧ l[i].skip = s ∧ p < i ∧ s ≤ p ∧ anc l p h = anc l i h ∧ h ≤ hgt l p ∧ (h ≤ hgt l s → anc l s h = anc l i h) ∧ s < l.length := by
  have hp := w.pos_of_hgt (i := i) (by omega)
  have e := List.getElem?_eq_getElem hi
  obtain ⟨a, b, c⟩ := w.succ i _ hp e
  have d := w.skip i _ hp e
  have hgi := hgt_at hi
  refine ⟨par l i, l[i].skip, ?_, rfl, w.par_lt hp hi, ?_, (w.anc_par hi hh).symm, ?_, ?_, ?_⟩
  · rw [par_at hi]; omega
  · rw [d, par_at hi]; exact w.anc_le (by omega)
  · have := w.hgt_par hp hi; omega
  · intro hs
    have hpp := w.hgt_par hp hi
    have hlt := w.par_lt hp hi
    have hk := skipH_lt (h := l[i].height) (by omega)
    have e2 : l[i].skip = anc l (par l i) (skipH l[i].height) := by rw [d, par_at hi]
    rw [e2] at hs ⊢
    have hh2 : skipH l[i].height ≤ hgt l (par l i) := by omega
    rw [w.anc_hgt (by omega) hh2] at hs
    rw [w.anc_anc (by omega) hs hh2, ← w.anc_par hi hh]
  · have := w.anc_lt (i := l[i].parent.toNat) (h := skipH l[i].height) (by omega)
    rw [d]; exact this
theorem spec158 (ok : OkIndex P F) {st : St} {tid : Nat} {r : Rl} {l : List Nd} (h : TreeR tid r l st) (w : Wf l) (i k : Int) : ACalls P (F 158) [.ptr (some (tid, 0)), .int .i64 i, .int .i64 k] st fun v st' => v = .int .i64 (ancI l i k) ∧ st' = st := by
  obtain ⟨sid, mid, spare, es, h⟩ := h
  refine shows_call ok.mixed ok.h158 (by simp [k158]) ?_
  simp only [k158]
  have o1 := h.top
  have o2 := h.rows
  by_cases h1 : i < 0
  · simp [h1, ancI]
  · by_cases h2 : (l.length : Int) ≤ i
    · simp [h1, h2, ancI, St.seg, o1, tree_seg74]
    · obtain ⟨n, rfl⟩ : ∃ n : Nat, i = n := ⟨i.toNat, by omega⟩
      have hn : n < l.length := by omega
      have e2 : ¬ l.length ≤ n := by omega
      by_cases h3 : k < 0
      · simp [h1, h3, ancI, St.seg, o1, tree_seg74, e2]
      · obtain ⟨m, rfl⟩ : ∃ m : Nat, k = m := ⟨k.toNat, by omega⟩
        have eh := hgt_at hn
        by_cases h4 : l[n].height < m
        · have : hgt l n < m := by omega
          simp [h1, h3, ancI, St.seg, o1, o2, tree_seg74, e2, hn, nd_hgt hn, h4, this]
        · have h4' : ¬ hgt l n < m := by omega
          have ea : ancI l n m = (anc l n m : Nat) := by simp [ancI, e2, h4', h1, h3]
          rw [ea]
          simp [h1, h3, St.seg, o1, o2, tree_seg74, e2, hn, nd_hgt hn, h4]
          refine vc_loopJ (fun c env' st' => ∃ j, j = c ∧ j < l.length ∧ m ≤ hgt l j ∧ anc l j m = anc l n m ∧ env' 1 = .int .i64 (j : Nat) ∧ st' = st) n ⟨n, rfl, hn, by omega, rfl, rfl, rfl⟩ ?_
          rintro J hJ c env' st2 hsame ⟨j, rfl, hj, hm, he, g1, rfl⟩
          have g0 := hsame.get 0 rfl
          have g2 := hsame.get 2 rfl
          simp at g0 g2
          clear hsame
          have ej := hgt_at hj
          by_cases hlt : m < l[j].height
          · obtain ⟨p, s, p1, p2, p3, p4, p5, p6, p7, p8⟩ := anc_step w hj (h := m) (by omega)
            have hp : p < l.length := by omega
            have es := hgt_at p8
            simp [g0, g1, g2, St.seg, o1, o2, tree_seg74, hj, nd_hgt hj, hlt, nd_skip hj, nd_par hj, p2, p8, nd_hgt p8]
            by_cases hs : m ≤ l[s].height
            · simp [hs]
              exact Round.mk s _ (by omega) (sub_self _) (hJ _ _ _ ⟨s, rfl, p8, by omega, by rw [p7 (by omega), he], by simp, rfl⟩)
            · simp [hs, g0, g1, g2, St.seg, o1, o2, tree_seg74, hj, nd_par hj, p1]
              exact Round.mk p _ (by omega) (sub_self _) (hJ _ _ _ ⟨p, rfl, hp, p6, by rw [p5, he], by simp, rfl⟩)
          · have hm' : hgt l j = m := by omega
            have : anc l n m = j := by rw [← he, ← hm']; exact anc_self j
            simp [g0, g1, g2, St.seg, o1, o2, tree_seg74, hj, nd_hgt hj, hlt, this]

/-- On -/
theorem spec163 (ok : OkIndex P F) {st : St} {tid : Nat} {r : Rl} {l : List Nd} (h : TreeR tid r l st) (w : Wf l) (i tip : Int) : ACalls P (F 163) [.ptr (some (tid, 0)), .int .i64 i, .int .i64 tip] st fun v st' => v = .bool (onB l i tip) ∧ st' = st := by
  obtain ⟨sid, mid, spare, es, h⟩ := h
  refine shows_call ok.mixed ok.h163 (by simp [k163]) ?_
  simp only [k163]
  have o1 := h.top
  have o2 := h.rows
  by_cases h1 : 0 ≤ i
  · by_cases h2 : i < (l.length : Int)
    · obtain ⟨n, rfl⟩ : ∃ n : Nat, i = n := ⟨i.toNat, by omega⟩
      have hn : n < l.length := by omega
      have eh := hgt_at hn
      simp [St.seg, o1, o2, tree_seg74, hn, nd_hgt hn]
      refine (spec158 ok ⟨sid, mid, spare, es, h⟩ w tip (l[n].height : Nat)).mono ?_
      rintro v st' ⟨rfl, rfl⟩
      simp [onB, hn, eh]
    · simp [h1, h2, onB, St.seg, o1, tree_seg74]
  · simp [h1, onB]
end
end Go.Ab
/-
  index: a header comes to stand in the tree.
-/
set_option linter.unusedSimpArgs false
set_option linter.unusedVariables false
set_option maxRecDepth 10000
namespace Go.Ab
open Go Go.RowKit

theorem splice_right {a t vs : List V} {n k : Nat} (ha : a.length = n) : spliceV (a ++ t) (n + k) vs = a ++ spliceV t k vs := by
  subst ha
  unfold spliceV
  rw [List.take_length_add_append, Nat.add_assoc, List.drop_length_add_append]
  simp only [List.append_assoc]
def eNpre (x : Nd) : List V := eHdr x.hdr ++ eId x.id
theorem eNpre_len (x : Nd) : (eNpre x).length = 100 := by simp [eNpre, eHdr_len, eId_len]
theorem eNd_pre (x : Nd) : eNd x = eNpre x ++ (.int .i64 x.parent :: .int .i64 x.skip :: .int .i64 x.height :: (eU (natU x.work) ++ [.bool x.failed])) := by simp [eNd, eNpre]
theorem spl_hdr (x : Nd) (h : Hdr) : spliceV (eNd x) 0 (eHdr h) = eNd { x with hdr := h } := by
  unfold spliceV
  rw [List.take_zero, List.nil_append, Nat.zero_add, eHdr_len, eNd_drop68]; rfl
theorem spl_id (x : Nd) (i : Id) : spliceV (eNd x) 68 (eId i) = eNd { x with id := i } := by
  rw [eNd, show 68 = 68 + 0 from rfl, splice_right (eHdr_len _)]
  unfold spliceV
  rw [List.take_zero, List.nil_append, Nat.zero_add, show (eId i).length = (eId x.id).length by rw [eId_len, eId_len], List.drop_left]; rfl
theorem spl_par (x : Nd) (n : Int) : spliceV (eNd x) 100 [.int .i64 n] = eNd { x with parent := n } := by
  rw [eNd_pre, show 100 = 100 + 0 from rfl, splice_right (eNpre_len _), eNd_pre]; rfl
theorem spl_skip (x : Nd) (n : Nat) : spliceV (eNd x) 101 [.int .i64 n] = eNd { x with skip := n } := by
  rw [eNd_pre, show 101 = 100 + 1 from rfl, splice_right (eNpre_len _), eNd_pre]; rfl
theorem spl_hgt (x : Nd) (n : Nat) : spliceV (eNd x) 102 [.int .i64 n] = eNd { x with height := n } := by
  rw [eNd_pre, show 102 = 100 + 2 from rfl, splice_right (eNpre_len _), eNd_pre]; rfl
theorem spl_work (x : Nd) (n : Nat) : spliceV (eNd x) 103 (eU (natU n)) = eNd { x with work := n } := by
  rw [eNd_pre, show 103 = 100 + 3 from rfl, splice_right (eNpre_len _), eNd_pre]; rfl
theorem spl_fail (x : Nd) (b : Bool) : spliceV (eNd x) 107 [.bool b] = eNd { x with failed := b } := by
  rw [eNd_pre, show 107 = 100 + 7 from rfl, splice_right (eNpre_len _), eNd_pre]; rfl
def nd0 : Nd := ⟨hdr0, id0, 0, 0, 0, 0, false⟩
theorem z108_eq : z108_9b14 = eNd nd0 := by
  have : eU (natU 0) = [w64 0, w64 0, w64 0, w64 0] := by rw [eU_zero0]; rfl
  rw [eNd, show nd0.work = 0 from rfl, this]; rfl
theorem seg_of_take {cs ys : List V} {o n : Nat} (h : ((cs.drop o).take n) = ys) (hl : o + n ≤ cs.length) : segOf cs o n = some ys := by
  unfold segOf
  rw [if_pos hl, h]
theorem osegAll (x : Nd) : segOf (eNd x) 0 108 = some (eNd x) := by
  refine seg_of_take ?_ (by rw [eNd_len]; omega)
  rw [List.drop_zero, ← eNd_len x, List.take_length]
theorem osegId (x : Nd) : segOf (eNd x) 68 32 = some (eId x.id) := seg_of_take (nsegId x) (by rw [eNd_len]; omega)
theorem osegHgt (x : Nd) : segOf (eNd x) 102 1 = some [.int .i64 x.height] := seg_of_take (nsegHgt x) (by rw [eNd_len]; omega)
theorem osegWork (x : Nd) : segOf (eNd x) 103 4 = some (eU (natU x.work)) := seg_of_take (nsegWork x) (by rw [eNd_len]; omega)
theorem osegTime (x : Nd) : segOf (eNd x) 65 1 = some [w32 x.hdr.time] := seg_of_take (nsegTime x) (by rw [eNd_len]; omega)
theorem osegBits (x : Nd) : segOf (eNd x) 66 1 = some [w32 x.hdr.bits] := seg_of_take (nsegBits x) (by rw [eNd_len]; omega)

/-- A tree that may be changed. -/
def TreeS (tid : Nat) (r : Rl) (l : List Nd) : Asn := fun h => ∃ s mid es, Sep [Sl 108 eNd s l, pt tid (.cells (eRl r ++ [s, .map (some mid)])), pt mid (.mp (encM kId kInt es))] h ∧ ∀ k, lk k es = (findM l k).map fun (i : Nat) => (i : Int)
theorem TreeS.toR {tid : Nat} {r : Rl} {l : List Nd} {st : St} (h : TreeS tid r l st) (hl : l ≠ []) : TreeR tid r l st := by
  obtain ⟨s, mid, es, S, hk⟩ := h
  obtain ⟨sid, spare, rfl, hs, S⟩ := S.slObj hl
  exact ⟨sid, mid, spare, es, S.mem (i := tid) (by simp), S.get, S.mem (i := mid) (by simp), hs, hk⟩
theorem Sep.treeR {tid : Nat} {r : Rl} {l : List Nd} {L : List Asn} {st : St} (h : Sep (TreeS tid r l :: L) st) (hl : l ≠ []) : TreeR tid r l st := by
  obtain ⟨h', h1, h2⟩ := h.part
  exact (h2.toR hl).sub h1
theorem splice74 (r : Rl) (a b c : V) : spliceV (eRl r ++ [a, b]) 74 [c] = eRl r ++ [c, b] := by
  rw [show 74 = 74 + 0 from rfl, splice_right (eRl_len r)]; rfl

/-- A header as it comes to stand. -/
def putM (l : List Nd) (h : Hdr) (p : Int) : Nd := if p < 0 then ⟨h, hId h, p, 0, 0, workN ((tgt h.bits).getD 0), false⟩ else ndOf l h p.toNat
theorem natU_add (a b : Nat) : BitVec.ofNat 256 (sumU [natU a, natU b]) = natU (a + b) := by
  apply BitVec.eq_of_toNat_eq
  simp [sumU, natU]
theorem tgtR_get (b : W32) : tgtR b = .tup [nU (natU ((tgt b).getD 0)), .bool (tgt b).isSome] ∧ (natU ((tgt b).getD 0)).toNat = (tgt b).getD 0 := by
  unfold tgtR
  cases h : tgt b with
  | none => exact ⟨rfl, rfl⟩
  | some t => exact ⟨rfl, natU_nat (tgt_lt h).2⟩
section
variable {P : Program} {F : Fn}
set_option maxHeartbeats 2000000 in
theorem spec156 (ok : OkIndex P F) {tid : Nat} {r : Rl} {l : List Nd} {g : St} (T : TreeS tid r l g) (w : l ≠ [] → Wf l) (hl : l.length ≤ 16384) (h : Hdr) (p : Int) (hp : p = -1 ∨ (0 ≤ p ∧ p < l.length)) :
    ACalls P (F 156) [.ptr (some (tid, 0)), .agg (eHdr h), .int .i64 p] g fun v st' => v = .int .i64 (l.length : Nat) ∧ TreeS tid r (l ++ [putM l h p]) st' := by
  have okh := ok.toOkHead
  have okn := okh.toOkNum
  obtain ⟨s, mid, es, S, hlk⟩ := T
  refine shows_call ok.mixed ok.h156 (by simp [k156]) ?_
  simp only [k156, z108_eq, eU_zero0]
  simp
  intro i4 h4
  have S := S.new h4 (.cells (eHdr h))
  generalize g.upd i4 _ = st1 at S ⊢
  have o4 := S.get
  have hfl : fillV (eNd nd0) [(0, 68, .agg (eHdr h)), (68, 32, .agg (eId (hId h))), (100, 1, .int .i64 p)] = some (eNd { nd0 with hdr := h, id := hId h, parent := p }) := by
    simp [fillV, eHdr_len, eId_len, eNd_len, spl_hdr, spl_id, spl_par]
  simp [St.seg, o4, hsegAll]
  refine ⟨_, spec141 okh st1 h, ?_⟩
  simp [hfl]
  intro i7 h7
  have S := S.new h7 (.cells (eNd nd0))
  have hsp : ∀ x y, spliceV (eNd x) 0 (eNd y) = eNd y := fun x y => by simp [spliceV, eNd_len]
  simp [storeS, eNd_len, hsp]
  have S := S.setAt (.cells (eNd { nd0 with hdr := h, id := hId h, parent := p })) 0 rfl
  simp at S
  generalize st1.upd i7 _ = st2 at S ⊢
  have o4 := S.mem (i := i4) (o := .cells (eHdr h)) (by simp)
  simp [St.seg, o4, hsegBits]
  refine (spec135 okh st2 h.bits).mono ?_
  rintro v st2 ⟨rfl, rfl⟩
  obtain ⟨hA1, hA2⟩ := tgtR_get h.bits
  rw [hA1]
  obtain ⟨T, hT⟩ : ∃ T, T = (tgt h.bits).getD 0 := ⟨_, rfl⟩
  rw [← hT] at hA2 ⊢
  have hspU : ∀ x y : U, spliceV (eU x) 0 (eU y) = eU y := fun _ _ => rfl
  simp
  intro i8 h8
  have S := S.new h8 (.cells (eU 0#256))
  simp [storeS, nU, eU_len, hspU]
  have S := S.setAt (.cells (eU (natU T))) 0 rfl
  simp at S
  generalize st2.upd i8 _ = st3 at S ⊢
  have o8 := S.get
  have o7 := S.mem (i := i7) (o := .cells (eNd { nd0 with hdr := h, id := hId h, parent := p })) (by simp)
  simp [St.seg, o8, segU]
  refine (spec137 okh st3 (natU T)).mono ?_
  rintro v st3 ⟨rfl, rfl⟩
  rw [hA2]
  obtain ⟨W, hW⟩ : ∃ W, W = workN T := ⟨_, rfl⟩
  rw [← hW]
  have S := S.setAt (.cells (eNd { nd0 with hdr := h, id := hId h, parent := p, work := W })) 1 rfl
  simp [storeS, o7, nU, eU_len, eNd_len, spl_work]
  simp at S
  generalize st3.upd i7 _ = st4 at S ⊢
  refine condB_join (fun env' st' => env' 0 = .ptr (some (tid, 0)) ∧ env' 7 = .ptr (some (i7, 0)) ∧ Sep [pt i7 (.cells (eNd (putM l h p))), Sl 108 eNd s l, pt tid (.cells (eRl r ++ [s, .map (some mid)])), pt mid (.mp (encM kId kInt es))] st') ?_ ?_
  · rcases hp with rfl | ⟨hp1, hp2⟩
    · have e : putM l h (-1) = { nd0 with hdr := h, id := hId h, parent := -1, work := W } := by
        simp [putM, hW, hT, nd0]
      simp
      rw [e]
      exact Sep.tail (fun r hr => hr.drop) S.drop
    · obtain ⟨q, rfl⟩ : ∃ q : Nat, p = q := ⟨p.toNat, by omega⟩
      have hq : q < l.length := by omega
      have hne : l ≠ [] := by rintro rfl; simp at hq
      have w := w hne
      obtain ⟨sid, spare, rfl, hsp1, S⟩ := (S.pull 3).slObj hne
      have TR : TreeAt tid sid mid spare es r l st4 := ⟨S.mem (i := tid) (by simp), S.get, S.mem (i := mid) (by simp), hsp1, hlk⟩
      obtain ⟨x1, hx1⟩ : ∃ x1 : Nd, x1 = { nd0 with hdr := h, id := hId h, parent := (q : Int), work := W } := ⟨_, rfl⟩
      have f1 : x1.work = W := by rw [hx1]
      have f2 : putM l h q = { x1 with height := hgt l q + 1, work := W + (nd l q).work, skip := anc l q (skipH (hgt l q + 1)) } := by
        rw [hx1]; simp [putM, ndOf, hW, hT, nd0]
      rw [← hx1] at S
      clear hx1
      have o2 := TR.rows
      have o1 := TR.top
      have o7 := S.mem (i := i7) (o := .cells (eNd x1)) (by simp)
      have hg := hgt_at hq
      have hgl := w.hgt_le hq
      have hqi : (q : Int) < l.length := by omega
      simp [St.seg, o1, o2, tree_seg74, hq, nd_all hq]
      intro i10 h10
      have S := S.new h10 (.cells (eNd nd0))
      simp [storeS, eNd_len, hsp]
      have S := S.setAt (.cells (eNd l[q])) 0 rfl
      simp at S
      generalize st4.upd i10 _ = st5 at S ⊢
      have o10 := S.get
      have o7 := S.mem (i := i7) (o := .cells (eNd x1)) (by simp)
      obtain ⟨H, hH⟩ : ∃ H, H = l[q].height := ⟨_, rfl⟩
      obtain ⟨pw, hpw⟩ : ∃ n, n = l[q].work := ⟨_, rfl⟩
      have hoH := osegHgt l[q]
      have hoW := osegWork l[q]
      rw [nd_at hq, hg] at f2
      rw [← hH] at hoH f2 hg
      rw [← hpw] at hoW f2
      have hw1 : IntKind.i64.wrap ((H : Int) + 1) = (H : Int) + 1 := wrap64 (by omega) (by omega)
      obtain ⟨x2, e1, e2, e3, f2⟩ : ∃ x2 : Nd, spliceV (eNd x1) 102 [.int .i64 ((H : Int) + 1)] = eNd x2 ∧ x2.work = W ∧ x2.height = H + 1 ∧ putM l h q = { x2 with work := W + pw, skip := anc l q (skipH (H + 1)) } := ⟨_, spl_hgt x1 (H + 1), f1, rfl, f2⟩
      simp [storeS, St.seg, o10, o7, hoH, hw1, eNd_len, e1]
      have S := S.setAt (.cells (eNd x2)) 3 rfl
      simp at S
      generalize st5.upd i7 _ = st6 at S ⊢
      have o10 := S.get
      have o7 := S.mem (i := i7) (o := .cells (eNd x2)) (by simp)
      have hoW2 := osegWork x2
      rw [e2] at hoW2
      have hfl2 : fillV (repV (eU 0#256) 2) [(0, 4, .agg (eU (natU W))), (4, 4, .agg (eU (natU pw)))] = some (rowsOf eU [natU W, natU pw]) := rfl
      simp [St.seg, o10, o7, hoW, hoW2, hfl2]
      have rd2 : Rd 4 eU (.sl .full (eU (natU W) ++ eU (natU pw)) 2) [natU W, natU pw] st6 := .inl ⟨.full, by simp [rowsOf]⟩
      refine (spec108 okn st6 rd2 (by simp)).mono ?_
      rintro v st6 ⟨rfl, rfl⟩
      rw [natU_add]
      obtain ⟨x3, e4, e5, f2⟩ : ∃ x3 : Nd, spliceV (eNd x2) 103 (eU (natU (W + pw))) = eNd x3 ∧ x3.height = H + 1 ∧ putM l h q = { x3 with skip := anc l q (skipH (H + 1)) } := ⟨_, spl_work x2 (W + pw), e3, f2⟩
      simp [o7, nU, storeS, eNd_len, e4, eU_len]
      have S := S.setAt (.cells (eNd x3)) 3 rfl
      simp at S
      generalize st6.upd i7 _ = st7 at S ⊢
      have o7 := S.mem (i := i7) (o := .cells (eNd x3)) (by simp)
      have ho3 := osegHgt x3
      rw [e5] at ho3
      simp [St.seg, o7, ho3]
      have TR : TreeR tid r l st7 := ⟨sid, mid, spare, es, S.mem (i := tid) (by simp), S.mem (i := sid) (by simp), S.mem (i := mid) (by simp), hsp1, hlk⟩
      refine (spec157 ok st7 (H + 1) (by omega)).mono ?_
      rintro v st7 ⟨rfl, rfl⟩
      have hsk := skipH_lt (h := H + 1) (by omega)
      refine (spec158 ok TR w q (skipH (H + 1) : Nat)).mono ?_
      rintro v st8 ⟨rfl, hst8⟩
      rw [hst8]
      clear hst8 st8
      have ea : ancI l q (skipH (H + 1) : Nat) = (anc l q (skipH (H + 1)) : Nat) := by
        have : ¬ l.length ≤ q := by omega
        have h2 : ¬ (H < skipH (H + 1)) := by omega
        have h3 : ¬ ((q : Int) < 0) := by omega
        have h4 : ¬ ((skipH (H + 1) : Int) < 0) := by omega
        simp [ancI, this, hg, h2, h3, h4]
      rw [ea]
      have e6 := spl_skip x3 (anc l q (skipH (H + 1)))
      rw [← f2] at e6
      simp [o7, storeS, eNd_len, e6]
      have S := S.setAt (.cells (eNd (putM l h q))) 3 rfl
      simp at S
      generalize st7.upd i7 _ = st8 at S ⊢
      have S := Sep.tail (fun r hr => Sep.tail (fun r hr => hr.drop) hr.drop) S.drop
      refine Sep.swap ?_
      have S := Sep.ofObj S hsp1
      exact Sep.swap (Sep.tail (fun r hr => hr) (Sep.swap S))
  · rintro env' st9 hsame ⟨g0, g7, S⟩
    have g4 := hsame
    clear hsame
    have o1 := S.mem (i := tid) (o := .cells (eRl r ++ [s, .map (some mid)])) (by simp)
    have o7 := S.get
    have hlen := (Sep.rd eNd_len S.swap).len
    have hfl3 : fillV (repV (eNd nd0) 1) [(0, 108, .agg (eNd (putM l h p)))] = some (eNd (putM l h p)) := by
      have : repV (eNd nd0) 1 = eNd nd0 := by simp [repV]
      simp [this, fillV, eNd_len, spliceV]
    simp [g0, g7, St.seg, o1, tree_seg74, hlen, o7, osegAll, hfl3]
    have hel : elems st9 108 (V.sl SK.full (eNd (putM l h p)) 1) = some (eNd (putM l h p), 1) := by simp [elems, eNd_len]
    rw [hel]
    refine Sep.app1 eNd_len (by omega) S.swap rfl (by omega) ?_
    intro s' st10 S
    obtain ⟨sid, spare, rfl, hsp1, S⟩ := S.slObj (by simp)
    have o1 := S.mem (i := tid) (o := .cells (eRl r ++ [s, .map (some mid)])) (by simp)
    simp [g0, storeS, o1, splice74, eRl_len]
    have S := S.setAt (.cells (eRl r ++ [.hsl sid 0 108 (l.length + 1), .map (some mid)])) 2 rfl
    simp at S
    generalize st10.upd tid _ = st11 at S ⊢
    have o1 := S.mem (i := tid) (o := .cells (eRl r ++ [.hsl sid 0 108 (l.length + 1), .map (some mid)])) (by simp)
    have o7 := S.mem (i := i7) (o := .cells (eNd (putM l h p))) (by simp)
    have om := S.mem (i := mid) (o := .mp (encM kId kInt es)) (by simp)
    have hms := mset_enc keyed_id om (hId h) (l.length : Int)
    have hpid : (putM l h p).id = hId h := by unfold putM; split <;> rfl
    have hid := osegId (putM l h p)
    rw [hpid] at hid
    simp only [kId, kInt] at hms
    simp [g0, g7, St.seg, o1, o7, tree_seg75, hid, hms]
    have S := S.setAt (.mp (encM kId kInt (aSet (hId h) (l.length : Int) es))) 3 rfl
    simp at S
    refine ⟨_, sub_self _, ?_⟩
    have S := Sep.tail (fun r hr => hr.drop) S
    rw [show rowsOf eNd l ++ (eNd (putM l h p) ++ spare) = rowsOf eNd (l ++ [putM l h p]) ++ spare by simp [rowsOf]] at S
    have S := Sep.ofObj S hsp1
    rw [show (l ++ [putM l h p]).length = l.length + 1 by simp] at S
    refine ⟨_, mid, _, S, fun k => ?_⟩
    rw [lk_aSet, hlk, findM_append, hpid]
    by_cases e : k = hId h
    · subst e; simp
    · rw [if_neg e, if_neg (fun e' => e e'.symm)]
end
end Go.Ab
/-
  Sorting a few numbers: slices.Sort, and the middle one.
-/
set_option linter.unusedSimpArgs false
set_option linter.unusedVariables false
set_option maxRecDepth 10000
namespace Go.Ab
open Go Go.RowKit

def e32 (x : W32) : List V := [w32 x]
theorem e32_len (x : W32) : (e32 x).length = 1 := rfl

/-- A list that is in order up to a place. -/
def UpTo (m : List W32) (i : Nat) : Prop := ∀ a b, a < b → b < i → m.getD a 0 ≤ m.getD b 0
/-- In order up to a place, but for one that is still to sink. -/
def UpBut (m : List W32) (i j : Nat) : Prop := (∀ a b, a < b → b ≤ i → a ≠ j → b ≠ j → m.getD a 0 ≤ m.getD b 0) ∧ ∀ k, j < k → k ≤ i → m.getD j 0 ≤ m.getD k 0
theorem upBut_start {m : List W32} {i : Nat} (h : UpTo m i) : UpBut m i i := ⟨fun a b h1 h2 h3 h4 => h a b h1 (by omega), fun k h1 h2 => by omega⟩
theorem upBut_end {m : List W32} {i j : Nat} (h : UpBut m i j) (hj : j = 0 ∨ m.getD (j - 1) 0 ≤ m.getD j 0) (hji : j ≤ i) : UpTo m (i + 1) := by
  intro a b h1 h2
  by_cases ha : a = j
  · subst ha; exact h.2 b h1 (by omega)
  · by_cases hb : b = j
    · subst hb
      rcases hj with hj | hj
      · omega
      · by_cases e : a = b - 1
        · rw [e]; exact hj
        · exact Nat.le_trans (h.1 a (b - 1) (by omega) (by omega) ha (by omega)) hj
    · exact h.1 a b h1 (by omega) ha hb
theorem getD_swap {m : List W32} {j : Nat} (h0 : 0 < j) (hj : j < m.length) (k : Nat) : ((m.set j (m.getD (j - 1) 0)).set (j - 1) (m.getD j 0)).getD k 0 = if k = j then m.getD (j - 1) 0 else if k = j - 1 then m.getD j 0 else m.getD k 0 := by
  simp only [List.getD_eq_getElem?_getD, List.getElem?_set, List.length_set]
  by_cases h1 : k = j
  · subst h1
    simp [show ¬ (k - 1 = k) by omega, hj]
  · by_cases h2 : k = j - 1
    · subst h2
      simp [h1, show j - 1 < m.length by omega]
    · simp [h1, h2, Ne.symm h1, Ne.symm h2]
theorem upBut_step {m : List W32} {i j : Nat} (h : UpBut m i j) (h0 : 0 < j) (hj : j < m.length) (hji : j ≤ i) (hlt : m.getD j 0 < m.getD (j - 1) 0) :
    UpBut ((m.set j (m.getD (j - 1) 0)).set (j - 1) (m.getD j 0)) i (j - 1) := by
  have hle : m.getD j 0 ≤ m.getD (j - 1) 0 := Nat.le_of_lt hlt
  refine ⟨fun a b h1 h2 h3 h4 => ?_, fun k h1 h2 => ?_⟩
  · rw [getD_swap h0 hj, getD_swap h0 hj, if_neg h3, if_neg h4]
    by_cases ha : a = j
    · have hb : b ≠ j := by omega
      rw [if_pos ha, if_neg hb]
      exact h.1 (j - 1) b (by omega) h2 (by omega) hb
    · rw [if_neg ha]
      by_cases hb : b = j
      · rw [if_pos hb]
        exact h.1 a (j - 1) (by omega) (by omega) ha (by omega)
      · rw [if_neg hb]
        exact h.1 a b h1 h2 ha hb
  · rw [getD_swap h0 hj, getD_swap h0 hj, if_neg (by omega), if_pos rfl]
    by_cases hk : k = j
    · rw [if_pos hk]; exact hle
    · rw [if_neg hk, if_neg (by omega)]
      exact h.2 k (by omega) h2
theorem swap_perm {m : List W32} {j : Nat} (h0 : 0 < j) (hj : j < m.length) : ((m.set j (m.getD (j - 1) 0)).set (j - 1) (m.getD j 0)).Perm m := by
  have e1 : m.getD (j - 1) 0 = m[j - 1] := by simp [show j - 1 < m.length by omega]
  have e2 : m.getD j 0 = m[j] := by simp [hj]
  rw [e1, e2]
  exact List.set_set_perm hj (by omega)
theorem sorted_of {m l : List W32} (h : UpTo m m.length) (hp : m.Perm l) : m = sorted32 l := by
  have hm : m.Pairwise (fun a b => decide (a ≤ b) = true) := by
    rw [List.pairwise_iff_getElem]
    intro a b ha hb hab
    have := h a b hab hb
    simpa [ha, hb] using this
  have hs : (sorted32 l).Pairwise (fun a b => decide (a ≤ b) = true) := by
    refine List.pairwise_mergeSort (fun a b c h1 h2 => ?_) (fun a b => ?_) l
    · simp at h1 h2 ⊢; exact Nat.le_trans h1 h2
    · simp; exact Nat.le_total a.toNat b.toNat
  refine List.Perm.eq_of_pairwise (le := fun a b => decide (a ≤ b) = true) ?_ hm hs (hp.trans (List.mergeSort_perm l _).symm)
  intro a b _ _ h1 h2
  simp at h1 h2
  exact BitVec.eq_of_toNat_eq (Nat.le_antisymm h1 h2)
theorem sorted32_length (l : List W32) : (sorted32 l).length = l.length := (List.mergeSort_perm l _).length_eq

section
variable {P : Program} {F : Fn}
theorem spec182 (ok : OkIndex P F) (st : St) (x : W32) : ACalls P (F 182) [w32 x] st fun v st' => v = .bool false ∧ st' = st := by
  refine shows_call ok.mixed ok.h182 (by simp [k182]) ?_
  simp only [k182]
  simp
theorem spec179 (ok : OkIndex P F) (st : St) (x y : W32) : ACalls P (F 179) [w32 x, w32 y] st fun v st' => v = .bool (decide (x < y)) ∧ st' = st := by
  refine shows_call ok.mixed ok.h179 (by simp [k179]) ?_
  simp only [k179]
  simp
  refine (spec182 ok st x).mono ?_
  rintro v st ⟨rfl, rfl⟩
  simp
/-- insertionSortOrdered over all of a list -/
theorem spec173 (ok : OkIndex P F) {st : St} {sid : Nat} {l : List W32} {spare : List V} (h : st sid = some (.cells (rowsOf e32 l ++ spare))) (hl : l.length ≤ 1000) (hne : l ≠ []) :
    ACalls P (F 173) [.hsl sid 0 1 l.length, .int .i64 0, .int .i64 (l.length : Nat)] st fun v st' => v = .tup [] ∧ st' = st.upd sid (.cells (rowsOf e32 (sorted32 l) ++ spare)) := by
  refine shows_call ok.mixed ok.h173 (by simp [k173]) ?_
  simp only [k173]
  simp
  refine vc_loopJ (fun c env' st' => ∃ (i : Nat) (m : List W32), 0 < i ∧ i ≤ l.length ∧ c = l.length - i ∧ m.Perm l ∧ UpTo m i ∧ env' 6 = .int .i64 (i : Nat) ∧ st' = st.upd sid (.cells (rowsOf e32 m ++ spare))) (l.length - 1) ⟨1, l, by omega, ?_, rfl, .refl _, ?_, by simp, ?_⟩ ?_
  · have := List.length_pos_iff.2 hne; omega
  · intro a b h1 h2; omega
  · funext q
    by_cases e : q = sid
    · subst e; simp [h]
    · simp [e]
  · rintro J hJ c env' st2 hsame ⟨i, m, h0, hi, rfl, hp, hu, g6, rfl⟩
    have g0 := hsame.get 0 rfl
    have g1 := hsame.get 1 rfl
    have g2 := hsame.get 2 rfl
    simp at g0 g1 g2
    clear hsame
    have hml := hp.length_eq
    by_cases hlt : i < l.length
    · simp [g0, g1, g2, g6, hlt]
      refine vc_loopJ (fun c env' st' => ∃ (j : Nat) (m' : List W32), j ≤ i ∧ c = j ∧ m'.Perm l ∧ UpBut m' i j ∧ env' 7 = .int .i64 (j : Nat) ∧ st' = st.upd sid (.cells (rowsOf e32 m' ++ spare))) i ⟨i, m, Nat.le_refl _, rfl, hp, upBut_start hu, by simp, rfl⟩ ?_
      clear hu hp hml m
      rintro J2 hJ2 j env2 st2 hsame ⟨_, m, hj, rfl, hp, hu, g7, rfl⟩
      have e0 := hsame.get 0 rfl
      have e1 := hsame.get 1 rfl
      have e2 := hsame.get 2 rfl
      have e6 := hsame.get 6 rfl
      simp [g0, g1, g2, g6] at e0 e1 e2 e6
      clear hsame
      have hml := hp.length_eq
      by_cases hj0 : 0 < j
      · have hjl : j < m.length := by omega
        obtain ⟨j', hj'⟩ : ∃ k, k = j - 1 := ⟨_, rfl⟩
        have hjl' : j' < m.length := by omega
        have s1 := rowsOf_seg e32_len m spare hjl
        have s2 := rowsOf_seg e32_len m spare hjl'
        obtain ⟨x, hx⟩ : ∃ x, x = m.getD j 0 := ⟨_, rfl⟩
        obtain ⟨y, hy⟩ : ∃ y, y = m.getD (j - 1) 0 := ⟨_, rfl⟩
        have d1 : m[j] = x := by rw [hx]; simp [hjl]
        have d2 : m[j'] = y := by rw [hy, ← hj']; simp [hjl']
        rw [d1, Nat.mul_one] at s1
        rw [d2, Nat.mul_one] at s2
        have hw : IntKind.i64.wrap ((j : Int) - 1) = (j' : Int) := by rw [wrap64 (by omega) (by omega)]; omega
        have hl1 : j < l.length := by omega
        have hl2 : j' < l.length := by omega
        have hr : (rowsOf e32 m).length = l.length := by rw [rowsOf_length e32_len, hml, Nat.mul_one]
        have p1 := rowsOf_splice e32_len m spare hjl (o := 0) (vs := [w32 y]) (by simp) (a := y) (by rw [d1]; rfl)
        have p2 := rowsOf_splice e32_len (m.set j y) spare (i := j') (by simpa using hjl') (o := 0) (vs := [w32 x]) (by simp) (a := x) (by rw [List.getElem_set_ne (by omega), d2]; rfl)
        rw [Nat.mul_one, Nat.add_zero] at p1 p2
        have hr2 : (rowsOf e32 (m.set j y)).length = l.length := by rw [rowsOf_length e32_len, List.length_set, hml, Nat.mul_one]
        have sh1 : (e32 x) = [w32 x] := rfl
        have sh2 : (e32 y) = [w32 y] := rfl
        rw [sh1] at s1
        rw [sh2] at s2
        simp [e0, e1, g7, hj0, hw, St.seg, s1, s2, hl1, hl2]
        refine (spec179 ok _ x y).mono ?_
        rintro v st3 ⟨rfl, rfl⟩
        by_cases hxy : x < y
        · simp [hxy, e0, e1, g7, hj0, hw, St.seg, s1, s2, hl1, hl2, storeS, p1, p2, hr, hr2, show j + 1 ≤ l.length + spare.length by omega, show j' + 1 ≤ l.length + spare.length by omega]
          refine Round.mk j' _ (by omega) (sub_self _) (hJ2 _ _ _ ⟨j', _, by omega, rfl, (swap_perm hj0 hjl).trans hp, ?_, by simp, ?_⟩)
          · rw [hj']
            exact upBut_step hu hj0 hjl hj (by rw [← hx, ← hy]; exact hxy)
          · rw [← hx, ← hy, ← hj']
        · have hle : y ≤ x := Nat.le_of_not_lt hxy
          have hu2 := upBut_end hu (.inr (by rw [← hx, ← hy]; exact hle)) hj
          have hw6 : IntKind.i64.wrap ((i : Int) + 1) = (i : Int) + 1 := wrap64 (by omega) (by omega)
          simp [hxy, e6, hw6]
          exact Round.mk (l.length - (i + 1)) _ (by omega) (sub_self _) (hJ _ _ _ ⟨i + 1, m, by omega, by omega, rfl, hp, hu2, by simp, rfl⟩)
      · have hjz : j = 0 := by omega
        subst hjz
        have hu2 := upBut_end hu (.inl rfl) (by omega)
        have hw6 : IntKind.i64.wrap ((i : Int) + 1) = (i : Int) + 1 := wrap64 (by omega) (by omega)
        simp [e0, e1, g7, e6, hw6]
        exact Round.mk (l.length - (i + 1)) _ (by omega) (sub_self _) (hJ _ _ _ ⟨i + 1, m, by omega, by omega, rfl, hp, hu2, by simp, rfl⟩)
    · have hil : i = l.length := by omega
      have hs : m = sorted32 l := sorted_of (by rw [hml, ← hil]; exact hu) hp
      simp [g0, g1, g2, g6, hlt, hs]
theorem spec172 (ok : OkIndex P F) {st : St} {sid : Nat} {l : List W32} {spare : List V} (h : st sid = some (.cells (rowsOf e32 l ++ spare))) (hl : l.length ≤ 12) (hne : l ≠ []) (k : Int) :
    ACalls P (F 172) [.hsl sid 0 1 l.length, .int .i64 0, .int .i64 (l.length : Nat), .int .i64 k] st fun v st' => v = .tup [] ∧ st' = st.upd sid (.cells (rowsOf e32 (sorted32 l) ++ spare)) := by
  refine shows_call ok.mixed ok.h172 (by simp [k172]) ?_
  simp only [k172]
  simp
  refine vc_unroll 1 ?_
  have hw : IntKind.i64.wrap (l.length : Int) = (l.length : Int) := wrap64 (by omega) (by omega)
  have h12 : (l.length : Int) ≤ 12 := by omega
  simp [unr_succ, hw, h12]
  refine (spec173 ok h (by omega) hne).mono ?_
  rintro v st' ⟨rfl, rfl⟩
  simp
theorem spec171 (ok : OkIndex P F) (st : St) (x : W) : ACalls P (F 171) [w64 x] st fun v st' => v = .int .i64 (bitlen x.toNat) ∧ st' = st := by
  refine shows_call ok.mixed ok.h171 (by simp [k171]) ?_
  simp only [k171]
  simp
  refine (spec115 ok.toOkHead.toOkNum st x).mono ?_
  rintro v st' ⟨rfl, rfl⟩
  simp
theorem spec165 (ok : OkIndex P F) {st : St} {sid : Nat} {l : List W32} {spare : List V} (h : st sid = some (.cells (rowsOf e32 l ++ spare))) (hl : l.length ≤ 12) (hne : l ≠ []) :
    ACalls P (F 165) [.hsl sid 0 1 l.length] st fun v st' => v = .tup [] ∧ st' = st.upd sid (.cells (rowsOf e32 (sorted32 l) ++ spare)) := by
  refine shows_call ok.mixed ok.h165 (by simp [k165]) ?_
  simp only [k165]
  have hc : convV .u64 (.int .i64 (l.length : Nat)) = some (w64 (BitVec.ofNat 64 l.length)) := by
    rw [conv_i_64]; congr 2
  simp [-conv_i_64, hc]
  refine (spec171 ok st _).mono ?_
  rintro v st' ⟨rfl, rfl⟩
  simp
  refine (spec172 ok h hl hne _).mono ?_
  rintro v st' ⟨rfl, rfl⟩
  simp
theorem spec164 (ok : OkIndex P F) {st : St} {sid : Nat} {l : List W32} {spare : List V} (h : st sid = some (.cells (rowsOf e32 l ++ spare))) (hl : l.length ≤ 12) (hne : l ≠ []) :
    ACalls P (F 164) [.hsl sid 0 1 l.length] st fun v st' => v = w32 (middle32 l) ∧ st' = st.upd sid (.cells (rowsOf e32 (sorted32 l) ++ spare)) := by
  refine shows_call ok.mixed ok.h164 (by simp [k164]) ?_
  simp only [k164]
  simp
  refine (spec165 ok h hl hne).mono ?_
  rintro v st' ⟨rfl, rfl⟩
  have hpos := List.length_pos_iff.2 hne
  have hd : (l.length : Int).tdiv 2 = ((l.length / 2 : Nat) : Int) := by rw [Int.tdiv_eq_ediv_of_nonneg (by omega)]; omega
  have hw : IntKind.i64.wrap ((l.length : Int) / 2) = ((l.length / 2 : Nat) : Int) := by rw [wrap64 (by omega) (by omega)]; omega
  have hlt : l.length / 2 < (sorted32 l).length := by rw [sorted32_length]; omega
  have hs := rowsOf_seg e32_len (sorted32 l) spare hlt
  have hm : (sorted32 l)[l.length / 2] = middle32 l := by simp [middle32, hlt]
  rw [hm, Nat.mul_one, show e32 (middle32 l) = [w32 (middle32 l)] from rfl] at hs
  obtain ⟨k, hk⟩ : ∃ k, k = l.length / 2 := ⟨_, rfl⟩
  rw [← hk] at hd hw hs
  have hkl : k < l.length := by omega
  simp [hw, hkl, St.seg, hs]
end
end Go.Ab
/-
  index: the middle time, the next bits, whether a header fits.
-/
set_option linter.unusedSimpArgs false
set_option linter.unusedVariables false
set_option maxRecDepth 10000
namespace Go.Ab
open Go Go.RowKit

/-- A number brought into the tree. -/
def clI (l : List Nd) (i : Int) : Nat := (max 0 (min i ((l.length : Int) - 1))).toNat
theorem clI_lt {l : List Nd} (w : Wf l) (i : Int) : clI l i < l.length := by
  have := w.ne
  unfold clI; omega
theorem clI_of {l : List Nd} {n : Nat} (h : n < l.length) : clI l n = n := by unfold clI; omega
def timesI (l : List Nd) (n : Nat) (i : Int) : List W32 := if i < 0 then [] else timesM l n i.toNat
theorem timesM_succ {l : List Nd} {n i : Nat} (hi : i < l.length) : timesM l (n + 1) i = l[i].hdr.time :: timesI l n l[i].parent := by
  simp [timesM, hi, timesI]
theorem timesM_ne {l : List Nd} {n i : Nat} (hi : i < l.length) : timesM l (n + 1) i ≠ [] := by simp [timesM, hi]
section
variable {P : Program} {F : Fn}
theorem spec166 (ok : OkIndex P F) {st : St} {tid : Nat} {r : Rl} {l : List Nd} (h : TreeR tid r l st) (w : Wf l) (hl : l.length ≤ 16384) (i : Int) : ACalls P (F 166) [.ptr (some (tid, 0)), .int .i64 i] st fun v st' => v = w32 (medianM l (clI l i)) ∧ st' = st := by
  obtain ⟨sid, mid, spare, es, h⟩ := h
  refine shows_call ok.mixed ok.h166 (by simp [k166]) ?_
  simp only [k166]
  have o1 := h.top
  have hne := w.ne
  obtain ⟨n, hn⟩ : ∃ n, n = clI l i := ⟨_, rfl⟩
  have hnl : n < l.length := hn ▸ clI_lt w i
  rw [← hn]
  have hw : IntKind.i64.wrap ((l.length : Int) - 1) = (l.length : Int) - 1 := wrap64 (by omega) (by omega)
  have hmn : foldV min2V (.int .i64 i) [.int .i64 ((l.length : Int) - 1)] = some (.int .i64 (min i ((l.length : Int) - 1))) := by
    simp only [foldV, min2V, if_true, Option.bind_some]
    congr 2
    split <;> omega
  have hmx : foldV max2V (.int .i64 0) [.int .i64 (min i ((l.length : Int) - 1))] = some (.int .i64 (n : Int)) := by
    simp only [foldV, max2V, if_true, Option.bind_some]
    unfold clI at hn
    congr 2
    split <;> omega
  simp [St.seg, o1, tree_seg74, hw, hmn, hmx]
  refine vc_loopJ (fun c env' st' => ∃ (acc : List W32) (j : Int) (s : V), c = 11 - acc.length ∧ acc.length ≤ 11 ∧ acc ++ timesI l (11 - acc.length) j = timesM l 11 n ∧ (0 ≤ j → j < l.length) ∧ env' 1 = .int .i64 j ∧ env' 5 = s ∧ Sep [Sl 1 e32 s acc, Was st] st') 11
    ⟨[], n, .sl .nil [] 0, rfl, by simp, ?_, by omega, by simp, by simp, (Sep.start st).slNil⟩ ?_
  · simp [timesI]; omega
  · rintro J hJ c env' st2 hsame ⟨acc, j, s, rfl, hal, he, hj, g1, g5, S⟩
    have g0 := hsame.get 0 rfl
    simp at g0
    clear hsame
    have hsub := S.was' (st0 := st) (by simp)
    have h2 := h.sub hsub
    have o1 := h2.top
    have o2 := h2.rows
    have hlen := (Sep.rd e32_len S).len
    have hfin : acc = timesM l 11 n → ACalls P (F 164) [s] st2 fun v st' => v = w32 (medianM l n) ∧ St.sub st st' := by
      intro e
      have hne2 : acc ≠ [] := by rw [e]; exact timesM_ne hnl
      obtain ⟨sid2, spare2, rfl, hs2, S⟩ := S.slObj hne2
      refine (spec164 ok S.get (by omega) hne2).mono ?_
      rintro v st3 ⟨rfl, rfl⟩
      have S := S.setAt (.cells (rowsOf e32 (sorted32 acc) ++ spare2)) 0 rfl
      have hsub := S.was' (st0 := st) (by simp)
      have em : middle32 acc = medianM l n := by rw [e]; rfl
      exact ⟨by rw [em], hsub⟩
    by_cases hj0 : 0 ≤ j
    · by_cases ha : (acc.length : Int) < 11
      · obtain ⟨q, rfl⟩ : ∃ q : Nat, j = q := ⟨j.toNat, by omega⟩
        have hq : q < l.length := by have := hj hj0; omega
        simp [g0, g1, g5, hlen, ha, St.seg, o1, o2, tree_seg74, hq, nd_time hq]
        have hfl : fillV (repV [w32 0#32] 1) [(0, 1, w32 l[q].hdr.time)] = some (e32 l[q].hdr.time) := rfl
        simp [hfl]
        have hel : elems st2 1 (.sl .full (e32 l[q].hdr.time) 1) = some (e32 l[q].hdr.time, 1) := rfl
        rw [hel]
        refine Sep.app1 e32_len (by omega) S rfl (by omega) ?_
        intro s' st3 S
        have h3 := h.sub (S.was' (st0 := st) (by simp))
        have o1 := h3.top
        have o2 := h3.rows
        simp [g0, g1, St.seg, o1, o2, tree_seg74, hq, nd_par hq]
        have e11 : 11 - acc.length = (11 - (acc.length + 1)) + 1 := by omega
        refine Round.mk (11 - (acc ++ [l[q].hdr.time]).length) _ (by simp; omega) (sub_self _) (hJ _ _ _ ⟨acc ++ [l[q].hdr.time], l[q].parent, s', rfl, by simp; omega, ?_, ?_, by simp, by simp, S⟩)
        · rw [← he]
          have : timesI l (11 - acc.length) (q : Int) = l[q].hdr.time :: timesI l (11 - (acc.length + 1)) l[q].parent := by
            rw [e11, ← timesM_succ hq]; simp [timesI]; omega
          rw [this]; simp
        · intro hp
          rcases Nat.eq_zero_or_pos q with e | e
          · subst e
            have := (w.zero _ (List.getElem?_eq_getElem hq)).1
            omega
          · have := (w.succ q _ e (List.getElem?_eq_getElem hq)).2.1
            omega
      · have e11 : acc.length = 11 := by omega
        have e : acc = timesM l 11 n := by
          rw [e11] at he
          rw [← he]
          have : timesI l (11 - 11) j = [] := by unfold timesI; split <;> rfl
          rw [this]; simp
        simp [g0, g1, g5, hlen, ha, hj0]
        refine (hfin e).mono ?_
        rintro v st3 ⟨rfl, hs3⟩
        simp [hs3]
    · have e : acc = timesM l 11 n := by
        rw [← he]
        have : timesI l (11 - acc.length) j = [] := by unfold timesI; rw [if_pos (by omega)]
        rw [this]; simp
      simp [g0, g1, g5, hj0]
      refine (hfin e).mono ?_
      rintro v st3 ⟨rfl, hs3⟩
      simp [hs3]
theorem checkM_ok {r : Rl} (h : checkM r = 0) : tgt r.limit ≠ none ∧ r.gen.bits = r.limit ∧ 0 ≤ r.every ∧ r.every ≤ 1000 ∧ 1 ≤ r.spacing ∧ r.spacing ≤ 1048576 ∧ 0 ≤ r.subsidy ∧ r.subsidy ≤ 1125899906842624 ∧ 0 ≤ r.work ∧ r.work ≤ 1000 := by
  unfold checkM at h
  split at h
  · cases h
  · rename_i h1
    split at h
    · cases h
    · rename_i h2
      have : r.gen.bits = r.limit := by
        by_cases e : r.gen.bits = r.limit
        · exact e
        · exact absurd (.inr e) h1
      exact ⟨fun e => h1 (.inl e), this, by omega, by omega, by omega, by omega, by omega, by omega, by omega, by omega⟩
set_option maxHeartbeats 1000000 in
theorem spec167 (ok : OkIndex P F) {st : St} {tid : Nat} {r : Rl} {l : List Nd} (h : TreeR tid r l st) (w : Wf l) (hl : l.length ≤ 16384) (hr : checkM r = 0) {i : Nat} (hi : i < l.length) : ACalls P (F 167) [.ptr (some (tid, 0)), .int .i64 (i : Nat)] st fun v st' => v = w32 (nextM r l i) ∧ st' = st := by
  have okh := ok.toOkHead
  obtain ⟨hr1, hr2, hr3, hr4, hr5, hr6, -, -⟩ := checkM_ok hr
  have hR := h
  obtain ⟨sid, mid, spare, es, h⟩ := h
  refine shows_call ok.mixed ok.h167 (by simp [k167]) ?_
  simp only [k167, z108_eq, eU_zero0]
  simp
  refine (spec161 ok hR w i).mono ?_
  rintro v st ⟨rfl, rfl⟩
  have hin : inI l i = i := by unfold inI; rw [if_neg (by omega)]; omega
  rw [hin]
  obtain ⟨x, hx⟩ : ∃ x, x = nd l i := ⟨_, rfl⟩
  have hxh : x.height = hgt l i := by rw [hx, nd_at hi, hgt_at hi]
  have hgl := w.hgt_le hi
  rw [← hx]
  simp
  intro i5 h5
  have S := (Sep.start st).new h5 (.cells (eNd nd0))
  have hsp : ∀ x y, spliceV (eNd x) 0 (eNd y) = eNd y := fun x y => by simp [spliceV, eNd_len]
  simp [storeS, eNd_len, hsp]
  have S := S.setAt (.cells (eNd x)) 0 rfl
  simp at S
  generalize st.upd i5 _ = st1 at S ⊢
  have hs1 := S.was' (st0 := st) (by simp)
  have ht := h.sub hs1
  have o1 := ht.top
  have o5 := S.get
  obtain ⟨E, hE⟩ : ∃ E : Nat, r.every = E := ⟨r.every.toNat, by omega⟩
  obtain ⟨H, hH⟩ : ∃ H, H = x.height := ⟨_, rfl⟩
  have ohH := osegHgt x
  rw [← hH] at ohH hxh
  have tev := tree_every r (.hsl sid 0 108 l.length) (.map (some mid))
  rw [hE] at tev
  have hw1 : IntKind.i64.wrap ((H : Int) + 1) = (H : Int) + 1 := wrap64 (by omega) (by omega)
  simp [St.seg, o1, tev]
  have hnx : nextM r l i = if E = 0 ∨ (H + 1) % E ≠ 0 then x.hdr.bits else (nextN x.hdr.bits ((x.hdr.time.toNat : Int) - (nd l (anc l i (H + 1 - E))).hdr.time.toNat) (r.every * r.spacing) (limitN r)).getD 0 := by
    unfold nextM
    simp only [← hx, ← hH, hE]
    have e1 : ((H : Int) + 1).tmod (E : Int) = (((H + 1) % E : Nat) : Int) := by
      rw [Int.tmod_eq_emod_of_nonneg (by omega)]; push_cast; rfl
    have e2 : (max 0 ((H : Int) + 1 - E)).toNat = H + 1 - E := by omega
    rw [e1, e2]
    have e3 : ((E : Int) = 0 ∨ (((H + 1) % E : Nat) : Int) ≠ 0) ↔ (E = 0 ∨ (H + 1) % E ≠ 0) := by omega
    by_cases c : (E = 0 ∨ (H + 1) % E ≠ 0)
    · rw [if_pos c, if_pos (e3.2 c)]
    · rw [if_neg c, if_neg (fun h => c (e3.1 h))]
  by_cases hE0 : E = 0
  · have : nextM r l i = x.hdr.bits := by rw [hnx, if_pos (.inl hE0)]
    rw [this]
    have hE0' : ((E : Int) == 0) = true := by simp [hE0]
    simp [hE0, o5, osegBits, St.seg, hs1]
  · have hem : ((H : Int) + 1).tmod (E : Int) = (((H + 1) % E : Nat) : Int) := by
      rw [Int.tmod_eq_emod_of_nonneg (by omega)]; push_cast; rfl
    obtain ⟨M, hM⟩ : ∃ M, M = (H + 1) % E := ⟨_, rfl⟩
    have hMl : M < E := hM ▸ Nat.mod_lt _ (by omega)
    rw [← hM] at hem hnx
    have hem2 : IntKind.i64.wrap ((((H : Int) + 1)) % (E : Int)) = (M : Int) := by
      rw [← Int.tmod_eq_emod_of_nonneg (by omega), hem]; exact wrap64 (by omega) (by omega)
    have hem3 : IntKind.i64.wrap ((((H : Int) + 1)).tmod (E : Int)) = (M : Int) := by
      rw [hem]; exact wrap64 (by omega) (by omega)
    have hEb : ((E : Int) == 0) = false := by simp; omega
    simp [hEb, hE0, o5, ohH, osegBits, St.seg, hw1, o1, tev, hem2, hem3]
    by_cases hM0 : M = 0
    · rw [if_neg (by omega)] at hnx
      rw [hnx]
      have htb : (((H : Int) + 1).tmod (E : Int) != 0) = false := by rw [hem, hM0]; rfl
      have hl0 := w.ne
      have hmn1 : foldV min2V (.int .i64 (i : Nat)) [.int .i64 ((l.length : Int) - 1)] = some (.int .i64 (i : Nat)) := by
        simp only [foldV, min2V, if_true, Option.bind_some]
        congr 2
        split <;> omega
      have hmx1 : foldV max2V (.int .i64 0) [.int .i64 (i : Nat)] = some (.int .i64 (i : Nat)) := by
        simp only [foldV, max2V, if_true, Option.bind_some]
        congr 2
        split <;> omega
      obtain ⟨K, hK⟩ : ∃ K, K = H + 1 - E := ⟨_, rfl⟩
      rw [← hK]
      have hmx2 : foldV max2V (.int .i64 0) [.int .i64 ((H : Int) + 1 - (E : Int))] = some (.int .i64 (K : Nat)) := by
        simp only [foldV, max2V, if_true, Option.bind_some]
        congr 2
        split <;> omega
      have hw2 : IntKind.i64.wrap ((l.length : Int) - 1) = (l.length : Int) - 1 := wrap64 (by omega) (by omega)
      have hw3 : IntKind.i64.wrap ((H : Int) + 1 - (E : Int)) = (H : Int) + 1 - (E : Int) := wrap64 (by omega) (by omega)
      have hKh : K ≤ hgt l i := by omega
      have hal := w.anc_lt (i := i) (h := K) hi
      obtain ⟨A, hA⟩ : ∃ A, A = anc l i K := ⟨_, rfl⟩
      have ea : ancI l i K = (A : Nat) := by
        have h1 : ¬ l.length ≤ i := by omega
        have h2 : ¬ hgt l i < K := by omega
        have h3 : ¬ ((i : Int) < 0) := by omega
        have h4 : ¬ ((K : Int) < 0) := by omega
        simp [ancI, h1, h2, h3, h4, hA]
      rw [← hA] at hal ⊢
      have TR1 : TreeR tid r l st1 := ⟨sid, mid, spare, es, ht⟩
      have o2 := ht.rows
      simp [htb, St.seg, o1, o5, tree_seg74, tev, ohH, hw1, hw2, hw3, hmn1, hmx1, hmx2]
      refine ⟨_, spec158 ok TR1 w i K, ?_⟩
      rw [ea]
      have hall := nd_all (spare := spare) hal
      rw [← nd_at hal] at hall
      simp [o2, hal, hall, St.seg]
      intro i6 h6
      have S := S.new h6 (.cells (eNd nd0))
      simp [storeS, eNd_len, hsp]
      have S := S.setAt (.cells (eNd (nd l A))) 0 rfl
      simp at S
      generalize st1.upd i6 _ = st2 at S ⊢
      have ht := h.sub (S.was' (st0 := st) (by simp))
      have o1 := ht.top
      simp [St.seg, o1, tree_limit]
      refine (spec135 okh st2 r.limit).mono ?_
      rintro v st2 ⟨rfl, rfl⟩
      obtain ⟨hA1, hA2⟩ := tgtR_get r.limit
      rw [hA1]
      have hlim : (natU ((tgt r.limit).getD 0)).toNat = limitN r := hA2
      obtain ⟨T, hT⟩ : ∃ T, T = natU ((tgt r.limit).getD 0) := ⟨_, rfl⟩
      rw [← hT] at hlim ⊢
      have hspU : ∀ x y : U, spliceV (eU x) 0 (eU y) = eU y := fun _ _ => rfl
      simp
      intro i7 h7
      have S := S.new h7 (.cells (eU 0#256))
      simp [storeS, nU, eU_len, hspU]
      have S := S.setAt (.cells (eU T)) 0 rfl
      simp at S
      generalize st2.upd i7 _ = st3 at S ⊢
      have hs3 := S.was' (st0 := st) (by simp)
      have ht := h.sub hs3
      have o1 := ht.top
      have o7 := S.get
      have o6 := S.mem (i := i6) (o := .cells (eNd (nd l A))) (by simp)
      have o5 := S.mem (i := i5) (o := .cells (eNd x)) (by simp)
      have tsp := tree_spacing r (.hsl sid 0 108 l.length) (.map (some mid))
      obtain ⟨SP, hSP⟩ : ∃ n : Nat, r.spacing = n := ⟨r.spacing.toNat, by omega⟩
      rw [hSP] at tsp
      have hm : E * SP ≤ 1000 * 1048576 := Nat.mul_le_mul (by omega) (by omega)
      obtain ⟨Q, hQ⟩ : ∃ n : Int, n = (E : Int) * (SP : Int) := ⟨_, rfl⟩
      have hQb : 0 ≤ Q ∧ Q ≤ 1000 * 1048576 := by
        have : Q = ((E * SP : Nat) : Int) := by rw [hQ]; push_cast; rfl
        omega
      have hw4 : IntKind.i64.wrap Q = Q := wrap64 (by omega) (by omega)
      have hx1 := x.hdr.time.isLt
      have hx2 := (nd l A).hdr.time.isLt
      have hw5 : IntKind.i64.wrap ((x.hdr.time.toNat : Int) - ((nd l A).hdr.time.toNat : Int)) = (x.hdr.time.toNat : Int) - ((nd l A).hdr.time.toNat : Int) := wrap64 (by omega) (by omega)
      simp [St.seg, o1, o5, o6, o7, osegBits, osegTime, tev, tsp, segU, hw5, ← hQ, hw4]
      refine (spec138 okh st3 x.hdr.bits _ Q T (by omega)).mono ?_
      rintro v st3 ⟨rfl, rfl⟩
      rw [hE, hSP, ← hQ, hlim]
      unfold nextR
      cases nextN x.hdr.bits ((x.hdr.time.toNat : Int) - ((nd l A).hdr.time.toNat : Int)) Q (limitN r) <;> simp [hs3]
    · rw [if_pos (.inr hM0)] at hnx
      rw [hnx]
      have htb : (((H : Int) + 1).tmod (E : Int) != 0) = true := by rw [hem]; simp; omega
      simp [htb, o5, osegBits, St.seg, hs1]
set_option maxHeartbeats 1000000 in
theorem spec168 (ok : OkIndex P F) {st : St} {tid : Nat} {r : Rl} {l : List Nd} (h : TreeR tid r l st) (w : Wf l) (hl : l.length ≤ 16384) (hr : checkM r = 0) (x : Hdr) (p now : Int) : ACalls P (F 168) [.ptr (some (tid, 0)), .agg (eHdr x), .int .i64 p, .int .i64 now] st fun v st' => v = .int .i64 (fitsM r l x p now) ∧ st' = st := by
  have okh := ok.toOkHead
  obtain ⟨sid, mid, spare, es, h⟩ := h
  refine shows_call ok.mixed ok.h168 (by simp [k168]) ?_
  simp only [k168]
  simp
  intro i5 h5
  have S := (Sep.start st).new h5 (.cells (eHdr x))
  generalize st.upd i5 _ = st1 at S ⊢
  have hs1 := S.was' (st0 := st) (by simp)
  have ht := h.sub hs1
  have o1 := ht.top
  have o2 := ht.rows
  have o5 := S.get
  have TR1 : TreeR tid r l st1 := ⟨sid, mid, spare, es, ht⟩
  by_cases h1 : p < 0
  · have e : fitsM r l x p now = 100 := by simp [fitsM, h1]
    simp [h1, e, hs1]
  · by_cases h2 : (l.length : Int) ≤ p
    · have e : fitsM r l x p now = 100 := by simp [fitsM, h2]
      simp [h1, h2, e, hs1, St.seg, o1, tree_seg74]
    · obtain ⟨n, rfl⟩ : ∃ n : Nat, p = n := ⟨p.toNat, by omega⟩
      have hn : n < l.length := by omega
      have h2' : ¬ l.length ≤ n := by omega
      simp [h1, h2', St.seg, o1, o5, tree_seg74, hsegAll, tree_limit]
      refine (spec142 okh st1 x r.limit).mono ?_
      rintro v st1 ⟨rfl, rfl⟩
      obtain ⟨pv, hpv⟩ : ∃ pv, pv = provedN x r.limit := ⟨_, rfl⟩
      rw [← hpv]
      by_cases hp : pv = 0
      · subst hp
        simp [St.seg, o1, o2, tree_seg74, hn, nd_fail hn]
        cases hf : l[n].failed with
        | true =>
          have e : fitsM r l x n now = 101 := by
            simp [fitsM, h1, h2', ← hpv, nd_at hn, hf]
          simp [e, hs1]
        | false =>
          simp [St.seg, o5, hsegBits]
          refine ⟨_, spec167 ok TR1 w hl hr hn, ?_⟩
          simp
          by_cases hb : x.bits = nextM r l n
          · have hbb : (x.bits != nextM r l n) = false := by simp [hb]
            simp [hbb, St.seg, o5, hsegTime]
            refine ⟨_, spec166 ok TR1 w hl n, ?_⟩
            rw [clI_of hn]
            simp
            by_cases hm : x.time ≤ medianM l n
            · have e : fitsM r l x n now = 102 := by
                simp [fitsM, h1, h2', ← hpv, nd_at hn, hf, hb, hm]
              simp [hm, e, hs1]
            · have htl := x.time.isLt
              have hw : IntKind.i64.wrap ((x.time.toNat : Int) - 7200) = (x.time.toNat : Int) - 7200 := wrap64 (by omega) (by omega)
              by_cases hnw : now < (x.time.toNat : Int) - 7200
              · have e : fitsM r l x n now = 103 := by
                  simp [fitsM, h1, h2', ← hpv, nd_at hn, hf, hb, hm, hnw]
                simp [hm, St.seg, o5, hsegTime, hw, hnw, e, hs1]
              · have e : fitsM r l x n now = 0 := by
                  simp [fitsM, h1, h2', ← hpv, nd_at hn, hf, hb, hm, hnw]
                simp [hm, St.seg, o5, hsegTime, hw, hnw, e, hs1]
          · have hbb : (x.bits != nextM r l n) = true := by simp [hb]
            have e : fitsM r l x n now = 30 := by
              simp [fitsM, h1, h2', ← hpv, nd_at hn, hf, hb]
            simp [hbb, e, hs1]
      · have e : fitsM r l x n now = pv := by
          simp [fitsM, h1, h2', ← hpv, hp]
        have hpb : (pv != 0) = true := by simp [hp]
        simp [hpb, e, hs1]
end
end Go.Ab
/-
  index: a header comes; one fails; a tree begins.
-/
set_option linter.unusedSimpArgs false
set_option linter.unusedVariables false
set_option maxRecDepth 10000
namespace Go.Ab
open Go Go.RowKit

theorem Wf.neNil {l : List Nd} (w : Wf l) : l ≠ [] := by
  have := w.ne
  rintro rfl
  simp at this
theorem findM_lt' {l : List Nd} {id : Id} {i : Nat} (h : findM l id = some i) : i < l.length := findM_lt h
/-- Which failed. -/
def setF (f : Nat → Bool) (l : List Nd) : List Nd := l.mapIdx fun j x => if f j then { x with failed := true } else x
section
variable {f : Nat → Bool} {l : List Nd}
@[simp] theorem setF_length : (setF f l).length = l.length := by simp [setF]
theorem setF_get {i : Nat} (hi : i < l.length) : (setF f l)[i]'(by simpa using hi) = if f i then { l[i] with failed := true } else l[i] := by simp [setF]
theorem setF_get? (i : Nat) : (setF f l)[i]? = (l[i]?).map fun x => if f i then { x with failed := true } else x := by simp [setF]
theorem setF_hgt (i : Nat) : hgt (setF f l) i = hgt l i := by
  unfold hgt
  rw [setF_get?]
  cases l[i]? with
  | none => rfl
  | some x => simp only [Option.map_some, Option.getD_some]; split <;> rfl
theorem setF_par (i : Nat) : par (setF f l) i = par l i := by
  unfold par
  rw [setF_get?]
  cases l[i]? with
  | none => rfl
  | some x => simp only [Option.map_some, Option.getD_some]; split <;> rfl
theorem setF_upN (n i : Nat) : upN (setF f l) n i = upN l n i := by
  induction n generalizing i with
  | zero => rfl
  | succ n ih => rw [upN, upN, setF_par, ih]
theorem setF_anc (i h : Nat) : anc (setF f l) i h = anc l i h := by rw [anc, anc, setF_hgt, setF_upN]
theorem setF_ancI (i h : Int) : ancI (setF f l) i h = ancI l i h := by simp [ancI, setF_hgt, setF_anc]
theorem setF_onB (i t : Int) : onB (setF f l) i t = onB l i t := by simp [onB, setF_hgt, setF_ancI]
theorem setF_wf (w : Wf l) : Wf (setF f l) := by
  refine ⟨by simpa using w.ne, fun x hx => ?_, fun i x hi hx => ?_, fun i x hi hx => ?_⟩
  · rw [setF_get?] at hx
    cases h : l[0]? with
    | none => rw [h] at hx; cases hx
    | some y =>
      rw [h] at hx
      have := w.zero y h
      simp at hx
      rw [← hx]
      split <;> exact this
  · rw [setF_get?] at hx
    cases h : l[i]? with
    | none => rw [h] at hx; cases hx
    | some y =>
      rw [h] at hx
      have := w.succ i y hi h
      simp at hx
      rw [← hx, setF_hgt]
      split <;> exact this
  · rw [setF_get?] at hx
    cases h : l[i]? with
    | none => rw [h] at hx; cases hx
    | some y =>
      rw [h] at hx
      have := w.skip i y hi h
      simp at hx
      rw [← hx, setF_anc]
      split <;> exact this
theorem setF_find (id : Id) : findM (setF f l) id = findM l id := by
  have : ∀ (l : List Nd) (f : Nat → Bool), findM (setF f l) id = findM l id := by
    intro l
    induction l with
    | nil => intro f; rfl
    | cons x l ih =>
      intro f
      have e : setF f (x :: l) = (if f 0 then { x with failed := true } else x) :: setF (fun j => f (j + 1)) l := by simp [setF, List.mapIdx_cons]
      rw [e, findM, findM, ih]
      split
      · rfl
      · split <;> rfl
  exact this l f
theorem setF_set {f : Nat → Bool} {l : List Nd} {k : Nat} (hk : k < l.length) {g : Nat → Bool} (hg : ∀ j, g j = (f j || (j == k))) : (setF f l).set k { (setF f l)[k]'(by simpa using hk) with failed := true } = setF g l := by
  apply List.ext_getElem?
  intro i
  rw [List.getElem?_set, setF_get?, setF_get?]
  by_cases e : k = i
  · subst e
    simp only [if_true, setF_length, hk, setF_get hk, hg, List.getElem?_eq_getElem hk, Option.map_some, beq_self_eq_true, Bool.or_true]
    split <;> rfl
  · have : (i == k) = false := by simp; omega
    simp [e, hg, this]
theorem setF_none : setF (fun _ => false) l = l := by
  apply List.ext_getElem?
  intro i
  rw [setF_get?]
  cases l[i]? <;> rfl
end
/-- A header, and all behind it, fail; how many hadn't yet. -/
def failM (l : List Nd) (i : Int) : List Nd × Nat :=
  if i < 1 ∨ (l.length : Int) ≤ i then (l, 0)
  else (setF (fun k => onB l i k) l, ((List.range l.length).filter fun (k : Nat) => onB l i k && !(nd l k).failed).length)
def failTo (l : List Nd) (i : Int) (k : Nat) : List Nd := setF (fun j => decide (j < k) && onB l i j) l
def failN (l : List Nd) (i : Int) (k : Nat) : Nat := ((List.range k).filter fun (k : Nat) => onB l i k && !(nd l k).failed).length

theorem onB_self {l : List Nd} {i : Nat} (hi : i < l.length) : onB l i i = true := by
  have h1 : ¬ l.length ≤ i := by omega
  have h3 : ¬ ((i : Int) < 0) := by omega
  have h4 : ¬ ((hgt l i : Int) < 0) := by omega
  simp [onB, hi, ancI, h1, h3, h4, anc_self]
theorem onB_nat {l : List Nd} {i k : Nat} (hi : i < l.length) (hk : k < l.length) : onB l i k = decide (hgt l i ≤ hgt l k ∧ anc l k (hgt l i) = i) := by
  have h1 : ¬ l.length ≤ k := by omega
  have h3 : ¬ ((k : Int) < 0) := by omega
  have h4 : ¬ ((hgt l i : Int) < 0) := by omega
  by_cases h : hgt l i ≤ hgt l k
  · have h2 : ¬ hgt l k < hgt l i := by omega
    simp [onB, hi, ancI, h1, h2, h3, h4, h]
    rw [Bool.eq_iff_iff]; simp; omega
  · have h2 : hgt l k < hgt l i := by omega
    have : ¬ ((-1 : Int) = i) := by omega
    simp [onB, hi, ancI, h1, h2, h3, h4, h, this]
theorem onB_lt {l : List Nd} (w : Wf l) {i k : Nat} (hi : i < l.length) (hk : k < i) : onB l i k = false := by
  rw [onB_nat hi (by omega)]
  have := w.anc_le (i := k) (h := hgt l i) (by omega)
  simp; omega
theorem onB_par {l : List Nd} (w : Wf l) {i k : Nat} (hi : i < k) (hk : k < l.length) (h : onB l i k = true) : (i : Int) ≤ l[k].parent := by
  rw [onB_nat (by omega) hk] at h
  simp at h
  have hp := w.succ k _ (by omega) (List.getElem?_eq_getElem hk)
  by_cases e : hgt l i < hgt l k
  · have h2 := w.anc_par hk e
    have := w.anc_le (i := par l k) (h := hgt l i) (by have := w.par_lt (i := k) (by omega) hk; omega)
    have e2 := par_at hk
    omega
  · have : hgt l i = hgt l k := by omega
    rw [this, anc_self] at h
    omega
theorem failTo_start {l : List Nd} (w : Wf l) {n : Nat} (hn : n < l.length) : failTo l n n = l := by
  unfold failTo
  have : (fun j => decide (j < n) && onB l n (j : Nat)) = fun _ => false := by
    funext j
    by_cases h : j < n
    · simp [h, onB_lt w hn h]
    · simp [h]
  rw [this, setF_none]
theorem failTo_get {l : List Nd} {n : Int} {k : Nat} (hk : k < l.length) : (failTo l n k)[k]'(by simpa [failTo] using hk) = l[k] := by
  simp [failTo, setF_get hk]
theorem failTo_length (l : List Nd) (n : Int) (k : Nat) : (failTo l n k).length = l.length := by simp [failTo]
theorem failTo_on {l : List Nd} {n k : Nat} (hk : k < l.length) (h : onB l n k = true) : (failTo l n k).set k { l[k] with failed := true } = failTo l n (k + 1) := by
  have := setF_set (f := fun j => decide (j < k) && onB l n (j : Nat)) hk (g := fun j => decide (j < k + 1) && onB l n (j : Nat)) (fun j => by
    by_cases e : j = k
    · subst e; simp [h]
    · by_cases e2 : j < k
      · simp [e2, e, show j < k + 1 by omega]
      · simp [e2, e, show ¬ j < k + 1 by omega])
  have e := failTo_get (n := (n : Int)) hk
  unfold failTo at e ⊢
  rw [e] at this
  exact this
theorem failTo_off {l : List Nd} {n k : Nat} (hk : k < l.length) (h : onB l n k = false ∨ l[k].failed = true) : failTo l n (k + 1) = failTo l n k := by
  apply List.ext_getElem?
  intro j
  unfold failTo
  rw [setF_get?, setF_get?]
  by_cases e : j = k
  · subst e
    rw [List.getElem?_eq_getElem hk]
    rcases h with h | h
    · simp [h]
    · simp only [Option.map_some]
      have : { l[j] with failed := true } = l[j] := by
        cases hx : l[j]; rw [hx] at h; simp at h; rw [h]
      rw [this]
      simp
  · have : decide (j < k + 1) = decide (j < k) := by
      rw [decide_eq_decide]; omega
    rw [this]
theorem failN_start {l : List Nd} (w : Wf l) {n : Nat} (hn : n < l.length) : failN l n n = 0 := by
  unfold failN
  rw [List.length_eq_zero_iff, List.filter_eq_nil_iff]
  intro k hk
  simp at hk
  simp [onB_lt w hn hk]
theorem failN_succ {l : List Nd} {n k : Nat} (hk : k < l.length) : failN l n (k + 1) = failN l n k + if onB l n k = true ∧ l[k].failed = false then 1 else 0 := by
  unfold failN
  rw [List.range_succ, List.filter_append, List.length_append]
  congr 1
  have e := nd_at hk
  by_cases h1 : onB l n k = true
  · cases h2 : l[k].failed <;> simp [h1, h2, e]
  · simp [h1]
theorem failN_le (l : List Nd) (n : Int) (k : Nat) : failN l n k ≤ k := by
  unfold failN
  have := List.length_filter_le (fun (k : Nat) => onB l n k && !(nd l k).failed) (List.range k)
  simpa using this
section
variable {P : Program} {F : Fn}
set_option maxHeartbeats 1000000 in
/-- Add -/
theorem spec169 (ok : OkIndex P F) {g : St} {tid : Nat} {r : Rl} {l : List Nd} (T : TreeS tid r l g) (w : Wf l) (hl : l.length ≤ 16384) (hr : checkM r = 0) (x : Hdr) (now : Int) :
    ACalls P (F 169) [.ptr (some (tid, 0)), .agg (eHdr x), .int .i64 now] g fun v st' => v = .tup [.int .i64 (addM r l x now).2.1, .int .i64 (addM r l x now).2.2] ∧ TreeS tid r (addM r l x now).1 st' := by
  have okh := ok.toOkHead
  refine shows_call ok.mixed ok.h169 (by simp [k169]) ?_
  simp only [k169]
  simp
  intro i4 h4
  have S := (Sep.one T).new h4 (.cells (eHdr x))
  generalize g.upd i4 _ = st1 at S ⊢
  have TR := S.swap.treeR w.neNil
  obtain ⟨sid, mid, spare, es, ht⟩ := id TR
  have o1 := ht.top
  have o4 := S.get
  have hfin : ∃ s, St.sub s st1 ∧ TreeS tid r l s := by
    obtain ⟨h', k1, k2⟩ := S.swap.part
    exact ⟨h', k1, k2⟩
  have hlk := fun k => lookup_lk keyed_id (ev := kInt) ht.by_ (.int .i64 0) k
  simp only [ht.look, kId] at hlk
  simp [St.seg, o1, o4, tree_seg75, hsegAll]
  refine ⟨_, spec141 okh st1 x, ?_⟩
  simp [hlk]
  cases hf : findM l (hId x) with
  | some i =>
    have e : addM r l x now = (l, (i : Int), 5) := by simp [addM, hf]
    simp [e, kInt, hfin]
  | none =>
    simp [St.seg, o1, o4, tree_seg75, hsegPrev, hlk, kInt]
    cases hf2 : findM l x.prev with
    | none =>
      have e : addM r l x now = (l, -1, 100) := by simp [addM, hf, hf2]
      simp [e, hfin]
    | some p =>
      have hp := findM_lt hf2
      simp [St.seg, o4, hsegAll]
      refine (spec168 ok TR w hl hr x p now).mono ?_
      rintro v st1 ⟨rfl, rfl⟩
      obtain ⟨fv, hfv⟩ : ∃ fv, fv = fitsM r l x p now := ⟨_, rfl⟩
      rw [← hfv]
      by_cases hz : fv = 0
      · subst hz
        simp [St.seg, o1, tree_seg74]
        by_cases hfull : l.length = 16384
        · have e : addM r l x now = (l, -1, 3) := by simp [addM, hf, hf2, ← hfv, hfull]
          have hb : ((l.length : Int) == 16384) = true := by simp [hfull]
          simp [hb, e, hfin]
        · have e : addM r l x now = (l ++ [ndOf l x p], (l.length : Int), 0) := by simp [addM, hf, hf2, ← hfv, hfull]
          have hb : ((l.length : Int) == 16384) = false := by simp; omega
          simp [hb, e, St.seg, o4, hsegAll]
          have hpi : (p : Int) = -1 ∨ (0 ≤ (p : Int) ∧ (p : Int) < l.length) := by omega
          have hpm : putM l x p = ndOf l x p := by simp [putM]; omega
          refine (Sep.call S.swap (fun h hh => spec156 ok hh (fun _ => w) hl x p hpi)).mono ?_
          intro v st2 S2
          obtain ⟨h', k1, rfl, k2⟩ := S2.part
          rw [hpm] at k2
          simp
          exact ⟨h', k1, k2⟩
      · have e : addM r l x now = (l, -1, fv) := by simp [addM, hf, hf2, ← hfv, hz]
        have hb : (fv != 0) = true := by simp [hz]
        simp [hb, e, hfin]
set_option maxHeartbeats 1000000 in
/-- Fail -/
theorem spec170 (ok : OkIndex P F) {g : St} {tid : Nat} {r : Rl} {l : List Nd} (T : TreeS tid r l g) (w : Wf l) (hl : l.length ≤ 16384) (i : Int) :
    ACalls P (F 170) [.ptr (some (tid, 0)), .int .i64 i] g fun v st' => v = .int .i64 ((failM l i).2 : Nat) ∧ TreeS tid r (failM l i).1 st' := by
  refine shows_call ok.mixed ok.h170 (by simp [k170]) ?_
  simp only [k170]
  have TR := T.toR w.neNil
  obtain ⟨sid0, mid0, spare0, es0, ht⟩ := id TR
  have o1 := ht.top
  have hfin : ∃ s, St.sub s g ∧ TreeS tid r l s := ⟨g, sub_self _, T⟩
  by_cases h1 : i < 1
  · have e : failM l i = (l, 0) := by simp [failM, h1]
    simp [h1, e, hfin]
  · by_cases h2 : (l.length : Int) ≤ i
    · have e : failM l i = (l, 0) := by simp [failM, h2]
      simp [h1, h2, St.seg, o1, tree_seg74, e, hfin]
    · obtain ⟨n, rfl⟩ : ∃ n : Nat, i = n := ⟨i.toNat, by omega⟩
      have hn : n < l.length := by omega
      have h2' : ¬ l.length ≤ n := by omega
      have e : failM l n = (failTo l n l.length, failN l n l.length) := by
        unfold failM failTo failN
        rw [if_neg (by omega)]
        congr 1
        apply List.ext_getElem?
        intro k
        rw [setF_get?, setF_get?]
        cases h : l[k]? with
        | none => rfl
        | some x =>
          have := (List.getElem?_eq_some_iff.1 h).1
          simp [this]
      rw [e]
      simp [h1, h2', St.seg, o1, tree_seg74]
      clear ht o1 e hfin TR
      obtain ⟨s, mid, es, S, hlk⟩ := T
      obtain ⟨sid, spare, rfl, hsp1, S⟩ := S.slObj w.neNil
      refine vc_loopJ (fun c env' st' => ∃ k : Nat, n ≤ k ∧ k ≤ l.length ∧ c = l.length - k ∧ env' 6 = .int .i64 (k : Nat) ∧ env' 5 = .int .i64 (failN l n k : Nat) ∧ Sep [pt sid (.cells (rowsOf eNd (failTo l n k) ++ spare)), pt tid (.cells (eRl r ++ [.hsl sid 0 108 l.length, .map (some mid)])), pt mid (.mp (encM kId kInt es))] st') (l.length - n)
        ⟨n, Nat.le_refl _, by omega, rfl, by simp, by simp [failN_start w hn], by rw [failTo_start w hn]; exact S⟩ ?_
      clear S
      rintro J hJ c env' st2 hsame ⟨k, hnk, hkl, rfl, g6, g5, S⟩
      have g0 := hsame.get 0 rfl
      have g1 := hsame.get 1 rfl
      simp at g0 g1
      clear hsame
      have o1 := S.mem (i := tid) (o := .cells (eRl r ++ [.hsl sid 0 108 l.length, .map (some mid)])) (by simp)
      have o2 := S.get
      have hfl := failTo_length l n k
      have hlk' : ∀ id, lk id es = (findM (failTo l n k) id).map fun (i : Nat) => (i : Int) := fun id => by rw [hlk]; unfold failTo; rw [setF_find]
      have TR : TreeR tid r (failTo l n k) st2 := ⟨sid, mid, spare, es, by rw [hfl]; exact o1, o2, S.mem (i := mid) (by simp), hsp1, hlk'⟩
      have wk : Wf (failTo l n k) := setF_wf w
      by_cases hlt : k < l.length
      · have hkf : k < (failTo l n k).length := by rw [hfl]; exact hlt
        have ek := failTo_get (n := (n : Int)) hlt
        have s1 := nd_fail (spare := spare) hkf
        have s2 := nd_par (spare := spare) hkf
        rw [ek] at s1 s2
        have hsucc := failN_succ (n := n) hlt
        have hle := failN_le l n k
        have hw6 : IntKind.i64.wrap ((k : Int) + 1) = (k : Int) + 1 := wrap64 (by omega) (by omega)
        have hw5 : IntKind.i64.wrap ((failN l n k : Int) + 1) = (failN l n k : Int) + 1 := wrap64 (by omega) (by omega)
        have hoff : (onB l n k = false ∨ l[k].failed = true) → J (l.length - (k + 1)) = J (l.length - (k + 1)) ∧ failTo l n (k + 1) = failTo l n k ∧ failN l n (k + 1) = failN l n k := by
          intro h
          refine ⟨rfl, failTo_off hlt h, ?_⟩
          rw [hsucc]
          rcases h with h | h <;> simp [h]
        have honB : ∀ t : Int, onB (failTo l n k) (n : Nat) t = onB l n t := fun t => setF_onB _ _
        have hrows := rowsOf_length eNd_len (failTo l n k)
        have p1 := rowsOf_splice eNd_len (failTo l n k) spare hkf (o := 107) (vs := [.bool true]) (by simp) (a := { l[k] with failed := true }) (by rw [ek, spl_fail])
        have hst : storeS st2 1 (.ptr (some (sid, k * 108 + 107))) (.bool true) = some (st2.upd sid (.cells (rowsOf eNd ((failTo l n k).set k { l[k] with failed := true }) ++ spare))) := by
          simp only [storeS, o2, cells_bool]
          rw [if_pos (by rw [List.length_append, hrows, hfl]; simp; omega), p1]
        cases hf : l[k].failed with
        | true =>
          obtain ⟨-, e1, e2⟩ := hoff (.inr hf)
          rw [hf] at s1
          simp [g0, g1, g6, hlt, St.seg, o1, o2, tree_seg74, s1, hw6]
          exact Round.mk (l.length - (k + 1)) _ (by omega) (sub_self _) (hJ _ _ _ ⟨k + 1, by omega, by omega, rfl, by simp, by simp [e2, g5], by rw [e1]; exact S⟩)
        | false =>
          rw [hf] at s1
          have hon : onB l n k = true → Sep [pt sid (.cells (rowsOf eNd (failTo l n (k + 1)) ++ spare)), pt tid (.cells (eRl r ++ [.hsl sid 0 108 l.length, .map (some mid)])), pt mid (.mp (encM kId kInt es))] (st2.upd sid (.cells (rowsOf eNd ((failTo l n k).set k { l[k] with failed := true }) ++ spare))) ∧ failN l n (k + 1) = failN l n k + 1 := by
            intro h
            refine ⟨?_, by rw [hsucc]; simp [h, hf]⟩
            rw [← failTo_on hlt h]
            exact S.set _
          by_cases hkn : k = n
          · obtain ⟨S2, e2⟩ := hon (by rw [hkn]; exact onB_self hn)
            have hb : ((k : Int) == (n : Int)) = true := by simp [hkn]
            simp [g0, g1, g6, hlt, St.seg, o1, o2, tree_seg74, s1, hw6, hb, hst, g5, hw5]
            exact Round.mk (l.length - (k + 1)) _ (by omega) (sub_self _) (hJ _ _ _ ⟨k + 1, by omega, by omega, rfl, by simp, by simp [e2], S2⟩)
          · have hb : ((k : Int) == (n : Int)) = false := by simp; omega
            by_cases hpar : (n : Int) ≤ l[k].parent
            · simp [g0, g1, g6, hlt, St.seg, o1, o2, tree_seg74, s1, s2, hw6, hb, hpar]
              refine (spec163 ok TR wk n k).mono ?_
              rintro v st2 ⟨rfl, rfl⟩
              rw [honB]
              cases hbn : onB l n k with
              | true =>
                obtain ⟨S2, e2⟩ := hon hbn
                simp [hst, g5, g6, hw5, hw6]
                exact Round.mk (l.length - (k + 1)) _ (by omega) (sub_self _) (hJ _ _ _ ⟨k + 1, by omega, by omega, rfl, by simp, by simp [e2], S2⟩)
              | false =>
                obtain ⟨-, e1, e2⟩ := hoff (.inl hbn)
                simp [g6, hw6]
                exact Round.mk (l.length - (k + 1)) _ (by omega) (sub_self _) (hJ _ _ _ ⟨k + 1, by omega, by omega, rfl, by simp, by simp [e2, g5], by rw [e1]; exact S⟩)
            · have hbn : onB l n k = false := by
                cases h : onB l n k with
                | false => rfl
                | true => exact absurd (onB_par w (by omega) hlt h) hpar
              obtain ⟨-, e1, e2⟩ := hoff (.inl hbn)
              simp [g0, g1, g6, hlt, St.seg, o1, o2, tree_seg74, s1, s2, hw6, hb, hpar]
              exact Round.mk (l.length - (k + 1)) _ (by omega) (sub_self _) (hJ _ _ _ ⟨k + 1, by omega, by omega, rfl, by simp, by simp [e2, g5], by rw [e1]; exact S⟩)
      · have hkl' : k = l.length := by omega
        subst hkl'
        simp [g0, g6, g5, St.seg, o1, tree_seg74]
        have hS := Sep.ofObj S hsp1
        rw [hfl] at hS
        refine ⟨_, sub_self _, _, mid, es, hS, hlk'⟩
end
end Go.Ab
/-
  index: rules, and a new tree.
-/
set_option linter.unusedSimpArgs false
set_option linter.unusedVariables false
set_option maxRecDepth 10000
namespace Go.Ab
open Go Go.RowKit

theorem eRl_drop5 (r : Rl) : (eRl r).drop 5 = eHdr r.gen ++ [r.txs] := rfl
theorem rseg (r : Rl) {o n : Nat} {ys : List V} (h : ((eRl r).drop o).take n = ys) (hl : o + n ≤ 74) : segOf (eRl r) o n = some ys := by
  unfold segOf
  rw [if_pos (by rw [eRl_len]; exact hl), h]
theorem rsegLimit (r : Rl) : segOf (eRl r) 0 1 = some [w32 r.limit] := rseg r rfl (by omega)
theorem rsegEvery (r : Rl) : segOf (eRl r) 1 1 = some [.int .i64 r.every] := rseg r rfl (by omega)
theorem rsegSpacing (r : Rl) : segOf (eRl r) 2 1 = some [.int .i64 r.spacing] := rseg r rfl (by omega)
theorem rsegSubsidy (r : Rl) : segOf (eRl r) 3 1 = some [.int .i64 r.subsidy] := rseg r rfl (by omega)
theorem rsegWork (r : Rl) : segOf (eRl r) 4 1 = some [.int .i64 r.work] := rseg r rfl (by omega)
theorem rsegBits (r : Rl) : segOf (eRl r) 71 1 = some [w32 r.gen.bits] := rseg r (by
  rw [show 71 = 5 + 66 from rfl, ← List.drop_drop, eRl_drop5, List.drop_append_of_le_length (by rw [eHdr_len]; omega), hdrop66]; rfl) (by omega)
theorem rsegGen (r : Rl) : segOf (eRl r) 5 68 = some (eHdr r.gen) := rseg r (by
  rw [eRl_drop5, ← eHdr_len r.gen, List.take_left]) (by omega)
theorem rsegAll (r : Rl) : segOf (eRl r) 0 74 = some (eRl r) := rseg r (by rw [List.drop_zero, ← eRl_len r, List.take_length]) (by omega)
section
variable {P : Program} {F : Fn}
set_option maxHeartbeats 1000000 in
theorem spec154 (ok : OkIndex P F) (st : St) (r : Rl) : ACalls P (F 154) [.agg (eRl r)] st fun v st' => v = .int .i64 (checkM r) ∧ st' = st := by
  have okh := ok.toOkHead
  refine shows_call ok.mixed ok.h154 (by simp [k154]) ?_
  simp only [k154, eU_zero0]
  simp
  intro i1 h1
  have S := (Sep.start st).new h1 (.cells (eRl r))
  generalize st.upd i1 _ = st1 at S ⊢
  have o1 := S.get
  simp [St.seg, o1, rsegLimit]
  refine (spec135 okh st1 r.limit).mono ?_
  rintro v st1 ⟨rfl, rfl⟩
  obtain ⟨hA1, hA2⟩ := tgtR_get r.limit
  rw [hA1]
  have hspU : ∀ x y : U, spliceV (eU x) 0 (eU y) = eU y := fun _ _ => rfl
  simp
  intro i3 h3
  have S := S.new h3 (.cells (eU 0#256))
  simp [storeS, nU, eU_len, hspU]
  have S := S.setAt (.cells (eU (natU ((tgt r.limit).getD 0)))) 0 rfl
  simp at S
  generalize st1.upd i3 _ = st2 at S ⊢
  have o1 := S.mem (i := i1) (o := .cells (eRl r)) (by simp)
  have hs := S.was' (st0 := st) (by simp)
  cases ht : tgt r.limit with
  | none =>
    have e : checkM r = 30 := by simp [checkM, ht]
    simp [e, hs]
  | some T =>
    by_cases hb : r.gen.bits = r.limit
    · have hbb : (r.gen.bits != r.limit) = false := by simp [hb]
      by_cases c0 : r.every < 0
      · have e : checkM r = 1 := by simp [checkM, ht, hb, c0]
        simp [hbb, e, c0, St.seg, o1, rsegLimit, rsegEvery, rsegSpacing, rsegSubsidy, rsegWork, rsegBits, hs]
      by_cases c1 : 1000 < r.every
      · have e : checkM r = 1 := by simp [checkM, ht, hb, c1]
        simp [hbb, e, c0, c1, St.seg, o1, rsegLimit, rsegEvery, rsegSpacing, rsegSubsidy, rsegWork, rsegBits, hs]
      by_cases c2 : r.spacing < 1
      · have e : checkM r = 1 := by simp [checkM, ht, hb, c2]
        simp [hbb, e, c0, c1, c2, St.seg, o1, rsegLimit, rsegEvery, rsegSpacing, rsegSubsidy, rsegWork, rsegBits, hs]
      by_cases c3 : 1048576 < r.spacing
      · have e : checkM r = 1 := by simp [checkM, ht, hb, c3]
        simp [hbb, e, c0, c1, c2, c3, St.seg, o1, rsegLimit, rsegEvery, rsegSpacing, rsegSubsidy, rsegWork, rsegBits, hs]
      by_cases c4 : r.subsidy < 0
      · have e : checkM r = 1 := by simp [checkM, ht, hb, c4]
        simp [hbb, e, c0, c1, c2, c3, c4, St.seg, o1, rsegLimit, rsegEvery, rsegSpacing, rsegSubsidy, rsegWork, rsegBits, hs]
      by_cases c5 : 1125899906842624 < r.subsidy
      · have e : checkM r = 1 := by simp [checkM, ht, hb, c5]
        simp [hbb, e, c0, c1, c2, c3, c4, c5, St.seg, o1, rsegLimit, rsegEvery, rsegSpacing, rsegSubsidy, rsegWork, rsegBits, hs]
      by_cases c6 : r.work < 0
      · have e : checkM r = 1 := by simp [checkM, ht, hb, c6]
        simp [hbb, e, c0, c1, c2, c3, c4, c5, c6, St.seg, o1, rsegLimit, rsegEvery, rsegSpacing, rsegSubsidy, rsegWork, rsegBits, hs]
      by_cases c7 : 1000 < r.work
      · have e : checkM r = 1 := by simp [checkM, ht, hb, c7]
        simp [hbb, e, c0, c1, c2, c3, c4, c5, c6, c7, St.seg, o1, rsegLimit, rsegEvery, rsegSpacing, rsegSubsidy, rsegWork, rsegBits, hs]
      have e : checkM r = 0 := by simp [checkM, ht, hb, c0, c1, c2, c3, c4, c5, c6, c7]
      simp [hbb, e, c0, c1, c2, c3, c4, c5, c6, c7, St.seg, o1, rsegLimit, rsegEvery, rsegSpacing, rsegSubsidy, rsegWork, rsegBits, hs]
    · have hbb : (r.gen.bits != r.limit) = true := by simp [hb]
      have e : checkM r = 30 := by simp [checkM, hb]
      simp [hbb, e, St.seg, o1, rsegLimit, rsegBits, hs]
set_option maxHeartbeats 1000000 in
/-- New -/
theorem spec155 (ok : OkIndex P F) (st : St) (r : Rl) : ACalls P (F 155) [.agg (eRl r)] st fun v st' =>
    if checkM r = 0 then ∃ tid, v = .tup [.ptr (some (tid, 0)), .int .i64 0] ∧ Sep [TreeS tid r (newM r), Was st] st' else v = .tup [.ptr none, .int .i64 (checkM r)] ∧ st' = st := by
  have okh := ok.toOkHead
  refine shows_call ok.mixed ok.h155 (by simp [k155]) ?_
  simp only [k155]
  simp
  intro i1 h1
  have S := (Sep.start st).new h1 (.cells (eRl r))
  generalize st.upd i1 _ = st1 at S ⊢
  have o1 := S.get
  have hs := S.was' (st0 := st) (by simp)
  simp [St.seg, o1, rsegAll]
  refine (spec154 ok st1 r).mono ?_
  rintro v st1 ⟨rfl, rfl⟩
  by_cases hc : checkM r = 0
  · simp [hc, St.seg, o1, rsegAll]
    intro i12 h12
    have S := S.new h12 (.mp [])
    generalize st1.upd i12 _ = st2 at S ⊢
    have hfl : fillV z76_2d2c [(0, 74, .agg (eRl r)), (75, 1, .map (some i12))] = some (eRl r ++ [.sl .nil [] 0, .map (some i12)]) := by
      have hz : z76_2d2c = z76_2d2c.take 74 ++ [.sl .nil [] 0, .map none] := rfl
      have hl : (z76_2d2c.take 74).length = 74 := rfl
      have e1 : spliceV z76_2d2c 0 (eRl r) = eRl r ++ [.sl .nil [] 0, .map none] := by
        unfold spliceV
        rw [List.take_zero, List.nil_append, Nat.zero_add, eRl_len]; rfl
      have e2 : spliceV (eRl r ++ [.sl .nil [] 0, .map none]) 75 [.map (some i12)] = eRl r ++ [.sl .nil [] 0, .map (some i12)] := by
        rw [show 75 = 74 + 1 from rfl, splice_right (eRl_len r)]; rfl
      have hz2 : z76_2d2c.length = 76 := rfl
      simp [fillV, eRl_len, hz2, e1, e2]
    simp [hfl]
    intro i14 h14
    have S := S.new h14 (.cells (eRl r ++ [.sl .nil [] 0, .map (some i12)]))
    generalize st2.upd i14 _ = st3 at S ⊢
    have o1 := S.mem (i := i1) (o := .cells (eRl r)) (by simp)
    have S := Sep.slNil (sz := 108) (f := eNd) S
    have S : Sep [All [Sl 108 eNd (.sl .nil [] 0) [], pt i14 (.cells (eRl r ++ [.sl .nil [] 0, .map (some i12)])), pt i12 (.mp [])], pt i1 (.cells (eRl r)), Was st] st3 := Sep.all (L1 := [_, _, _]) S
    have S : Sep [TreeS i14 r [], pt i1 (.cells (eRl r)), Was st] st3 := S.head fun h hh => ⟨_, i12, [], hh, fun k => rfl⟩
    simp [St.seg, o1, rsegGen]
    refine (Sep.call S (fun h hh => spec156 ok hh (fun h => absurd rfl h) (by simp) r.gen (-1) (.inl rfl))).mono ?_
    intro v st4 S
    have S := S.head (A' := TreeS i14 r (newM r)) fun h hh => hh.2
    simp
    exact ⟨_, sub_self _, Sep.tail (fun r hr => hr.drop) S⟩
  · have hcb : (checkM r != 0) = true := by simp [hc]
    simp [hc, hcb, hs]
end
end Go.Ab
/-
  law10: plain: the easy rules, and what is mined by them.
-/
set_option linter.unusedSimpArgs false
set_option linter.unusedVariables false
namespace Go.Ab
open Go Go.RowKit
def easyB : W32 := 545259519#32
def easyR : Rl := ⟨easyB, 0, 10, 50, 0, { hdr0 with bits := easyB }, .sl .nil [] 0⟩
theorem easy_limit : tgt easyB ≠ none := by decide +kernel
def growH : Hdr := { hdr0 with prev := hId easyR.gen, time := 5#32, bits := easyB }
theorem grow_mined : (match mineN growH easyB 100 with | some h => decide (hId h ≠ hId easyR.gen) | none => false) = true := by decide +kernel
end Go.Ab
/-
  The code of functions of the program in the small language.
-/
set_option linter.unusedVariables false
namespace Go.Ab
open Go
-- regions [0, 1]
/- tallystick/tallysticklaw10.easy -/
def k184 (F : Fn) : PF := PF.mk 4 0 [(PR.cell 0 true 74)] (.seq (.ops [(PO.mk (some 0) (.alloc z74_2f53) none)]) (.seq (.ops [(PO.mk (some 1) (.build z68_39b1 [(66, (1, (.k (w32 545259519))))]) none), (PO.mk (some 2) (.build z69_adc1 [(0, (68, (.t 1)))]) none), (PO.mk (some 3) (.build z74_2f53 [(0, (1, (.k (w32 545259519)))), (2, (1, (.k (.int .i64 10)))), (3, (1, (.k (.int .i64 50)))), (5, (69, (.t 2)))]) none), (PO.mk none (.store 74 (.t 0) (.t 3)) none)]) .ret))
-- regions [0, 1, 2, 3, 4, 5, 6, 7]
/- tallystick/tallysticklaw10.grows -/
def k185 (F : Fn) : PF := PF.mk 93 0 [(.t 0)] (.seq (.ops [(PO.mk (some 0) (.mv (.k (.bool false))) none)]) (.seq (.ops [(PO.mk (some 10) (.call (F 184) []) none), (PO.mk (some 11) (.call (F 155) [(.t 10)]) none), (PO.mk (some 9) (.mv (.t 11)) none), (PO.mk (some 12) (.ext 0 (.t 9)) none), (PO.mk (some 13) (.ext 1 (.t 9)) none), (PO.mk (some 1) (.mv (.t 12)) none), (PO.mk (some 2) (.mv (.t 13)) none)]) (.seq (.seq (.ops [(PO.mk (some 14) (.mv (.t 1)) none), (PO.mk (some 15) (.eqa .ptr false (.t 14) (.k (.ptr none))) none), (PO.mk (some 16) (.mv (.t 15)) none), (PO.mk (some 17) (.mv (.t 2)) (some (16, false))), (PO.mk (some 18) (.bin .neq (.t 17) (.k (.int .i64 0))) (some (16, false))), (PO.mk (some 19) (.pick (.t 16) (.k (.bool true)) (.t 18)) none), (PO.mk (some 20) (.mv (.t 19)) none), (PO.mk (some 21) (.mv (.t 1)) (some (20, false))), (PO.mk (some 22) (.call (F 159) [(.t 21)]) (some (20, false))), (PO.mk (some 23) (.bin .neq (.t 22) (.k (.int .i64 1))) (some (20, false))), (PO.mk (some 24) (.pick (.t 20) (.k (.bool true)) (.t 23)) none)]) (.cond (.t 24) (.seq (.ops [(PO.mk (some 0) (.mv (.k (.bool false))) none)]) .ret) .skip)) (.seq (.ops [(PO.mk (some 26) (.mv (.t 1)) none), (PO.mk (some 27) (.call (F 161) [(.t 26), (.k (.int .i64 0))]) none), (PO.mk (some 28) (.fld true 68 32 (.t 27)) none), (PO.mk (some 29) (.build z68_39b1 [(1, (32, (.t 28))), (65, (1, (.k (w32 5)))), (66, (1, (.k (w32 545259519))))]) none), (PO.mk (some 30) (.call (F 143) [(.t 29), (.k (w32 545259519)), (.k (.int .i64 100))]) none), (PO.mk (some 25) (.mv (.t 30)) none), (PO.mk (some 31) (.ext 0 (.t 25)) none), (PO.mk (some 32) (.ext 1 (.t 25)) none), (PO.mk (some 3) (.alloc z68_39b1) none), (PO.mk none (.store 68 (.t 3) (.t 31)) none), (PO.mk (some 4) (.mv (.t 32)) none)]) (.seq (.ops [(PO.mk (some 34) (.mv (.t 1)) none), (PO.mk (some 35) (.load true 68 (.t 3)) none), (PO.mk (some 36) (.call (F 169) [(.t 34), (.t 35), (.k (.int .i64 100))]) none), (PO.mk (some 33) (.mv (.t 36)) none), (PO.mk (some 37) (.ext 0 (.t 33)) none), (PO.mk (some 38) (.ext 1 (.t 33)) none), (PO.mk (some 5) (.mv (.t 37)) none), (PO.mk (some 6) (.mv (.t 38)) none)]) (.seq (.ops [(PO.mk (some 40) (.mv (.t 1)) none), (PO.mk (some 41) (.load true 68 (.t 3)) none), (PO.mk (some 42) (.call (F 169) [(.t 40), (.t 41), (.k (.int .i64 100))]) none), (PO.mk (some 39) (.mv (.t 42)) none), (PO.mk (some 43) (.ext 0 (.t 39)) none), (PO.mk (some 44) (.ext 1 (.t 39)) none), (PO.mk (some 7) (.mv (.t 43)) none), (PO.mk (some 8) (.mv (.t 44)) none)]) (.seq (.ops [(PO.mk (some 45) (.mv (.t 4)) none), (PO.mk (some 46) (.mv (.t 45)) none), (PO.mk (some 47) (.mv (.t 5)) (some (46, true))), (PO.mk (some 48) (.bin .eql (.t 47) (.k (.int .i64 1))) (some (46, true))), (PO.mk (some 49) (.pick (.t 46) (.t 48) (.k (.bool false))) none), (PO.mk (some 50) (.mv (.t 49)) none), (PO.mk (some 51) (.mv (.t 6)) (some (50, true))), (PO.mk (some 52) (.bin .eql (.t 51) (.k (.int .i64 0))) (some (50, true))), (PO.mk (some 53) (.pick (.t 50) (.t 52) (.k (.bool false))) none), (PO.mk (some 54) (.mv (.t 53)) none), (PO.mk (some 55) (.mv (.t 8)) (some (54, true))), (PO.mk (some 56) (.bin .eql (.t 55) (.k (.int .i64 5))) (some (54, true))), (PO.mk (some 57) (.pick (.t 54) (.t 56) (.k (.bool false))) none), (PO.mk (some 58) (.mv (.t 57)) none), (PO.mk (some 59) (.mv (.t 1)) (some (58, true))), (PO.mk (some 60) (.call (F 161) [(.t 59), (.k (.int .i64 1))]) (some (58, true))), (PO.mk (some 61) (.fld false 102 1 (.t 60)) (some (58, true))), (PO.mk (some 62) (.bin .eql (.t 61) (.k (.int .i64 1))) (some (58, true))), (PO.mk (some 63) (.pick (.t 58) (.t 62) (.k (.bool false))) none), (PO.mk (some 64) (.mv (.t 63)) none), (PO.mk (some 65) (.mv (.t 1)) (some (64, true))), (PO.mk (some 66) (.call (F 161) [(.t 65), (.k (.int .i64 1))]) (some (64, true))), (PO.mk (some 67) (.fld true 103 4 (.t 66)) (some (64, true))), (PO.mk (some 68) (.call (F 105) [(.k (w64 4))]) (some (64, true))), (PO.mk (some 69) (.eqa (.agg 4) false (.t 67) (.t 68)) (some (64, true))), (PO.mk (some 70) (.pick (.t 64) (.t 69) (.k (.bool false))) none), (PO.mk (some 71) (.mv (.t 70)) none), (PO.mk (some 72) (.mv (.t 1)) (some (71, true))), (PO.mk (some 73) (.call (F 163) [(.t 72), (.k (.int .i64 0)), (.k (.int .i64 1))]) (some (71, true))), (PO.mk (some 74) (.pick (.t 71) (.t 73) (.k (.bool false))) none), (PO.mk (some 75) (.mv (.t 74)) none), (PO.mk (some 76) (.mv (.t 1)) (some (75, true))), (PO.mk (some 77) (.call (F 166) [(.t 76), (.k (.int .i64 1))]) (some (75, true))), (PO.mk (some 78) (.bin .eql (.t 77) (.k (w32 5))) (some (75, true))), (PO.mk (some 79) (.pick (.t 75) (.t 78) (.k (.bool false))) none), (PO.mk (some 80) (.mv (.t 79)) none), (PO.mk (some 81) (.mv (.t 1)) (some (80, true))), (PO.mk (some 82) (.call (F 167) [(.t 81), (.k (.int .i64 1))]) (some (80, true))), (PO.mk (some 83) (.bin .eql (.t 82) (.k (w32 545259519))) (some (80, true))), (PO.mk (some 84) (.pick (.t 80) (.t 83) (.k (.bool false))) none), (PO.mk (some 85) (.mv (.t 84)) none), (PO.mk (some 86) (.pick (.t 85) (.k (.bool true)) (.k (.bool false))) none), (PO.mk (some 87) (.mv (.t 86)) none), (PO.mk (some 88) (.pick (.t 87) (.k (.bool true)) (.k (.bool false))) none), (PO.mk (some 89) (.mv (.t 88)) none), (PO.mk (some 90) (.pick (.t 89) (.k (.bool true)) (.k (.bool false))) none), (PO.mk (some 91) (.mv (.t 90)) none), (PO.mk (some 92) (.pick (.t 91) (.k (.bool true)) (.k (.bool false))) none), (PO.mk (some 0) (.mv (.t 92)) none)]) .ret)))))))
-- regions [0, 1, 2, 3, 4, 5, 6, 7, 8, 9, 10, 11, 12, 13, 14, 15, 16, 17, 18, 19, 20, 21, 22, 23, 24, 25, 26, 27]
/- tallystick/tallysticklaw10.IndexSkips -/
def k186 (F : Fn) : PF := PF.mk 113 2 [(.t 4)] (.seq (.ops [(PO.mk (some 4) (.mv (.k (.bool false))) none)]) (.seq (.seq (.ops [(PO.mk (some 17) (.call (F 185) []) none), (PO.mk (some 18) (.not (.t 17)) none)]) (.cond (.t 18) (.seq (.ops [(PO.mk (some 4) (.mv (.k (.bool false))) none)]) .ret) .skip)) (.seq (.seq (.ops [(PO.mk (some 19) (.mv (.t 0)) none), (PO.mk (some 20) (.bin .lss (.t 19) (.k (.int .i64 0))) none), (PO.mk (some 21) (.mv (.t 20)) none), (PO.mk (some 22) (.mv (.t 0)) (some (21, false))), (PO.mk (some 23) (.bin .gtr (.t 22) (.k (.int .i64 40))) (some (21, false))), (PO.mk (some 24) (.pick (.t 21) (.k (.bool true)) (.t 23)) none), (PO.mk (some 25) (.mv (.t 24)) none), (PO.mk (some 26) (.mv (.t 1)) (some (25, false))), (PO.mk (some 27) (.lenSl (.t 26)) (some (25, false))), (PO.mk (some 28) (.bin .gtr (.t 27) (.k (.int .i64 50))) (some (25, false))), (PO.mk (some 29) (.pick (.t 25) (.k (.bool true)) (.t 28)) none)]) (.cond (.t 29) (.seq (.ops [(PO.mk (some 4) (.mv (.k (.bool true))) none)]) .ret) .skip)) (.seq (.ops [(PO.mk (some 31) (.call (F 184) []) none), (PO.mk (some 32) (.call (F 155) [(.t 31)]) none), (PO.mk (some 30) (.mv (.t 32)) none), (PO.mk (some 33) (.ext 0 (.t 30)) none), (PO.mk (some 34) (.ext 1 (.t 30)) none), (PO.mk (some 5) (.mv (.t 33)) none), (PO.mk (some 6) (.mv (.t 34)) none)]) (.seq (.seq (.ops [(PO.mk (some 35) (.mv (.t 0)) none), (PO.mk (some 36) (.mv (.k (.int .i64 0))) none)]) (.block 0 (.loop (.seq (.ops [(PO.mk (some 37) (.bin .lss (.t 36) (.t 35)) none)]) (.seq (.cond (.t 37) .skip (.exit 0)) (.seq (.block 1 (.seq (.ops [(PO.mk (some 38) (.mv (.t 36)) none), (PO.mk (some 7) (.mv (.t 38)) none)]) (.seq (.ops [(PO.mk (some 40) (.mv (.t 5)) none), (PO.mk (some 41) (.mv (.t 7)) none), (PO.mk (some 42) (.call (F 161) [(.t 40), (.t 41)]) none), (PO.mk (some 43) (.fld true 68 32 (.t 42)) none), (PO.mk (some 44) (.mv (.t 7)) none), (PO.mk (some 45) (.bin .add (.t 44) (.k (.int .i64 1))) none), (PO.mk (some 46) (.conv .u32 (.t 45)) none), (PO.mk (some 47) (.build z68_39b1 [(1, (32, (.t 43))), (65, (1, (.t 46))), (66, (1, (.k (w32 545259519))))]) none), (PO.mk (some 48) (.call (F 143) [(.t 47), (.k (w32 545259519)), (.k (.int .i64 1000))]) none), (PO.mk (some 39) (.mv (.t 48)) none), (PO.mk (some 49) (.ext 0 (.t 39)) none), (PO.mk (some 50) (.ext 1 (.t 39)) none), (PO.mk (some 8) (.alloc z68_39b1) none), (PO.mk none (.store 68 (.t 8) (.t 49)) none), (PO.mk (some 9) (.mv (.t 50)) none)]) (.seq (.ops [(PO.mk (some 52) (.mv (.t 5)) none), (PO.mk (some 53) (.load true 68 (.t 8)) none), (PO.mk (some 54) (.call (F 169) [(.t 52), (.t 53), (.k (.int .i64 1000))]) none), (PO.mk (some 51) (.mv (.t 54)) none), (PO.mk (some 55) (.ext 0 (.t 51)) none), (PO.mk (some 56) (.ext 1 (.t 51)) none), (PO.mk (some 10) (.mv (.t 55)) none), (PO.mk (some 11) (.mv (.t 56)) none)]) (.seq (.ops [(PO.mk (some 57) (.mv (.t 9)) none), (PO.mk (some 58) (.not (.t 57)) none), (PO.mk (some 59) (.mv (.t 58)) none), (PO.mk (some 60) (.mv (.t 11)) (some (59, false))), (PO.mk (some 61) (.bin .eql (.t 60) (.k (.int .i64 5))) (some (59, false))), (PO.mk (some 62) (.pick (.t 59) (.k (.bool true)) (.t 61)) none)]) (.cond (.t 62) (.seq (.ops [(PO.mk (some 4) (.mv (.k (.bool true))) none)]) .ret) (.seq (.ops [(PO.mk (some 63) (.mv (.t 11)) none), (PO.mk (some 64) (.bin .neq (.t 63) (.k (.int .i64 0))) none), (PO.mk (some 65) (.mv (.t 64)) none), (PO.mk (some 66) (.mv (.t 10)) (some (65, false))), (PO.mk (some 67) (.mv (.t 7)) (some (65, false))), (PO.mk (some 68) (.bin .add (.t 67) (.k (.int .i64 1))) (some (65, false))), (PO.mk (some 69) (.bin .neq (.t 66) (.t 68)) (some (65, false))), (PO.mk (some 70) (.pick (.t 65) (.k (.bool true)) (.t 69)) none)]) (.cond (.t 70) (.seq (.ops [(PO.mk (some 4) (.mv (.k (.bool false))) none)]) .ret) .skip)))))))) (.ops [(PO.mk (some 71) (.bin .add (.t 36) (.k (.int .i64 1))) none), (PO.mk (some 36) (.mv (.t 71)) none)]))))))) (.seq (.seq (.ops [(PO.mk (some 72) (.mv (.t 1)) none), (PO.mk (some 73) (.lenSl (.t 72)) none), (PO.mk (some 74) (.mv (.k (.int .i64 0))) none)]) (.block 2 (.loop (.seq (.ops [(PO.mk (some 75) (.bin .lss (.t 74) (.t 73)) none)]) (.seq (.cond (.t 75) .skip (.exit 2)) (.seq (.block 3 (.seq (.ops [(PO.mk (some 76) (.idxSl 2 (.t 72) (.t 74)) none), (PO.mk (some 77) (.load true 2 (.t 76)) none), (PO.mk (some 13) (.alloc [(.int .i64 0), (.int .i64 0)]) none), (PO.mk none (.store 2 (.t 13) (.t 77)) none)]) (.seq (.draw [(.e, (PO.mk (some 78) (.idxArr 2 1 (.t 13) (.k (.int .i64 0))) none)), (.e, (PO.mk (some 80) (.idxArr 2 1 (.t 13) (.k (.int .i64 1))) none)), (.s, (PO.mk (some 79) (.load false 1 (.t 78)) none)), (.e, (PO.mk (some 14) (.mv (.t 79)) none)), (.s, (PO.mk (some 81) (.load false 1 (.t 80)) none)), (.e, (PO.mk (some 15) (.mv (.t 81)) none))]) (.seq (.seq (.ops [(PO.mk (some 82) (.mv (.t 14)) none), (PO.mk (some 83) (.bin .lss (.t 82) (.k (.int .i64 0))) none), (PO.mk (some 84) (.mv (.t 83)) none), (PO.mk (some 85) (.mv (.t 14)) (some (84, false))), (PO.mk (some 86) (.mv (.t 0)) (some (84, false))), (PO.mk (some 87) (.bin .gtr (.t 85) (.t 86)) (some (84, false))), (PO.mk (some 88) (.pick (.t 84) (.k (.bool true)) (.t 87)) none)]) (.cond (.t 88) (.exit 3) .skip)) (.seq (.ops [(PO.mk (some 89) (.mv (.t 15)) none), (PO.mk (some 16) (.mv (.t 89)) none)]) (.seq (.seq (.ops [(PO.mk (some 90) (.mv (.t 15)) none), (PO.mk (some 91) (.bin .lss (.t 90) (.k (.int .i64 0))) none), (PO.mk (some 92) (.mv (.t 91)) none), (PO.mk (some 93) (.mv (.t 15)) (some (92, false))), (PO.mk (some 94) (.mv (.t 14)) (some (92, false))), (PO.mk (some 95) (.bin .gtr (.t 93) (.t 94)) (some (92, false))), (PO.mk (some 96) (.pick (.t 92) (.k (.bool true)) (.t 95)) none)]) (.cond (.t 96) (.ops [(PO.mk (some 16) (.mv (.k (.int .i64 (-1)))) none)]) .skip)) (.seq (.ops [(PO.mk (some 97) (.mv (.t 5)) none), (PO.mk (some 98) (.mv (.t 14)) none), (PO.mk (some 99) (.mv (.t 15)) none), (PO.mk (some 100) (.call (F 158) [(.t 97), (.t 98), (.t 99)]) none), (PO.mk (some 101) (.mv (.t 16)) none), (PO.mk (some 102) (.bin .neq (.t 100) (.t 101)) none), (PO.mk (some 103) (.mv (.t 102)) none), (PO.mk (some 104) (.mv (.t 5)) (some (103, false))), (PO.mk (some 105) (.mv (.t 15)) (some (103, false))), (PO.mk (some 106) (.mv (.t 14)) (some (103, false))), (PO.mk (some 107) (.call (F 163) [(.t 104), (.t 105), (.t 106)]) (some (103, false))), (PO.mk (some 108) (.mv (.t 16)) (some (103, false))), (PO.mk (some 109) (.bin .geq (.t 108) (.k (.int .i64 0))) (some (103, false))), (PO.mk (some 110) (.eqa .bool true (.t 107) (.t 109)) (some (103, false))), (PO.mk (some 111) (.pick (.t 103) (.k (.bool true)) (.t 110)) none)]) (.cond (.t 111) (.seq (.ops [(PO.mk (some 4) (.mv (.k (.bool false))) none)]) .ret) .skip)))))))) (.ops [(PO.mk (some 112) (.bin .add (.t 74) (.k (.int .i64 1))) none), (PO.mk (some 74) (.mv (.t 112)) none)]))))))) (.seq (.ops [(PO.mk (some 4) (.mv (.k (.bool true))) none)]) .ret)))))))
-- regions [0, 1, 2, 3, 4, 5, 6, 7, 8, 9, 10, 11, 12, 13, 14, 15, 16, 17, 18, 19, 20, 21, 22, 23, 24, 25, 26, 27]
/- tallystick/tallysticklaw10.IndexFails -/
def k187 (F : Fn) : PF := PF.mk 144 2 [(.t 4)] (.seq (.ops [(PO.mk (some 4) (.mv (.k (.bool false))) none)]) (.seq (.seq (.ops [(PO.mk (some 18) (.call (F 185) []) none), (PO.mk (some 19) (.not (.t 18)) none)]) (.cond (.t 19) (.seq (.ops [(PO.mk (some 4) (.mv (.k (.bool false))) none)]) .ret) .skip)) (.seq (.seq (.ops [(PO.mk (some 20) (.mv (.t 0)) none), (PO.mk (some 21) (.lenSl (.t 20)) none), (PO.mk (some 22) (.bin .gtr (.t 21) (.k (.int .i64 25))) none)]) (.cond (.t 22) (.seq (.ops [(PO.mk (some 4) (.mv (.k (.bool true))) none)]) .ret) .skip)) (.seq (.ops [(PO.mk (some 24) (.call (F 184) []) none), (PO.mk (some 25) (.call (F 155) [(.t 24)]) none), (PO.mk (some 23) (.mv (.t 25)) none), (PO.mk (some 26) (.ext 0 (.t 23)) none), (PO.mk (some 27) (.ext 1 (.t 23)) none), (PO.mk (some 5) (.mv (.t 26)) none), (PO.mk (some 6) (.mv (.t 27)) none)]) (.seq (.seq (.ops [(PO.mk (some 28) (.mv (.t 0)) none), (PO.mk (some 29) (.lenSl (.t 28)) none), (PO.mk (some 30) (.mv (.k (.int .i64 0))) none)]) (.block 0 (.loop (.seq (.ops [(PO.mk (some 31) (.bin .lss (.t 30) (.t 29)) none)]) (.seq (.cond (.t 31) .skip (.exit 0)) (.seq (.block 1 (.seq (.ops [(PO.mk (some 32) (.mv (.t 30)) none), (PO.mk (some 33) (.idxSl 1 (.t 28) (.t 30)) none), (PO.mk (some 34) (.load false 1 (.t 33)) none), (PO.mk (some 7) (.mv (.t 32)) none), (PO.mk (some 8) (.mv (.t 34)) none)]) (.seq (.ops [(PO.mk (some 35) (.mv (.t 8)) none), (PO.mk (some 36) (.mv (.t 5)) none), (PO.mk (some 37) (.call (F 159) [(.t 36)]) none), (PO.mk (some 38) (.bin .sub (.t 37) (.k (.int .i64 1))) none), (PO.mk (some 39) (.min [(.t 35), (.t 38)]) none), (PO.mk (some 40) (.max [(.k (.int .i64 0)), (.t 39)]) none), (PO.mk (some 8) (.mv (.t 40)) none)]) (.seq (.ops [(PO.mk (some 42) (.mv (.t 7)) none), (PO.mk (some 43) (.conv .u32 (.t 42)) none), (PO.mk (some 44) (.mv (.t 5)) none), (PO.mk (some 45) (.mv (.t 8)) none), (PO.mk (some 46) (.call (F 161) [(.t 44), (.t 45)]) none), (PO.mk (some 47) (.fld true 68 32 (.t 46)) none), (PO.mk (some 48) (.mv (.t 5)) none), (PO.mk (some 49) (.mv (.t 8)) none), (PO.mk (some 50) (.call (F 161) [(.t 48), (.t 49)]) none), (PO.mk (some 51) (.fld true 0 68 (.t 50)) none), (PO.mk (some 52) (.fld false 65 1 (.t 51)) none), (PO.mk (some 53) (.bin .add (.t 52) (.k (w32 1))) none), (PO.mk (some 54) (.build z68_39b1 [(0, (1, (.t 43))), (1, (32, (.t 47))), (65, (1, (.t 53))), (66, (1, (.k (w32 545259519))))]) none), (PO.mk (some 55) (.call (F 143) [(.t 54), (.k (w32 545259519)), (.k (.int .i64 1000))]) none), (PO.mk (some 41) (.mv (.t 55)) none), (PO.mk (some 56) (.ext 0 (.t 41)) none), (PO.mk (some 57) (.ext 1 (.t 41)) none), (PO.mk (some 9) (.alloc z68_39b1) none), (PO.mk none (.store 68 (.t 9) (.t 56)) none), (PO.mk (some 10) (.mv (.t 57)) none)]) (.ops [(PO.mk (some 58) (.mv (.t 5)) none), (PO.mk (some 59) (.load true 68 (.t 9)) none), (PO.mk (some 60) (.call (F 169) [(.t 58), (.t 59), (.k (.int .i64 100000))]) none)]))))) (.ops [(PO.mk (some 61) (.bin .add (.t 30) (.k (.int .i64 1))) none), (PO.mk (some 30) (.mv (.t 61)) none)]))))))) (.seq (.ops [(PO.mk (some 62) (.mv (.t 5)) none), (PO.mk (some 63) (.mv (.t 1)) none), (PO.mk (some 64) (.call (F 170) [(.t 62), (.t 63)]) none), (PO.mk (some 11) (.mv (.t 64)) none)]) (.seq (.seq (.ops [(PO.mk (some 65) (.mv (.t 1)) none), (PO.mk (some 66) (.bin .lss (.t 65) (.k (.int .i64 1))) none), (PO.mk (some 67) (.mv (.t 66)) none), (PO.mk (some 68) (.mv (.t 1)) (some (67, false))), (PO.mk (some 69) (.mv (.t 5)) (some (67, false))), (PO.mk (some 70) (.call (F 159) [(.t 69)]) (some (67, false))), (PO.mk (some 71) (.bin .geq (.t 68) (.t 70)) (some (67, false))), (PO.mk (some 72) (.pick (.t 67) (.k (.bool true)) (.t 71)) none)]) (.cond (.t 72) (.seq (.ops [(PO.mk (some 73) (.mv (.t 11)) none), (PO.mk (some 74) (.bin .eql (.t 73) (.k (.int .i64 0))) none), (PO.mk (some 4) (.mv (.t 74)) none)]) .ret) .skip)) (.seq (.ops [(PO.mk (some 12) (.mv (.k (.int .i64 0))) none)]) (.seq (.seq (.ops [(PO.mk (some 75) (.mv (.t 5)) none), (PO.mk (some 76) (.call (F 159) [(.t 75)]) none), (PO.mk (some 77) (.mv (.k (.int .i64 0))) none)]) (.block 2 (.loop (.seq (.ops [(PO.mk (some 78) (.bin .lss (.t 77) (.t 76)) none)]) (.seq (.cond (.t 78) .skip (.exit 2)) (.seq (.block 3 (.seq (.ops [(PO.mk (some 79) (.mv (.t 77)) none), (PO.mk (some 13) (.mv (.t 79)) none)]) (.seq (.seq (.ops [(PO.mk (some 80) (.mv (.t 5)) none), (PO.mk (some 81) (.mv (.t 13)) none), (PO.mk (some 82) (.call (F 161) [(.t 80), (.t 81)]) none), (PO.mk (some 83) (.fld false 107 1 (.t 82)) none), (PO.mk (some 84) (.mv (.t 5)) none), (PO.mk (some 85) (.mv (.t 1)) none), (PO.mk (some 86) (.mv (.t 13)) none), (PO.mk (some 87) (.call (F 163) [(.t 84), (.t 85), (.t 86)]) none), (PO.mk (some 88) (.eqa .bool true (.t 83) (.t 87)) none)]) (.cond (.t 88) (.seq (.ops [(PO.mk (some 4) (.mv (.k (.bool false))) none)]) .ret) .skip)) (.seq (.ops [(PO.mk (some 89) (.mv (.t 5)) none), (PO.mk (some 90) (.mv (.t 13)) none), (PO.mk (some 91) (.call (F 161) [(.t 89), (.t 90)]) none), (PO.mk (some 92) (.fld false 107 1 (.t 91)) none)]) (.cond (.t 92) (.ops [(PO.mk (some 93) (.mv (.t 12)) none), (PO.mk (some 94) (.bin .add (.t 93) (.k (.int .i64 1))) none), (PO.mk (some 12) (.mv (.t 94)) none)]) .skip))))) (.ops [(PO.mk (some 95) (.bin .add (.t 77) (.k (.int .i64 1))) none), (PO.mk (some 77) (.mv (.t 95)) none)]))))))) (.seq (.ops [(PO.mk (some 97) (.mv (.t 5)) none), (PO.mk (some 98) (.mv (.t 1)) none), (PO.mk (some 99) (.call (F 161) [(.t 97), (.t 98)]) none), (PO.mk (some 100) (.fld true 68 32 (.t 99)) none), (PO.mk (some 101) (.mv (.t 5)) none), (PO.mk (some 102) (.mv (.t 1)) none), (PO.mk (some 103) (.call (F 161) [(.t 101), (.t 102)]) none), (PO.mk (some 104) (.fld true 0 68 (.t 103)) none), (PO.mk (some 105) (.fld false 65 1 (.t 104)) none), (PO.mk (some 106) (.bin .add (.t 105) (.k (w32 1))) none), (PO.mk (some 107) (.build z68_39b1 [(0, (1, (.k (w32 99)))), (1, (32, (.t 100))), (65, (1, (.t 106))), (66, (1, (.k (w32 545259519))))]) none), (PO.mk (some 108) (.call (F 143) [(.t 107), (.k (w32 545259519)), (.k (.int .i64 1000))]) none), (PO.mk (some 96) (.mv (.t 108)) none), (PO.mk (some 109) (.ext 0 (.t 96)) none), (PO.mk (some 110) (.ext 1 (.t 96)) none), (PO.mk (some 14) (.alloc z68_39b1) none), (PO.mk none (.store 68 (.t 14) (.t 109)) none), (PO.mk (some 15) (.mv (.t 110)) none)]) (.seq (.ops [(PO.mk (some 112) (.mv (.t 5)) none), (PO.mk (some 113) (.load true 68 (.t 14)) none), (PO.mk (some 114) (.call (F 169) [(.t 112), (.t 113), (.k (.int .i64 100000))]) none), (PO.mk (some 111) (.mv (.t 114)) none), (PO.mk (some 115) (.ext 0 (.t 111)) none), (PO.mk (some 116) (.ext 1 (.t 111)) none), (PO.mk (some 16) (.mv (.t 115)) none), (PO.mk (some 17) (.mv (.t 116)) none)]) (.seq (.ops [(PO.mk (some 117) (.mv (.t 11)) none), (PO.mk (some 118) (.mv (.t 12)) none), (PO.mk (some 119) (.bin .eql (.t 117) (.t 118)) none), (PO.mk (some 120) (.mv (.t 119)) none), (PO.mk (some 121) (.mv (.t 5)) (some (120, true))), (PO.mk (some 122) (.mv (.t 1)) (some (120, true))), (PO.mk (some 123) (.call (F 170) [(.t 121), (.t 122)]) (some (120, true))), (PO.mk (some 124) (.bin .eql (.t 123) (.k (.int .i64 0))) (some (120, true))), (PO.mk (some 125) (.pick (.t 120) (.t 124) (.k (.bool false))) none), (PO.mk (some 126) (.mv (.t 125)) none), (PO.mk (some 127) (.mv (.t 15)) (some (126, true))), (PO.mk (some 128) (.not (.t 127)) (some (126, true))), (PO.mk (some 129) (.mv (.t 128)) (some (126, true))), (PO.mk (some 130) (.mv (.t 17)) (some (129, false))), (PO.mk (some 131) (.bin .eql (.t 130) (.k (.int .i64 101))) (some (129, false))), (PO.mk (some 132) (.pick (.t 129) (.k (.bool true)) (.t 131)) (some (126, true))), (PO.mk (some 133) (.mv (.t 132)) (some (126, true))), (PO.mk (some 134) (.mv (.t 17)) (some (133, false))), (PO.mk (some 135) (.bin .eql (.t 134) (.k (.int .i64 5))) (some (133, false))), (PO.mk (some 136) (.pick (.t 133) (.k (.bool true)) (.t 135)) (some (126, true))), (PO.mk (some 137) (.pick (.t 126) (.t 136) (.k (.bool false))) none), (PO.mk (some 138) (.mv (.t 137)) none), (PO.mk (some 139) (.mv (.t 5)) (some (138, true))), (PO.mk (some 140) (.call (F 161) [(.t 139), (.k (.int .i64 0))]) (some (138, true))), (PO.mk (some 141) (.fld false 107 1 (.t 140)) (some (138, true))), (PO.mk (some 142) (.not (.t 141)) (some (138, true))), (PO.mk (some 143) (.pick (.t 138) (.t 142) (.k (.bool false))) none), (PO.mk (some 4) (.mv (.t 143)) none)]) .ret))))))))))))
structure OkLaw10a (P : Program) (F : Fn) : Prop where
  mixed : P.follows .mixedOrders = true
  toOkIndex : OkIndex P F
  h184 : compFn P ⟨[], [], [], [], []⟩ (F 184) = some (k184 F)
  h185 : compFn P ⟨[], [], [], [], []⟩ (F 185) = some (k185 F)
  h186 : compFn P ⟨[], [], [], [], []⟩ (F 186) = some (k186 F)
  h187 : compFn P ⟨[], [], [], [], []⟩ (F 187) = some (k187 F)
end Go.Ab
/-
  law10: easy, grows.
-/
set_option linter.unusedSimpArgs false
set_option linter.unusedVariables false
set_option maxRecDepth 10000
namespace Go.Ab
open Go Go.RowKit

/-! ### plain -/
theorem mineN_some {h : Hdr} {limit : W32} {n : Nat} {x : Hdr} (e : mineN h limit n = some x) : x.ver = h.ver ∧ x.prev = h.prev ∧ x.root = h.root ∧ x.time = h.time ∧ x.bits = h.bits ∧ provedN x limit = 0 := by
  induction n generalizing h with
  | zero => cases e
  | succ n ih =>
    unfold mineN at e
    split at e
    · cases e
      rename_i hp
      exact ⟨rfl, rfl, rfl, rfl, rfl, hp⟩
    · exact ih (h := { h with nonce := h.nonce + 1 }) e
theorem newM_wf (r : Rl) : Wf (newM r) := by
  refine ⟨by simp [newM], fun x h => ?_, fun i x h0 h => ?_, fun i x h0 h => ?_⟩
  · simp [newM] at h; rw [← h]; exact ⟨rfl, rfl⟩
  · have := (List.getElem?_eq_some_iff.1 h).1
    simp [newM] at this; omega
  · have := (List.getElem?_eq_some_iff.1 h).1
    simp [newM] at this; omega
theorem ndOf_wf {l : List Nd} (w : Wf l) {h : Hdr} {p : Nat} (hp : p < l.length) : Wf (l ++ [ndOf l h p]) := w.push hp rfl rfl rfl
theorem addM_cases (r : Rl) (l : List Nd) (h : Hdr) (now : Int) : (addM r l h now).1 = l ∧ (addM r l h now).2.2 ≠ 0 ∨ ∃ p, findM l h.prev = some p ∧ findM l (hId h) = none ∧ fitsM r l h p now = 0 ∧ l.length ≠ 16384 ∧ addM r l h now = (l ++ [ndOf l h p], (l.length : Int), 0) := by
  unfold addM
  cases h1 : findM l (hId h) with
  | some i => exact .inl ⟨rfl, by simp⟩
  | none =>
    cases h2 : findM l h.prev with
    | none => exact .inl ⟨rfl, by simp⟩
    | some p =>
      dsimp only
      by_cases h3 : fitsM r l h p now ≠ 0
      · rw [if_pos h3]; exact .inl ⟨rfl, h3⟩
      · rw [if_neg h3]
        by_cases h4 : l.length = 16384
        · rw [if_pos h4]; exact .inl ⟨rfl, by simp⟩
        · rw [if_neg h4]
          exact .inr ⟨p, rfl, rfl, by simpa using h3, h4, rfl⟩
theorem addM_ok {r : Rl} {l : List Nd} {h : Hdr} {now : Int} {p : Nat} (h1 : findM l (hId h) = none) (h2 : findM l h.prev = some p) (h3 : fitsM r l h p now = 0) (h4 : l.length ≠ 16384) : addM r l h now = (l ++ [ndOf l h p], (l.length : Int), 0) := by
  simp only [addM, h1, h2, h3, h4, if_false, ne_eq, not_true_eq_false]
theorem addM_twice {r : Rl} {l : List Nd} {h : Hdr} {now : Int} {i : Nat} (h1 : findM l (hId h) = some i) : addM r l h now = (l, (i : Int), 5) := by
  simp only [addM, h1]
theorem addM_wf {r : Rl} {l : List Nd} (w : Wf l) (hl : l.length ≤ 16384) (h : Hdr) (now : Int) : Wf (addM r l h now).1 ∧ (addM r l h now).1.length ≤ 16384 := by
  rcases addM_cases r l h now with ⟨e, _⟩ | ⟨p, h1, _, _, h2, e⟩
  · rw [e]; exact ⟨w, hl⟩
  · rw [e]
    exact ⟨ndOf_wf w (findM_lt h1), by simp; omega⟩
theorem easy_check : checkM easyR = 0 := by
  have h := easy_limit
  simp [checkM, easyR, h]
theorem median_one {l : List Nd} {i : Nat} (h : timesM l 11 i = [(nd l i).hdr.time]) : medianM l i = (nd l i).hdr.time := by
  unfold medianM middle32 sorted32
  rw [h]
  simp

/-! ### headers built -/
theorem hspl_ver (h : Hdr) (x : W32) : spliceV (eHdr h) 0 [w32 x] = eHdr { h with ver := x } := rfl
theorem hspl_prev (h : Hdr) (p : Id) : spliceV (eHdr h) 1 (eId p) = eHdr { h with prev := p } := by
  have e : ∀ g : Hdr, eHdr g = [w32 g.ver] ++ (eId g.prev ++ (eId g.root ++ [w32 g.time, w32 g.bits, w32 g.nonce])) := fun g => rfl
  rw [e, show 1 = 1 + 0 from rfl, splice_right (n := 1) rfl]
  unfold spliceV
  rw [List.take_zero, List.nil_append, Nat.zero_add, show (eId p).length = (eId h.prev).length by rw [eId_len, eId_len], List.drop_left]; rfl
def eHpre65 (h : Hdr) : List V := w32 h.ver :: (eId h.prev ++ eId h.root)
theorem eHpre65_len (h : Hdr) : (eHpre65 h).length = 65 := by simp [eHpre65, eId_len]
theorem eHdr_pre65 (h : Hdr) : eHdr h = eHpre65 h ++ [w32 h.time, w32 h.bits, w32 h.nonce] := by simp [eHdr, eHpre65]
theorem hspl_time (h : Hdr) (x : W32) : spliceV (eHdr h) 65 [w32 x] = eHdr { h with time := x } := by
  rw [eHdr_pre65, show 65 = 65 + 0 from rfl, splice_right (eHpre65_len _), eHdr_pre65]; rfl
theorem hspl_bits (h : Hdr) (x : W32) : spliceV (eHdr h) 66 [w32 x] = eHdr { h with bits := x } := by
  rw [eHdr_pre65, show 66 = 65 + 1 from rfl, splice_right (eHpre65_len _), eHdr_pre65]; rfl
theorem build_h3 (p : Id) (t b : W32) : fillV (eHdr hdr0) [(1, 32, .agg (eId p)), (65, 1, w32 t), (66, 1, w32 b)] = some (eHdr { hdr0 with prev := p, time := t, bits := b }) := by
  simp [fillV, eHdr_len, eId_len, hspl_prev, hspl_time, hspl_bits]
theorem build_h4 (v : W32) (p : Id) (t b : W32) : fillV (eHdr hdr0) [(0, 1, w32 v), (1, 32, .agg (eId p)), (65, 1, w32 t), (66, 1, w32 b)] = some (eHdr { hdr0 with ver := v, prev := p, time := t, bits := b }) := by
  simp [fillV, eHdr_len, eId_len, hspl_ver, hspl_prev, hspl_time, hspl_bits]

/-! ### trees in the heap -/
section
variable {P : Program} {F : Fn} {tid : Nat} {r : Rl} {l : List Nd} {L : List Asn} {st : St}
theorem tree_add (ok : OkIndex P F) (S : Sep (TreeS tid r l :: L) st) (w : Wf l) (hl : l.length ≤ 16384) (hr : checkM r = 0) (x : Hdr) (now : Int) :
    ACalls P (F 169) [.ptr (some (tid, 0)), .agg (eHdr x), .int .i64 now] st fun v st' => v = .tup [.int .i64 (addM r l x now).2.1, .int .i64 (addM r l x now).2.2] ∧ Sep (TreeS tid r (addM r l x now).1 :: L) st' :=
  (Sep.call S (fun h hh => spec169 ok hh w hl hr x now)).mono fun v s hs => by
    obtain ⟨h', k1, k2, _⟩ := hs.part
    exact ⟨k2, hs.head fun h hh => hh.2⟩
theorem tree_fail (ok : OkIndex P F) (S : Sep (TreeS tid r l :: L) st) (w : Wf l) (hl : l.length ≤ 16384) (i : Int) :
    ACalls P (F 170) [.ptr (some (tid, 0)), .int .i64 i] st fun v st' => v = .int .i64 ((failM l i).2 : Nat) ∧ Sep (TreeS tid r (failM l i).1 :: L) st' :=
  (Sep.call S (fun h hh => spec170 ok hh w hl i)).mono fun v s hs => by
    obtain ⟨h', k1, k2, _⟩ := hs.part
    exact ⟨k2, hs.head fun h hh => hh.2⟩

theorem fldV_agg (ag : Bool) (o s : Nat) (cs : List V) : fldV ag o s (.agg cs) = (segOf cs o s).bind (packV ag) := rfl

theorem spec184 (ok : OkLaw10a P F) (st : St) : ACalls P (F 184) [] st fun v st' => v = .agg (eRl easyR) ∧ st' = st := by
  refine shows_call ok.mixed ok.h184 (by simp [k184]) ?_
  simp only [k184]
  simp
  intro i0 h0
  have f1 : fillV z68_39b1 [(66, 1, w32 545259519#32)] = some (eHdr { hdr0 with bits := easyB }) := rfl
  have f2 : fillV z69_adc1 [(0, 68, .agg (eHdr { hdr0 with bits := easyB }))] = some (eHdr { hdr0 with bits := easyB } ++ [.sl .nil [] 0]) := rfl
  have f3 : fillV z74_2f53 [(0, 1, w32 545259519#32), (2, 1, .int .i64 10), (3, 1, .int .i64 50), (5, 69, .agg (eHdr { hdr0 with bits := easyB } ++ [.sl .nil [] 0]))] = some (eRl easyR) := rfl
  have hz : z74_2f53.length = 74 := rfl
  have hsp : spliceV z74_2f53 0 (eRl easyR) = eRl easyR := rfl
  simp [f1, f2, f3]
  have hst : storeS (st.upd i0 (.cells z74_2f53)) 74 (.ptr (some (i0, 0))) (.agg (eRl easyR)) = some (st.upd i0 (.cells (eRl easyR))) := by
    simp [storeS, eRl_len, hsp, hz]
  simp [hst, St.seg, rsegAll]
  exact sub_upd h0
theorem osegHdr (x : Nd) : segOf (eNd x) 0 68 = some (eHdr x.hdr) := seg_of_take (nsegHdr x) (by rw [eNd_len]; omega)
theorem osegFail (x : Nd) : segOf (eNd x) 107 1 = some [.bool x.failed] := seg_of_take (nsegFail x) (by rw [eNd_len]; omega)
theorem storeH {st : St} {i : Nat} {h : Hdr} : storeS (st.upd i (.cells (eHdr hdr0))) 68 (.ptr (some (i, 0))) (.agg (eHdr h)) = some (st.upd i (.cells (eHdr h))) := by
  simp [storeS, eHdr_len, splice_hdr]
theorem mineR_get (h : Hdr) (limit : W32) (n : Nat) : mineR h limit n = .tup [.agg (eHdr ((mineN h limit n).getD hdr0)), .bool (mineN h limit n).isSome] := by
  unfold mineR
  cases mineN h limit n <;> rfl

/-- The tree of easy rules, and what grows on it. -/
def gen0 : Nd := ⟨easyR.gen, hId easyR.gen, -1, 0, 0, workN ((tgt easyB).getD 0), false⟩
theorem newM_easy : newM easyR = [gen0] := rfl
theorem easy_next {l : List Nd} {i : Nat} : nextM easyR l i = (nd l i).hdr.bits := by simp [nextM, easyR]
theorem grow_facts : ∃ h, mineN growH easyB 100 = some h ∧ h.prev = gen0.id ∧ h.time = 5#32 ∧ h.bits = easyB ∧ hId h ≠ gen0.id ∧ fitsM easyR [gen0] h (0 : Nat) 100 = 0 := by
  have hm := grow_mined
  cases e : mineN growH easyB 100 with
  | none => rw [e] at hm; cases hm
  | some h =>
    rw [e] at hm
    obtain ⟨h1, h2, h3, h4, h5, h6⟩ := mineN_some e
    refine ⟨h, rfl, h2, h4, h5, by have := of_decide_eq_true hm; exact this, ?_⟩
    have em : medianM [gen0] 0 = 0#32 := by
      rw [median_one]
      · rfl
      · rfl
    have hb : h.bits = nextM easyR [gen0] 0 := by rw [h5, easy_next]; rfl
    have h6' : provedN h easyR.limit = 0 := h6
    have ht : h.time = 5#32 := h4
    simp [fitsM, h6', hb, em, ht]
    simp [nd, gen0]
theorem easy_work : workN ((tgt easyB).getD 0) = 2 := by decide +kernel
theorem middle_two : middle32 [5#32, 0#32] = 5#32 := by
  have h : [0#32, 5#32] = sorted32 [5#32, 0#32] := sorted_of (by
    intro a b h1 h2
    have : a = 0 ∧ b = 1 := by simp at h2; omega
    rw [this.1, this.2]; decide) (List.Perm.swap _ _ _)
  unfold middle32
  rw [← h]; rfl
theorem ndOf_work (l : List Nd) (h : Hdr) (p : Nat) : (ndOf l h p).work = workN ((tgt h.bits).getD 0) + (nd l p).work := by
  unfold ndOf
  generalize workN _ = W
  rfl
theorem gen0_work : gen0.work = 2 := by
  have h := easy_work
  unfold gen0
  exact h
theorem grown_facts {h : Hdr} (hprev : h.prev = gen0.id) (htime : h.time = 5#32) (hbits : h.bits = easyB) (hid : hId h ≠ gen0.id) (hfit : fitsM easyR [gen0] h (0 : Nat) 100 = 0) :
    ∃ x : Nd, addM easyR [gen0] h 100 = ([gen0, x], 1, 0) ∧ addM easyR [gen0, x] h 100 = ([gen0, x], 1, 5) ∧ x.height = 1 ∧ x.work = 4 ∧ onB [gen0, x] 0 1 = true ∧ medianM [gen0, x] (clI [gen0, x] 1) = 5#32 ∧ nextM easyR [gen0, x] 1 = easyB ∧ Wf [gen0, x] := by
  have e0 : nd [gen0] 0 = gen0 := nd_at (by simp)
  have hg0 : hgt [gen0] 0 = 0 := by rw [hgt_at (by simp)]; rfl
  obtain ⟨x, hx⟩ : ∃ x, x = ndOf [gen0] h 0 := ⟨_, rfl⟩
  have x1 : x.hdr = h := by rw [hx]; rfl
  have x2 : x.id = hId h := by rw [hx]; rfl
  have x3 : x.parent = ((0 : Nat) : Int) := by rw [hx]; rfl
  have x4 : x.height = hgt [gen0] 0 + 1 := by rw [hx]; rfl
  have x5 : x.work = 4 := by rw [hx, ndOf_work, hbits, easy_work, e0, gen0_work]
  have hw : Wf ([gen0] ++ [x]) := by rw [hx]; exact ndOf_wf (newM_wf easyR) (by simp [newM])
  rw [hg0] at x4
  have eb : [gen0] ++ [x] = [gen0, x] := rfl
  rw [eb] at hw
  have gp : gen0.parent = -1 := rfl
  have gt : gen0.hdr.time = 0#32 := rfl
  refine ⟨x, ?_, ?_, x4, x5, ?_, ?_, ?_, hw⟩
  · have e1 : findM [gen0] (hId h) = none := by simp [findM, Ne.symm hid]
    have e2 : findM [gen0] h.prev = some 0 := by simp [findM, hprev]
    have := addM_ok e1 e2 hfit (by simp)
    rw [← hx, eb] at this
    exact this
  · have e1 : findM [gen0, x] (hId h) = some 1 := by simp [findM, x2]
    exact addM_twice e1
  · have h0 : hgt [gen0, x] 0 = 0 := by rw [hgt_at (by simp)]; rfl
    have h1 : hgt [gen0, x] 1 = 1 := by rw [hgt_at (by simp)]; simpa using x4
    have hp : par [gen0, x] 1 = 0 := by rw [par_at (by simp)]; simp [x3]
    have h2 : anc [gen0, x] 1 0 = 0 := by
      unfold anc
      rw [h1]
      show upN [gen0, x] 0 (par [gen0, x] 1) = 0
      rw [hp]; rfl
    have := onB_nat (l := [gen0, x]) (i := 0) (k := 1) (by simp) (by simp)
    refine this.trans ?_
    rw [h0, h1, h2]; rfl
  · have hc : clI [gen0, x] 1 = 1 := rfl
    have ht : timesM [gen0, x] 11 1 = [5#32, 0#32] := by
      simp [timesM, x1, x3, htime, gp, gt]
    unfold medianM
    rw [hc, ht, middle_two]
  · rw [easy_next, nd_at (by simp)]
    show x.hdr.bits = easyB
    rw [x1, hbits]
set_option maxHeartbeats 2000000 in
theorem spec185 (ok : OkLaw10a P F) (st : St) : ACalls P (F 185) [] st fun v st' => v = .bool true ∧ st' = st := by
  have oki := ok.toOkIndex
  have okh := oki.toOkHead
  obtain ⟨h, hm, hprev, htime, hbits, hid, hfit⟩ := grow_facts
  refine shows_call ok.mixed ok.h185 (by simp [k185]) ?_
  simp only [k185, z68_eq]
  simp
  refine (spec184 ok st).mono ?_
  rintro v st0 ⟨rfl, rfl⟩
  simp
  refine (spec155 oki st0 easyR).mono ?_
  rintro v st1 hv
  rw [if_pos easy_check] at hv
  obtain ⟨tid, rfl, S⟩ := hv
  rw [newM_easy] at S
  have w0 : Wf [gen0] := newM_wf easyR
  have TR := S.treeR (by simp)
  simp
  refine (spec159 oki TR).mono ?_
  rintro v st1 ⟨rfl, rfl⟩
  simp
  refine (spec161 oki TR w0 0).mono ?_
  rintro v st1 ⟨rfl, rfl⟩
  have e0 : nd [gen0] (inI [gen0] 0) = gen0 := rfl
  rw [e0]
  simp [fldV_agg, osegId, build_h3]
  have eg : ({ hdr0 with prev := gen0.id, time := 5#32, bits := 545259519#32 } : Hdr) = growH := rfl
  rw [eg]
  refine (spec143 okh st1 growH 545259519#32 100).mono ?_
  rintro v st1 ⟨rfl, rfl⟩
  rw [mineR_get, show (545259519#32) = easyB from rfl, show (max 0 (min (100 : Int) 65536)).toNat = 100 from rfl, hm]
  simp
  obtain ⟨x, a1, a2, hx1, hx2, hx3, hx4, hx5, hw⟩ := grown_facts hprev htime hbits hid hfit
  intro i3 h3
  have S := S.new h3 (.cells (eHdr hdr0))
  simp [storeH]
  have S := S.setAt (.cells (eHdr h)) 0 rfl
  simp at S
  generalize st1.upd i3 _ = st2 at S ⊢
  have o3 := S.get
  simp [St.seg, o3, hsegAll]
  refine (tree_add oki S.swap w0 (by simp) easy_check h 100).mono ?_
  rintro v st3 ⟨rfl, S⟩
  rw [a1] at S ⊢
  have o3 := S.swap.get
  simp [St.seg, o3, hsegAll]
  refine (tree_add oki S hw (by simp) easy_check h 100).mono ?_
  rintro v st4 ⟨rfl, S⟩
  rw [a2] at S ⊢
  have TR := S.treeR (by simp)
  have hs := S.was' (st0 := st0) (by simp)
  simp
  refine (spec161 oki TR hw 1).mono ?_
  rintro v st4 ⟨rfl, rfl⟩
  have e1 : nd [gen0, x] (inI [gen0, x] 1) = x := rfl
  have oh := osegHgt x
  have owk := osegWork x
  rw [hx1] at oh
  rw [hx2] at owk
  rw [e1]
  simp [fldV_agg, oh]
  refine (spec161 oki TR hw 1).mono ?_
  rintro v st4 ⟨rfl, rfl⟩
  rw [e1]
  simp [fldV_agg, owk]
  refine (spec105 okh.toOkNum st4 4#64).mono ?_
  rintro v st4 ⟨rfl, rfl⟩
  have e4 : eqL (eU (natU 4)) (eU (BitVec.setWidth 256 4#64)) = some true := by rw [eqL_u]; rfl
  simp [eqK, nU, eU_len, e4]
  refine (spec163 oki TR hw 0 1).mono ?_
  rintro v st4 ⟨rfl, rfl⟩
  simp [hx3]
  refine (spec166 oki TR hw (by simp) 1).mono ?_
  rintro v st4 ⟨rfl, rfl⟩
  rw [hx4]
  simp
  refine (spec167 oki TR hw (by simp) easy_check (i := 1) (by simp)).mono ?_
  rintro v st4 ⟨rfl, rfl⟩
  rw [hx5]
  simp [easyB, hs]
end
end Go.Ab
/-
  law10: IndexSkips.
-/
set_option linter.unusedSimpArgs false
set_option linter.unusedVariables false
set_option maxRecDepth 10000
namespace Go.Ab
open Go Go.RowKit

/-- One behind the other: heights, times, bits. -/
structure Line (l : List Nd) : Prop where
  wf : Wf l
  at_ : ∀ (k : Nat) (h : k < l.length), l[k].height = k ∧ l[k].hdr.time = BitVec.ofNat 32 k ∧ l[k].hdr.bits = easyB ∧ l[k].failed = false
theorem line_gen : Line [gen0] := ⟨newM_wf easyR, fun k h => by
  have : k = 0 := by simp at h; exact h
  subst this
  exact ⟨rfl, rfl, rfl, rfl⟩⟩
theorem findM_last {l : List Nd} {x : Nd} : findM (l ++ [x]) x.id = some l.length := by simp [findM_append]
theorem findM_end {l : List Nd} {k : Nat} (hk : k + 1 = l.length) : findM l (nd l k).id = some k := by
  have hne : l ≠ [] := by rintro rfl; simp at hk
  have e := List.dropLast_concat_getLast hne
  have hd : l.dropLast.length = k := by simp; omega
  have : nd l k = l.getLast hne := by rw [nd_at (by omega), List.getLast_eq_getElem]; congr 1; omega
  obtain ⟨x, hx⟩ : ∃ x, x = l.getLast hne := ⟨_, rfl⟩
  rw [← hx] at e this
  rw [this, ← e, findM_last, hd]
theorem timesM_mem {l : List Nd} {n i : Nat} {t : W32} (h : t ∈ timesM l n i) : ∃ k, ∃ hk : k < l.length, t = l[k].hdr.time := by
  induction n generalizing i with
  | zero => simp [timesM] at h
  | succ n ih =>
    unfold timesM at h
    cases e : l[i]? with
    | none => rw [e] at h; simp at h
    | some x =>
      rw [e] at h
      obtain ⟨hi, e2⟩ := List.getElem?_eq_some_iff.1 e
      simp only [List.mem_cons] at h
      rcases h with h | h
      · exact ⟨i, hi, by rw [h, e2]⟩
      · split at h
        · simp at h
        · exact ih h
theorem middle_mem {l : List W32} (h : l ≠ []) : middle32 l ∈ l := by
  unfold middle32
  have hpos := List.length_pos_iff.2 h
  have hl : l.length / 2 < (sorted32 l).length := by rw [sorted32_length]; omega
  have : (sorted32 l).getD (l.length / 2) 0 = (sorted32 l)[l.length / 2] := by simp [hl]
  rw [this]
  exact (List.mergeSort_perm l _).mem_iff.1 (List.getElem_mem hl)
theorem line_median {l : List Nd} (h : Line l) (hl : l.length ≤ 1000) {i : Nat} (hi : i < l.length) : (medianM l i).toNat < l.length := by
  have := middle_mem (timesM_ne (n := 10) hi)
  obtain ⟨k, hk, e⟩ := timesM_mem this
  have e2 := (h.at_ k hk).2.1
  show (middle32 (timesM l (10 + 1) i)).toNat < _
  rw [e, e2, BitVec.toNat_ofNat, Nat.mod_eq_of_lt (by omega)]
  exact hk
theorem fits_ok {r : Rl} {l : List Nd} {h : Hdr} {p : Nat} {now : Int} (hp : p < l.length) (h1 : provedN h r.limit = 0) (h2 : (nd l p).failed = false) (h3 : h.bits = nextM r l p) (h4 : medianM l p < h.time) (h5 : (h.time.toNat : Int) - 7200 ≤ now) : fitsM r l h p now = 0 := by
  have e1 : ¬ ((p : Int) < 0 ∨ (l.length : Int) ≤ p) := by omega
  have e2 : ¬ h.time ≤ medianM l p := BitVec.not_le.2 h4
  have e3 : ¬ now < (h.time.toNat : Int) - 7200 := by omega
  simp only [fitsM, e1, if_false, h1, ne_eq, not_true_eq_false, Int.toNat_natCast, h2, h3, e2, e3, Bool.false_eq_true]
theorem line_push {l : List Nd} (hL : Line l) {k : Nat} (hk : k + 1 = l.length) {h : Hdr} (ht : h.time = BitVec.ofNat 32 l.length) (hb : h.bits = easyB) : Line (l ++ [ndOf l h k]) := by
  refine ⟨ndOf_wf hL.wf (by omega), fun j hj => ?_⟩
  by_cases hjl : j < l.length
  · rw [List.getElem_append_left hjl]; exact hL.at_ j hjl
  · have : j = l.length := by simp at hj; omega
    subst this
    rw [List.getElem_append_right (Nat.le_refl _)]
    have hg : hgt l k = k := by rw [hgt_at (by omega)]; exact (hL.at_ k (by omega)).1
    have e : ∀ x : Nd, [x][l.length - l.length]'(by simp) = x := fun x => by simp
    rw [e]
    refine ⟨?_, ht, hb, rfl⟩
    show hgt l k + 1 = l.length
    omega
theorem line_hgt {l : List Nd} (hL : Line l) {k : Nat} (hk : k < l.length) : hgt l k = k := by rw [hgt_at hk]; exact (hL.at_ k hk).1
theorem line_ancI {l : List Nd} (hL : Line l) {i : Nat} (hi : i < l.length) (h : Int) : ancI l i h = if h < 0 ∨ (i : Int) < h then -1 else h := by
  unfold ancI
  rw [Int.toNat_natCast, line_hgt hL hi]
  by_cases c : h < 0 ∨ (i : Int) < h
  · rw [if_pos c, if_pos (by omega)]
  · rw [if_neg c, if_neg (by omega)]
    have hle : h.toNat ≤ hgt l i := by rw [line_hgt hL hi]; omega
    have := hL.wf.anc_hgt hi hle
    rw [line_hgt hL (hL.wf.anc_lt hi)] at this
    omega
theorem line_onB {l : List Nd} (hL : Line l) {i : Nat} (hi : i < l.length) (h : Int) : onB l h i = decide (0 ≤ h ∧ h ≤ i) := by
  by_cases h0 : 0 ≤ h
  · by_cases h1 : h < (l.length : Int)
    · obtain ⟨k, rfl⟩ : ∃ k : Nat, h = k := ⟨h.toNat, by omega⟩
      have hk : k < l.length := by omega
      unfold onB
      rw [Int.toNat_natCast, line_hgt hL hk, line_ancI hL hi]
      by_cases c : (i : Int) < k
      · rw [if_pos (.inr c)]
        have : ((-1 : Int) == (k : Int)) = false := by simp <;> omega
        simp [this, hk] <;> omega
      · rw [if_neg (by omega)]
        simp [hk] <;> omega
    · simp [onB, h1]; omega
  · simp [onB, h0]
theorem line_add {l : List Nd} (hL : Line l) (hl : l.length ≤ 1000) {k : Nat} (hk : k + 1 = l.length) {h : Hdr} (hp : h.prev = (nd l k).id) (ht : h.time = BitVec.ofNat 32 l.length) (hb : h.bits = easyB) (hpr : provedN h easyB = 0) :
    (∃ i, addM easyR l h 1000 = (l, i, 5)) ∨ (addM easyR l h 1000 = (l ++ [ndOf l h k], (l.length : Int), 0) ∧ Line (l ++ [ndOf l h k])) := by
  cases e : findM l (hId h) with
  | some i => exact .inl ⟨i, addM_twice e⟩
  | none =>
    right
    refine ⟨addM_ok e (by rw [hp]; exact findM_end hk) ?_ (by omega), line_push hL hk ht hb⟩
    have hk' : k < l.length := by omega
    have ha := hL.at_ k hk'
    have htn : h.time.toNat = l.length := by rw [ht, BitVec.toNat_ofNat, Nat.mod_eq_of_lt (by omega)]
    refine fits_ok hk' hpr ?_ ?_ ?_ (by omega)
    · rw [nd_at hk']; exact ha.2.2.2
    · rw [easy_next, nd_at hk', hb, ha.2.2.1]
    · have := line_median hL hl hk'
      rw [BitVec.lt_def, htn]; exact this
section
variable {P : Program} {F : Fn}
set_option maxHeartbeats 2000000 in
theorem spec186 (ok : OkLaw10a P F) (st : St) (k1 : SK) (n : Int) (l1 : List (Int × Int)) : ACalls P (F 186) [.int .i64 n, .sl k1 (rowsOf e2 l1) l1.length] st fun v st' => v = .bool true := by
  have oki := ok.toOkIndex
  have okh := oki.toOkHead
  refine shows_call ok.mixed ok.h186 (by simp [k186]) ?_
  simp only [k186, z68_eq]
  simp
  refine (spec185 ok st).mono ?_
  rintro v st0 ⟨rfl, rfl⟩
  have fin : ∀ s : St, ∃ s', St.sub s' s := fun s => ⟨s, sub_self _⟩
  by_cases h1 : n < 0
  · simp [h1, fin]
  · by_cases h2 : 40 < n
    · simp [h1, h2, fin]
    · by_cases h3 : (50 : Int) < l1.length
      · simp [h1, h2, h3, fin]
      · obtain ⟨m, rfl⟩ : ∃ m : Nat, n = m := ⟨n.toNat, by omega⟩
        simp [h1, h2, h3]
        refine (spec184 ok st0).mono ?_
        rintro v st0 ⟨rfl, rfl⟩
        simp
        refine (spec155 oki st0 easyR).mono ?_
        rintro v st1 hv
        rw [if_pos easy_check] at hv
        obtain ⟨tid, rfl, S⟩ := hv
        rw [newM_easy] at S
        simp
        refine vc_loopJ (fun c env' st' => ∃ (i : Nat) (l : List Nd), i ≤ m ∧ c = m - i ∧ l.length = i + 1 ∧ Line l ∧ env' 36 = .int .i64 (i : Nat) ∧ Sep [TreeS tid easyR l] st') m ⟨0, [gen0], by omega, rfl, rfl, line_gen, rfl, S.swap.drop⟩ ?_
        clear S
        rintro J hJ c env' st2 hsame ⟨i, l, hi, rfl, hl, hL, g36, S⟩
        have g0 := hsame.get 0 rfl
        have g1 := hsame.get 1 rfl
        have g5 := hsame.get 5 rfl
        have g35 := hsame.get 35 rfl
        simp at g0 g1 g5 g35
        clear hsame
        have TR := S.treeR hL.wf.neNil
        by_cases hlt : i < m
        · have hw1 : IntKind.i64.wrap ((i : Int) + 1) = (i : Int) + 1 := wrap64 (by omega) (by omega)
          have hc : convV .u32 (.int .i64 ((i : Int) + 1)) = some (w32 (BitVec.ofNat 32 l.length)) := by
            rw [conv_i_32, hl]; congr 2
          have hin : inI l i = i := by unfold inI; rw [if_neg (by omega)]; omega
          simp [-conv_i_32, g5, g35, g36, hlt]
          refine (spec161 oki TR hL.wf i).mono ?_
          rintro v st2 ⟨rfl, rfl⟩
          rw [hin]
          simp [-conv_i_32, fldV_agg, osegId, hw1, hc, build_h3]
          obtain ⟨H, hH⟩ : ∃ H : Hdr, H = { hdr0 with prev := (nd l i).id, time := BitVec.ofNat 32 l.length, bits := 545259519#32 } := ⟨_, rfl⟩
          have hp : H.prev = (nd l i).id := by rw [hH]
          have ht : H.time = BitVec.ofNat 32 l.length := by rw [hH]
          have hb : H.bits = easyB := by rw [hH]; rfl
          rw [← hH]
          clear hH
          refine (spec143 okh st2 H 545259519#32 1000).mono ?_
          rintro v st2 ⟨rfl, rfl⟩
          rw [mineR_get, show (545259519#32) = easyB from rfl, show (max 0 (min (1000 : Int) 65536)).toNat = 1000 from rfl]
          cases hm : mineN H easyB 1000 with
          | none =>
            simp
            intro i8 h8
            have S := S.new h8 (.cells (eHdr hdr0))
            simp [storeH]
            have S := S.setAt (.cells (eHdr hdr0)) 0 rfl
            simp at S
            generalize st2.upd i8 _ = st3 at S ⊢
            have o8 := S.get
            have g5' := g5
            simp [g5, St.seg, o8, hsegAll]
            refine (tree_add oki S.swap hL.wf (by omega) easy_check hdr0 1000).mono ?_
            rintro v st4 ⟨rfl, S⟩
            simp [fin]
          | some h =>
            obtain ⟨m1, m2, m3, m4, m5, m6⟩ := mineN_some hm
            simp
            intro i8 h8
            have S := S.new h8 (.cells (eHdr hdr0))
            simp [storeH]
            have S := S.setAt (.cells (eHdr h)) 0 rfl
            simp at S
            generalize st2.upd i8 _ = st3 at S ⊢
            have o8 := S.get
            simp [g5, St.seg, o8, hsegAll]
            refine (tree_add oki S.swap hL.wf (by omega) easy_check h 1000).mono ?_
            rintro v st4 ⟨rfl, S⟩
            rcases line_add hL (by omega) (k := i) (by omega) (h := h) (by rw [m2, hp]) (by rw [m4, ht]) (by rw [m5, hb]) m6 with ⟨j, e⟩ | ⟨e, hL2⟩
            · rw [e]
              simp [fin]
            · rw [e] at S ⊢
              rw [hl]
              simp [hw1, g36]
              exact Round.mk (m - (i + 1)) _ (by omega) (sub_self _) (hJ _ _ _ ⟨i + 1, _, by omega, rfl, by simp [hl], hL2, by simp, Sep.tail (fun r hr => hr.drop) S⟩)
        · have him : i = m := by omega
          subst him
          simp [g35, g36, g1]
          refine vc_loopJ (fun c env' st' => ∃ q : Nat, q ≤ l1.length ∧ c = l1.length - q ∧ env' 74 = .int .i64 (q : Nat) ∧ Sep [TreeS tid easyR l] st') l1.length ⟨0, by omega, rfl, rfl, S⟩ ?_
          clear S TR
          rintro J2 hJ2 c env2 st3 hsame ⟨q, hq, rfl, g74, S⟩
          have f0 := hsame.get 0 rfl
          have f5 := hsame.get 5 rfl
          have f72 := hsame.get 72 rfl
          have f73 := hsame.get 73 rfl
          simp [g0, g5] at f0 f5 f72 f73
          clear hsame
          have hwq : IntKind.i64.wrap ((q : Int) + 1) = (q : Int) + 1 := wrap64 (by omega) (by omega)
          by_cases hqlt : q < l1.length
          · have hsg := rowsOf_eptr e2_len l1 hqlt
            simp [f72, f73, g74, hqlt, hsg]
            intro i13 h13
            have S := S.new h13 (.cells [.int .i64 0, .int .i64 0])
            have hst : storeS (st3.upd i13 (.cells [.int .i64 0, .int .i64 0])) 2 (.ptr (some (i13, 0))) (.agg (e2 l1[q])) = some (st3.upd i13 (.cells (e2 l1[q]))) := by
              simp [storeS, e2, spliceV]
            have S := S.setAt (.cells (e2 l1[q])) 0 rfl
            simp at S
            simp [hst]
            generalize st3.upd i13 _ = st4 at S ⊢
            have o13 := S.get
            obtain ⟨⟨a, b⟩, hab⟩ : ∃ x, x = l1[q] := ⟨_, rfl⟩
            rw [← hab] at o13
            have TR := S.swap.treeR hL.wf.neNil
            simp [idxArrV, St.seg, o13, e2, segOf]
            by_cases ha : a < 0
            · simp [ha, g74, hwq]
              exact Round.mk (l1.length - (q + 1)) _ (by omega) (sub_self _) (hJ2 _ _ _ ⟨q + 1, by omega, rfl, by simp, S.drop⟩)
            · by_cases ha2 : (i : Int) < a
              · simp [ha, ha2, f0, g74, hwq]
                exact Round.mk (l1.length - (q + 1)) _ (by omega) (sub_self _) (hJ2 _ _ _ ⟨q + 1, by omega, rfl, by simp, S.drop⟩)
              · obtain ⟨x, rfl⟩ : ∃ x : Nat, a = x := ⟨a.toNat, by omega⟩
                have hx : x < l.length := by omega
                have hA := line_ancI hL hx b
                have hO := line_onB hL hx b
                simp [ha, ha2, f0]
                by_cases hb : b < 0
                · rw [if_pos (.inl hb)] at hA
                  have hO' : onB l b x = false := by rw [hO]; simp; omega
                  simp [hb, f5]
                  refine (spec158 oki TR hL.wf x b).mono ?_
                  rintro v st4 ⟨rfl, rfl⟩
                  rw [hA]
                  simp [f5]
                  refine (spec163 oki TR hL.wf b x).mono ?_
                  rintro v st4 ⟨rfl, rfl⟩
                  rw [hO']
                  simp [eqK, g74, hwq]
                  exact Round.mk (l1.length - (q + 1)) _ (by omega) (sub_self _) (hJ2 _ _ _ ⟨q + 1, by omega, rfl, by simp, S.drop⟩)
                · by_cases hb2 : (x : Int) < b
                  · rw [if_pos (.inr hb2)] at hA
                    have hO' : onB l b x = false := by rw [hO]; simp; omega
                    simp [hb, hb2, f5]
                    refine (spec158 oki TR hL.wf x b).mono ?_
                    rintro v st4 ⟨rfl, rfl⟩
                    rw [hA]
                    simp [f5]
                    refine (spec163 oki TR hL.wf b x).mono ?_
                    rintro v st4 ⟨rfl, rfl⟩
                    rw [hO']
                    simp [eqK, g74, hwq]
                    exact Round.mk (l1.length - (q + 1)) _ (by omega) (sub_self _) (hJ2 _ _ _ ⟨q + 1, by omega, rfl, by simp, S.drop⟩)
                  · rw [if_neg (by omega)] at hA
                    have hO' : onB l b x = true := by rw [hO]; simp; omega
                    have hb0 : 0 ≤ b := by omega
                    simp [hb, hb2, f5]
                    refine (spec158 oki TR hL.wf x b).mono ?_
                    rintro v st4 ⟨rfl, rfl⟩
                    rw [hA]
                    simp [f5]
                    refine (spec163 oki TR hL.wf b x).mono ?_
                    rintro v st4 ⟨rfl, rfl⟩
                    rw [hO']
                    simp [eqK, g74, hwq, hb0]
                    exact Round.mk (l1.length - (q + 1)) _ (by omega) (sub_self _) (hJ2 _ _ _ ⟨q + 1, by omega, rfl, by simp, S.drop⟩)
          · simp [f72, f73, g74, hqlt, fin]
end
end Go.Ab
/-
  law10: IndexFails.
-/
set_option linter.unusedSimpArgs false
set_option linter.unusedVariables false
set_option maxRecDepth 10000
namespace Go.Ab
open Go Go.RowKit

/-- Each has a name of its own. -/
def Uniq (l : List Nd) : Prop := ∀ (k : Nat) (h : k < l.length), findM l l[k].id = some k
theorem uniq_push {l : List Nd} (u : Uniq l) {x : Nd} (h : findM l x.id = none) : Uniq (l ++ [x]) := by
  intro k hk
  rw [findM_append]
  by_cases hkl : k < l.length
  · rw [List.getElem_append_left hkl, if_neg (fun e => findM_none h _ (List.getElem_mem hkl) e.symm), u k hkl]
  · have : k = l.length := by simp at hk; omega
    subst this
    rw [List.getElem_append_right (Nat.le_refl _)]
    simp
theorem uniq_setF {l : List Nd} (u : Uniq l) (f : Nat → Bool) : Uniq (setF f l) := by
  intro k hk
  have hk' : k < l.length := by simpa using hk
  rw [setF_find, setF_get hk']
  have := u k hk'
  split <;> exact this
structure Fresh (l : List Nd) : Prop where
  wf : Wf l
  ok : ∀ (k : Nat) (h : k < l.length), l[k].failed = false
  uniq : Uniq l
theorem fresh_gen : Fresh [gen0] := ⟨newM_wf easyR, fun k h => by
  have : k = 0 := by simp at h; exact h
  subst this; rfl, fun k h => by
  have : k = 0 := by simp at h; exact h
  subst this
  simp [findM]⟩
theorem addM_uniq {r : Rl} {l : List Nd} (u : Uniq l) (h : Hdr) (now : Int) : Uniq (addM r l h now).1 := by
  rcases addM_cases r l h now with ⟨e, _⟩ | ⟨p, _, h1, _, _, e⟩
  · rw [e]; exact u
  · rw [e]; exact uniq_push u h1
theorem fresh_add {r : Rl} {l : List Nd} (hF : Fresh l) (hl : l.length ≤ 16384) (h : Hdr) (now : Int) : Fresh (addM r l h now).1 ∧ (addM r l h now).1.length ≤ l.length + 1 ∧ l.length ≤ (addM r l h now).1.length := by
  refine ⟨⟨(addM_wf hF.wf hl h now).1, ?_, addM_uniq hF.uniq h now⟩, ?_⟩
  · rcases addM_cases r l h now with ⟨e, _⟩ | ⟨p, _, h1, _, _, e⟩
    · rw [e]; exact hF.ok
    · rw [e]
      intro k hk
      by_cases hkl : k < l.length
      · rw [List.getElem_append_left hkl]; exact hF.ok k hkl
      · have : k = l.length := by simp at hk; omega
        subst this
        rw [List.getElem_append_right (Nat.le_refl _)]
        have e : ∀ x : Nd, [x][l.length - l.length]'(by simp) = x := fun x => by simp
        rw [e]; rfl
  · rcases addM_cases r l h now with ⟨e, _⟩ | ⟨p, _, h1, _, _, e⟩
    · rw [e]; omega
    · rw [e]; simp
def cntOn (l : List Nd) (i : Int) (j : Nat) : Nat := ((List.range j).filter fun (k : Nat) => onB l i k).length
theorem cntOn_succ (l : List Nd) (i : Int) (j : Nat) : cntOn l i (j + 1) = cntOn l i j + if onB l i j = true then 1 else 0 := by
  unfold cntOn
  rw [List.range_succ, List.filter_append, List.length_append]
  congr 1
  by_cases h : onB l i j = true <;> simp [h]
theorem cntOn_le (l : List Nd) (i : Int) (j : Nat) : cntOn l i j ≤ j := by
  unfold cntOn
  have := List.length_filter_le (fun (k : Nat) => onB l i k) (List.range j)
  simpa using this
theorem fail_fresh {l : List Nd} (hF : Fresh l) {i : Nat} (h1 : 1 ≤ i) (h2 : i < l.length) : failM l i = (setF (fun k => onB l i (k : Nat)) l, cntOn l i l.length) := by
  unfold failM cntOn
  rw [if_neg (by omega)]
  congr 2
  apply List.filter_congr
  intro k hk
  have hk' : k < l.length := by simpa using hk
  rw [nd_at hk', hF.ok k hk']
  simp
theorem failed_at {l : List Nd} (hF : Fresh l) {i k : Nat} (hk : k < l.length) : (nd (setF (fun k => onB l i (k : Nat)) l) k).failed = onB l i k := by
  rw [nd_at (by simpa using hk), setF_get hk]
  split
  · rename_i h; rw [h]
  · rename_i h
    rw [hF.ok k hk]
    cases e : onB l i k with
    | true => exact absurd e h
    | false => rfl
theorem fail_again {l : List Nd} (hF : Fresh l) {i : Nat} (h1 : 1 ≤ i) (h2 : i < l.length) {l2 : List Nd} (e : l2 = setF (fun k => onB l i (k : Nat)) l) : (failM l2 i).2 = 0 ∧ (nd (failM l2 i).1 0).failed = false := by
  have hlen : l2.length = l.length := by rw [e]; simp
  unfold failM
  rw [if_neg (by rw [hlen]; omega)]
  constructor
  · show List.length _ = 0
    rw [List.length_eq_zero_iff, List.filter_eq_nil_iff]
    intro k hk
    have hk' : k < l.length := by rw [← hlen]; simpa using hk
    have := failed_at hF (i := i) hk'
    rw [e, this, setF_onB]
    simp
  · have h0 : 0 < l2.length := by omega
    have hz : onB l2 i ((0 : Nat) : Int) = false := onB_lt (by rw [e]; exact setF_wf hF.wf) (by omega) (by omega)
    show (nd (setF _ l2) 0).failed = false
    rw [nd_at (by simpa using h0), setF_get h0]
    simp only [hz]
    have := failed_at hF (i := i) (k := 0) (by omega)
    rw [← e, nd_at h0] at this
    rw [if_neg (by simp), this]
    exact onB_lt hF.wf h2 h1
theorem add_zero {l : List Nd} (now : Int) : ∃ i e, addM easyR l hdr0 now = (l, i, e) ∧ e ≠ 0 := by
  cases h1 : findM l (hId hdr0) with
  | some i => exact ⟨_, _, addM_twice h1, by simp⟩
  | none =>
    rcases addM_cases easyR l hdr0 now with ⟨e, h⟩ | ⟨p, h2, _, h3, _, _⟩
    · exact ⟨_, _, Prod.ext e rfl, h⟩
    · exfalso
      have hp := findM_lt h2
      have hpr : provedN hdr0 easyR.limit = 30 := by
        have : tgt hdr0.bits = none := by decide +kernel
        simp [provedN, this]
      have e1 : ¬ ((p : Int) < 0 ∨ (l.length : Int) ≤ p) := by omega
      simp only [fitsM, e1, if_false, hpr] at h3
      simp at h3
theorem add_failed {l : List Nd} (u : Uniq l) {p : Nat} (hp : p < l.length) (hf : (nd l p).failed = true) {h : Hdr} (hprev : h.prev = (nd l p).id) (hpr : provedN h easyB = 0) (now : Int) : ∃ i e, addM easyR l h now = (l, i, e) ∧ (e = 5 ∨ e = 101) := by
  cases h1 : findM l (hId h) with
  | some i => exact ⟨_, _, addM_twice h1, .inl rfl⟩
  | none =>
    have h2 : findM l h.prev = some p := by rw [hprev, nd_at hp]; exact u p hp
    have hpr' : provedN h easyR.limit = 0 := hpr
    have e1 : ¬ ((p : Int) < 0 ∨ (l.length : Int) ≤ p) := by omega
    have h3 : fitsM easyR l h p now = 101 := by
      simp only [fitsM, e1, if_false, hpr', ne_eq, not_true_eq_false, Int.toNat_natCast, hf, if_true]
    refine ⟨-1, 101, ?_, .inr rfl⟩
    simp only [addM, h1, h2, h3]
    rfl
section
variable {P : Program} {F : Fn}
set_option maxHeartbeats 2000000 in
theorem spec187 (ok : OkLaw10a P F) (st : St) (k0 : SK) (l0 : List Int) (fl : Int) : ACalls P (F 187) [.sl k0 (rowsOf e1 l0) l0.length, .int .i64 fl] st fun v st' => v = .bool true := by
  have oki := ok.toOkIndex
  have okh := oki.toOkHead
  refine shows_call ok.mixed ok.h187 (by simp [k187]) ?_
  simp only [k187, z68_eq]
  simp
  refine (spec185 ok st).mono ?_
  rintro v st0 ⟨rfl, rfl⟩
  have fin : ∀ s : St, ∃ s', St.sub s' s := fun s => ⟨s, sub_self _⟩
  by_cases h25 : (25 : Int) < l0.length
  · simp [h25, fin]
  · simp [h25]
    refine (spec184 ok st0).mono ?_
    rintro v st0 ⟨rfl, rfl⟩
    simp
    refine (spec155 oki st0 easyR).mono ?_
    rintro v st1 hv
    rw [if_pos easy_check] at hv
    obtain ⟨tid, rfl, S⟩ := hv
    rw [newM_easy] at S
    simp
    refine vc_loopJ (fun c env' st' => ∃ (i : Nat) (l : List Nd), i ≤ l0.length ∧ c = l0.length - i ∧ l.length ≤ i + 1 ∧ Fresh l ∧ env' 30 = .int .i64 (i : Nat) ∧ Sep [TreeS tid easyR l] st') l0.length ⟨0, [gen0], by omega, rfl, by simp, fresh_gen, rfl, S.swap.drop⟩ ?_
    clear S
    rintro J hJ c env' st2 hsame ⟨i, l, hi, rfl, hl, hF, g30, S⟩
    have g1 := hsame.get 1 rfl
    have g5 := hsame.get 5 rfl
    have g28 := hsame.get 28 rfl
    have g29 := hsame.get 29 rfl
    simp at g1 g5 g28 g29
    clear hsame
    have TR := S.treeR hF.wf.neNil
    have w := hF.wf
    have hne := w.ne
    by_cases hlt : i < l0.length
    · have hsg : segOf ((rowsOf e1 l0).drop i) 0 1 = some [.int .i64 l0[i]] := by simpa [e1] using rowsOf_eptr e1_len l0 hlt
      have hw1 : IntKind.i64.wrap ((i : Int) + 1) = (i : Int) + 1 := wrap64 (by omega) (by omega)
      have hwl : IntKind.i64.wrap ((l.length : Int) - 1) = (l.length : Int) - 1 := wrap64 (by omega) (by omega)
      obtain ⟨q, hq⟩ : ∃ q, q = clI l l0[i] := ⟨_, rfl⟩
      have hql : q < l.length := hq ▸ clI_lt w _
      have hmn : foldV min2V (.int .i64 l0[i]) [.int .i64 ((l.length : Int) - 1)] = some (.int .i64 (min l0[i] ((l.length : Int) - 1))) := by
        simp only [foldV, min2V, if_true, Option.bind_some]
        congr 2
        split <;> omega
      have hmx : foldV max2V (.int .i64 0) [.int .i64 (min l0[i] ((l.length : Int) - 1))] = some (.int .i64 (q : Int)) := by
        simp only [foldV, max2V, if_true, Option.bind_some]
        unfold clI at hq
        congr 2
        split <;> omega
      have hin : inI l q = q := by unfold inI; rw [if_neg (by omega)]; omega
      simp [g5, g28, g29, g30, hlt, hsg]
      refine (spec159 oki TR).mono ?_
      rintro v st2 ⟨rfl, rfl⟩
      simp [hwl, hmn, hmx, g5]
      refine (spec161 oki TR w q).mono ?_
      rintro v st2 ⟨rfl, rfl⟩
      rw [hin]
      simp [fldV_agg, osegId, g5]
      refine (spec161 oki TR w q).mono ?_
      rintro v st2 ⟨rfl, rfl⟩
      rw [hin]
      simp [fldV_agg, osegHdr, hsegTime, build_h4]
      generalize ({ hdr0 with ver := _, prev := _, time := _, bits := _ } : Hdr) = H
      refine (spec143 okh st2 H 545259519#32 1000).mono ?_
      rintro v st2 ⟨rfl, rfl⟩
      rw [mineR_get]
      obtain ⟨G, hG⟩ : ∃ G, G = (mineN H 545259519#32 (max 0 (min (1000 : Int) 65536)).toNat).getD hdr0 := ⟨_, rfl⟩
      rw [← hG]
      simp
      intro i9 h9
      have S := S.new h9 (.cells (eHdr hdr0))
      simp [storeH]
      have S := S.setAt (.cells (eHdr G)) 0 rfl
      simp at S
      generalize st2.upd i9 _ = st3 at S ⊢
      have o9 := S.get
      simp [g5, St.seg, o9, hsegAll]
      refine (tree_add oki S.swap w (by omega) easy_check G 100000).mono ?_
      rintro v st4 ⟨rfl, S⟩
      obtain ⟨f1, f2, f3⟩ := fresh_add (r := easyR) hF (by omega) G 100000
      simp [g30, hw1]
      exact Round.mk (l0.length - (i + 1)) _ (by omega) (sub_self _) (hJ _ _ _ ⟨i + 1, _, by omega, rfl, by omega, f1, by simp, Sep.tail (fun r hr => hr.drop) S⟩)
    · simp [g29, g30, hlt, g1, g5]
      refine (tree_fail oki S w (by omega) fl).mono ?_
      rintro v st3 ⟨rfl, S⟩
      have hll : l.length ≤ 26 := by omega
      by_cases hf1 : fl < 1
      · have e : failM l fl = (l, 0) := by simp [failM, hf1]
        rw [e]
        simp [g1, g5, hf1, fin]
      · by_cases hf2 : (l.length : Int) ≤ fl
        · have e : failM l fl = (l, 0) := by simp [failM, hf2]
          rw [e] at S ⊢
          have TR := S.treeR w.neNil
          simp [g1, g5, hf1]
          refine (spec159 oki TR).mono ?_
          rintro v st3 ⟨rfl, rfl⟩
          simp [hf2, fin]
        · obtain ⟨n, rfl⟩ : ∃ n : Nat, fl = n := ⟨fl.toNat, by omega⟩
          have hn1 : 1 ≤ n := by omega
          have hn : n < l.length := by omega
          have e := fail_fresh hF hn1 hn
          rw [e] at S ⊢
          obtain ⟨l2, hl2⟩ : ∃ l2, l2 = setF (fun k => onB l n (k : Nat)) l := ⟨_, rfl⟩
          have hlen2 : l2.length = l.length := by rw [hl2]; simp
          have w2 : Wf l2 := by rw [hl2]; exact setF_wf w
          have hfail : ∀ k, k < l.length → (nd l2 k).failed = onB l n k := fun k hk => by rw [hl2]; exact failed_at hF hk
          have hag := fail_again hF hn1 hn hl2
          have hon2 : ∀ t : Int, onB l2 n t = onB l n t := fun t => by rw [hl2]; exact setF_onB _ _
          have u2 : Uniq l2 := by rw [hl2]; exact uniq_setF hF.uniq _
          rw [← hl2] at S
          have TR := S.treeR w2.neNil
          have h1b : ¬ l.length ≤ n := by omega
          simp [g1, g5, hf1]
          refine (spec159 oki TR).mono ?_
          rintro v st3 ⟨rfl, rfl⟩
          rw [hlen2]
          have hf2' : ¬ ((l.length : Int) ≤ (n : Int)) := by omega
          simp [h1b, g5, g1]
          refine (spec159 oki TR).mono ?_
          rintro v st3 ⟨rfl, rfl⟩
          rw [hlen2]
          simp
          refine vc_loopJ (fun c env' st' => ∃ q : Nat, q ≤ l.length ∧ c = l.length - q ∧ env' 77 = .int .i64 (q : Nat) ∧ env' 12 = .int .i64 (cntOn l n q : Nat) ∧ Sep [TreeS tid easyR l2] st') l.length ⟨0, by omega, rfl, by simp, by simp [cntOn], S⟩ ?_
          clear S TR
          rintro J2 hJ2 c env2 st4 hsame ⟨q, hq, rfl, g77, g12, S⟩
          have f1 := hsame.get 1 rfl
          have f5 := hsame.get 5 rfl
          have f11 := hsame.get 11 rfl
          have f76 := hsame.get 76 rfl
          simp [g1, g5] at f1 f5 f11 f76
          clear hsame
          have TR := S.treeR w2.neNil
          by_cases hqlt : q < l.length
          · have hin : inI l2 q = q := by unfold inI; rw [hlen2, if_neg (by omega)]; omega
            have oF := osegFail (nd l2 q)
            rw [hfail q hqlt] at oF
            have hc := cntOn_succ l n q
            have hcl := cntOn_le l n q
            have hw12 : IntKind.i64.wrap ((cntOn l n q : Int) + 1) = (cntOn l n q : Int) + 1 := wrap64 (by omega) (by omega)
            have hwq : IntKind.i64.wrap ((q : Int) + 1) = (q : Int) + 1 := wrap64 (by omega) (by omega)
            simp [f76, g77, hqlt, f5]
            refine (spec161 oki TR w2 q).mono ?_
            rintro v st4 ⟨rfl, rfl⟩
            rw [hin]
            simp [fldV_agg, oF, f1, f5]
            refine (spec163 oki TR w2 n q).mono ?_
            rintro v st4 ⟨rfl, rfl⟩
            rw [hon2]
            simp [eqK, f5]
            refine (spec161 oki TR w2 q).mono ?_
            rintro v st4 ⟨rfl, rfl⟩
            rw [hin]
            simp [fldV_agg, oF]
            cases hb : onB l n q with
            | true =>
              rw [hb] at hc
              simp [g12, hw12, g77, hwq]
              exact Round.mk (l.length - (q + 1)) _ (by omega) (sub_self _) (hJ2 _ _ _ ⟨q + 1, by omega, rfl, by simp, by simp [hc], S⟩)
            | false =>
              rw [hb] at hc
              simp [g12, g77, hwq]
              exact Round.mk (l.length - (q + 1)) _ (by omega) (sub_self _) (hJ2 _ _ _ ⟨q + 1, by omega, rfl, by simp, by simp [hc, g12], S⟩)
          · have hql : q = l.length := by omega
            subst hql
            have hin : inI l2 n = n := by unfold inI; rw [hlen2, if_neg (by omega)]; omega
            simp [f76, g77, f5, f1]
            refine (spec161 oki TR w2 n).mono ?_
            rintro v st4 ⟨rfl, rfl⟩
            rw [hin]
            simp [fldV_agg, osegId, f5, f1]
            refine (spec161 oki TR w2 n).mono ?_
            rintro v st4 ⟨rfl, rfl⟩
            rw [hin]
            simp [fldV_agg, osegHdr, hsegTime, build_h4]
            obtain ⟨H, hH⟩ : ∃ H : Hdr, H = { hdr0 with ver := 99#32, prev := (nd l2 n).id, time := (nd l2 n).hdr.time + 1#32, bits := 545259519#32 } := ⟨_, rfl⟩
            have hHp : H.prev = (nd l2 n).id := by rw [hH]
            rw [← hH]
            clear hH
            refine (spec143 okh st4 H 545259519#32 1000).mono ?_
            rintro v st4 ⟨rfl, rfl⟩
            rw [mineR_get, show (max 0 (min (1000 : Int) 65536)).toNat = 1000 from rfl]
            obtain ⟨G, B, eG, eB, i, e, ea, he⟩ : ∃ (G : Hdr) (B : Bool), (mineN H 545259519#32 1000).getD hdr0 = G ∧ (mineN H 545259519#32 1000).isSome = B ∧ ∃ i e, addM easyR l2 G 100000 = (l2, i, e) ∧ (B = false ∨ e = 5 ∨ e = 101) := by
              cases hm : mineN H 545259519#32 1000 with
              | none =>
                obtain ⟨i, e, h1, h2⟩ := add_zero (l := l2) 100000
                exact ⟨_, _, rfl, rfl, i, e, h1, .inl rfl⟩
              | some G =>
                obtain ⟨m1, m2, m3, m4, m5, m6⟩ := mineN_some hm
                obtain ⟨i, e, h1, h2⟩ := add_failed u2 (p := n) (by omega) (by rw [hfail n hn]; exact onB_self hn) (h := G) (by rw [m2, hHp]) m6 100000
                exact ⟨_, _, rfl, rfl, i, e, h1, .inr h2⟩
            rw [eG, eB]
            simp
            intro i14 h14
            have S := S.new h14 (.cells (eHdr hdr0))
            simp [storeH]
            have S := S.setAt (.cells (eHdr G)) 0 rfl
            simp at S
            generalize st4.upd i14 _ = st5 at S ⊢
            have o14 := S.get
            simp [f5, St.seg, o14, hsegAll]
            refine (tree_add oki S.swap w2 (by omega) easy_check G 100000).mono ?_
            rintro v st6 ⟨rfl, S⟩
            rw [ea] at S ⊢
            dsimp only at S ⊢
            simp [f1, f5, f11, g12]
            refine (tree_fail oki S w2 (by omega) n).mono ?_
            rintro v st7 ⟨rfl, S⟩
            rw [hag.1]
            have hlen3 : (failM l2 n).1.length = l.length := by
              unfold failM; split <;> simp [hlen2]
            have w3 : Wf (failM l2 n).1 := by
              unfold failM; split
              · exact w2
              · exact setF_wf w2
            have TR := S.treeR w3.neNil
            have hin0 : inI (failM l2 n).1 0 = 0 := by unfold inI; split <;> rfl
            have oF := osegFail (nd (failM l2 n).1 0)
            rw [hag.2] at oF
            have hend : ACalls P (F 161) [.ptr (some (tid, 0)), .int .i64 0] st7 fun v st' => v = .agg (eNd (nd (failM l2 n).1 0)) ∧ st' = st7 := by
              have := spec161 oki TR w3 0
              rw [hin0] at this
              exact this
            rcases he with rfl | rfl | rfl
            · simp [f5]
              refine hend.mono ?_
              rintro v st7 ⟨rfl, rfl⟩
              simp [fldV_agg, oF, fin]
            · cases B <;>
              · simp [f5]
                refine hend.mono ?_
                rintro v st7 ⟨rfl, rfl⟩
                simp [fldV_agg, oF, fin]
            · cases B <;>
              · simp [f5]
                refine hend.mono ?_
                rintro v st7 ⟨rfl, rfl⟩
                simp [fldV_agg, oF, fin]
end
end Go.Ab

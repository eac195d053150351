import Derived.Test.YtgodabkifdmfcaaGreatJ7
/-
  index: a tree on the heap; the functions that only look.
-/
set_option linter.unusedSimpArgs false
set_option linter.unusedVariables false
set_option maxRecDepth 10000
namespace Go.Ab
open Go Go.RowKit

def eNd (x : Nd) : List V := eHdr x.hdr ++ (eId x.id ++ (.int .i64 x.parent :: .int .i64 x.skip :: .int .i64 x.height :: (eU (natU x.work) ++ [.bool x.failed])))
theorem eNd_len (x : Nd) : (eNd x).length = 108 := by simp [eNd, eHdr_len, eId_len, eU_len]
def eRl (r : Rl) : List V := w32 r.limit :: .int .i64 r.every :: .int .i64 r.spacing :: .int .i64 r.subsidy :: .int .i64 r.work :: (eHdr r.gen ++ [r.txs])
theorem eRl_len (r : Rl) : (eRl r).length = 74 := by simp [eRl, eHdr_len]

theorem eNd_drop68 (x : Nd) : (eNd x).drop 68 = eId x.id ++ (.int .i64 x.parent :: .int .i64 x.skip :: .int .i64 x.height :: (eU (natU x.work) ++ [.bool x.failed])) := by
  rw [eNd, ← eHdr_len x.hdr, List.drop_left]
theorem eNd_drop100 (x : Nd) : (eNd x).drop 100 = .int .i64 x.parent :: .int .i64 x.skip :: .int .i64 x.height :: (eU (natU x.work) ++ [.bool x.failed]) := by
  rw [show 100 = 68 + 32 from rfl, ← List.drop_drop, eNd_drop68]
  rw [show 32 = (eId x.id).length from (eId_len _).symm, List.drop_left]
theorem nsegHdr (x : Nd) : ((eNd x).drop 0).take 68 = eHdr x.hdr := by rw [List.drop_zero, eNd, ← eHdr_len x.hdr, List.take_left]
theorem nsegId (x : Nd) : ((eNd x).drop 68).take 32 = eId x.id := by rw [eNd_drop68, ← eId_len x.id, List.take_left]
theorem nsegPar (x : Nd) : ((eNd x).drop 100).take 1 = [.int .i64 x.parent] := by rw [eNd_drop100]; rfl
theorem nsegSkip (x : Nd) : ((eNd x).drop 101).take 1 = [.int .i64 x.skip] := by rw [show 101 = 100 + 1 from rfl, ← List.drop_drop, eNd_drop100]; rfl
theorem nsegHgt (x : Nd) : ((eNd x).drop 102).take 1 = [.int .i64 x.height] := by rw [show 102 = 100 + 2 from rfl, ← List.drop_drop, eNd_drop100]; rfl
theorem nsegWork (x : Nd) : ((eNd x).drop 103).take 4 = eU (natU x.work) := by rw [show 103 = 100 + 3 from rfl, ← List.drop_drop, eNd_drop100]; rfl
theorem nsegFail (x : Nd) : ((eNd x).drop 107).take 1 = [.bool x.failed] := by rw [show 107 = 100 + 7 from rfl, ← List.drop_drop, eNd_drop100]; rfl
theorem take_drop_take {cs : List V} {a n o k : Nat} (h : o + k ≤ n) : ((cs.drop (a + o)).take k) = ((((cs.drop a).take n).drop o).take k) := by
  rw [List.drop_take, List.drop_drop, List.take_take, Nat.min_eq_left (by omega)]
theorem nsegTime (x : Nd) : ((eNd x).drop 65).take 1 = [w32 x.hdr.time] := by
  have := take_drop_take (cs := eNd x) (a := 0) (n := 68) (o := 65) (k := 1) (by omega)
  rw [Nat.zero_add] at this
  rw [this, nsegHdr, hdrop65]; rfl
theorem nsegBits (x : Nd) : ((eNd x).drop 66).take 1 = [w32 x.hdr.bits] := by
  have := take_drop_take (cs := eNd x) (a := 0) (n := 68) (o := 66) (k := 1) (by omega)
  rw [Nat.zero_add] at this
  rw [this, nsegHdr, hdrop66]; rfl

section
variable {K A : Type} [DecidableEq K]
def lk (k : K) (l : List (K × A)) : Option A := l.lookup k
theorem lk_cons (k : K) (p : K × A) (l : List (K × A)) : lk k (p :: l) = if k = p.1 then some p.2 else lk k l := by
  obtain ⟨a, b⟩ := p
  unfold lk
  rw [List.lookup_cons]
  by_cases h : k = a
  · have : (k == a) = true := by simp [h]
    simp [h]
  · have : (k == a) = false := by simp [h]
    simp [h, this]
theorem lk_aSet (k k' : K) (v : A) (l : List (K × A)) : lk k (aSet k' v l) = if k = k' then some v else lk k l := by
  induction l with
  | nil => simp [aSet, lk_cons]
  | cons p l ih =>
    unfold aSet
    by_cases h1 : k' = p.1
    · rw [if_pos h1, lk_cons, lk_cons, ← h1]
      by_cases h : k = k' <;> simp [h]
    · rw [if_neg h1, lk_cons, lk_cons, ih]
      by_cases h2 : k = p.1
      · have : ¬ k = k' := by rw [h2]; exact fun e => h1 e.symm
        simp [h2, Ne.symm h1]
      · simp [h2]
theorem lookup_lk {ek : K → V} {ev : A → V} {kk : KK} (hk : Keyed ek kk) {st : St} {id : Nat} {l : List (K × A)} (h : st id = some (.mp (encM ek ev l))) (z : V) (k : K) :
    lookupV st kk z true (.map (some id)) (ek k) = some (.tup [((lk k l).map ev).getD z, .bool (lk k l).isSome]) := by
  rw [lookup_enc hk h, if_pos rfl]; rfl
end

/-- The cells of a tree: its rules, its headers, and which has which name. -/
structure TreeAt (tid sid mid : Nat) (spare : List V) (es : List (Id × Int)) (r : Rl) (l : List Nd) (st : St) : Prop where
  top : st tid = some (.cells (eRl r ++ [.hsl sid 0 108 l.length, .map (some mid)]))
  rows : st sid = some (.cells (rowsOf eNd l ++ spare))
  by_ : st mid = some (.mp (encM kId kInt es))
  room : 108 ∣ spare.length
  look : ∀ k, lk k es = (findM l k).map fun (i : Nat) => (i : Int)
def TreeR (tid : Nat) (r : Rl) (l : List Nd) (st : St) : Prop := ∃ sid mid spare es, TreeAt tid sid mid spare es r l st
theorem TreeAt.sub {tid sid mid : Nat} {spare : List V} {es : List (Id × Int)} {r : Rl} {l : List Nd} {st st' : St} (h : TreeAt tid sid mid spare es r l st) (hs : St.sub st st') : TreeAt tid sid mid spare es r l st' :=
  ⟨hs _ _ h.top, hs _ _ h.rows, hs _ _ h.by_, h.room, h.look⟩
theorem TreeR.sub {tid : Nat} {r : Rl} {l : List Nd} {st st' : St} (h : TreeR tid r l st) (hs : St.sub st st') : TreeR tid r l st' := by
  obtain ⟨sid, mid, spare, es, h⟩ := h
  exact ⟨sid, mid, spare, es, h.sub hs⟩

theorem tree_seg74 (r : Rl) (a b : V) : segOf (eRl r ++ [a, b]) 74 1 = some [a] := by
  have h := eRl_len r
  unfold segOf
  rw [if_pos (by simp [h]), ← h, List.drop_left]; rfl
theorem tree_seg75 (r : Rl) (a b : V) : segOf (eRl r ++ [a, b]) 75 1 = some [b] := by
  have h := eRl_len r
  unfold segOf
  rw [if_pos (by simp [h]), show 75 = 74 + 1 from rfl, ← List.drop_drop, ← h, List.drop_left]; rfl
theorem tree_seg0 (r : Rl) (a b : V) : segOf (eRl r ++ [a, b]) 0 74 = some (eRl r) := by
  have h := eRl_len r
  unfold segOf
  rw [if_pos (by simp [h]), List.drop_zero, ← h, List.take_left]
theorem tree_limit (r : Rl) (a b : V) : segOf (eRl r ++ [a, b]) 0 1 = some [w32 r.limit] := by
  unfold segOf; rw [if_pos (by simp)]; rfl
theorem tree_every (r : Rl) (a b : V) : segOf (eRl r ++ [a, b]) 1 1 = some [.int .i64 r.every] := by
  unfold segOf; rw [if_pos (by simp [eRl])]; rfl
theorem tree_spacing (r : Rl) (a b : V) : segOf (eRl r ++ [a, b]) 2 1 = some [.int .i64 r.spacing] := by
  unfold segOf; rw [if_pos (by simp [eRl])]; rfl

section
variable {l : List Nd} {i : Nat} {spare : List V}
theorem nd_part (hi : i < l.length) {o n : Nat} (h : o + n ≤ 108) : segOf (rowsOf eNd l ++ spare) (i * 108 + o) n = some (((eNd l[i]).drop o).take n) := rowsOf_part eNd_len l spare hi h
theorem nd_all (hi : i < l.length) : segOf (rowsOf eNd l ++ spare) (i * 108) 108 = some (eNd l[i]) := rowsOf_seg eNd_len l spare hi
theorem nd_par (hi : i < l.length) : segOf (rowsOf eNd l ++ spare) (i * 108 + 100) 1 = some [.int .i64 l[i].parent] := by rw [nd_part hi (by omega), nsegPar]
theorem nd_skip (hi : i < l.length) : segOf (rowsOf eNd l ++ spare) (i * 108 + 101) 1 = some [.int .i64 l[i].skip] := by rw [nd_part hi (by omega), nsegSkip]
theorem nd_hgt (hi : i < l.length) : segOf (rowsOf eNd l ++ spare) (i * 108 + 102) 1 = some [.int .i64 l[i].height] := by rw [nd_part hi (by omega), nsegHgt]
theorem nd_fail (hi : i < l.length) : segOf (rowsOf eNd l ++ spare) (i * 108 + 107) 1 = some [.bool l[i].failed] := by rw [nd_part hi (by omega), nsegFail]
theorem nd_time (hi : i < l.length) : segOf (rowsOf eNd l ++ spare) (i * 108 + 65) 1 = some [w32 l[i].hdr.time] := by rw [nd_part hi (by omega), nsegTime]
theorem hgt_at (hi : i < l.length) : hgt l i = l[i].height := by simp [hgt, hi]
theorem par_at (hi : i < l.length) : par l i = l[i].parent.toNat := by simp [par, hi]
end

theorem bits_and_nat {a b : Nat} (ha : a < 2 ^ 62) (hb : b < 2 ^ 62) : bits .and .i64 (a : Int) (b : Int) = ((a &&& b : Nat) : Int) := by
  have h1 : BitVec.ofInt IntKind.i64.bits (a : Int) = BitVec.ofNat 64 a := BitVec.ofInt_natCast _ _
  have h2 : BitVec.ofInt IntKind.i64.bits (b : Int) = BitVec.ofNat 64 b := BitVec.ofInt_natCast _ _
  have h3 : a &&& b ≤ a := Nat.and_le_left
  unfold bits
  rw [h1, h2]
  show IntKind.i64.wrap (((BitVec.ofNat 64 a &&& BitVec.ofNat 64 b).toNat : Nat) : Int) = _
  rw [BitVec.toNat_and, BitVec.toNat_ofNat, BitVec.toNat_ofNat, Nat.mod_eq_of_lt (by omega), Nat.mod_eq_of_lt (by omega)]
  exact wrap64 (by omega) (by omega)

section
variable {P : Program} {F : Fn}

/-- skip -/
theorem spec157 (ok : OkIndex P F) (st : St) (h : Nat) (hh : h < 2 ^ 61) : ACalls P (F 157) [.int .i64 (h : Nat)] st fun v st' => v = .int .i64 (skipH h : Nat) ∧ st' = st := by
  refine shows_call ok.mixed ok.h157 (by simp [k157]) ?_
  simp only [k157]
  by_cases h2 : h < 2
  · have e : skipH h = 0 := by simp [skipH, h2]
    have : (h : Int) < 2 := by omega
    simp [this, e]
  · obtain ⟨m, rfl⟩ : ∃ m, h = m + 2 := ⟨h - 2, by omega⟩
    have a1 : ¬ ((m : Int) + 2 < 2) := by omega
    have w1 : IntKind.i64.wrap ((m : Int) + 2 - 1) = ((m + 1 : Nat) : Int) := by rw [wrap64 (by omega) (by omega)]; omega
    have w2 : IntKind.i64.wrap (m : Int) = (m : Int) := wrap64 (by omega) (by omega)
    have b1 : bits .and .i64 ((m + 1 : Nat) : Int) (m : Int) = ((m + 1 &&& m : Nat) : Int) := bits_and_nat (by omega) (by omega)
    have b2 : bits .and .i64 ((m : Int) + 2) ((m + 1 : Nat) : Int) = ((m + 2 &&& m + 1 : Nat) : Int) := by
      have := bits_and_nat (a := m + 2) (b := m + 1) (by omega) (by omega)
      rw [← this]
      congr 1
    have l1 : m + 1 &&& m ≤ m := Nat.and_le_right
    have w3 : IntKind.i64.wrap ((m + 1 &&& m : Nat) + 1) = ((m + 1 &&& m : Nat) : Int) + 1 := wrap64 (by omega) (by omega)
    obtain ⟨A, hA⟩ : ∃ A, A = (m + 1 &&& m) := ⟨_, rfl⟩
    obtain ⟨B, hB⟩ : ∃ B, B = (m + 2 &&& m + 1) := ⟨_, rfl⟩
    obtain ⟨M, hM⟩ : ∃ M, M = ((m + 1 : Nat) : Int) := ⟨_, rfl⟩
    rw [← hA] at b1 w3
    rw [← hB] at b2
    rw [← hM] at w1 b1 b2
    have es : skipH (m + 2) = if m % 2 = 1 then A + 1 else B := by
      unfold skipH
      rw [if_neg h2, hA, hB]
      have : (m + 2) % 2 = m % 2 := by omega
      rw [this]
      rfl
    have em : ((m : Int) + 2) % 2 = ((m % 2 : Nat) : Int) := by omega
    have e2 : ((m : Int) + 2).tmod 2 = ((m % 2 : Nat) : Int) := by rw [Int.tmod_eq_emod_of_nonneg (by omega)]; exact em
    have hm2 : m % 2 < 2 := Nat.mod_lt _ (by omega)
    have wr : IntKind.i64.wrap (((m % 2 : Nat)) : Int) = ((m % 2 : Nat) : Int) := wrap64 (by omega) (by omega)
    obtain ⟨R, hR⟩ : ∃ R, R = m % 2 := ⟨_, rfl⟩
    rw [← hR] at es em e2 wr hm2
    rw [es]
    by_cases hm : R = 1
    · subst hm
      simp [a1, em, e2, wr, w1, w2, b1, w3]
    · have hz : R = 0 := by omega
      subst hz
      simp [a1, em, e2, wr, w1, w2, b2, hm]

theorem spec159 (ok : OkIndex P F) {st : St} {tid : Nat} {r : Rl} {l : List Nd} (h : TreeR tid r l st) : ACalls P (F 159) [.ptr (some (tid, 0))] st fun v st' => v = .int .i64 (l.length : Nat) ∧ st' = st := by
  obtain ⟨sid, mid, spare, es, h⟩ := h
  refine shows_call ok.mixed ok.h159 (by simp [k159]) ?_
  simp only [k159]
  simp [St.seg, h.top, tree_seg74]
theorem nd_at {l : List Nd} {j : Nat} (hj : j < l.length) : nd l j = l[j] := by simp [nd, hj]
/-- Which header a number means: the genesis if there isn't such a one. -/
def inI (l : List Nd) (i : Int) : Nat := if i < 0 ∨ (l.length : Int) ≤ i then 0 else i.toNat
theorem inI_lt {l : List Nd} (w : Wf l) (i : Int) : inI l i < l.length := by
  have := w.ne
  unfold inI
  split
  · exact this
  · omega
theorem spec161 (ok : OkIndex P F) {st : St} {tid : Nat} {r : Rl} {l : List Nd} (h : TreeR tid r l st) (w : Wf l) (i : Int) : ACalls P (F 161) [.ptr (some (tid, 0)), .int .i64 i] st fun v st' => v = .agg (eNd (nd l (inI l i))) ∧ st' = st := by
  obtain ⟨sid, mid, spare, es, h⟩ := h
  refine shows_call ok.mixed ok.h161 (by simp [k161]) ?_
  simp only [k161]
  simp
  intro i4 h4
  have hz : z108_9b14.length = 108 := rfl
  have hsp : ∀ x, spliceV z108_9b14 0 (eNd x) = eNd x := fun x => by simp [spliceV, eNd_len, hz]
  have hst : ∀ (x : Nd), storeS (st.upd i4 (.cells z108_9b14)) 108 (.ptr (some (i4, 0))) (.agg (eNd x)) = some (st.upd i4 (.cells (eNd x))) := fun x => by
    simp [storeS, eNd_len, hsp, hz]
  have hall' : ∀ x, segOf (eNd x) 0 108 = some (eNd x) := fun x => by
    unfold segOf
    rw [if_pos (by rw [eNd_len]; omega), List.drop_zero, ← eNd_len x, List.take_length]
  have h' := h.sub (sub_upd (o := .cells z108_9b14) h4)
  generalize hst1 : st.upd i4 (.cells z108_9b14) = st1 at h' hst ⊢
  have o1 := h'.top
  have o2 := h'.rows
  simp [St.seg, o1, tree_seg74]
  have hl0 := w.ne
  have hsub : ∀ x, St.sub st (st.upd i4 (.cells x)) := fun x => sub_upd h4
  by_cases h1 : i < 0
  · have e : inI l i = 0 := by simp [inI, h1]
    have hall := nd_all (spare := spare) hl0
    simp at hall
    rw [e, nd_at hl0]
    simp [h1, e, hl0, o1, o2, hall, hst, St.seg, hall', hsub, tree_seg74]
  · by_cases h2 : (l.length : Int) ≤ i
    · have e : inI l i = 0 := by simp [inI, h2]
      have hall := nd_all (spare := spare) hl0
      simp at hall
      rw [e, nd_at hl0]
      simp [h1, h2, e, hl0, o1, o2, hall, hst, St.seg, hall', hsub, tree_seg74]
    · obtain ⟨n, rfl⟩ : ∃ n : Nat, i = n := ⟨i.toNat, by omega⟩
      have hn : n < l.length := by omega
      have e : inI l n = n := by simp [inI]; omega
      have e2 : ¬ l.length ≤ n := by omega
      have hall := nd_all (spare := spare) hn
      rw [e, nd_at hn]
      simp [h1, e, e2, hn, o1, o2, hall, hst, St.seg, hall', hsub, tree_seg74]

/-- Ancestor -/
theorem anc_step {l : List Nd} (w : Wf l) {i h : Nat} (hi : i < l.length) (hh : h < hgt l i) :
    ∃ p s, l[i].parent = (p : Nat) ∧ l[i].skip = s ∧ p < i ∧ s ≤ p ∧ anc l p h = anc l i h ∧ h ≤ hgt l p ∧ (h ≤ hgt l s → anc l s h = anc l i h) ∧ s < l.length := by
  have hp := w.pos_of_hgt (i := i) (by omega)
  have e := List.getElem?_eq_getElem hi
  obtain ⟨a, b, c⟩ := w.succ i _ hp e
  have d := w.skip i _ hp e
  have hgi := hgt_at hi
  refine ⟨par l i, l[i].skip, ?_, rfl, w.par_lt hp hi, ?_, (w.anc_par hi hh).symm, ?_, ?_, ?_⟩
  · rw [par_at hi]; omega
  · rw [d, par_at hi]; exact w.anc_le (by omega)
  · have := w.hgt_par hp hi; omega
  · intro hs
    have hpp := w.hgt_par hp hi
    have hlt := w.par_lt hp hi
    have hk := skipH_lt (h := l[i].height) (by omega)
    have e2 : l[i].skip = anc l (par l i) (skipH l[i].height) := by rw [d, par_at hi]
    rw [e2] at hs ⊢
    have hh2 : skipH l[i].height ≤ hgt l (par l i) := by omega
    rw [w.anc_hgt (by omega) hh2] at hs
    rw [w.anc_anc (by omega) hs hh2, ← w.anc_par hi hh]
  · have := w.anc_lt (i := l[i].parent.toNat) (h := skipH l[i].height) (by omega)
    rw [d]; exact this
theorem spec158 (ok : OkIndex P F) {st : St} {tid : Nat} {r : Rl} {l : List Nd} (h : TreeR tid r l st) (w : Wf l) (i k : Int) : ACalls P (F 158) [.ptr (some (tid, 0)), .int .i64 i, .int .i64 k] st fun v st' => v = .int .i64 (ancI l i k) ∧ st' = st := by
  obtain ⟨sid, mid, spare, es, h⟩ := h
  refine shows_call ok.mixed ok.h158 (by simp [k158]) ?_
  simp only [k158]
  have o1 := h.top
  have o2 := h.rows
  by_cases h1 : i < 0
  · simp [h1, ancI]
  · by_cases h2 : (l.length : Int) ≤ i
    · simp [h1, h2, ancI, St.seg, o1, tree_seg74]
    · obtain ⟨n, rfl⟩ : ∃ n : Nat, i = n := ⟨i.toNat, by omega⟩
      have hn : n < l.length := by omega
      have e2 : ¬ l.length ≤ n := by omega
      by_cases h3 : k < 0
      · simp [h1, h3, ancI, St.seg, o1, tree_seg74, e2]
      · obtain ⟨m, rfl⟩ : ∃ m : Nat, k = m := ⟨k.toNat, by omega⟩
        have eh := hgt_at hn
        by_cases h4 : l[n].height < m
        · have : hgt l n < m := by omega
          simp [h1, h3, ancI, St.seg, o1, o2, tree_seg74, e2, hn, nd_hgt hn, h4, this]
        · have h4' : ¬ hgt l n < m := by omega
          have ea : ancI l n m = (anc l n m : Nat) := by simp [ancI, e2, h4', h1, h3]
          rw [ea]
          simp [h1, h3, St.seg, o1, o2, tree_seg74, e2, hn, nd_hgt hn, h4]
          refine vc_loopJ (fun c env' st' => ∃ j, j = c ∧ j < l.length ∧ m ≤ hgt l j ∧ anc l j m = anc l n m ∧ env' 1 = .int .i64 (j : Nat) ∧ st' = st) n ⟨n, rfl, hn, by omega, rfl, rfl, rfl⟩ ?_
          rintro J hJ c env' st2 hsame ⟨j, rfl, hj, hm, he, g1, rfl⟩
          have g0 := hsame.get 0 rfl
          have g2 := hsame.get 2 rfl
          simp at g0 g2
          clear hsame
          have ej := hgt_at hj
          by_cases hlt : m < l[j].height
          · obtain ⟨p, s, p1, p2, p3, p4, p5, p6, p7, p8⟩ := anc_step w hj (h := m) (by omega)
            have hp : p < l.length := by omega
            have es := hgt_at p8
            simp [g0, g1, g2, St.seg, o1, o2, tree_seg74, hj, nd_hgt hj, hlt, nd_skip hj, nd_par hj, p2, p8, nd_hgt p8]
            by_cases hs : m ≤ l[s].height
            · simp [hs]
              exact Round.mk s _ (by omega) (sub_self _) (hJ _ _ _ ⟨s, rfl, p8, by omega, by rw [p7 (by omega), he], by simp, rfl⟩)
            · simp [hs, g0, g1, g2, St.seg, o1, o2, tree_seg74, hj, nd_par hj, p1]
              exact Round.mk p _ (by omega) (sub_self _) (hJ _ _ _ ⟨p, rfl, hp, p6, by rw [p5, he], by simp, rfl⟩)
          · have hm' : hgt l j = m := by omega
            have : anc l n m = j := by rw [← he, ← hm']; exact anc_self j
            simp [g0, g1, g2, St.seg, o1, o2, tree_seg74, hj, nd_hgt hj, hlt, this]

/-- On -/
theorem spec163 (ok : OkIndex P F) {st : St} {tid : Nat} {r : Rl} {l : List Nd} (h : TreeR tid r l st) (w : Wf l) (i tip : Int) : ACalls P (F 163) [.ptr (some (tid, 0)), .int .i64 i, .int .i64 tip] st fun v st' => v = .bool (onB l i tip) ∧ st' = st := by
  obtain ⟨sid, mid, spare, es, h⟩ := h
  refine shows_call ok.mixed ok.h163 (by simp [k163]) ?_
  simp only [k163]
  have o1 := h.top
  have o2 := h.rows
  by_cases h1 : 0 ≤ i
  · by_cases h2 : i < (l.length : Int)
    · obtain ⟨n, rfl⟩ : ∃ n : Nat, i = n := ⟨i.toNat, by omega⟩
      have hn : n < l.length := by omega
      have eh := hgt_at hn
      simp [St.seg, o1, o2, tree_seg74, hn, nd_hgt hn]
      refine (spec158 ok ⟨sid, mid, spare, es, h⟩ w tip (l[n].height : Nat)).mono ?_
      rintro v st' ⟨rfl, rfl⟩
      simp [onB, hn, eh]
    · simp [h1, h2, onB, St.seg, o1, tree_seg74]
  · simp [h1, onB]
end
end Go.Ab
/-
  Sorting a few numbers: slices.Sort, and the middle one.
-/
set_option linter.unusedSimpArgs false
set_option linter.unusedVariables false
set_option maxRecDepth 10000
namespace Go.Ab
open Go Go.RowKit

def e32 (x : W32) : List V := [w32 x]
theorem e32_len (x : W32) : (e32 x).length = 1 := rfl

/-- A list that is in order up to a place. -/
def UpTo (m : List W32) (i : Nat) : Prop := ∀ a b, a < b → b < i → m.getD a 0 ≤ m.getD b 0
/-- In order up to a place, but for one that is still to sink. -/
def UpBut (m : List W32) (i j : Nat) : Prop := (∀ a b, a < b → b ≤ i → a ≠ j → b ≠ j → m.getD a 0 ≤ m.getD b 0) ∧ ∀ k, j < k → k ≤ i → m.getD j 0 ≤ m.getD k 0
theorem upBut_start {m : List W32} {i : Nat} (h : UpTo m i) : UpBut m i i := ⟨fun a b h1 h2 h3 h4 => h a b h1 (by omega), fun k h1 h2 => by omega⟩
theorem upBut_end {m : List W32} {i j : Nat} (h : UpBut m i j) (hj : j = 0 ∨ m.getD (j - 1) 0 ≤ m.getD j 0) (hji : j ≤ i) : UpTo m (i + 1) := by
  intro a b h1 h2
  by_cases ha : a = j
  · subst ha; exact h.2 b h1 (by omega)
  · by_cases hb : b = j
    · subst hb
      rcases hj with hj | hj
      · omega
      · by_cases e : a = b - 1
        · rw [e]; exact hj
        · exact Nat.le_trans (h.1 a (b - 1) (by omega) (by omega) ha (by omega)) hj
    · exact h.1 a b h1 (by omega) ha hb
theorem getD_swap {m : List W32} {j : Nat} (h0 : 0 < j) (hj : j < m.length) (k : Nat) : ((m.set j (m.getD (j - 1) 0)).set (j - 1) (m.getD j 0)).getD k 0 = if k = j then m.getD (j - 1) 0 else if k = j - 1 then m.getD j 0 else m.getD k 0 := by
  simp only [List.getD_eq_getElem?_getD, List.getElem?_set, List.length_set]
  by_cases h1 : k = j
  · subst h1
    simp [show ¬ (k - 1 = k) by omega, hj]
  · by_cases h2 : k = j - 1
    · subst h2
      simp [h1, show j - 1 < m.length by omega]
    · simp [h1, h2, Ne.symm h1, Ne.symm h2]
theorem upBut_step {m : List W32} {i j : Nat} (h : UpBut m i j) (h0 : 0 < j) (hj : j < m.length) (hji : j ≤ i) (hlt : m.getD j 0 < m.getD (j - 1) 0) :
    UpBut ((m.set j (m.getD (j - 1) 0)).set (j - 1) (m.getD j 0)) i (j - 1) := by
  have hle : m.getD j 0 ≤ m.getD (j - 1) 0 := Nat.le_of_lt hlt
  refine ⟨fun a b h1 h2 h3 h4 => ?_, fun k h1 h2 => ?_⟩
  · rw [getD_swap h0 hj, getD_swap h0 hj, if_neg h3, if_neg h4]
    by_cases ha : a = j
    · have hb : b ≠ j := by omega
      rw [if_pos ha, if_neg hb]
      exact h.1 (j - 1) b (by omega) h2 (by omega) hb
    · rw [if_neg ha]
      by_cases hb : b = j
      · rw [if_pos hb]
        exact h.1 a (j - 1) (by omega) (by omega) ha (by omega)
      · rw [if_neg hb]
        exact h.1 a b h1 h2 ha hb
  · rw [getD_swap h0 hj, getD_swap h0 hj, if_neg (by omega), if_pos rfl]
    by_cases hk : k = j
    · rw [if_pos hk]; exact hle
    · rw [if_neg hk, if_neg (by omega)]
      exact h.2 k (by omega) h2
theorem swap_perm {m : List W32} {j : Nat} (h0 : 0 < j) (hj : j < m.length) : ((m.set j (m.getD (j - 1) 0)).set (j - 1) (m.getD j 0)).Perm m := by
  have e1 : m.getD (j - 1) 0 = m[j - 1] := by simp [show j - 1 < m.length by omega]
  have e2 : m.getD j 0 = m[j] := by simp [hj]
  rw [e1, e2]
  exact List.set_set_perm hj (by omega)
theorem sorted_of {m l : List W32} (h : UpTo m m.length) (hp : m.Perm l) : m = sorted32 l := by
  have hm : m.Pairwise (fun a b => decide (a ≤ b) = true) := by
    rw [List.pairwise_iff_getElem]
    intro a b ha hb hab
    have := h a b hab hb
    simpa [ha, hb] using this
  have hs : (sorted32 l).Pairwise (fun a b => decide (a ≤ b) = true) := by
    refine List.pairwise_mergeSort (fun a b c h1 h2 => ?_) (fun a b => ?_) l
    · simp at h1 h2 ⊢; exact Nat.le_trans h1 h2
    · simp; exact Nat.le_total a.toNat b.toNat
  refine List.Perm.eq_of_pairwise (le := fun a b => decide (a ≤ b) = true) ?_ hm hs (hp.trans (List.mergeSort_perm l _).symm)
  intro a b _ _ h1 h2
  simp at h1 h2
  exact BitVec.eq_of_toNat_eq (Nat.le_antisymm h1 h2)
theorem sorted32_length (l : List W32) : (sorted32 l).length = l.length := (List.mergeSort_perm l _).length_eq

section
variable {P : Program} {F : Fn}
theorem spec182 (ok : OkIndex P F) (st : St) (x : W32) : ACalls P (F 182) [w32 x] st fun v st' => v = .bool false ∧ st' = st := by
  refine shows_call ok.mixed ok.h182 (by simp [k182]) ?_
  simp only [k182]
  simp
theorem spec179 (ok : OkIndex P F) (st : St) (x y : W32) : ACalls P (F 179) [w32 x, w32 y] st fun v st' => v = .bool (decide (x < y)) ∧ st' = st := by
  refine shows_call ok.mixed ok.h179 (by simp [k179]) ?_
  simp only [k179]
  simp
  refine (spec182 ok st x).mono ?_
  rintro v st ⟨rfl, rfl⟩
  simp
/-- insertionSortOrdered over all of a list -/
theorem spec173 (ok : OkIndex P F) {st : St} {sid : Nat} {l : List W32} {spare : List V} (h : st sid = some (.cells (rowsOf e32 l ++ spare))) (hl : l.length ≤ 1000) (hne : l ≠ []) :
    ACalls P (F 173) [.hsl sid 0 1 l.length, .int .i64 0, .int .i64 (l.length : Nat)] st fun v st' => v = .tup [] ∧ st' = st.upd sid (.cells (rowsOf e32 (sorted32 l) ++ spare)) := by
  refine shows_call ok.mixed ok.h173 (by simp [k173]) ?_
  simp only [k173]
  simp
  refine vc_loopJ (fun c env' st' => ∃ (i : Nat) (m : List W32), 0 < i ∧ i ≤ l.length ∧ c = l.length - i ∧ m.Perm l ∧ UpTo m i ∧ env' 6 = .int .i64 (i : Nat) ∧ st' = st.upd sid (.cells (rowsOf e32 m ++ spare))) (l.length - 1) ⟨1, l, by omega, ?_, rfl, .refl _, ?_, by simp, ?_⟩ ?_
  · have := List.length_pos_iff.2 hne; omega
  · intro a b h1 h2; omega
  · funext q
    by_cases e : q = sid
    · subst e; simp [h]
    · simp [e]
  · rintro J hJ c env' st2 hsame ⟨i, m, h0, hi, rfl, hp, hu, g6, rfl⟩
    have g0 := hsame.get 0 rfl
    have g1 := hsame.get 1 rfl
    have g2 := hsame.get 2 rfl
    simp at g0 g1 g2
    clear hsame
    have hml := hp.length_eq
    by_cases hlt : i < l.length
    · simp [g0, g1, g2, g6, hlt]
      refine vc_loopJ (fun c env' st' => ∃ (j : Nat) (m' : List W32), j ≤ i ∧ c = j ∧ m'.Perm l ∧ UpBut m' i j ∧ env' 7 = .int .i64 (j : Nat) ∧ st' = st.upd sid (.cells (rowsOf e32 m' ++ spare))) i ⟨i, m, Nat.le_refl _, rfl, hp, upBut_start hu, by simp, rfl⟩ ?_
      clear hu hp hml m
      rintro J2 hJ2 j env2 st2 hsame ⟨_, m, hj, rfl, hp, hu, g7, rfl⟩
      have e0 := hsame.get 0 rfl
      have e1 := hsame.get 1 rfl
      have e2 := hsame.get 2 rfl
      have e6 := hsame.get 6 rfl
      simp [g0, g1, g2, g6] at e0 e1 e2 e6
      clear hsame
      have hml := hp.length_eq
      by_cases hj0 : 0 < j
      · have hjl : j < m.length := by omega
        obtain ⟨j', hj'⟩ : ∃ k, k = j - 1 := ⟨_, rfl⟩
        have hjl' : j' < m.length := by omega
        have s1 := rowsOf_seg e32_len m spare hjl
        have s2 := rowsOf_seg e32_len m spare hjl'
        obtain ⟨x, hx⟩ : ∃ x, x = m.getD j 0 := ⟨_, rfl⟩
        obtain ⟨y, hy⟩ : ∃ y, y = m.getD (j - 1) 0 := ⟨_, rfl⟩
        have d1 : m[j] = x := by rw [hx]; simp [hjl]
        have d2 : m[j'] = y := by rw [hy, ← hj']; simp [hjl']
        rw [d1, Nat.mul_one] at s1
        rw [d2, Nat.mul_one] at s2
        have hw : IntKind.i64.wrap ((j : Int) - 1) = (j' : Int) := by rw [wrap64 (by omega) (by omega)]; omega
        have hl1 : j < l.length := by omega
        have hl2 : j' < l.length := by omega
        have hr : (rowsOf e32 m).length = l.length := by rw [rowsOf_length e32_len, hml, Nat.mul_one]
        have p1 := rowsOf_splice e32_len m spare hjl (o := 0) (vs := [w32 y]) (by simp) (a := y) (by rw [d1]; rfl)
        have p2 := rowsOf_splice e32_len (m.set j y) spare (i := j') (by simpa using hjl') (o := 0) (vs := [w32 x]) (by simp) (a := x) (by rw [List.getElem_set_ne (by omega), d2]; rfl)
        rw [Nat.mul_one, Nat.add_zero] at p1 p2
        have hr2 : (rowsOf e32 (m.set j y)).length = l.length := by rw [rowsOf_length e32_len, List.length_set, hml, Nat.mul_one]
        have sh1 : (e32 x) = [w32 x] := rfl
        have sh2 : (e32 y) = [w32 y] := rfl
        rw [sh1] at s1
        rw [sh2] at s2
        simp [e0, e1, g7, hj0, hw, St.seg, s1, s2, hl1, hl2]
        refine (spec179 ok _ x y).mono ?_
        rintro v st3 ⟨rfl, rfl⟩
        by_cases hxy : x < y
        · simp [hxy, e0, e1, g7, hj0, hw, St.seg, s1, s2, hl1, hl2, storeS, p1, p2, hr, hr2, show j + 1 ≤ l.length + spare.length by omega, show j' + 1 ≤ l.length + spare.length by omega]
          refine Round.mk j' _ (by omega) (sub_self _) (hJ2 _ _ _ ⟨j', _, by omega, rfl, (swap_perm hj0 hjl).trans hp, ?_, by simp, ?_⟩)
          · rw [hj']
            exact upBut_step hu hj0 hjl hj (by rw [← hx, ← hy]; exact hxy)
          · rw [← hx, ← hy, ← hj']
        · have hle : y ≤ x := Nat.le_of_not_lt hxy
          have hu2 := upBut_end hu (.inr (by rw [← hx, ← hy]; exact hle)) hj
          have hw6 : IntKind.i64.wrap ((i : Int) + 1) = (i : Int) + 1 := wrap64 (by omega) (by omega)
          simp [hxy, e6, hw6]
          exact Round.mk (l.length - (i + 1)) _ (by omega) (sub_self _) (hJ _ _ _ ⟨i + 1, m, by omega, by omega, rfl, hp, hu2, by simp, rfl⟩)
      · have hjz : j = 0 := by omega
        subst hjz
        have hu2 := upBut_end hu (.inl rfl) (by omega)
        have hw6 : IntKind.i64.wrap ((i : Int) + 1) = (i : Int) + 1 := wrap64 (by omega) (by omega)
        simp [e0, e1, g7, e6, hw6]
        exact Round.mk (l.length - (i + 1)) _ (by omega) (sub_self _) (hJ _ _ _ ⟨i + 1, m, by omega, by omega, rfl, hp, hu2, by simp, rfl⟩)
    · have hil : i = l.length := by omega
      have hs : m = sorted32 l := sorted_of (by rw [hml, ← hil]; exact hu) hp
      simp [g0, g1, g2, g6, hlt, hs]
theorem spec172 (ok : OkIndex P F) {st : St} {sid : Nat} {l : List W32} {spare : List V} (h : st sid = some (.cells (rowsOf e32 l ++ spare))) (hl : l.length ≤ 12) (hne : l ≠ []) (k : Int) :
    ACalls P (F 172) [.hsl sid 0 1 l.length, .int .i64 0, .int .i64 (l.length : Nat), .int .i64 k] st fun v st' => v = .tup [] ∧ st' = st.upd sid (.cells (rowsOf e32 (sorted32 l) ++ spare)) := by
  refine shows_call ok.mixed ok.h172 (by simp [k172]) ?_
  simp only [k172]
  simp
  refine vc_unroll 1 ?_
  have hw : IntKind.i64.wrap (l.length : Int) = (l.length : Int) := wrap64 (by omega) (by omega)
  have h12 : (l.length : Int) ≤ 12 := by omega
  simp [unr_succ, hw, h12]
  refine (spec173 ok h (by omega) hne).mono ?_
  rintro v st' ⟨rfl, rfl⟩
  simp
theorem spec171 (ok : OkIndex P F) (st : St) (x : W) : ACalls P (F 171) [w64 x] st fun v st' => v = .int .i64 (bitlen x.toNat) ∧ st' = st := by
  refine shows_call ok.mixed ok.h171 (by simp [k171]) ?_
  simp only [k171]
  simp
  refine (spec115 ok.toOkHead.toOkNum st x).mono ?_
  rintro v st' ⟨rfl, rfl⟩
  simp
theorem spec165 (ok : OkIndex P F) {st : St} {sid : Nat} {l : List W32} {spare : List V} (h : st sid = some (.cells (rowsOf e32 l ++ spare))) (hl : l.length ≤ 12) (hne : l ≠ []) :
    ACalls P (F 165) [.hsl sid 0 1 l.length] st fun v st' => v = .tup [] ∧ st' = st.upd sid (.cells (rowsOf e32 (sorted32 l) ++ spare)) := by
  refine shows_call ok.mixed ok.h165 (by simp [k165]) ?_
  simp only [k165]
  have hc : convV .u64 (.int .i64 (l.length : Nat)) = some (w64 (BitVec.ofNat 64 l.length)) := by
    rw [conv_i_64]; congr 2
  simp [-conv_i_64, hc]
  refine (spec171 ok st _).mono ?_
  rintro v st' ⟨rfl, rfl⟩
  simp
  refine (spec172 ok h hl hne _).mono ?_
  rintro v st' ⟨rfl, rfl⟩
  simp
theorem spec164 (ok : OkIndex P F) {st : St} {sid : Nat} {l : List W32} {spare : List V} (h : st sid = some (.cells (rowsOf e32 l ++ spare))) (hl : l.length ≤ 12) (hne : l ≠ []) :
    ACalls P (F 164) [.hsl sid 0 1 l.length] st fun v st' => v = w32 (middle32 l) ∧ st' = st.upd sid (.cells (rowsOf e32 (sorted32 l) ++ spare)) := by
  refine shows_call ok.mixed ok.h164 (by simp [k164]) ?_
  simp only [k164]
  simp
  refine (spec165 ok h hl hne).mono ?_
  rintro v st' ⟨rfl, rfl⟩
  have hpos := List.length_pos_iff.2 hne
  have hd : (l.length : Int).tdiv 2 = ((l.length / 2 : Nat) : Int) := by rw [Int.tdiv_eq_ediv_of_nonneg (by omega)]; omega
  have hw : IntKind.i64.wrap ((l.length : Int) / 2) = ((l.length / 2 : Nat) : Int) := by rw [wrap64 (by omega) (by omega)]; omega
  have hlt : l.length / 2 < (sorted32 l).length := by rw [sorted32_length]; omega
  have hs := rowsOf_seg e32_len (sorted32 l) spare hlt
  have hm : (sorted32 l)[l.length / 2] = middle32 l := by simp [middle32, hlt]
  rw [hm, Nat.mul_one, show e32 (middle32 l) = [w32 (middle32 l)] from rfl] at hs
  obtain ⟨k, hk⟩ : ∃ k, k = l.length / 2 := ⟨_, rfl⟩
  rw [← hk] at hd hw hs
  have hkl : k < l.length := by omega
  simp [hw, hkl, St.seg, hs]
end
end Go.Ab
/-
  tallystickref01: SHA-256 by its text.
-/
set_option linter.unusedSimpArgs false
set_option linter.unusedVariables false
set_option maxRecDepth 10000
namespace Go.Ab
open Go Go.RowKit
theorem rows_e32 : ∀ l : List W32, rowsOf e32 l = l.map w32
  | [] => rfl
  | b :: l => by rw [rowsOf_cons, rows_e32 l]; rfl
theorem sB_idx (l : List UInt8) (k : IntKind) {i : Nat} (h : i < l.length) : idxStrV (sB l) (.int k (i : Int)) = some (w8 l[i]) := idxStr_w ⟨l.toArray⟩ k (i := i) h
theorem low8_64 (x : W) : (x % 256#64).setWidth 8 = x.setWidth 8 := by
  apply BitVec.eq_of_toNat_eq
  simp only [BitVec.toNat_setWidth, BitVec.toNat_umod]
  show x.toNat % 256 % 256 = x.toNat % 256
  omega
theorem div8_64 (x : W) : x / 256#64 = x >>> 8 := by
  apply BitVec.eq_of_toNat_eq
  rw [BitVec.toNat_udiv, BitVec.toNat_ushiftRight, Nat.shiftRight_eq_div_pow]; rfl
theorem sh8_64 (x : W) (a : Nat) : x >>> a >>> 8 = x >>> (a + 8) := by rw [← BitVec.shiftRight_add]
theorem rd_full {α : Type} {f : α → List V} {sz : Nat} (l : List α) (st : St) {n : Nat} (hn : n = l.length) : Rd sz f (.sl .full (rowsOf f l) n) l st := .inl ⟨.full, by rw [hn]⟩
theorem onV_fill {z : List V} {ps : List (Nat × Nat × V)} {cs : List V} {n : Nat} {K : V → St → Prop} {st : St} (h : fillV z ps = some cs) (hk : K (.sl .full cs n) st) : onV ((fillV z ps).map fun cs => .sl .full cs n) K st := by
  rw [h]; exact hk
section
variable {P : Program} {F : Fn}
theorem spec131 (ok : OkRef01 P F) (st : St) : ACalls P (F 131) [] st fun v st' => v = .sl .full (rowsOf e32 shaK) 64 ∧ st' = st := by
  refine shows_call ok.mixed ok.h131 (by simp [k131]) ?_
  simp only [k131]
  simp only [vc_seq, vc_ops, runP_cons0, step_mv, runK_ap, env_put_some, runP_nil, seqK_n, step_bsl, X.ev, List.map_cons, List.map_nil]
  refine onV_fill (cs := rowsOf e32 shaK) rfl ?_
  simp
theorem spec132 (ok : OkRef01 P F) (st : St) (x : W32) (n : Nat) (hn : n < 32) {k : Int} (hk : k = (n : Int)) : ACalls P (F 132) [w32 x, .int .i64 k] st fun v st' => v = w32 (ror x n) ∧ st' = st := by
  subst hk
  refine shows_call ok.mixed ok.h132 (by simp [k132]) ?_
  simp only [k132]
  simp
  rw [← turnM_ror x n hn]
  refine vc_loopJ (fun k env' st' => ∃ i : Nat, i ≤ n ∧ k = n - i ∧ env' 5 = .int .i64 (i : Nat) ∧ env' 0 = w32 (turnM i x) ∧ st' = st) n
    ⟨0, by omega, by omega, rfl, rfl, rfl⟩ ?_
  rintro J hJ k env' st2 hsame ⟨i, hi, rfl, h5, h0, rfl⟩
  have g1 := hsame.get 1 rfl
  simp at g1
  clear hsame
  have w1 : IntKind.i64.wrap ((i : Int) + 1) = (i : Int) + 1 := wrap64 (by omega) (by omega)
  by_cases hlt : i < n
  · have e : turnM (i + 1) x = turnM i x / 2#32 + turnM i x % 2#32 * 2147483648#32 := rfl
    simp [g1, h5, h0, hlt, w1]
    exact Round.mk (n - (i + 1)) _ (by omega) (sub_self _) (hJ _ _ _ ⟨i + 1, by omega, rfl, by simp, by simp [e], rfl⟩)
  · have : i = n := by omega
    subst this
    simp [g1, h5, h0]
theorem spec133 (ok : OkRef01 P F) (st : St) (x : W32) (n : Nat) (hn : n < 32) {k : Int} (hk : k = (n : Int)) : ACalls P (F 133) [w32 x, .int .i64 k] st fun v st' => v = w32 (x >>> n) ∧ st' = st := by
  subst hk
  refine shows_call ok.mixed ok.h133 (by simp [k133]) ?_
  simp only [k133]
  simp
  rw [← lowM_shr x n]
  refine vc_loopJ (fun k env' st' => ∃ i : Nat, i ≤ n ∧ k = n - i ∧ env' 5 = .int .i64 (i : Nat) ∧ env' 0 = w32 (lowM i x) ∧ st' = st) n
    ⟨0, by omega, by omega, rfl, rfl, rfl⟩ ?_
  rintro J hJ k env' st2 hsame ⟨i, hi, rfl, h5, h0, rfl⟩
  have g1 := hsame.get 1 rfl
  simp at g1
  clear hsame
  have w1 : IntKind.i64.wrap ((i : Int) + 1) = (i : Int) + 1 := wrap64 (by omega) (by omega)
  by_cases hlt : i < n
  · have e : lowM (i + 1) x = lowM i x / 2#32 := rfl
    simp [g1, h5, h0, hlt, w1]
    exact Round.mk (n - (i + 1)) _ (by omega) (sub_self _) (hJ _ _ _ ⟨i + 1, by omega, rfl, by simp, by simp [e], rfl⟩)
  · have : i = n := by omega
    subst this
    simp [g1, h5, h0]
end
end Go.Ab
/-
  tallystickref01: Sum and Twice.
-/
set_option linter.unusedSimpArgs false
set_option linter.unusedVariables false
set_option maxRecDepth 10000
namespace Go.Ab
open Go Go.RowKit
theorem hf8 (b : UInt8) : fillV (repV [w8 0] 1) [(0, 1, w8 b)] = some (rowsOf e8 [b]) := rfl
theorem hf32 (b : W32) : fillV (repV [w32 0#32] 1) [(0, 1, w32 b)] = some (rowsOf e32 [b]) := rfl
theorem hs8 (st : St) (b : UInt8) : toStrV st (.sl .full (e8 b) 1) = some (sB [b]) := toStr_sB (.inl ⟨.full, rfl⟩) (by simp)
theorem bv_len (l : List UInt8) : BitVec.ofInt 64 (l.length : Int) = BitVec.ofNat 64 l.length := BitVec.ofInt_natCast ..
theorem tail_down : ∀ q : Fin 8, tailL.drop (8 - (q.val + 1)) = (8 * q.val) :: tailL.drop (8 - q.val) := by decide
def tailR (n q : Nat) : List UInt8 := (tailL.drop (8 - q)).map (tailB n)
theorem tailR_succ (n q : Nat) (h : q < 8) : tailR n (q + 1) = tailB n (8 * q) :: tailR n q := by
  have := tail_down ⟨q, h⟩
  simp only at this
  rw [tailR, this]; rfl
theorem tailR_len (n q : Nat) (h : q ≤ 8) : (tailR n q).length ≤ 100 := by simp [tailR, tailL]; omega
theorem set_back {α : Type} (p r : List α) (z c : α) (j : Nat) : (p ++ List.replicate (j + 1) z ++ r).set (p.length + j) c = p ++ List.replicate j z ++ c :: r := by
  rw [List.replicate_succ', ← List.append_assoc, List.append_assoc (p ++ _), List.set_append_right _ _ (by simp)]
  simp
section
variable {P : Program} {F : Fn}
set_option maxHeartbeats 4000000 in
theorem spec130 (ok : OkRef01 P F) (st : St) (l : List UInt8) (hl : l.length ≤ 100000) : ACalls P (F 130) [sB l] st fun v st' => v = .agg (eId (sha l)) ∧ st' = st := by
  refine shows_call ok.mixed ok.h130 (by simp [k130]) ?_
  simp only [k130]
  have hz : V.str (ByteArray.mk ⟨[]⟩) = sB [] := rfl
  have hz1 : V.str (ByteArray.mk ⟨[128]⟩) = sB [128] := rfl
  have hz2 : V.str (ByteArray.mk ⟨[0]⟩) = sB [0] := rfl
  simp only [hz, hz1, hz2]
  simp
  intro rid hrid
  have S := (Sep.start st).new hrid (.cells zR32_w80)
  generalize st.upd rid _ = st1 at S ⊢
  refine (spec131 ok st1).mono ?_
  rintro v st1 ⟨rfl, rfl⟩
  have a1 := sB_add l [128] (by simp; omega)
  simp [sB_len, a1, bv_len]
  obtain ⟨Z, hZ⟩ : ∃ Z, Z = (119 - l.length % 64) % 64 := ⟨_, rfl⟩
  refine vc_loopJ (fun k env' st' => ∃ z, z ≤ Z ∧ k = Z - z ∧ env' 0 = sB (l ++ 128 :: List.replicate z 0) ∧ st' = st1) Z
    ⟨0, by omega, by omega, rfl, rfl⟩ ?_
  rintro J hJ k env2 st4 hsame ⟨z, hz, rfl, h0, rfl⟩
  have q2 := hsame.get 2 rfl
  have q3 := hsame.get 3 rfl
  have q4 := hsame.get 4 rfl
  simp at q2 q3 q4
  clear hsame
  have hle : (l ++ 128 :: List.replicate z (0 : UInt8)).length = l.length + 1 + z := by simp; omega
  have htm : Int.tmod ((l.length + 1 + z : Nat) : Int) 64 = (((l.length + 1 + z) % 64 : Nat) : Int) := rfl
  obtain ⟨m, hm⟩ : ∃ m, m = l.length + 1 + z := ⟨_, rfl⟩
  obtain ⟨pre, hpre⟩ : ∃ pre, pre = l ++ 128 :: List.replicate z (0 : UInt8) := ⟨_, rfl⟩
  rw [← hpre] at h0 hle
  rw [← hm] at hle htm
  have hlen := sB_len pre
  rw [hle] at hlen
  by_cases h56 : m % 64 = 56
  · have : z = Z := by omega
    subst this
    have h56' : ((m : Int).tmod 64 != 56) = false := by rw [htm, h56]; rfl
    simp [h0, hlen, h56']
    have ha : ∀ (a : List UInt8) (b : UInt8), a.length ≤ 100 → binV .add (sB [b]) (sB a) = some (sB (b :: a)) := fun a b h => sB_add [b] a (by simp; omega)
    clear hJ J
    obtain ⟨N, hN⟩ : ∃ N : W, N = BitVec.ofNat 64 l.length * 8#64 := ⟨_, rfl⟩
    rw [← hN] at q4
    refine vc_loopJ (fun k env' st' => ∃ q, q ≤ 8 ∧ k = 8 - q ∧ env' 6 = .int .i64 (q : Nat) ∧ env' 4 = w64 (N >>> (8 * q)) ∧ env' 5 = sB (tailR l.length q) ∧ st' = st4) 8
      ⟨0, by omega, by omega, rfl, by simp [q4], rfl, rfl⟩ ?_
    rintro J hJ k env3 st5 hsame ⟨q, hq, rfl, h6, h4, h5, rfl⟩
    have r0 := (hsame.get 0 rfl).trans h0
    have r2 := (hsame.get 2 rfl).trans q2
    have r3 := (hsame.get 3 rfl).trans q3
    clear hsame
    have w1 : IntKind.i64.wrap ((q : Int) + 1) = (q : Int) + 1 := wrap64 (by omega) (by omega)
    by_cases hlt8 : q < 8
    · have hlt8' : (q : Int) < 8 := by omega
      have htl := tailR_succ l.length q hlt8
      have hll : (tailR l.length q).length ≤ 100 := tailR_len _ _ hq
      have hb : UInt8.ofBitVec ((N >>> (8 * q)).setWidth 8) = tailB l.length (8 * q) := by rw [tailB, hN]; rfl
      simp [h6, h4, h5, hlt8', w1, hf8, hs8, low8_64, div8_64, sh8_64, hb, ha _ _ hll, htl]
      refine Round.mk (8 - (q + 1)) _ (by omega) (sub_self _) (hJ _ _ _ ⟨q + 1, by omega, rfl, by simp, ?_, ?_, rfl⟩)
      · simp
        congr 2
      · simp [htl]
    · have : q = 8 := by omega
      subst this
      have hpad : pre ++ tailR l.length 8 = padM l := by
        rw [hpre, padM, ← hZ]
        simp only [List.append_assoc, List.cons_append]
        rfl
      have hL : (padM l).length ≤ 200000 := by
        have := tailR_len l.length 8 (by omega)
        rw [← hpad, List.length_append, hle]; omega
      have ha2 := sB_add pre (tailR l.length 8) (by rw [← List.length_append, hpad]; omega)
      rw [hpad] at ha2
      simp [h6, h5, r0, ha2]
      have hiv : fillV (repV [w32 0#32] 8) [(0, 1, w32 1779033703#32), (1, 1, w32 3144134277#32), (2, 1, w32 1013904242#32), (3, 1, w32 2773480762#32), (4, 1, w32 1359893119#32), (5, 1, w32 2600822924#32), (6, 1, w32 528734635#32), (7, 1, w32 1541459225#32)] = some (cells8 iv) := rfl
      simp [hiv]
      intro hid hhid
      have S := S.new hhid (.cells (cells8 iv))
      generalize st5.upd hid _ = st6 at S ⊢
      obtain ⟨L, hLe⟩ : ∃ L, L = padM l := ⟨_, rfl⟩
      obtain ⟨nb, hnb⟩ : ∃ nb, nb = L.length / 64 := ⟨_, rfl⟩
      have hL64 : L.length = 64 * nb := by
        rw [hnb, hLe]
        simp only [padM, List.length_append, List.length_cons, List.length_replicate, List.length_map, List.length_nil]
        omega
      have hsha : shaL l = outV (blocksM nb iv L) := by rw [shaL, ← hLe, ← hnb]
      rw [← hLe] at hL ⊢
      simp
      refine vc_loopJ (fun k env' st' => ∃ b hc, b ≤ nb ∧ k = nb - b ∧ env' 8 = .int .i64 ((64 * b : Nat) : Int) ∧ blocksM (nb - b) hc (L.drop (64 * b)) = blocksM nb iv L ∧ Sep [pt hid (.cells (cells8 hc)), pt rid (.cells zR32_w80), Was st] st') nb
        ⟨0, iv, by omega, by omega, rfl, by simp, S⟩ ?_
      clear S hJ J
      rintro J hJ k env4 st7 hsame ⟨b, hc, hb, rfl, h8, hbl, S⟩
      have t0 := hsame.get 0 rfl
      have t2 := hsame.get 2 rfl
      have t3 := hsame.get 3 rfl
      have t7 := hsame.get 7 rfl
      simp [r2, r3] at t0 t2 t3 t7
      clear hsame
      obtain ⟨at_, hat⟩ : ∃ n, n = 64 * b := ⟨_, rfl⟩
      rw [← hat] at h8 hbl
      by_cases hlt : b < nb
      · have hlt' : (at_ : Int) < L.length := by omega
        simp [t0, h8, sB_len, hlt']
        obtain ⟨blk, hblk⟩ : ∃ blk, blk = (L.drop at_).take 64 := ⟨_, rfl⟩
        have hbkl : blk.length = 64 := by rw [hblk]; simp; omega
        have hbkg : ∀ i (h : i < 64), blk[i] = L[at_ + i] := fun i h => by simp only [hblk]; simp
        obtain ⟨W, hW⟩ : ∃ W, W = words blk := ⟨_, rfl⟩
        have hWl : W.length = 16 := by rw [hW, words_len, hbkl]
        have S : Sep [Sl 1 e32 (.sl .nil [] 0) (W.take 0), pt hid (.cells (cells8 hc)), pt rid (.cells zR32_w80), Was st] st7 := Sep.slNil S
        refine vc_loopJ (fun k env' st' => ∃ i s, i ≤ 16 ∧ k = 16 - i ∧ env' 10 = .int .i64 (i : Nat) ∧ env' 9 = s ∧ Sep [Sl 1 e32 s (W.take i), pt hid (.cells (cells8 hc)), pt rid (.cells zR32_w80), Was st] st') 16
          ⟨0, _, by omega, by omega, by simp, by simp, S⟩ ?_
        clear S
        rintro JA hJA k env5 st8 hsame ⟨i, s, hi, rfl, h10, h9, S⟩
        have u0 := (hsame.get 0 rfl).trans (by simp [t0] : _ = sB L)
        have u2 := (hsame.get 2 rfl).trans (by simp [t2] : _ = V.ptr (some (rid, 0)))
        have u3 := (hsame.get 3 rfl).trans (by simp [t3] : _ = V.sl SK.full (rowsOf e32 shaK) 64)
        have u7 := (hsame.get 7 rfl).trans (by simp [t7] : _ = V.hsl hid 0 1 8)
        have u8 := (hsame.get 8 rfl).trans (by simp [h8] : _ = V.int .i64 (at_ : Int))
        clear hsame
        have wi : IntKind.i64.wrap ((i : Int) + 1) = (i : Int) + 1 := wrap64 (by omega) (by omega)
        by_cases hi16 : i < 16
        · have hi16' : (i : Int) < 16 := by omega
          obtain ⟨q4, hq4⟩ : ∃ q, q = (blk.drop (4 * i)).take 4 := ⟨_, rfl⟩
          have hq4l : q4.length = 4 := by rw [hq4]; simp; omega
          have hq4g : ∀ j (h : j < 4), q4[j] = L[at_ + 4 * i + j]'(by omega) := fun j h => by
            have : q4[j] = blk[4 * i + j] := by simp only [hq4]; simp
            rw [this, hbkg _ (by omega)]
            congr 1
            omega
          simp [h10, hi16']
          refine vc_loopJ (fun k env' st' => ∃ j, j ≤ 4 ∧ k = 4 - j ∧ env' 12 = .int .i64 (j : Nat) ∧ env' 11 = w32 (be4R (q4.take j)) ∧ st' = st8) 4
            ⟨0, by omega, by omega, by simp, by simp [be4R], rfl⟩ ?_
          rintro JB hJB k env6 st9 hsame ⟨j, hj, rfl, h12, h11, rfl⟩
          have v0 := (hsame.get 0 rfl).trans (by simp [u0] : _ = sB L)
          have v8 := (hsame.get 8 rfl).trans (by simp [u8] : _ = V.int .i64 (at_ : Int))
          have v9 := (hsame.get 9 rfl).trans (by simp [h9] : _ = s)
          have v10 := (hsame.get 10 rfl).trans (by simp [h10] : _ = V.int .i64 (i : Int))
          clear hsame
          by_cases hj4 : j < 4
          · have hj4' : (j : Int) < 4 := by omega
            have wj : IntKind.i64.wrap ((j : Int) + 1) = (j : Int) + 1 := wrap64 (by omega) (by omega)
            obtain ⟨x, hx⟩ : ∃ x, x = at_ + 4 * i + j := ⟨_, rfl⟩
            have hxL : x < L.length := by omega
            have b0 : IntKind.i64.wrap (4 * (i : Int)) = 4 * (i : Int) := wrap64 (by omega) (by omega)
            have b1 : IntKind.i64.wrap ((at_ : Int) + 4 * (i : Int)) = (at_ : Int) + 4 * (i : Int) := wrap64 (by omega) (by omega)
            have b2 : IntKind.i64.wrap ((at_ : Int) + 4 * (i : Int) + (j : Int)) = (x : Int) := by rw [wrap64 (by omega) (by omega)]; omega
            have hix := sB_idx L .i64 hxL
            have hst : be4R (q4.take (j + 1)) = be4R (q4.take j) * 256#32 + L[x].toBitVec.setWidth 32 := by
              have e : q4[j] = L[x] := by rw [hq4g j hj4]; congr 1; omega
              rw [List.take_succ_eq_append_getElem (by omega), be4R, List.foldl_append, e]; rfl
            simp [v0, v8, v10, h11, h12, hj4', b0, b1, b2, hix, wj]
            exact Round.mk (4 - (j + 1)) _ (by omega) (sub_self _) (hJB _ _ _ ⟨j + 1, by omega, rfl, by simp, by simp [hst], rfl⟩)
          · have : j = 4 := by omega
            subst this
            have hwd : be4R (q4.take 4) = W[i] := by
              have e1 : q4 = [q4[0], q4[1], q4[2], q4[3]] := by
                apply List.ext_getElem
                · simp [hq4l]
                · intro n h1 h2
                  have : n = 0 ∨ n = 1 ∨ n = 2 ∨ n = 3 := by omega
                  rcases this with rfl | rfl | rfl | rfl <;> rfl
              have e2 : ∀ j (h : j < 4), q4[j] = blk[4 * i + j] := fun j h => by simp only [hq4]; simp
              have e3 := words_get blk i (by omega)
              have e4 : W[i] = (words blk)[i]'(by rw [words_len]; omega) := by simp only [hW]
              rw [List.take_of_length_le (by omega), e4, e3, e1, be4R_eq, e2 0 (by omega), e2 1 (by omega), e2 2 (by omega), e2 3 (by omega)]
              rfl
            simp [v9, h12, h11, hf32]
            have hel : elems st9 1 (.sl .full (e32 (be4R (q4.take 4))) 1) = some (e32 (be4R (q4.take 4)), 1) := rfl
            rw [hel]
            refine Sep.app1 e32_len (by omega) S (a := W[i]) (by rw [hwd]) (by simp; omega) ?_
            intro s' st10 S
            simp [v10, wi]
            refine Round.mk (16 - (i + 1)) _ (by omega) (sub_self _) (hJA _ _ _ ⟨i + 1, s', by omega, rfl, by simp, by simp, ?_⟩)
            rw [List.take_succ_eq_append_getElem (by omega)]
            exact S
        · have : i = 16 := by omega
          subst this
          rw [List.take_of_length_le (by omega)] at S
          simp [h10]
          have S : Sep [Sl 1 e32 s (sched W 0), pt hid (.cells (cells8 hc)), pt rid (.cells zR32_w80), Was st] st8 := S
          refine vc_loopJ (fun k env' st' => ∃ m s, 16 ≤ m ∧ m ≤ 64 ∧ k = 64 - m ∧ env' 13 = .int .i64 (m : Nat) ∧ env' 9 = s ∧ Sep [Sl 1 e32 s (sched W (m - 16)), pt hid (.cells (cells8 hc)), pt rid (.cells zR32_w80), Was st] st') 48
            ⟨16, _, by omega, by omega, by omega, by simp, by simp [h9], S⟩ ?_
          clear S
          rintro JB hJB k env6 st9 hsame ⟨m, s2, hm16, hm64, rfl, h13, h9, S⟩
          have v0 := (hsame.get 0 rfl).trans (by simp [u0] : _ = sB L)
          have v2 := (hsame.get 2 rfl).trans (by simp [u2] : _ = V.ptr (some (rid, 0)))
          have v3 := (hsame.get 3 rfl).trans (by simp [u3] : _ = V.sl SK.full (rowsOf e32 shaK) 64)
          have v7 := (hsame.get 7 rfl).trans (by simp [u7] : _ = V.hsl hid 0 1 8)
          have v8 := (hsame.get 8 rfl).trans (by simp [u8] : _ = V.int .i64 (at_ : Int))
          clear hsame
          by_cases hm : m < 64
          · have hm' : (m : Int) < 64 := by omega
            obtain ⟨X, hX⟩ : ∃ X, X = sched W (m - 16) := ⟨_, rfl⟩
            have hXl : X.length = m := by rw [hX, sched_len, hWl]; omega
            obtain ⟨m15, e15⟩ : ∃ a, a + 15 = m := ⟨m - 15, by omega⟩
            obtain ⟨m2, e2⟩ : ∃ a, a + 2 = m := ⟨m - 2, by omega⟩
            obtain ⟨m16, e16⟩ : ∃ a, a + 16 = m := ⟨m - 16, by omega⟩
            obtain ⟨m7, e7⟩ : ∃ a, a + 7 = m := ⟨m - 7, by omega⟩
            have b15 : IntKind.i64.wrap ((m : Int) - 15) = (m15 : Int) := by rw [wrap64 (by omega) (by omega)]; omega
            have b2 : IntKind.i64.wrap ((m : Int) - 2) = (m2 : Int) := by rw [wrap64 (by omega) (by omega)]; omega
            have b16 : IntKind.i64.wrap ((m : Int) - 16) = (m16 : Int) := by rw [wrap64 (by omega) (by omega)]; omega
            have b7 : IntKind.i64.wrap ((m : Int) - 7) = (m7 : Int) := by rw [wrap64 (by omega) (by omega)]; omega
            have w1 : IntKind.i64.wrap ((m : Int) + 1) = (m : Int) + 1 := wrap64 (by omega) (by omega)
            rw [← hX] at S
            have rd := Sep.rd e32_len S
            obtain ⟨p15, hp15, hl15⟩ := rd.idx e32_len (i := m15) (by omega) .i64
            obtain ⟨p2, hp2, hl2⟩ := rd.idx e32_len (i := m2) (by omega) .i64
            obtain ⟨p16, hp16, hl16⟩ := rd.idx e32_len (i := m16) (by omega) .i64
            obtain ⟨p7, hp7, hl7⟩ := rd.idx e32_len (i := m7) (by omega) .i64
            obtain ⟨x15, hx15⟩ : ∃ x, x = X[m15] := ⟨_, rfl⟩
            obtain ⟨x2, hx2⟩ : ∃ x, x = X[m2] := ⟨_, rfl⟩
            obtain ⟨x16, hx16⟩ : ∃ x, x = X[m16] := ⟨_, rfl⟩
            obtain ⟨x7, hx7⟩ : ∃ x, x = X[m7] := ⟨_, rfl⟩
            rw [← hx15] at hl15
            rw [← hx2] at hl2
            rw [← hx16] at hl16
            rw [← hx7] at hl7
            have hnw : nextW X = x16 + (ror x15 7 ^^^ ror x15 18 ^^^ x15 >>> 3) + x7 + (ror x2 17 ^^^ ror x2 19 ^^^ x2 >>> 10) := by
              have hD : ∀ j (hj : j < X.length), X.getD j 0 = X[j] := fun j hj => by
                rw [List.getD_eq_getElem?_getD, List.getElem?_eq_getElem hj]; rfl
              rw [nextW, hXl, show m - 16 = m16 by omega, show m - 15 = m15 by omega, show m - 7 = m7 by omega, show m - 2 = m2 by omega, hD _ (by omega), hD _ (by omega), hD _ (by omega), hD _ (by omega), ← hx15, ← hx2, ← hx16, ← hx7]
              rfl
            simp [h13, h9, hm', b15, b2, b16, b7, hp15, hp2, hp16, hp7, hl15, hl2, hl16, hl7, e32]
            refine ⟨_, spec132 ok st9 x15 7 (by omega) rfl, ?_⟩
            simp [hl15, e32]
            refine ⟨_, spec132 ok st9 x15 18 (by omega) rfl, ?_⟩
            simp [hl15, e32]
            refine ⟨_, spec133 ok st9 x15 3 (by omega) rfl, ?_⟩
            simp [h13, h9, hm', b15, b2, b16, b7, hp15, hp2, hp16, hp7, hl15, hl2, hl16, hl7, e32]
            refine ⟨_, spec132 ok st9 x2 17 (by omega) rfl, ?_⟩
            simp [hl2, e32]
            refine ⟨_, spec132 ok st9 x2 19 (by omega) rfl, ?_⟩
            simp [hl2, e32]
            refine ⟨_, spec133 ok st9 x2 10 (by omega) rfl, ?_⟩
            simp [h13, h9, b15, b2, b16, b7, hp15, hp2, hp16, hp7, hl15, hl2, hl16, hl7, e32, ← hnw, hf32]
            have hel : elems st9 1 (.sl .full [w32 (nextW X)] 1) = some (e32 (nextW X), 1) := rfl
            simp [hel]
            refine Sep.app1 e32_len (by omega) S (a := nextW X) rfl (by omega) ?_
            intro s' st10 S
            simp [h13, w1]
            refine Round.mk (64 - (m + 1)) _ (by omega) (sub_self _) (hJB _ _ _ ⟨m + 1, s', by omega, by omega, rfl, by simp, by simp, ?_⟩)
            rw [show m + 1 - 16 = (m - 16) + 1 by omega, sched, ← hX]
            exact S
          · have : m = 64 := by omega
            subst this
            obtain ⟨X, hX⟩ : ∃ X, X = sched W 48 := ⟨_, rfl⟩
            have hXl : X.length = 64 := by rw [hX, sched_len, hWl]
            rw [show 64 - 16 = 48 from rfl, ← hX] at S
            have oh := S.mem (i := hid) (o := .cells (cells8 hc)) (by simp)
            have hel : elems st9 1 (.hsl hid 0 1 8) = some (cells8 hc, 8) := by
              have : segOf (cells8 hc) 0 8 = some (cells8 hc) := rfl
              simp [elems, St.seg, oh, this]
            simp [h13, v7, fillV, repV, hel]
            refine app_nil _ _ (.inr rfl) (by omega) (by omega) ?_
            intro vid hvid
            have S := S.new hvid (.cells (cells8 hc))
            generalize st9.upd vid _ = st10 at S ⊢
            simp
            have S : Sep [Rd 1 e32 (.hsl vid 0 1 8) hc.list, Sl 1 e32 s2 X, pt hid (.cells (cells8 hc)), pt rid (.cells zR32_w80), Was st] st10 := S.head fun h hh => .inr ⟨vid, 0, rfl, by
              simp only [St.seg, show h vid = some (.cells (cells8 hc)) from hh]
              rfl⟩
            clear hJA JA hJB JB
            refine vc_loopJ (fun k env' st' => ∃ i sv, i ≤ 64 ∧ k = 64 - i ∧ env' 17 = .int .i64 (i : Nat) ∧ env' 16 = sv ∧ Sep [Rd 1 e32 sv (rnds (shaK.take i) (X.take i) hc).list, Sl 1 e32 s2 X, pt hid (.cells (cells8 hc)), pt rid (.cells zR32_w80), Was st] st') 64
              ⟨0, _, by omega, by omega, by simp, by simp, S⟩ ?_
            clear S
            rintro JC hJC k env7 st11 hsame ⟨i, sv, hi, rfl, h17, h16, S⟩
            have x0 := (hsame.get 0 rfl).trans (by simp [v0] : _ = sB L)
            have x2 := (hsame.get 2 rfl).trans (by simp [v2] : _ = V.ptr (some (rid, 0)))
            have x3 := (hsame.get 3 rfl).trans (by simp [v3] : _ = V.sl SK.full (rowsOf e32 shaK) 64)
            have x7 := (hsame.get 7 rfl).trans (by simp [v7] : _ = V.hsl hid 0 1 8)
            have x8 := (hsame.get 8 rfl).trans (by simp [v8] : _ = V.int .i64 (at_ : Int))
            have x9 := (hsame.get 9 rfl).trans (by simp [h9] : _ = s2)
            clear hsame
            have wi : IntKind.i64.wrap ((i : Int) + 1) = (i : Int) + 1 := wrap64 (by omega) (by omega)
            obtain ⟨v, hv⟩ : ∃ v, v = rnds (shaK.take i) (X.take i) hc := ⟨_, rfl⟩
            rw [← hv] at S
            have rv := Sep.rdOf S
            have hvl : v.list.length = 8 := rfl
            by_cases hi64 : i < 64
            · have hi64' : (i : Int) < 64 := by omega
              obtain ⟨pK, hpK, hlK⟩ := (rd_full (f := e32) (sz := 1) shaK st11 (n := 64) rfl).idx e32_len (i := i) hi64 .i64
              obtain ⟨pX, hpX, hlX⟩ := (Sep.rd e32_len S.drop).idx e32_len (i := i) (by omega) .i64
              obtain ⟨p0, hp0, hl0⟩ := rv.idx e32_len (i := 0) (by omega) .i64
              obtain ⟨p1, hp1, hl1⟩ := rv.idx e32_len (i := 1) (by omega) .i64
              obtain ⟨p2, hp2, hl2⟩ := rv.idx e32_len (i := 2) (by omega) .i64
              obtain ⟨p3, hp3, hl3⟩ := rv.idx e32_len (i := 3) (by omega) .i64
              obtain ⟨p4, hp4, hl4⟩ := rv.idx e32_len (i := 4) (by omega) .i64
              obtain ⟨p5, hp5, hl5⟩ := rv.idx e32_len (i := 5) (by omega) .i64
              obtain ⟨p6, hp6, hl6⟩ := rv.idx e32_len (i := 6) (by omega) .i64
              obtain ⟨p7, hp7, hl7⟩ := rv.idx e32_len (i := 7) (by omega) .i64
              have hl0 : ldCells st11 1 p0 = some [w32 v.a] := hl0
              have hl1 : ldCells st11 1 p1 = some [w32 v.b] := hl1
              have hl2 : ldCells st11 1 p2 = some [w32 v.c] := hl2
              have hl3 : ldCells st11 1 p3 = some [w32 v.d] := hl3
              have hl4 : ldCells st11 1 p4 = some [w32 v.e] := hl4
              have hl5 : ldCells st11 1 p5 = some [w32 v.f] := hl5
              have hl6 : ldCells st11 1 p6 = some [w32 v.g] := hl6
              have hl7 : ldCells st11 1 p7 = some [w32 v.h] := hl7
              have hp0 : idxSlV 1 sv (.int .i64 0) = some p0 := hp0
              have hp1 : idxSlV 1 sv (.int .i64 1) = some p1 := hp1
              have hp2 : idxSlV 1 sv (.int .i64 2) = some p2 := hp2
              have hp3 : idxSlV 1 sv (.int .i64 3) = some p3 := hp3
              have hp4 : idxSlV 1 sv (.int .i64 4) = some p4 := hp4
              have hp5 : idxSlV 1 sv (.int .i64 5) = some p5 := hp5
              have hp6 : idxSlV 1 sv (.int .i64 6) = some p6 := hp6
              have hp7 : idxSlV 1 sv (.int .i64 7) = some p7 := hp7
              obtain ⟨kK, hkK⟩ : ∃ x, x = shaK[i]'hi64 := ⟨_, rfl⟩
              obtain ⟨xX, hxX⟩ : ∃ x, x = X[i]'(by omega) := ⟨_, rfl⟩
              rw [← hkK] at hlK
              rw [← hxX] at hlX
              have hrn : rnds (shaK.take (i + 1)) (X.take (i + 1)) hc = rnd v kK xX := by
                rw [List.take_succ_eq_append_getElem hi64, List.take_succ_eq_append_getElem (show i < X.length by omega), rnds_snoc _ _ _ _ _ (by rw [List.length_take, List.length_take, hXl]; rfl), ← hv, ← hkK, ← hxX]
              simp [h17, h16, hi64', hp4, hl4]
              refine ⟨_, spec132 ok st11 v.e 6 (by omega) rfl, ?_⟩
              simp [hl4]
              refine ⟨_, spec132 ok st11 v.e 11 (by omega) rfl, ?_⟩
              simp [hl4]
              refine ⟨_, spec132 ok st11 v.e 25 (by omega) rfl, ?_⟩
              have hb1 : ror v.e 6 ^^^ ror v.e 11 ^^^ ror v.e 25 = bg1 v.e := rfl
              simp [h16, h17, x3, x9, hb1, hp0, hp1, hp2, hp3, hp4, hp5, hp6, hp7, hpK, hpX, hl0, hl1, hl2, hl3, hl4, hl5, hl6, hl7, hlK, hlX, e32, not_sub]
              refine ⟨_, spec132 ok st11 v.a 2 (by omega) rfl, ?_⟩
              simp [hl0]
              refine ⟨_, spec132 ok st11 v.a 13 (by omega) rfl, ?_⟩
              simp [hl0]
              refine ⟨_, spec132 ok st11 v.a 22 (by omega) rfl, ?_⟩
              have hb0 : ror v.a 2 ^^^ ror v.a 13 ^^^ ror v.a 22 = bg0 v.a := rfl
              simp [h16, h17, hb0, hp0, hp1, hp2, hp3, hp4, hp5, hp6, hp7, hl0, hl1, hl2, hl3, hl4, hl5, hl6, hl7, e32, not_sub]
              rw [← BitVec.add_assoc (v.h + bg1 v.e + (v.e &&& v.f ^^^ ~~~v.e &&& v.g) + kK + xX) (bg0 v.a) _]
              refine onV_fill (cs := rowsOf e32 (rnd v kK xX).list) rfl ?_
              simp [h17, wi]
              refine Round.mk (64 - (i + 1)) _ (by omega) (sub_self _) (hJC _ _ _ ⟨i + 1, _, by omega, rfl, by simp, rfl, ?_⟩)
              rw [hrn]
              exact S.drop.put (.inl ⟨.full, by simp; rfl⟩)
            · have : i = 64 := by omega
              subst this
              have hv2 : v = rnds shaK X hc := by rw [hv, List.take_of_length_le (show shaK.length ≤ 64 from Nat.le_refl _), List.take_of_length_le (by omega)]
              have S : Sep [pt hid (.cells ((addL hc.list v.list 0).map w32)), Rd 1 e32 sv v.list, pt rid (.cells zR32_w80), Was st] st11 := (Sep.tail (fun r hr => hr.drop) S).swap
              simp [h17]
              clear hJC JC
              refine vc_loopJ (fun k env' st' => ∃ i, i ≤ 8 ∧ k = 8 - i ∧ env' 22 = .int .i64 (i : Nat) ∧ Sep [pt hid (.cells ((addL hc.list v.list i).map w32)), Rd 1 e32 sv v.list, pt rid (.cells zR32_w80), Was st] st') 8
                ⟨0, by omega, by omega, by simp, S⟩ ?_
              clear S
              rintro JD hJD k env8 st12 hsame ⟨i, hi, rfl, h22, S⟩
              have y2 := (hsame.get 2 rfl).trans (by simp [x2] : _ = V.ptr (some (rid, 0)))
              have y0 := (hsame.get 0 rfl).trans (by simp [x0] : _ = sB L)
              have y3 := (hsame.get 3 rfl).trans (by simp [x3] : _ = V.sl SK.full (rowsOf e32 shaK) 64)
              have y7 := (hsame.get 7 rfl).trans (by simp [x7] : _ = V.hsl hid 0 1 8)
              have y8 := (hsame.get 8 rfl).trans (by simp [x8] : _ = V.int .i64 (at_ : Int))
              have y16 := (hsame.get 16 rfl).trans (by simp [h16] : _ = sv)
              clear hsame
              have wi : IntKind.i64.wrap ((i : Int) + 1) = (i : Int) + 1 := wrap64 (by omega) (by omega)
              by_cases hi8 : i < 8
              · have hi8' : (i : Int) < 8 := by omega
                have hih : i < hc.list.length := hi8
                have hiv8 : i < v.list.length := hi8
                have hll : (addL hc.list v.list i).length = 8 := addL_len _ _ _
                obtain ⟨p, hp, hl⟩ := (Sep.rdOf S.drop).idx e32_len (i := i) (show i < v.list.length from hi8) .i64
                have rr := arr_read (f := w32) S.get (i := i) (by omega)
                rw [addL_get _ _ i i (show i < hc.list.length from hi8) (Nat.le_refl _)] at rr
                have hst := arr_store (f := w32) S.get (i := i) (by omega) (x := hc.list[i]'hih + v.list[i]'hiv8) (v := w32 (hc.list[i]'hih + v.list[i]'hiv8)) rfl
                have hset : (addL hc.list v.list i).set i (hc.list[i]'hih + v.list[i]'hiv8) = addL hc.list v.list (i + 1) := by
                  rw [addL, List.getD_eq_getElem?_getD, List.getD_eq_getElem?_getD, List.getElem?_eq_getElem (show i < hc.list.length from hi8), List.getElem?_eq_getElem (show i < v.list.length from hi8)]; rfl
                rw [hset] at hst
                have T := S.set (.cells ((addL hc.list v.list (i + 1)).map w32))
                simp [h22, hi8', y7, y16, hp, hl, rr, e32, hst, wi]
                exact Round.mk (8 - (i + 1)) _ (by omega) (sub_self _) (hJD _ _ _ ⟨i + 1, by omega, rfl, by simp, T⟩)
              · have : i = 8 := by omega
                subst this
                have e : (addL hc.list v.list 8).map w32 = cells8 (addV hc v) := rfl
                rw [e] at S
                have w64' : IntKind.i64.wrap ((at_ : Int) + 64) = ((64 * (b + 1) : Nat) : Int) := by rw [wrap64 (by omega) (by omega)]; omega
                simp [h22, y8, w64']
                refine Round.mk (nb - (b + 1)) _ (by omega) (sub_self _) (hJ _ _ _ ⟨b + 1, addV hc v, by omega, rfl, by simp, ?_, S.swap.drop⟩)
                have e2 : nb - b = (nb - (b + 1)) + 1 := by omega
                rw [e2, blocksM, ← hblk, List.drop_drop] at hbl
                rw [show 64 * (b + 1) = at_ + 64 by omega, ← hbl, hv2, hX, hW]
                rfl
      · have : b = nb := by omega
        subst this
        rw [Nat.sub_self] at hbl
        have hbl : hc = blocksM b iv L := hbl
        simp [t0, h8, sB_len, hL64, ← hat]
        have hz : fillV zR32_w80 [] = some zR32_w80 := rfl
        have hsz : spliceV zR32_w80 0 zR32_w80 = zR32_w80 := rfl
        simp [hz]
        intro oid hoid
        have S := S.new hoid (.cells zR32_w80)
        simp [storeS, hsz]
        generalize st7.upd oid _ = st8 at S ⊢
        rw [zR32_rep] at S
        refine vc_loopJ (fun k env' st' => ∃ i, i ≤ 8 ∧ k = 8 - i ∧ env' 24 = .int .i64 (i : Nat) ∧ Sep [pt oid (.cells (((hc.list.take i).flatMap out4 ++ List.replicate (4 * (8 - i)) (0 : UInt8)).map w8)), pt hid (.cells (cells8 hc)), pt rid (.cells (zR32_w80)), Was st] st') 8
          ⟨0, by omega, by omega, rfl, S⟩ ?_
        clear S hJ J
        rintro J hJ k env5 st9 hsame ⟨i, hi, rfl, h24, S⟩
        have u2 := (hsame.get 2 rfl).trans (by simp [t2] : _ = V.ptr (some (rid, 0)))
        have u7 := (hsame.get 7 rfl).trans (by simp [t7] : _ = V.hsl hid 0 1 8)
        have u23 := (hsame.get 23 rfl).trans (by simp : _ = V.ptr (some (oid, 0)))
        clear hsame
        by_cases hi8 : i < 8
        · have hi8' : (i : Int) < 8 := by omega
          have wi : IntKind.i64.wrap ((i : Int) + 1) = (i : Int) + 1 := wrap64 (by omega) (by omega)
          have hih : i < hc.list.length := hi8
          obtain ⟨x, hx⟩ : ∃ x, x = hc.list[i] := ⟨_, rfl⟩
          have rr := arr_read (f := w32) (xs := hc.list) S.swap.get hih
          rw [← hx] at rr
          obtain ⟨p, hp⟩ : ∃ p, p = (hc.list.take i).flatMap out4 := ⟨_, rfl⟩
          have hpl : p.length = 4 * i := by
            rw [hp]
            have : i = 0 ∨ i = 1 ∨ i = 2 ∨ i = 3 ∨ i = 4 ∨ i = 5 ∨ i = 6 ∨ i = 7 := by omega
            rcases this with rfl | rfl | rfl | rfl | rfl | rfl | rfl | rfl <;> rfl
          have hpn : (hc.list.take (i + 1)).flatMap out4 = p ++ out4 x := by
            rw [List.take_succ_eq_append_getElem hih, List.flatMap_append, ← hp, ← hx]
            simp
          have S : Sep [pt oid (.cells ((p ++ List.replicate 4 0 ++ ((out4 x).drop 4 ++ List.replicate (4 * (7 - i)) (0 : UInt8))).map w8)), pt hid (.cells (cells8 hc)), pt rid (.cells (zR32_w80)), Was st] st9 := by
            rw [← hp, show 4 * (8 - i) = 4 + 4 * (7 - i) by omega, ← List.replicate_append_replicate] at S
            rw [List.append_assoc]
            exact S
          simp [h24, hi8', u7, rr]
          refine vc_loopJ (fun k env' st' => ∃ j, j ≤ 4 ∧ k = j ∧ env' 26 = .int .i64 ((j : Nat) - 1 : Int) ∧ env' 25 = w32 (x >>> (8 * (4 - j))) ∧ Sep [pt oid (.cells ((p ++ List.replicate j 0 ++ ((out4 x).drop j ++ List.replicate (4 * (7 - i)) (0 : UInt8))).map w8)), pt hid (.cells (cells8 hc)), pt rid (.cells (zR32_w80)), Was st] st') 4
            ⟨4, by omega, by omega, by simp, by simp, S⟩ ?_
          clear S
          rintro JE hJE k env6 st10 hsame ⟨j, hj, rfl, h26, h25, S⟩
          have v2 := (hsame.get 2 rfl).trans (by simp [u2] : _ = V.ptr (some (rid, 0)))
          have v7 := (hsame.get 7 rfl).trans (by simp [u7] : _ = V.hsl hid 0 1 8)
          have v23 := (hsame.get 23 rfl).trans (by simp [u23] : _ = V.ptr (some (oid, 0)))
          have v24 := (hsame.get 24 rfl).trans (by simp [h24] : _ = V.int .i64 (i : Int))
          clear hsame
          cases k with
          | zero =>
            simp [h26, v24, wi]
            refine Round.mk (8 - (i + 1)) _ (by omega) (sub_self _) (hJ _ _ _ ⟨i + 1, by omega, rfl, by simp, ?_⟩)
            rw [hpn, show 8 - (i + 1) = 7 - i by omega]
            simpa using S
          | succ j =>
            have h26 : env6 26 = .int .i64 (j : Int) := by rw [h26]; congr 1; omega
            have b0 : IntKind.i64.wrap (4 * (i : Int)) = 4 * (i : Int) := wrap64 (by omega) (by omega)
            obtain ⟨y, hy⟩ : ∃ y, y = 4 * i + j := ⟨_, rfl⟩
            have b1 : IntKind.i64.wrap (4 * (i : Int) + (j : Int)) = (y : Int) := by rw [wrap64 (by omega) (by omega)]; omega
            have b2 : IntKind.i64.wrap ((j : Int) - 1) = (j : Int) - 1 := wrap64 (by omega) (by omega)
            have a0 := idxArr_ptr 32 oid (z := (y : Int)) (j := y) (by omega) (by omega)
            obtain ⟨c, hc'⟩ : ∃ c, c = UInt8.ofBitVec ((x >>> (8 * (4 - (j + 1)))).setWidth 8) := ⟨_, rfl⟩
            have hod : (out4 x).drop j = c :: (out4 x).drop (j + 1) := by
              rw [hc']
              have : j = 0 ∨ j = 1 ∨ j = 2 ∨ j = 3 := by omega
              rcases this with rfl | rfl | rfl | rfl <;> simp [out4]
            have hset := set_back p ((out4 x).drop (j + 1) ++ List.replicate (4 * (7 - i)) (0 : UInt8)) 0 c j
            rw [hpl, ← hy, ← List.cons_append, ← hod] at hset
            have hst := arr_store (f := w8) S.get (i := y) (by simp; omega) (x := c) (v := w8 c) rfl
            have S := S.set (.cells (((p ++ List.replicate (j + 1) 0 ++ ((out4 x).drop (j + 1) ++ List.replicate (4 * (7 - i)) (0 : UInt8))).set y c).map w8))
            rw [hset] at hst S
            obtain ⟨ys, hys⟩ : ∃ ys, ys = p ++ List.replicate j 0 ++ ((out4 x).drop j ++ List.replicate (4 * (7 - i)) (0 : UInt8)) := ⟨_, rfl⟩
            rw [← hys] at hst S
            have hsh : x >>> (8 * (4 - (j + 1))) / 256#32 = x >>> (8 * (4 - j)) := by
              rw [div256]; congr 1; omega
            have hlo : (x >>> (8 * (4 - (j + 1))) % 256#32).setWidth 8 = (x >>> (8 * (4 - (j + 1)))).setWidth 8 := low8 _
            have hj0 : (0 : Int) ≤ (j : Int) := by omega
            generalize 4 - (j + 1) = sh at h25 hc' hsh hlo
            simp [h26, h25, v23, v24, b0, b1, b2, a0, hsh, hlo, ← hc', hst]
            exact Round.mk j _ (by omega) (sub_self _) (hJE _ _ _ ⟨j, by omega, rfl, by simp, by simp, by rw [← hys]; exact S⟩)
        · have : i = 8 := by omega
          subst this
          have oo := S.get
          have e : ((hc.list.take 8).flatMap out4 ++ List.replicate (4 * (8 - 8)) (0 : UInt8)).map w8 = eId (sha l) := by
            have : eId (sha l) = (shaL l).map w8 := rfl
            rw [this, hsha, ← hbl]
            rfl
          rw [e] at oo
          have orr := S.mem (i := rid) (o := .cells zR32_w80) (by simp)
          have hst := store_z32 orr (sha l)
          have sgi := segId0 (sha l)
          have T := S.setAt (.cells (eId (sha l))) 2 rfl
          simp [u2, u23, h24, St.seg, oo, sgi, hst]
          exact T.was' (by simp)
  · have h56' : ((m : Int).tmod 64 != 56) = true := by
      rw [htm]
      simp; omega
    have hzZ : z < Z := by omega
    have ha := sB_add pre [0] (by simp; omega)
    simp [h0, hlen, h56', ha]
    refine Round.mk (Z - (z + 1)) _ (by omega) (sub_self _) (hJ _ _ _ ⟨z + 1, by omega, rfl, ?_, rfl⟩)
    rw [hpre, List.replicate_succ']
    simp
/-- Twice -/
theorem spec134 (ok : OkRef01 P F) (st : St) (l : List UInt8) (hl : l.length ≤ 100000) : ACalls P (F 134) [sB l] st fun v st' => v = .agg (eId (sha2 l)) ∧ st' = st := by
  refine shows_call ok.mixed ok.h134 (by simp [k134]) ?_
  simp only [k134]
  simp
  intro rid hrid
  have S := (Sep.start st).new hrid (.cells zR32_w80)
  generalize st.upd rid _ = st1 at S ⊢
  refine (spec130 ok st1 l hl).mono ?_
  rintro v st1 ⟨rfl, rfl⟩
  simp
  intro iid hiid
  have S := S.new hiid (.cells zR32_w80)
  obtain ⟨x, hx⟩ : ∃ x, x = sha l := ⟨_, rfl⟩
  rw [← hx]
  have S1 := S.set (.cells (eId x))
  have hst := store_z32 S.get x
  generalize st1.upd iid (.cells zR32_w80) = st2 at S S1 hst ⊢
  simp [hst]
  generalize st2.upd iid (.cells (eId x)) = st3 at S1 ⊢
  have o := S1.get
  have S2 := S1.set (.ro (eId x))
  simp [frzP, frzV, frzOb, o]
  generalize st3.upd iid (.ro (eId x)) = st4 at S2 ⊢
  have hseg := segId0 x
  have htk : List.take 32 (eId x) = rowsOf e8 x.toList := by
    rw [← eId_rows, List.take_of_length_le (by rw [eId_len]; omega)]
  have hts : toStrV st4 (.sl .full (rowsOf e8 x.toList) 32) = some (sB x.toList) := toStr_sB (.inl ⟨.full, by simp⟩) (by simp)
  simp [slArrV, bounds, hseg, htk, hts]
  refine (spec130 ok st4 x.toList (by simp)).mono ?_
  rintro v st4 ⟨rfl, rfl⟩
  have hr : st4 rid = some (.cells zR32_w80) := S2.mem (by simp)
  have hst := store_z32 hr (sha x.toList)
  have T := S2.setAt (.cells (eId (sha x.toList))) 1 rfl
  have hsg := segId0 (sha x.toList)
  simp [hst, St.seg, hsg]
  refine ⟨T.was' (by simp), ?_⟩
  rw [hx, sha2, sha_list]
end
end Go.Ab
/-
  tallystickref05: is a header proved.
-/
set_option linter.unusedSimpArgs false
set_option linter.unusedVariables false
set_option maxRecDepth 10000
namespace Go.Ab
open Go Go.RowKit
section
variable {P : Program} {F : Fn}
theorem tgtB_cases {b : W32} {v : V} (h : TgtB b v) : (tgt b = none ∧ v = .tup [.sl .nil [] 0, .bool false]) ∨ ∃ t k l, tgt b = some t ∧ v = .tup [slK_ k l, .bool true] ∧ valB l = t ∧ l.length ≤ 3000 := by
  unfold TgtB at h
  cases e : tgt b with
  | none => rw [e] at h; exact .inl ⟨rfl, h⟩
  | some t =>
    rw [e] at h
    obtain ⟨k, l, h1, h2, h3⟩ := h
    exact .inr ⟨t, k, l, rfl, h1, h2, h3⟩
set_option maxHeartbeats 1000000 in
theorem spec153 (ok : OkRef05 P F) (st : St) (h : Hdr) (limit : W32) : ACalls P (F 153) [.agg (eHdr h), w32 limit] st fun v st' => v = .int .i64 (provedN h limit) ∧ st' = st := by
  have okr := ok.toOkRef02
  have ok1 := ok.toOkRef01
  refine shows_call ok.mixed ok.h153 (by simp [k153]) ?_
  simp only [k153]
  simp
  intro i2 h2
  have S := (Sep.start st).new h2 (.cells (eHdr h))
  generalize st.upd i2 _ = st1 at S ⊢
  have o2 := S.get
  have sub : St.sub st st1 := S.was' (by simp)
  simp [St.seg, o2, hsegBits]
  refine (spec146 ok st1 h.bits).mono ?_
  rintro v st1 ⟨hT, rfl⟩
  rcases tgtB_cases hT with ⟨e1, rfl⟩ | ⟨t, k, l, e1, rfl, hv, hll⟩
  · have e : provedN h limit = 30 := by simp [provedN, e1]
    simp
    refine (spec146 ok st1 limit).mono ?_
    rintro v st1 ⟨hT2, rfl⟩
    rcases tgtB_cases hT2 with ⟨e2, rfl⟩ | ⟨t2, k2, l2, e2, rfl, hv2, hll2⟩
    · simp [e, sub]
    · simp [e, sub]
  · simp
    refine (spec146 ok st1 limit).mono ?_
    rintro v st1 ⟨hT2, rfl⟩
    rcases tgtB_cases hT2 with ⟨e2, rfl⟩ | ⟨t2, k2, l2, e2, rfl, hv2, hll2⟩
    · have e : provedN h limit = 30 := by simp [provedN, e1, e2]
      simp [e, sub]
    · have e : provedN h limit = if t2 < t then 30 else if t < idN (hId h) then 50 else 0 := by simp [provedN, e1, e2]
      simp
      refine (spec125 okr (rd_slK k2 l2 st1) (rd_slK k l st1) (by omega) (by omega)).mono ?_
      rintro v st1 ⟨rfl, rfl⟩
      rw [hv, hv2]
      by_cases hl : t2 < t
      · simp [hl, e, sub]
      · simp [hl, e, St.seg, o2, hsegAll]
        refine (spec151 ok st1 h).mono ?_
        rintro v st1 ⟨rfl, rfl⟩
        simp
        refine (spec134 ok1 st1 (hBytes h) (by rw [hBytes_len]; omega)).mono ?_
        rintro v st1 ⟨rfl, rfl⟩
        simp
        have hid : sha2 (hBytes h) = hId h := rfl
        rw [hid]
        obtain ⟨N, hN⟩ : ∃ N, N = idN (hId h) := ⟨_, rfl⟩
        have hNl : N < 2 ^ 256 := hN ▸ idN_lt _
        have h152 := spec152 ok st1 (hId h)
        rw [← hN] at h152 ⊢
        clear hN
        refine h152.mono ?_
        rintro v st1 ⟨rfl, rfl⟩
        simp
        have hn : valB (bitsN 256 N) = N := by rw [valB_bitsN, Nat.mod_eq_of_lt hNl]
        refine (spec125 okr (rd_slK k l st1) (rd_slK .some (bitsN 256 N) st1) (by omega) (by rw [bitsN_len]; omega)).mono ?_
        rintro v st1 ⟨rfl, rfl⟩
        rw [hv, hn]
        by_cases hl2 : t < N
        · simp [hl2, sub]
        · simp [hl2, sub]
end
end Go.Ab
/-
  index: a header comes to stand in the tree.
-/
set_option linter.unusedSimpArgs false
set_option linter.unusedVariables false
set_option maxRecDepth 10000
namespace Go.Ab
open Go Go.RowKit

theorem splice_right {a t vs : List V} {n k : Nat} (ha : a.length = n) : spliceV (a ++ t) (n + k) vs = a ++ spliceV t k vs := by
  subst ha
  unfold spliceV
  rw [List.take_length_add_append, Nat.add_assoc, List.drop_length_add_append]
  simp only [List.append_assoc]
def eNpre (x : Nd) : List V := eHdr x.hdr ++ eId x.id
theorem eNpre_len (x : Nd) : (eNpre x).length = 100 := by simp [eNpre, eHdr_len, eId_len]
theorem eNd_pre (x : Nd) : eNd x = eNpre x ++ (.int .i64 x.parent :: .int .i64 x.skip :: .int .i64 x.height :: (eU (natU x.work) ++ [.bool x.failed])) := by simp [eNd, eNpre]
theorem spl_hdr (x : Nd) (h : Hdr) : spliceV (eNd x) 0 (eHdr h) = eNd { x with hdr := h } := by
  unfold spliceV
  rw [List.take_zero, List.nil_append, Nat.zero_add, eHdr_len, eNd_drop68]; rfl
theorem spl_id (x : Nd) (i : Id) : spliceV (eNd x) 68 (eId i) = eNd { x with id := i } := by
  rw [eNd, show 68 = 68 + 0 from rfl, splice_right (eHdr_len _)]
  unfold spliceV
  rw [List.take_zero, List.nil_append, Nat.zero_add, show (eId i).length = (eId x.id).length by rw [eId_len, eId_len], List.drop_left]; rfl
theorem spl_par (x : Nd) (n : Int) : spliceV (eNd x) 100 [.int .i64 n] = eNd { x with parent := n } := by
  rw [eNd_pre, show 100 = 100 + 0 from rfl, splice_right (eNpre_len _), eNd_pre]; rfl
theorem spl_skip (x : Nd) (n : Nat) : spliceV (eNd x) 101 [.int .i64 n] = eNd { x with skip := n } := by
  rw [eNd_pre, show 101 = 100 + 1 from rfl, splice_right (eNpre_len _), eNd_pre]; rfl
theorem spl_hgt (x : Nd) (n : Nat) : spliceV (eNd x) 102 [.int .i64 n] = eNd { x with height := n } := by
  rw [eNd_pre, show 102 = 100 + 2 from rfl, splice_right (eNpre_len _), eNd_pre]; rfl
theorem spl_work (x : Nd) (n : Nat) : spliceV (eNd x) 103 (eU (natU n)) = eNd { x with work := n } := by
  rw [eNd_pre, show 103 = 100 + 3 from rfl, splice_right (eNpre_len _), eNd_pre]; rfl
theorem spl_fail (x : Nd) (b : Bool) : spliceV (eNd x) 107 [.bool b] = eNd { x with failed := b } := by
  rw [eNd_pre, show 107 = 100 + 7 from rfl, splice_right (eNpre_len _), eNd_pre]; rfl
def nd0 : Nd := ⟨hdr0, id0, 0, 0, 0, 0, false⟩
theorem z108_eq : z108_9b14 = eNd nd0 := by
  have : eU (natU 0) = [w64 0, w64 0, w64 0, w64 0] := by rw [eU_zero0]; rfl
  rw [eNd, show nd0.work = 0 from rfl, this]; rfl
theorem seg_of_take {cs ys : List V} {o n : Nat} (h : ((cs.drop o).take n) = ys) (hl : o + n ≤ cs.length) : segOf cs o n = some ys := by
  unfold segOf
  rw [if_pos hl, h]
theorem osegAll (x : Nd) : segOf (eNd x) 0 108 = some (eNd x) := by
  refine seg_of_take ?_ (by rw [eNd_len]; omega)
  rw [List.drop_zero, ← eNd_len x, List.take_length]
theorem osegId (x : Nd) : segOf (eNd x) 68 32 = some (eId x.id) := seg_of_take (nsegId x) (by rw [eNd_len]; omega)
theorem osegHgt (x : Nd) : segOf (eNd x) 102 1 = some [.int .i64 x.height] := seg_of_take (nsegHgt x) (by rw [eNd_len]; omega)
theorem osegWork (x : Nd) : segOf (eNd x) 103 4 = some (eU (natU x.work)) := seg_of_take (nsegWork x) (by rw [eNd_len]; omega)
theorem osegTime (x : Nd) : segOf (eNd x) 65 1 = some [w32 x.hdr.time] := seg_of_take (nsegTime x) (by rw [eNd_len]; omega)
theorem osegBits (x : Nd) : segOf (eNd x) 66 1 = some [w32 x.hdr.bits] := seg_of_take (nsegBits x) (by rw [eNd_len]; omega)

/-- A tree that may be changed. -/
def TreeS (tid : Nat) (r : Rl) (l : List Nd) : Asn := fun h => ∃ s mid es, Sep [Sl 108 eNd s l, pt tid (.cells (eRl r ++ [s, .map (some mid)])), pt mid (.mp (encM kId kInt es))] h ∧ ∀ k, lk k es = (findM l k).map fun (i : Nat) => (i : Int)
theorem TreeS.toR {tid : Nat} {r : Rl} {l : List Nd} {st : St} (h : TreeS tid r l st) (hl : l ≠ []) : TreeR tid r l st := by
  obtain ⟨s, mid, es, S, hk⟩ := h
  obtain ⟨sid, spare, rfl, hs, S⟩ := S.slObj hl
  exact ⟨sid, mid, spare, es, S.mem (i := tid) (by simp), S.get, S.mem (i := mid) (by simp), hs, hk⟩
theorem Sep.treeR {tid : Nat} {r : Rl} {l : List Nd} {L : List Asn} {st : St} (h : Sep (TreeS tid r l :: L) st) (hl : l ≠ []) : TreeR tid r l st := by
  obtain ⟨h', h1, h2⟩ := h.part
  exact (h2.toR hl).sub h1
theorem splice74 (r : Rl) (a b c : V) : spliceV (eRl r ++ [a, b]) 74 [c] = eRl r ++ [c, b] := by
  rw [show 74 = 74 + 0 from rfl, splice_right (eRl_len r)]; rfl

/-- A header as it comes to stand. -/
def putM (l : List Nd) (h : Hdr) (p : Int) : Nd := if p < 0 then ⟨h, hId h, p, 0, 0, workN ((tgt h.bits).getD 0), false⟩ else ndOf l h p.toNat
theorem natU_add (a b : Nat) : BitVec.ofNat 256 (sumU [natU a, natU b]) = natU (a + b) := by
  apply BitVec.eq_of_toNat_eq
  simp [sumU, natU]
theorem tgtR_get (b : W32) : tgtR b = .tup [nU (natU ((tgt b).getD 0)), .bool (tgt b).isSome] ∧ (natU ((tgt b).getD 0)).toNat = (tgt b).getD 0 := by
  unfold tgtR
  cases h : tgt b with
  | none => exact ⟨rfl, rfl⟩
  | some t => exact ⟨rfl, natU_nat (tgt_lt h).2⟩
section
variable {P : Program} {F : Fn}
set_option maxHeartbeats 2000000 in
theorem spec156 (ok : OkIndex P F) {tid : Nat} {r : Rl} {l : List Nd} {g : St} (T : TreeS tid r l g) (w : l ≠ [] → Wf l) (hl : l.length ≤ 16384) (h : Hdr) (p : Int) (hp : p = -1 ∨ (0 ≤ p ∧ p < l.length)) :
    ACalls P (F 156) [.ptr (some (tid, 0)), .agg (eHdr h), .int .i64 p] g fun v st' => v = .int .i64 (l.length : Nat) ∧ TreeS tid r (l ++ [putM l h p]) st' := by
  have okh := ok.toOkHead
  have okn := okh.toOkNum
  obtain ⟨s, mid, es, S, hlk⟩ := T
  refine shows_call ok.mixed ok.h156 (by simp [k156]) ?_
  simp only [k156, z108_eq, eU_zero0]
  simp
  intro i4 h4
  have S := S.new h4 (.cells (eHdr h))
  generalize g.upd i4 _ = st1 at S ⊢
  have o4 := S.get
  have hfl : fillV (eNd nd0) [(0, 68, .agg (eHdr h)), (68, 32, .agg (eId (hId h))), (100, 1, .int .i64 p)] = some (eNd { nd0 with hdr := h, id := hId h, parent := p }) := by
    simp [fillV, eHdr_len, eId_len, eNd_len, spl_hdr, spl_id, spl_par]
  simp [St.seg, o4, hsegAll]
  refine ⟨_, spec141 okh st1 h, ?_⟩
  simp [hfl]
  intro i7 h7
  have S := S.new h7 (.cells (eNd nd0))
  have hsp : ∀ x y, spliceV (eNd x) 0 (eNd y) = eNd y := fun x y => by simp [spliceV, eNd_len]
  simp [storeS, eNd_len, hsp]
  have S := S.setAt (.cells (eNd { nd0 with hdr := h, id := hId h, parent := p })) 0 rfl
  simp at S
  generalize st1.upd i7 _ = st2 at S ⊢
  have o4 := S.mem (i := i4) (o := .cells (eHdr h)) (by simp)
  simp [St.seg, o4, hsegBits]
  refine (spec135 okh st2 h.bits).mono ?_
  rintro v st2 ⟨rfl, rfl⟩
  obtain ⟨hA1, hA2⟩ := tgtR_get h.bits
  rw [hA1]
  obtain ⟨T, hT⟩ : ∃ T, T = (tgt h.bits).getD 0 := ⟨_, rfl⟩
  rw [← hT] at hA2 ⊢
  have hspU : ∀ x y : U, spliceV (eU x) 0 (eU y) = eU y := fun _ _ => rfl
  simp
  intro i8 h8
  have S := S.new h8 (.cells (eU 0#256))
  simp [storeS, nU, eU_len, hspU]
  have S := S.setAt (.cells (eU (natU T))) 0 rfl
  simp at S
  generalize st2.upd i8 _ = st3 at S ⊢
  have o8 := S.get
  have o7 := S.mem (i := i7) (o := .cells (eNd { nd0 with hdr := h, id := hId h, parent := p })) (by simp)
  simp [St.seg, o8, segU]
  refine (spec137 okh st3 (natU T)).mono ?_
  rintro v st3 ⟨rfl, rfl⟩
  rw [hA2]
  obtain ⟨W, hW⟩ : ∃ W, W = workN T := ⟨_, rfl⟩
  rw [← hW]
  have S := S.setAt (.cells (eNd { nd0 with hdr := h, id := hId h, parent := p, work := W })) 1 rfl
  simp [storeS, o7, nU, eU_len, eNd_len, spl_work]
  simp at S
  generalize st3.upd i7 _ = st4 at S ⊢
  refine condB_join (fun env' st' => env' 0 = .ptr (some (tid, 0)) ∧ env' 7 = .ptr (some (i7, 0)) ∧ Sep [pt i7 (.cells (eNd (putM l h p))), Sl 108 eNd s l, pt tid (.cells (eRl r ++ [s, .map (some mid)])), pt mid (.mp (encM kId kInt es))] st') ?_ ?_
  · rcases hp with rfl | ⟨hp1, hp2⟩
    · have e : putM l h (-1) = { nd0 with hdr := h, id := hId h, parent := -1, work := W } := by
        simp [putM, hW, hT, nd0]
      simp
      rw [e]
      exact Sep.tail (fun r hr => hr.drop) S.drop
    · obtain ⟨q, rfl⟩ : ∃ q : Nat, p = q := ⟨p.toNat, by omega⟩
      have hq : q < l.length := by omega
      have hne : l ≠ [] := by rintro rfl; simp at hq
      have w := w hne
      obtain ⟨sid, spare, rfl, hsp1, S⟩ := (S.pull 3).slObj hne
      have TR : TreeAt tid sid mid spare es r l st4 := ⟨S.mem (i := tid) (by simp), S.get, S.mem (i := mid) (by simp), hsp1, hlk⟩
      obtain ⟨x1, hx1⟩ : ∃ x1 : Nd, x1 = { nd0 with hdr := h, id := hId h, parent := (q : Int), work := W } := ⟨_, rfl⟩
      have f1 : x1.work = W := by rw [hx1]
      have f2 : putM l h q = { x1 with height := hgt l q + 1, work := W + (nd l q).work, skip := anc l q (skipH (hgt l q + 1)) } := by
        rw [hx1]; simp [putM, ndOf, hW, hT, nd0]
      rw [← hx1] at S
      clear hx1
      have o2 := TR.rows
      have o1 := TR.top
      have o7 := S.mem (i := i7) (o := .cells (eNd x1)) (by simp)
      have hg := hgt_at hq
      have hgl := w.hgt_le hq
      have hqi : (q : Int) < l.length := by omega
      simp [St.seg, o1, o2, tree_seg74, hq, nd_all hq]
      intro i10 h10
      have S := S.new h10 (.cells (eNd nd0))
      simp [storeS, eNd_len, hsp]
      have S := S.setAt (.cells (eNd l[q])) 0 rfl
      simp at S
      generalize st4.upd i10 _ = st5 at S ⊢
      have o10 := S.get
      have o7 := S.mem (i := i7) (o := .cells (eNd x1)) (by simp)
      obtain ⟨H, hH⟩ : ∃ H, H = l[q].height := ⟨_, rfl⟩
      obtain ⟨pw, hpw⟩ : ∃ n, n = l[q].work := ⟨_, rfl⟩
      have hoH := osegHgt l[q]
      have hoW := osegWork l[q]
      rw [nd_at hq, hg] at f2
      rw [← hH] at hoH f2 hg
      rw [← hpw] at hoW f2
      have hw1 : IntKind.i64.wrap ((H : Int) + 1) = (H : Int) + 1 := wrap64 (by omega) (by omega)
      obtain ⟨x2, e1, e2, e3, f2⟩ : ∃ x2 : Nd, spliceV (eNd x1) 102 [.int .i64 ((H : Int) + 1)] = eNd x2 ∧ x2.work = W ∧ x2.height = H + 1 ∧ putM l h q = { x2 with work := W + pw, skip := anc l q (skipH (H + 1)) } := ⟨_, spl_hgt x1 (H + 1), f1, rfl, f2⟩
      simp [storeS, St.seg, o10, o7, hoH, hw1, eNd_len, e1]
      have S := S.setAt (.cells (eNd x2)) 3 rfl
      simp at S
      generalize st5.upd i7 _ = st6 at S ⊢
      have o10 := S.get
      have o7 := S.mem (i := i7) (o := .cells (eNd x2)) (by simp)
      have hoW2 := osegWork x2
      rw [e2] at hoW2
      have hfl2 : fillV (repV (eU 0#256) 2) [(0, 4, .agg (eU (natU W))), (4, 4, .agg (eU (natU pw)))] = some (rowsOf eU [natU W, natU pw]) := rfl
      simp [St.seg, o10, o7, hoW, hoW2, hfl2]
      have rd2 : Rd 4 eU (.sl .full (eU (natU W) ++ eU (natU pw)) 2) [natU W, natU pw] st6 := .inl ⟨.full, by simp [rowsOf]⟩
      refine (spec108 okn st6 rd2 (by simp)).mono ?_
      rintro v st6 ⟨rfl, rfl⟩
      rw [natU_add]
      obtain ⟨x3, e4, e5, f2⟩ : ∃ x3 : Nd, spliceV (eNd x2) 103 (eU (natU (W + pw))) = eNd x3 ∧ x3.height = H + 1 ∧ putM l h q = { x3 with skip := anc l q (skipH (H + 1)) } := ⟨_, spl_work x2 (W + pw), e3, f2⟩
      simp [o7, nU, storeS, eNd_len, e4, eU_len]
      have S := S.setAt (.cells (eNd x3)) 3 rfl
      simp at S
      generalize st6.upd i7 _ = st7 at S ⊢
      have o7 := S.mem (i := i7) (o := .cells (eNd x3)) (by simp)
      have ho3 := osegHgt x3
      rw [e5] at ho3
      simp [St.seg, o7, ho3]
      have TR : TreeR tid r l st7 := ⟨sid, mid, spare, es, S.mem (i := tid) (by simp), S.mem (i := sid) (by simp), S.mem (i := mid) (by simp), hsp1, hlk⟩
      refine (spec157 ok st7 (H + 1) (by omega)).mono ?_
      rintro v st7 ⟨rfl, rfl⟩
      have hsk := skipH_lt (h := H + 1) (by omega)
      refine (spec158 ok TR w q (skipH (H + 1) : Nat)).mono ?_
      rintro v st8 ⟨rfl, hst8⟩
      rw [hst8]
      clear hst8 st8
      have ea : ancI l q (skipH (H + 1) : Nat) = (anc l q (skipH (H + 1)) : Nat) := by
        have : ¬ l.length ≤ q := by omega
        have h2 : ¬ (H < skipH (H + 1)) := by omega
        have h3 : ¬ ((q : Int) < 0) := by omega
        have h4 : ¬ ((skipH (H + 1) : Int) < 0) := by omega
        simp [ancI, this, hg, h2, h3, h4]
      rw [ea]
      have e6 := spl_skip x3 (anc l q (skipH (H + 1)))
      rw [← f2] at e6
      simp [o7, storeS, eNd_len, e6]
      have S := S.setAt (.cells (eNd (putM l h q))) 3 rfl
      simp at S
      generalize st7.upd i7 _ = st8 at S ⊢
      have S := Sep.tail (fun r hr => Sep.tail (fun r hr => hr.drop) hr.drop) S.drop
      refine Sep.swap ?_
      have S := Sep.ofObj S hsp1
      exact Sep.swap (Sep.tail (fun r hr => hr) (Sep.swap S))
  · rintro env' st9 hsame ⟨g0, g7, S⟩
    have g4 := hsame
    clear hsame
    have o1 := S.mem (i := tid) (o := .cells (eRl r ++ [s, .map (some mid)])) (by simp)
    have o7 := S.get
    have hlen := (Sep.rd eNd_len S.swap).len
    have hfl3 : fillV (repV (eNd nd0) 1) [(0, 108, .agg (eNd (putM l h p)))] = some (eNd (putM l h p)) := by
      have : repV (eNd nd0) 1 = eNd nd0 := by simp [repV]
      simp [this, fillV, eNd_len, spliceV]
    simp [g0, g7, St.seg, o1, tree_seg74, hlen, o7, osegAll, hfl3]
    have hel : elems st9 108 (V.sl SK.full (eNd (putM l h p)) 1) = some (eNd (putM l h p), 1) := by simp [elems, eNd_len]
    rw [hel]
    refine Sep.app1 eNd_len (by omega) S.swap rfl (by omega) ?_
    intro s' st10 S
    obtain ⟨sid, spare, rfl, hsp1, S⟩ := S.slObj (by simp)
    have o1 := S.mem (i := tid) (o := .cells (eRl r ++ [s, .map (some mid)])) (by simp)
    simp [g0, storeS, o1, splice74, eRl_len]
    have S := S.setAt (.cells (eRl r ++ [.hsl sid 0 108 (l.length + 1), .map (some mid)])) 2 rfl
    simp at S
    generalize st10.upd tid _ = st11 at S ⊢
    have o1 := S.mem (i := tid) (o := .cells (eRl r ++ [.hsl sid 0 108 (l.length + 1), .map (some mid)])) (by simp)
    have o7 := S.mem (i := i7) (o := .cells (eNd (putM l h p))) (by simp)
    have om := S.mem (i := mid) (o := .mp (encM kId kInt es)) (by simp)
    have hms := mset_enc keyed_id om (hId h) (l.length : Int)
    have hpid : (putM l h p).id = hId h := by unfold putM; split <;> rfl
    have hid := osegId (putM l h p)
    rw [hpid] at hid
    simp only [kId, kInt] at hms
    simp [g0, g7, St.seg, o1, o7, tree_seg75, hid, hms]
    have S := S.setAt (.mp (encM kId kInt (aSet (hId h) (l.length : Int) es))) 3 rfl
    simp at S
    refine ⟨_, sub_self _, ?_⟩
    have S := Sep.tail (fun r hr => hr.drop) S
    rw [show rowsOf eNd l ++ (eNd (putM l h p) ++ spare) = rowsOf eNd (l ++ [putM l h p]) ++ spare by simp [rowsOf]] at S
    have S := Sep.ofObj S hsp1
    rw [show (l ++ [putM l h p]).length = l.length + 1 by simp] at S
    refine ⟨_, mid, _, S, fun k => ?_⟩
    rw [lk_aSet, hlk, findM_append, hpid]
    by_cases e : k = hId h
    · subst e; simp
    · rw [if_neg e, if_neg (fun e' => e e'.symm)]
end
end Go.Ab
/-
  index: the middle time, the next bits, whether a header fits.
-/
set_option linter.unusedSimpArgs false
set_option linter.unusedVariables false
set_option maxRecDepth 10000
namespace Go.Ab
open Go Go.RowKit

/-- A number brought into the tree. -/
def clI (l : List Nd) (i : Int) : Nat := (max 0 (min i ((l.length : Int) - 1))).toNat
theorem clI_lt {l : List Nd} (w : Wf l) (i : Int) : clI l i < l.length := by
  have := w.ne
  unfold clI; omega
theorem clI_of {l : List Nd} {n : Nat} (h : n < l.length) : clI l n = n := by unfold clI; omega
def timesI (l : List Nd) (n : Nat) (i : Int) : List W32 := if i < 0 then [] else timesM l n i.toNat
theorem timesM_succ {l : List Nd} {n i : Nat} (hi : i < l.length) : timesM l (n + 1) i = l[i].hdr.time :: timesI l n l[i].parent := by
  simp [timesM, hi, timesI]
theorem timesM_ne {l : List Nd} {n i : Nat} (hi : i < l.length) : timesM l (n + 1) i ≠ [] := by simp [timesM, hi]
section
variable {P : Program} {F : Fn}
theorem spec166 (ok : OkIndex P F) {st : St} {tid : Nat} {r : Rl} {l : List Nd} (h : TreeR tid r l st) (w : Wf l) (hl : l.length ≤ 16384) (i : Int) : ACalls P (F 166) [.ptr (some (tid, 0)), .int .i64 i] st fun v st' => v = w32 (medianM l (clI l i)) ∧ st' = st := by
  obtain ⟨sid, mid, spare, es, h⟩ := h
  refine shows_call ok.mixed ok.h166 (by simp [k166]) ?_
  simp only [k166]
  have o1 := h.top
  have hne := w.ne
  obtain ⟨n, hn⟩ : ∃ n, n = clI l i := ⟨_, rfl⟩
  have hnl : n < l.length := hn ▸ clI_lt w i
  rw [← hn]
  have hw : IntKind.i64.wrap ((l.length : Int) - 1) = (l.length : Int) - 1 := wrap64 (by omega) (by omega)
  have hmn : foldV min2V (.int .i64 i) [.int .i64 ((l.length : Int) - 1)] = some (.int .i64 (min i ((l.length : Int) - 1))) := by
    simp only [foldV, min2V, if_true, Option.bind_some]
    congr 2
    split <;> omega
  have hmx : foldV max2V (.int .i64 0) [.int .i64 (min i ((l.length : Int) - 1))] = some (.int .i64 (n : Int)) := by
    simp only [foldV, max2V, if_true, Option.bind_some]
    unfold clI at hn
    congr 2
    split <;> omega
  simp [St.seg, o1, tree_seg74, hw, hmn, hmx]
  refine vc_loopJ (fun c env' st' => ∃ (acc : List W32) (j : Int) (s : V), c = 11 - acc.length ∧ acc.length ≤ 11 ∧ acc ++ timesI l (11 - acc.length) j = timesM l 11 n ∧ (0 ≤ j → j < l.length) ∧ env' 1 = .int .i64 j ∧ env' 5 = s ∧ Sep [Sl 1 e32 s acc, Was st] st') 11
    ⟨[], n, .sl .nil [] 0, rfl, by simp, ?_, by omega, by simp, by simp, (Sep.start st).slNil⟩ ?_
  · simp [timesI]; omega
  · rintro J hJ c env' st2 hsame ⟨acc, j, s, rfl, hal, he, hj, g1, g5, S⟩
    have g0 := hsame.get 0 rfl
    simp at g0
    clear hsame
    have hsub := S.was' (st0 := st) (by simp)
    have h2 := h.sub hsub
    have o1 := h2.top
    have o2 := h2.rows
    have hlen := (Sep.rd e32_len S).len
    have hfin : acc = timesM l 11 n → ACalls P (F 164) [s] st2 fun v st' => v = w32 (medianM l n) ∧ St.sub st st' := by
      intro e
      have hne2 : acc ≠ [] := by rw [e]; exact timesM_ne hnl
      obtain ⟨sid2, spare2, rfl, hs2, S⟩ := S.slObj hne2
      refine (spec164 ok S.get (by omega) hne2).mono ?_
      rintro v st3 ⟨rfl, rfl⟩
      have S := S.setAt (.cells (rowsOf e32 (sorted32 acc) ++ spare2)) 0 rfl
      have hsub := S.was' (st0 := st) (by simp)
      have em : middle32 acc = medianM l n := by rw [e]; rfl
      exact ⟨by rw [em], hsub⟩
    by_cases hj0 : 0 ≤ j
    · by_cases ha : (acc.length : Int) < 11
      · obtain ⟨q, rfl⟩ : ∃ q : Nat, j = q := ⟨j.toNat, by omega⟩
        have hq : q < l.length := by have := hj hj0; omega
        simp [g0, g1, g5, hlen, ha, St.seg, o1, o2, tree_seg74, hq, nd_time hq]
        have hfl : fillV (repV [w32 0#32] 1) [(0, 1, w32 l[q].hdr.time)] = some (e32 l[q].hdr.time) := rfl
        simp [hfl]
        have hel : elems st2 1 (.sl .full (e32 l[q].hdr.time) 1) = some (e32 l[q].hdr.time, 1) := rfl
        rw [hel]
        refine Sep.app1 e32_len (by omega) S rfl (by omega) ?_
        intro s' st3 S
        have h3 := h.sub (S.was' (st0 := st) (by simp))
        have o1 := h3.top
        have o2 := h3.rows
        simp [g0, g1, St.seg, o1, o2, tree_seg74, hq, nd_par hq]
        have e11 : 11 - acc.length = (11 - (acc.length + 1)) + 1 := by omega
        refine Round.mk (11 - (acc ++ [l[q].hdr.time]).length) _ (by simp; omega) (sub_self _) (hJ _ _ _ ⟨acc ++ [l[q].hdr.time], l[q].parent, s', rfl, by simp; omega, ?_, ?_, by simp, by simp, S⟩)
        · rw [← he]
          have : timesI l (11 - acc.length) (q : Int) = l[q].hdr.time :: timesI l (11 - (acc.length + 1)) l[q].parent := by
            rw [e11, ← timesM_succ hq]; simp [timesI]; omega
          rw [this]; simp
        · intro hp
          rcases Nat.eq_zero_or_pos q with e | e
          · subst e
            have := (w.zero _ (List.getElem?_eq_getElem hq)).1
            omega
          · have := (w.succ q _ e (List.getElem?_eq_getElem hq)).2.1
            omega
      · have e11 : acc.length = 11 := by omega
        have e : acc = timesM l 11 n := by
          rw [e11] at he
          rw [← he]
          have : timesI l (11 - 11) j = [] := by unfold timesI; split <;> rfl
          rw [this]; simp
        simp [g0, g1, g5, hlen, ha, hj0]
        refine (hfin e).mono ?_
        rintro v st3 ⟨rfl, hs3⟩
        simp [hs3]
    · have e : acc = timesM l 11 n := by
        rw [← he]
        have : timesI l (11 - acc.length) j = [] := by unfold timesI; rw [if_pos (by omega)]
        rw [this]; simp
      simp [g0, g1, g5, hj0]
      refine (hfin e).mono ?_
      rintro v st3 ⟨rfl, hs3⟩
      simp [hs3]
theorem checkM_ok {r : Rl} (h : checkM r = 0) : tgt r.limit ≠ none ∧ r.gen.bits = r.limit ∧ 0 ≤ r.every ∧ r.every ≤ 1000 ∧ 1 ≤ r.spacing ∧ r.spacing ≤ 1048576 ∧ 0 ≤ r.subsidy ∧ r.subsidy ≤ 1125899906842624 ∧ 0 ≤ r.work ∧ r.work ≤ 1000 := by
  unfold checkM at h
  split at h
  · cases h
  · rename_i h1
    split at h
    · cases h
    · rename_i h2
      have : r.gen.bits = r.limit := by
        by_cases e : r.gen.bits = r.limit
        · exact e
        · exact absurd (.inr e) h1
      exact ⟨fun e => h1 (.inl e), this, by omega, by omega, by omega, by omega, by omega, by omega, by omega, by omega⟩
set_option maxHeartbeats 1000000 in
theorem spec167 (ok : OkIndex P F) {st : St} {tid : Nat} {r : Rl} {l : List Nd} (h : TreeR tid r l st) (w : Wf l) (hl : l.length ≤ 16384) (hr : checkM r = 0) {i : Nat} (hi : i < l.length) : ACalls P (F 167) [.ptr (some (tid, 0)), .int .i64 (i : Nat)] st fun v st' => v = w32 (nextM r l i) ∧ st' = st := by
  have okh := ok.toOkHead
  obtain ⟨hr1, hr2, hr3, hr4, hr5, hr6, -, -⟩ := checkM_ok hr
  have hR := h
  obtain ⟨sid, mid, spare, es, h⟩ := h
  refine shows_call ok.mixed ok.h167 (by simp [k167]) ?_
  simp only [k167, z108_eq, eU_zero0]
  simp
  refine (spec161 ok hR w i).mono ?_
  rintro v st ⟨rfl, rfl⟩
  have hin : inI l i = i := by unfold inI; rw [if_neg (by omega)]; omega
  rw [hin]
  obtain ⟨x, hx⟩ : ∃ x, x = nd l i := ⟨_, rfl⟩
  have hxh : x.height = hgt l i := by rw [hx, nd_at hi, hgt_at hi]
  have hgl := w.hgt_le hi
  rw [← hx]
  simp
  intro i5 h5
  have S := (Sep.start st).new h5 (.cells (eNd nd0))
  have hsp : ∀ x y, spliceV (eNd x) 0 (eNd y) = eNd y := fun x y => by simp [spliceV, eNd_len]
  simp [storeS, eNd_len, hsp]
  have S := S.setAt (.cells (eNd x)) 0 rfl
  simp at S
  generalize st.upd i5 _ = st1 at S ⊢
  have hs1 := S.was' (st0 := st) (by simp)
  have ht := h.sub hs1
  have o1 := ht.top
  have o5 := S.get
  obtain ⟨E, hE⟩ : ∃ E : Nat, r.every = E := ⟨r.every.toNat, by omega⟩
  obtain ⟨H, hH⟩ : ∃ H, H = x.height := ⟨_, rfl⟩
  have ohH := osegHgt x
  rw [← hH] at ohH hxh
  have tev := tree_every r (.hsl sid 0 108 l.length) (.map (some mid))
  rw [hE] at tev
  have hw1 : IntKind.i64.wrap ((H : Int) + 1) = (H : Int) + 1 := wrap64 (by omega) (by omega)
  simp [St.seg, o1, tev]
  have hnx : nextM r l i = if E = 0 ∨ (H + 1) % E ≠ 0 then x.hdr.bits else (nextN x.hdr.bits ((x.hdr.time.toNat : Int) - (nd l (anc l i (H + 1 - E))).hdr.time.toNat) (r.every * r.spacing) (limitN r)).getD 0 := by
    unfold nextM
    simp only [← hx, ← hH, hE]
    have e1 : ((H : Int) + 1).tmod (E : Int) = (((H + 1) % E : Nat) : Int) := by
      rw [Int.tmod_eq_emod_of_nonneg (by omega)]; push_cast; rfl
    have e2 : (max 0 ((H : Int) + 1 - E)).toNat = H + 1 - E := by omega
    rw [e1, e2]
    have e3 : ((E : Int) = 0 ∨ (((H + 1) % E : Nat) : Int) ≠ 0) ↔ (E = 0 ∨ (H + 1) % E ≠ 0) := by omega
    by_cases c : (E = 0 ∨ (H + 1) % E ≠ 0)
    · rw [if_pos c, if_pos (e3.2 c)]
    · rw [if_neg c, if_neg (fun h => c (e3.1 h))]
  by_cases hE0 : E = 0
  · have : nextM r l i = x.hdr.bits := by rw [hnx, if_pos (.inl hE0)]
    rw [this]
    have hE0' : ((E : Int) == 0) = true := by simp [hE0]
    simp [hE0, o5, osegBits, St.seg, hs1]
  · have hem : ((H : Int) + 1).tmod (E : Int) = (((H + 1) % E : Nat) : Int) := by
      rw [Int.tmod_eq_emod_of_nonneg (by omega)]; push_cast; rfl
    obtain ⟨M, hM⟩ : ∃ M, M = (H + 1) % E := ⟨_, rfl⟩
    have hMl : M < E := hM ▸ Nat.mod_lt _ (by omega)
    rw [← hM] at hem hnx
    have hem2 : IntKind.i64.wrap ((((H : Int) + 1)) % (E : Int)) = (M : Int) := by
      rw [← Int.tmod_eq_emod_of_nonneg (by omega), hem]; exact wrap64 (by omega) (by omega)
    have hem3 : IntKind.i64.wrap ((((H : Int) + 1)).tmod (E : Int)) = (M : Int) := by
      rw [hem]; exact wrap64 (by omega) (by omega)
    have hEb : ((E : Int) == 0) = false := by simp; omega
    simp [hEb, hE0, o5, ohH, osegBits, St.seg, hw1, o1, tev, hem2, hem3]
    by_cases hM0 : M = 0
    · rw [if_neg (by omega)] at hnx
      rw [hnx]
      have htb : (((H : Int) + 1).tmod (E : Int) != 0) = false := by rw [hem, hM0]; rfl
      have hl0 := w.ne
      have hmn1 : foldV min2V (.int .i64 (i : Nat)) [.int .i64 ((l.length : Int) - 1)] = some (.int .i64 (i : Nat)) := by
        simp only [foldV, min2V, if_true, Option.bind_some]
        congr 2
        split <;> omega
      have hmx1 : foldV max2V (.int .i64 0) [.int .i64 (i : Nat)] = some (.int .i64 (i : Nat)) := by
        simp only [foldV, max2V, if_true, Option.bind_some]
        congr 2
        split <;> omega
      obtain ⟨K, hK⟩ : ∃ K, K = H + 1 - E := ⟨_, rfl⟩
      rw [← hK]
      have hmx2 : foldV max2V (.int .i64 0) [.int .i64 ((H : Int) + 1 - (E : Int))] = some (.int .i64 (K : Nat)) := by
        simp only [foldV, max2V, if_true, Option.bind_some]
        congr 2
        split <;> omega
      have hw2 : IntKind.i64.wrap ((l.length : Int) - 1) = (l.length : Int) - 1 := wrap64 (by omega) (by omega)
      have hw3 : IntKind.i64.wrap ((H : Int) + 1 - (E : Int)) = (H : Int) + 1 - (E : Int) := wrap64 (by omega) (by omega)
      have hKh : K ≤ hgt l i := by omega
      have hal := w.anc_lt (i := i) (h := K) hi
      obtain ⟨A, hA⟩ : ∃ A, A = anc l i K := ⟨_, rfl⟩
      have ea : ancI l i K = (A : Nat) := by
        have h1 : ¬ l.length ≤ i := by omega
        have h2 : ¬ hgt l i < K := by omega
        have h3 : ¬ ((i : Int) < 0) := by omega
        have h4 : ¬ ((K : Int) < 0) := by omega
        simp [ancI, h1, h2, h3, h4, hA]
      rw [← hA] at hal ⊢
      have TR1 : TreeR tid r l st1 := ⟨sid, mid, spare, es, ht⟩
      have o2 := ht.rows
      simp [htb, St.seg, o1, o5, tree_seg74, tev, ohH, hw1, hw2, hw3, hmn1, hmx1, hmx2]
      refine ⟨_, spec158 ok TR1 w i K, ?_⟩
      rw [ea]
      have hall := nd_all (spare := spare) hal
      rw [← nd_at hal] at hall
      simp [o2, hal, hall, St.seg]
      intro i6 h6
      have S := S.new h6 (.cells (eNd nd0))
      simp [storeS, eNd_len, hsp]
      have S := S.setAt (.cells (eNd (nd l A))) 0 rfl
      simp at S
      generalize st1.upd i6 _ = st2 at S ⊢
      have ht := h.sub (S.was' (st0 := st) (by simp))
      have o1 := ht.top
      simp [St.seg, o1, tree_limit]
      refine (spec135 okh st2 r.limit).mono ?_
      rintro v st2 ⟨rfl, rfl⟩
      obtain ⟨hA1, hA2⟩ := tgtR_get r.limit
      rw [hA1]
      have hlim : (natU ((tgt r.limit).getD 0)).toNat = limitN r := hA2
      obtain ⟨T, hT⟩ : ∃ T, T = natU ((tgt r.limit).getD 0) := ⟨_, rfl⟩
      rw [← hT] at hlim ⊢
      have hspU : ∀ x y : U, spliceV (eU x) 0 (eU y) = eU y := fun _ _ => rfl
      simp
      intro i7 h7
      have S := S.new h7 (.cells (eU 0#256))
      simp [storeS, nU, eU_len, hspU]
      have S := S.setAt (.cells (eU T)) 0 rfl
      simp at S
      generalize st2.upd i7 _ = st3 at S ⊢
      have hs3 := S.was' (st0 := st) (by simp)
      have ht := h.sub hs3
      have o1 := ht.top
      have o7 := S.get
      have o6 := S.mem (i := i6) (o := .cells (eNd (nd l A))) (by simp)
      have o5 := S.mem (i := i5) (o := .cells (eNd x)) (by simp)
      have tsp := tree_spacing r (.hsl sid 0 108 l.length) (.map (some mid))
      obtain ⟨SP, hSP⟩ : ∃ n : Nat, r.spacing = n := ⟨r.spacing.toNat, by omega⟩
      rw [hSP] at tsp
      have hm : E * SP ≤ 1000 * 1048576 := Nat.mul_le_mul (by omega) (by omega)
      obtain ⟨Q, hQ⟩ : ∃ n : Int, n = (E : Int) * (SP : Int) := ⟨_, rfl⟩
      have hQb : 0 ≤ Q ∧ Q ≤ 1000 * 1048576 := by
        have : Q = ((E * SP : Nat) : Int) := by rw [hQ]; push_cast; rfl
        omega
      have hw4 : IntKind.i64.wrap Q = Q := wrap64 (by omega) (by omega)
      have hx1 := x.hdr.time.isLt
      have hx2 := (nd l A).hdr.time.isLt
      have hw5 : IntKind.i64.wrap ((x.hdr.time.toNat : Int) - ((nd l A).hdr.time.toNat : Int)) = (x.hdr.time.toNat : Int) - ((nd l A).hdr.time.toNat : Int) := wrap64 (by omega) (by omega)
      simp [St.seg, o1, o5, o6, o7, osegBits, osegTime, tev, tsp, segU, hw5, ← hQ, hw4]
      refine (spec138 okh st3 x.hdr.bits _ Q T (by omega)).mono ?_
      rintro v st3 ⟨rfl, rfl⟩
      rw [hE, hSP, ← hQ, hlim]
      unfold nextR
      cases nextN x.hdr.bits ((x.hdr.time.toNat : Int) - ((nd l A).hdr.time.toNat : Int)) Q (limitN r) <;> simp [hs3]
    · rw [if_pos (.inr hM0)] at hnx
      rw [hnx]
      have htb : (((H : Int) + 1).tmod (E : Int) != 0) = true := by rw [hem]; simp; omega
      simp [htb, o5, osegBits, St.seg, hs1]
set_option maxHeartbeats 1000000 in
theorem spec168 (ok : OkIndex P F) {st : St} {tid : Nat} {r : Rl} {l : List Nd} (h : TreeR tid r l st) (w : Wf l) (hl : l.length ≤ 16384) (hr : checkM r = 0) (x : Hdr) (p now : Int) : ACalls P (F 168) [.ptr (some (tid, 0)), .agg (eHdr x), .int .i64 p, .int .i64 now] st fun v st' => v = .int .i64 (fitsM r l x p now) ∧ st' = st := by
  have okh := ok.toOkHead
  obtain ⟨sid, mid, spare, es, h⟩ := h
  refine shows_call ok.mixed ok.h168 (by simp [k168]) ?_
  simp only [k168]
  simp
  intro i5 h5
  have S := (Sep.start st).new h5 (.cells (eHdr x))
  generalize st.upd i5 _ = st1 at S ⊢
  have hs1 := S.was' (st0 := st) (by simp)
  have ht := h.sub hs1
  have o1 := ht.top
  have o2 := ht.rows
  have o5 := S.get
  have TR1 : TreeR tid r l st1 := ⟨sid, mid, spare, es, ht⟩
  by_cases h1 : p < 0
  · have e : fitsM r l x p now = 100 := by simp [fitsM, h1]
    simp [h1, e, hs1]
  · by_cases h2 : (l.length : Int) ≤ p
    · have e : fitsM r l x p now = 100 := by simp [fitsM, h2]
      simp [h1, h2, e, hs1, St.seg, o1, tree_seg74]
    · obtain ⟨n, rfl⟩ : ∃ n : Nat, p = n := ⟨p.toNat, by omega⟩
      have hn : n < l.length := by omega
      have h2' : ¬ l.length ≤ n := by omega
      simp [h1, h2', St.seg, o1, o5, tree_seg74, hsegAll, tree_limit]
      refine (spec142 okh st1 x r.limit).mono ?_
      rintro v st1 ⟨rfl, rfl⟩
      obtain ⟨pv, hpv⟩ : ∃ pv, pv = provedN x r.limit := ⟨_, rfl⟩
      rw [← hpv]
      by_cases hp : pv = 0
      · subst hp
        simp [St.seg, o1, o2, tree_seg74, hn, nd_fail hn]
        cases hf : l[n].failed with
        | true =>
          have e : fitsM r l x n now = 101 := by
            simp [fitsM, h1, h2', ← hpv, nd_at hn, hf]
          simp [e, hs1]
        | false =>
          simp [St.seg, o5, hsegBits]
          refine ⟨_, spec167 ok TR1 w hl hr hn, ?_⟩
          simp
          by_cases hb : x.bits = nextM r l n
          · have hbb : (x.bits != nextM r l n) = false := by simp [hb]
            simp [hbb, St.seg, o5, hsegTime]
            refine ⟨_, spec166 ok TR1 w hl n, ?_⟩
            rw [clI_of hn]
            simp
            by_cases hm : x.time ≤ medianM l n
            · have e : fitsM r l x n now = 102 := by
                simp [fitsM, h1, h2', ← hpv, nd_at hn, hf, hb, hm]
              simp [hm, e, hs1]
            · have htl := x.time.isLt
              have hw : IntKind.i64.wrap ((x.time.toNat : Int) - 7200) = (x.time.toNat : Int) - 7200 := wrap64 (by omega) (by omega)
              by_cases hnw : now < (x.time.toNat : Int) - 7200
              · have e : fitsM r l x n now = 103 := by
                  simp [fitsM, h1, h2', ← hpv, nd_at hn, hf, hb, hm, hnw]
                simp [hm, St.seg, o5, hsegTime, hw, hnw, e, hs1]
              · have e : fitsM r l x n now = 0 := by
                  simp [fitsM, h1, h2', ← hpv, nd_at hn, hf, hb, hm, hnw]
                simp [hm, St.seg, o5, hsegTime, hw, hnw, e, hs1]
          · have hbb : (x.bits != nextM r l n) = true := by simp [hb]
            have e : fitsM r l x n now = 30 := by
              simp [fitsM, h1, h2', ← hpv, nd_at hn, hf, hb]
            simp [hbb, e, hs1]
      · have e : fitsM r l x n now = pv := by
          simp [fitsM, h1, h2', ← hpv, hp]
        have hpb : (pv != 0) = true := by simp [hp]
        simp [hpb, e, hs1]
end
end Go.Ab
/-
  index: a header comes; one fails; a tree begins.
-/
set_option linter.unusedSimpArgs false
set_option linter.unusedVariables false
set_option maxRecDepth 10000
namespace Go.Ab
open Go Go.RowKit

theorem Wf.neNil {l : List Nd} (w : Wf l) : l ≠ [] := by
  have := w.ne
  rintro rfl
  simp at this
theorem findM_lt' {l : List Nd} {id : Id} {i : Nat} (h : findM l id = some i) : i < l.length := findM_lt h
/-- Which failed. -/
def setF (f : Nat → Bool) (l : List Nd) : List Nd := l.mapIdx fun j x => if f j then { x with failed := true } else x
section
variable {f : Nat → Bool} {l : List Nd}
@[simp] theorem setF_length : (setF f l).length = l.length := by simp [setF]
theorem setF_get {i : Nat} (hi : i < l.length) : (setF f l)[i]'(by simpa using hi) = if f i then { l[i] with failed := true } else l[i] := by simp [setF]
theorem setF_get? (i : Nat) : (setF f l)[i]? = (l[i]?).map fun x => if f i then { x with failed := true } else x := by simp [setF]
theorem setF_hgt (i : Nat) : hgt (setF f l) i = hgt l i := by
  unfold hgt
  rw [setF_get?]
  cases l[i]? with
  | none => rfl
  | some x => simp only [Option.map_some, Option.getD_some]; split <;> rfl
theorem setF_par (i : Nat) : par (setF f l) i = par l i := by
  unfold par
  rw [setF_get?]
  cases l[i]? with
  | none => rfl
  | some x => simp only [Option.map_some, Option.getD_some]; split <;> rfl
theorem setF_upN (n i : Nat) : upN (setF f l) n i = upN l n i := by
  induction n generalizing i with
  | zero => rfl
  | succ n ih => rw [upN, upN, setF_par, ih]
theorem setF_anc (i h : Nat) : anc (setF f l) i h = anc l i h := by rw [anc, anc, setF_hgt, setF_upN]
theorem setF_ancI (i h : Int) : ancI (setF f l) i h = ancI l i h := by simp [ancI, setF_hgt, setF_anc]
theorem setF_onB (i t : Int) : onB (setF f l) i t = onB l i t := by simp [onB, setF_hgt, setF_ancI]
theorem setF_wf (w : Wf l) : Wf (setF f l) := by
  refine ⟨by simpa using w.ne, fun x hx => ?_, fun i x hi hx => ?_, fun i x hi hx => ?_⟩
  · rw [setF_get?] at hx
    cases h : l[0]? with
    | none => rw [h] at hx; cases hx
    | some y =>
      rw [h] at hx
      have := w.zero y h
      simp at hx
      rw [← hx]
      split <;> exact this
  · rw [setF_get?] at hx
    cases h : l[i]? with
    | none => rw [h] at hx; cases hx
    | some y =>
      rw [h] at hx
      have := w.succ i y hi h
      simp at hx
      rw [← hx, setF_hgt]
      split <;> exact this
  · rw [setF_get?] at hx
    cases h : l[i]? with
    | none => rw [h] at hx; cases hx
    | some y =>
      rw [h] at hx
      have := w.skip i y hi h
      simp at hx
      rw [← hx, setF_anc]
      split <;> exact this
theorem setF_find (id : Id) : findM (setF f l) id = findM l id := by
  have : ∀ (l : List Nd) (f : Nat → Bool), findM (setF f l) id = findM l id := by
    intro l
    induction l with
    | nil => intro f; rfl
    | cons x l ih =>
      intro f
      have e : setF f (x :: l) = (if f 0 then { x with failed := true } else x) :: setF (fun j => f (j + 1)) l := by simp [setF, List.mapIdx_cons]
      rw [e, findM, findM, ih]
      split
      · rfl
      · split <;> rfl
  exact this l f
theorem setF_set {f : Nat → Bool} {l : List Nd} {k : Nat} (hk : k < l.length) {g : Nat → Bool} (hg : ∀ j, g j = (f j || (j == k))) : (setF f l).set k { (setF f l)[k]'(by simpa using hk) with failed := true } = setF g l := by
  apply List.ext_getElem?
  intro i
  rw [List.getElem?_set, setF_get?, setF_get?]
  by_cases e : k = i
  · subst e
    simp only [if_true, setF_length, hk, setF_get hk, hg, List.getElem?_eq_getElem hk, Option.map_some, beq_self_eq_true, Bool.or_true]
    split <;> rfl
  · have : (i == k) = false := by simp; omega
    simp [e, hg, this]
theorem setF_none : setF (fun _ => false) l = l := by
  apply List.ext_getElem?
  intro i
  rw [setF_get?]
  cases l[i]? <;> rfl
end
/-- A header, and all behind it, fail; how many hadn't yet. -/
def failM (l : List Nd) (i : Int) : List Nd × Nat :=
  if i < 1 ∨ (l.length : Int) ≤ i then (l, 0)
  else (setF (fun k => onB l i k) l, ((List.range l.length).filter fun (k : Nat) => onB l i k && !(nd l k).failed).length)
def failTo (l : List Nd) (i : Int) (k : Nat) : List Nd := setF (fun j => decide (j < k) && onB l i j) l
def failN (l : List Nd) (i : Int) (k : Nat) : Nat := ((List.range k).filter fun (k : Nat) => onB l i k && !(nd l k).failed).length

theorem onB_self {l : List Nd} {i : Nat} (hi : i < l.length) : onB l i i = true := by
  have h1 : ¬ l.length ≤ i := by omega
  have h3 : ¬ ((i : Int) < 0) := by omega
  have h4 : ¬ ((hgt l i : Int) < 0) := by omega
  simp [onB, hi, ancI, h1, h3, h4, anc_self]
theorem onB_nat {l : List Nd} {i k : Nat} (hi : i < l.length) (hk : k < l.length) : onB l i k = decide (hgt l i ≤ hgt l k ∧ anc l k (hgt l i) = i) := by
  have h1 : ¬ l.length ≤ k := by omega
  have h3 : ¬ ((k : Int) < 0) := by omega
  have h4 : ¬ ((hgt l i : Int) < 0) := by omega
  by_cases h : hgt l i ≤ hgt l k
  · have h2 : ¬ hgt l k < hgt l i := by omega
    simp [onB, hi, ancI, h1, h2, h3, h4, h]
    rw [Bool.eq_iff_iff]; simp; omega
  · have h2 : hgt l k < hgt l i := by omega
    have : ¬ ((-1 : Int) = i) := by omega
    simp [onB, hi, ancI, h1, h2, h3, h4, h, this]
theorem onB_lt {l : List Nd} (w : Wf l) {i k : Nat} (hi : i < l.length) (hk : k < i) : onB l i k = false := by
  rw [onB_nat hi (by omega)]
  have := w.anc_le (i := k) (h := hgt l i) (by omega)
  simp; omega
theorem onB_par {l : List Nd} (w : Wf l) {i k : Nat} (hi : i < k) (hk : k < l.length) (h : onB l i k = true) : (i : Int) ≤ l[k].parent := by
  rw [onB_nat (by omega) hk] at h
  simp at h
  have hp := w.succ k _ (by omega) (List.getElem?_eq_getElem hk)
  by_cases e : hgt l i < hgt l k
  · have h2 := w.anc_par hk e
    have := w.anc_le (i := par l k) (h := hgt l i) (by have := w.par_lt (i := k) (by omega) hk; omega)
    have e2 := par_at hk
    omega
  · have : hgt l i = hgt l k := by omega
    rw [this, anc_self] at h
    omega
theorem failTo_start {l : List Nd} (w : Wf l) {n : Nat} (hn : n < l.length) : failTo l n n = l := by
  unfold failTo
  have : (fun j => decide (j < n) && onB l n (j : Nat)) = fun _ => false := by
    funext j
    by_cases h : j < n
    · simp [h, onB_lt w hn h]
    · simp [h]
  rw [this, setF_none]
theorem failTo_get {l : List Nd} {n : Int} {k : Nat} (hk : k < l.length) : (failTo l n k)[k]'(by simpa [failTo] using hk) = l[k] := by
  simp [failTo, setF_get hk]
theorem failTo_length (l : List Nd) (n : Int) (k : Nat) : (failTo l n k).length = l.length := by simp [failTo]
theorem failTo_on {l : List Nd} {n k : Nat} (hk : k < l.length) (h : onB l n k = true) : (failTo l n k).set k { l[k] with failed := true } = failTo l n (k + 1) := by
  have := setF_set (f := fun j => decide (j < k) && onB l n (j : Nat)) hk (g := fun j => decide (j < k + 1) && onB l n (j : Nat)) (fun j => by
    by_cases e : j = k
    · subst e; simp [h]
    · by_cases e2 : j < k
      · simp [e2, e, show j < k + 1 by omega]
      · simp [e2, e, show ¬ j < k + 1 by omega])
  have e := failTo_get (n := (n : Int)) hk
  unfold failTo at e ⊢
  rw [e] at this
  exact this
theorem failTo_off {l : List Nd} {n k : Nat} (hk : k < l.length) (h : onB l n k = false ∨ l[k].failed = true) : failTo l n (k + 1) = failTo l n k := by
  apply List.ext_getElem?
  intro j
  unfold failTo
  rw [setF_get?, setF_get?]
  by_cases e : j = k
  · subst e
    rw [List.getElem?_eq_getElem hk]
    rcases h with h | h
    · simp [h]
    · simp only [Option.map_some]
      have : { l[j] with failed := true } = l[j] := by
        cases hx : l[j]; rw [hx] at h; simp at h; rw [h]
      rw [this]
      simp
  · have : decide (j < k + 1) = decide (j < k) := by
      rw [decide_eq_decide]; omega
    rw [this]
theorem failN_start {l : List Nd} (w : Wf l) {n : Nat} (hn : n < l.length) : failN l n n = 0 := by
  unfold failN
  rw [List.length_eq_zero_iff, List.filter_eq_nil_iff]
  intro k hk
  simp at hk
  simp [onB_lt w hn hk]
theorem failN_succ {l : List Nd} {n k : Nat} (hk : k < l.length) : failN l n (k + 1) = failN l n k + if onB l n k = true ∧ l[k].failed = false then 1 else 0 := by
  unfold failN
  rw [List.range_succ, List.filter_append, List.length_append]
  congr 1
  have e := nd_at hk
  by_cases h1 : onB l n k = true
  · cases h2 : l[k].failed <;> simp [h1, h2, e]
  · simp [h1]
theorem failN_le (l : List Nd) (n : Int) (k : Nat) : failN l n k ≤ k := by
  unfold failN
  have := List.length_filter_le (fun (k : Nat) => onB l n k && !(nd l k).failed) (List.range k)
  simpa using this
section
variable {P : Program} {F : Fn}
set_option maxHeartbeats 1000000 in
/-- Add -/
theorem spec169 (ok : OkIndex P F) {g : St} {tid : Nat} {r : Rl} {l : List Nd} (T : TreeS tid r l g) (w : Wf l) (hl : l.length ≤ 16384) (hr : checkM r = 0) (x : Hdr) (now : Int) :
    ACalls P (F 169) [.ptr (some (tid, 0)), .agg (eHdr x), .int .i64 now] g fun v st' => v = .tup [.int .i64 (addM r l x now).2.1, .int .i64 (addM r l x now).2.2] ∧ TreeS tid r (addM r l x now).1 st' := by
  have okh := ok.toOkHead
  refine shows_call ok.mixed ok.h169 (by simp [k169]) ?_
  simp only [k169]
  simp
  intro i4 h4
  have S := (Sep.one T).new h4 (.cells (eHdr x))
  generalize g.upd i4 _ = st1 at S ⊢
  have TR := S.swap.treeR w.neNil
  obtain ⟨sid, mid, spare, es, ht⟩ := id TR
  have o1 := ht.top
  have o4 := S.get
  have hfin : ∃ s, St.sub s st1 ∧ TreeS tid r l s := by
    obtain ⟨h', k1, k2⟩ := S.swap.part
    exact ⟨h', k1, k2⟩
  have hlk := fun k => lookup_lk keyed_id (ev := kInt) ht.by_ (.int .i64 0) k
  simp only [ht.look, kId] at hlk
  simp [St.seg, o1, o4, tree_seg75, hsegAll]
  refine ⟨_, spec141 okh st1 x, ?_⟩
  simp [hlk]
  cases hf : findM l (hId x) with
  | some i =>
    have e : addM r l x now = (l, (i : Int), 5) := by simp [addM, hf]
    simp [e, kInt, hfin]
  | none =>
    simp [St.seg, o1, o4, tree_seg75, hsegPrev, hlk, kInt]
    cases hf2 : findM l x.prev with
    | none =>
      have e : addM r l x now = (l, -1, 100) := by simp [addM, hf, hf2]
      simp [e, hfin]
    | some p =>
      have hp := findM_lt hf2
      simp [St.seg, o4, hsegAll]
      refine (spec168 ok TR w hl hr x p now).mono ?_
      rintro v st1 ⟨rfl, rfl⟩
      obtain ⟨fv, hfv⟩ : ∃ fv, fv = fitsM r l x p now := ⟨_, rfl⟩
      rw [← hfv]
      by_cases hz : fv = 0
      · subst hz
        simp [St.seg, o1, tree_seg74]
        by_cases hfull : l.length = 16384
        · have e : addM r l x now = (l, -1, 3) := by simp [addM, hf, hf2, ← hfv, hfull]
          have hb : ((l.length : Int) == 16384) = true := by simp [hfull]
          simp [hb, e, hfin]
        · have e : addM r l x now = (l ++ [ndOf l x p], (l.length : Int), 0) := by simp [addM, hf, hf2, ← hfv, hfull]
          have hb : ((l.length : Int) == 16384) = false := by simp; omega
          simp [hb, e, St.seg, o4, hsegAll]
          have hpi : (p : Int) = -1 ∨ (0 ≤ (p : Int) ∧ (p : Int) < l.length) := by omega
          have hpm : putM l x p = ndOf l x p := by simp [putM]; omega
          refine (Sep.call S.swap (fun h hh => spec156 ok hh (fun _ => w) hl x p hpi)).mono ?_
          intro v st2 S2
          obtain ⟨h', k1, rfl, k2⟩ := S2.part
          rw [hpm] at k2
          simp
          exact ⟨h', k1, k2⟩
      · have e : addM r l x now = (l, -1, fv) := by simp [addM, hf, hf2, ← hfv, hz]
        have hb : (fv != 0) = true := by simp [hz]
        simp [hb, e, hfin]
set_option maxHeartbeats 1000000 in
/-- Fail -/
theorem spec170 (ok : OkIndex P F) {g : St} {tid : Nat} {r : Rl} {l : List Nd} (T : TreeS tid r l g) (w : Wf l) (hl : l.length ≤ 16384) (i : Int) :
    ACalls P (F 170) [.ptr (some (tid, 0)), .int .i64 i] g fun v st' => v = .int .i64 ((failM l i).2 : Nat) ∧ TreeS tid r (failM l i).1 st' := by
  refine shows_call ok.mixed ok.h170 (by simp [k170]) ?_
  simp only [k170]
  have TR := T.toR w.neNil
  obtain ⟨sid0, mid0, spare0, es0, ht⟩ := id TR
  have o1 := ht.top
  have hfin : ∃ s, St.sub s g ∧ TreeS tid r l s := ⟨g, sub_self _, T⟩
  by_cases h1 : i < 1
  · have e : failM l i = (l, 0) := by simp [failM, h1]
    simp [h1, e, hfin]
  · by_cases h2 : (l.length : Int) ≤ i
    · have e : failM l i = (l, 0) := by simp [failM, h2]
      simp [h1, h2, St.seg, o1, tree_seg74, e, hfin]
    · obtain ⟨n, rfl⟩ : ∃ n : Nat, i = n := ⟨i.toNat, by omega⟩
      have hn : n < l.length := by omega
      have h2' : ¬ l.length ≤ n := by omega
      have e : failM l n = (failTo l n l.length, failN l n l.length) := by
        unfold failM failTo failN
        rw [if_neg (by omega)]
        congr 1
        apply List.ext_getElem?
        intro k
        rw [setF_get?, setF_get?]
        cases h : l[k]? with
        | none => rfl
        | some x =>
          have := (List.getElem?_eq_some_iff.1 h).1
          simp [this]
      rw [e]
      simp [h1, h2', St.seg, o1, tree_seg74]
      clear ht o1 e hfin TR
      obtain ⟨s, mid, es, S, hlk⟩ := T
      obtain ⟨sid, spare, rfl, hsp1, S⟩ := S.slObj w.neNil
      refine vc_loopJ (fun c env' st' => ∃ k : Nat, n ≤ k ∧ k ≤ l.length ∧ c = l.length - k ∧ env' 6 = .int .i64 (k : Nat) ∧ env' 5 = .int .i64 (failN l n k : Nat) ∧ Sep [pt sid (.cells (rowsOf eNd (failTo l n k) ++ spare)), pt tid (.cells (eRl r ++ [.hsl sid 0 108 l.length, .map (some mid)])), pt mid (.mp (encM kId kInt es))] st') (l.length - n)
        ⟨n, Nat.le_refl _, by omega, rfl, by simp, by simp [failN_start w hn], by rw [failTo_start w hn]; exact S⟩ ?_
      clear S
      rintro J hJ c env' st2 hsame ⟨k, hnk, hkl, rfl, g6, g5, S⟩
      have g0 := hsame.get 0 rfl
      have g1 := hsame.get 1 rfl
      simp at g0 g1
      clear hsame
      have o1 := S.mem (i := tid) (o := .cells (eRl r ++ [.hsl sid 0 108 l.length, .map (some mid)])) (by simp)
      have o2 := S.get
      have hfl := failTo_length l n k
      have hlk' : ∀ id, lk id es = (findM (failTo l n k) id).map fun (i : Nat) => (i : Int) := fun id => by rw [hlk]; unfold failTo; rw [setF_find]
      have TR : TreeR tid r (failTo l n k) st2 := ⟨sid, mid, spare, es, by rw [hfl]; exact o1, o2, S.mem (i := mid) (by simp), hsp1, hlk'⟩
      have wk : Wf (failTo l n k) := setF_wf w
      by_cases hlt : k < l.length
      · have hkf : k < (failTo l n k).length := by rw [hfl]; exact hlt
        have ek := failTo_get (n := (n : Int)) hlt
        have s1 := nd_fail (spare := spare) hkf
        have s2 := nd_par (spare := spare) hkf
        rw [ek] at s1 s2
        have hsucc := failN_succ (n := n) hlt
        have hle := failN_le l n k
        have hw6 : IntKind.i64.wrap ((k : Int) + 1) = (k : Int) + 1 := wrap64 (by omega) (by omega)
        have hw5 : IntKind.i64.wrap ((failN l n k : Int) + 1) = (failN l n k : Int) + 1 := wrap64 (by omega) (by omega)
        have hoff : (onB l n k = false ∨ l[k].failed = true) → J (l.length - (k + 1)) = J (l.length - (k + 1)) ∧ failTo l n (k + 1) = failTo l n k ∧ failN l n (k + 1) = failN l n k := by
          intro h
          refine ⟨rfl, failTo_off hlt h, ?_⟩
          rw [hsucc]
          rcases h with h | h <;> simp [h]
        have honB : ∀ t : Int, onB (failTo l n k) (n : Nat) t = onB l n t := fun t => setF_onB _ _
        have hrows := rowsOf_length eNd_len (failTo l n k)
        have p1 := rowsOf_splice eNd_len (failTo l n k) spare hkf (o := 107) (vs := [.bool true]) (by simp) (a := { l[k] with failed := true }) (by rw [ek, spl_fail])
        have hst : storeS st2 1 (.ptr (some (sid, k * 108 + 107))) (.bool true) = some (st2.upd sid (.cells (rowsOf eNd ((failTo l n k).set k { l[k] with failed := true }) ++ spare))) := by
          simp only [storeS, o2, cells_bool]
          rw [if_pos (by rw [List.length_append, hrows, hfl]; simp; omega), p1]
        cases hf : l[k].failed with
        | true =>
          obtain ⟨-, e1, e2⟩ := hoff (.inr hf)
          rw [hf] at s1
          simp [g0, g1, g6, hlt, St.seg, o1, o2, tree_seg74, s1, hw6]
          exact Round.mk (l.length - (k + 1)) _ (by omega) (sub_self _) (hJ _ _ _ ⟨k + 1, by omega, by omega, rfl, by simp, by simp [e2, g5], by rw [e1]; exact S⟩)
        | false =>
          rw [hf] at s1
          have hon : onB l n k = true → Sep [pt sid (.cells (rowsOf eNd (failTo l n (k + 1)) ++ spare)), pt tid (.cells (eRl r ++ [.hsl sid 0 108 l.length, .map (some mid)])), pt mid (.mp (encM kId kInt es))] (st2.upd sid (.cells (rowsOf eNd ((failTo l n k).set k { l[k] with failed := true }) ++ spare))) ∧ failN l n (k + 1) = failN l n k + 1 := by
            intro h
            refine ⟨?_, by rw [hsucc]; simp [h, hf]⟩
            rw [← failTo_on hlt h]
            exact S.set _
          by_cases hkn : k = n
          · obtain ⟨S2, e2⟩ := hon (by rw [hkn]; exact onB_self hn)
            have hb : ((k : Int) == (n : Int)) = true := by simp [hkn]
            simp [g0, g1, g6, hlt, St.seg, o1, o2, tree_seg74, s1, hw6, hb, hst, g5, hw5]
            exact Round.mk (l.length - (k + 1)) _ (by omega) (sub_self _) (hJ _ _ _ ⟨k + 1, by omega, by omega, rfl, by simp, by simp [e2], S2⟩)
          · have hb : ((k : Int) == (n : Int)) = false := by simp; omega
            by_cases hpar : (n : Int) ≤ l[k].parent
            · simp [g0, g1, g6, hlt, St.seg, o1, o2, tree_seg74, s1, s2, hw6, hb, hpar]
              refine (spec163 ok TR wk n k).mono ?_
              rintro v st2 ⟨rfl, rfl⟩
              rw [honB]
              cases hbn : onB l n k with
              | true =>
                obtain ⟨S2, e2⟩ := hon hbn
                simp [hst, g5, g6, hw5, hw6]
                exact Round.mk (l.length - (k + 1)) _ (by omega) (sub_self _) (hJ _ _ _ ⟨k + 1, by omega, by omega, rfl, by simp, by simp [e2], S2⟩)
              | false =>
                obtain ⟨-, e1, e2⟩ := hoff (.inl hbn)
                simp [g6, hw6]
                exact Round.mk (l.length - (k + 1)) _ (by omega) (sub_self _) (hJ _ _ _ ⟨k + 1, by omega, by omega, rfl, by simp, by simp [e2, g5], by rw [e1]; exact S⟩)
            · have hbn : onB l n k = false := by
                cases h : onB l n k with
                | false => rfl
                | true => exact absurd (onB_par w (by omega) hlt h) hpar
              obtain ⟨-, e1, e2⟩ := hoff (.inl hbn)
              simp [g0, g1, g6, hlt, St.seg, o1, o2, tree_seg74, s1, s2, hw6, hb, hpar]
              exact Round.mk (l.length - (k + 1)) _ (by omega) (sub_self _) (hJ _ _ _ ⟨k + 1, by omega, by omega, rfl, by simp, by simp [e2, g5], by rw [e1]; exact S⟩)
      · have hkl' : k = l.length := by omega
        subst hkl'
        simp [g0, g6, g5, St.seg, o1, tree_seg74]
        have hS := Sep.ofObj S hsp1
        rw [hfl] at hS
        refine ⟨_, sub_self _, _, mid, es, hS, hlk'⟩
end
end Go.Ab
/-
  index: rules, and a new tree.
-/
set_option linter.unusedSimpArgs false
set_option linter.unusedVariables false
set_option maxRecDepth 10000
namespace Go.Ab
open Go Go.RowKit

theorem eRl_drop5 (r : Rl) : (eRl r).drop 5 = eHdr r.gen ++ [r.txs] := rfl
theorem rseg (r : Rl) {o n : Nat} {ys : List V} (h : ((eRl r).drop o).take n = ys) (hl : o + n ≤ 74) : segOf (eRl r) o n = some ys := by
  unfold segOf
  rw [if_pos (by rw [eRl_len]; exact hl), h]
theorem rsegLimit (r : Rl) : segOf (eRl r) 0 1 = some [w32 r.limit] := rseg r rfl (by omega)
theorem rsegEvery (r : Rl) : segOf (eRl r) 1 1 = some [.int .i64 r.every] := rseg r rfl (by omega)
theorem rsegSpacing (r : Rl) : segOf (eRl r) 2 1 = some [.int .i64 r.spacing] := rseg r rfl (by omega)
theorem rsegSubsidy (r : Rl) : segOf (eRl r) 3 1 = some [.int .i64 r.subsidy] := rseg r rfl (by omega)
theorem rsegWork (r : Rl) : segOf (eRl r) 4 1 = some [.int .i64 r.work] := rseg r rfl (by omega)
theorem rsegBits (r : Rl) : segOf (eRl r) 71 1 = some [w32 r.gen.bits] := rseg r (by
  rw [show 71 = 5 + 66 from rfl, ← List.drop_drop, eRl_drop5, List.drop_append_of_le_length (by rw [eHdr_len]; omega), hdrop66]; rfl) (by omega)
theorem rsegGen (r : Rl) : segOf (eRl r) 5 68 = some (eHdr r.gen) := rseg r (by
  rw [eRl_drop5, ← eHdr_len r.gen, List.take_left]) (by omega)
theorem rsegAll (r : Rl) : segOf (eRl r) 0 74 = some (eRl r) := rseg r (by rw [List.drop_zero, ← eRl_len r, List.take_length]) (by omega)
section
variable {P : Program} {F : Fn}
set_option maxHeartbeats 1000000 in
theorem spec154 (ok : OkIndex P F) (st : St) (r : Rl) : ACalls P (F 154) [.agg (eRl r)] st fun v st' => v = .int .i64 (checkM r) ∧ st' = st := by
  have okh := ok.toOkHead
  refine shows_call ok.mixed ok.h154 (by simp [k154]) ?_
  simp only [k154, eU_zero0]
  simp
  intro i1 h1
  have S := (Sep.start st).new h1 (.cells (eRl r))
  generalize st.upd i1 _ = st1 at S ⊢
  have o1 := S.get
  simp [St.seg, o1, rsegLimit]
  refine (spec135 okh st1 r.limit).mono ?_
  rintro v st1 ⟨rfl, rfl⟩
  obtain ⟨hA1, hA2⟩ := tgtR_get r.limit
  rw [hA1]
  have hspU : ∀ x y : U, spliceV (eU x) 0 (eU y) = eU y := fun _ _ => rfl
  simp
  intro i3 h3
  have S := S.new h3 (.cells (eU 0#256))
  simp [storeS, nU, eU_len, hspU]
  have S := S.setAt (.cells (eU (natU ((tgt r.limit).getD 0)))) 0 rfl
  simp at S
  generalize st1.upd i3 _ = st2 at S ⊢
  have o1 := S.mem (i := i1) (o := .cells (eRl r)) (by simp)
  have hs := S.was' (st0 := st) (by simp)
  cases ht : tgt r.limit with
  | none =>
    have e : checkM r = 30 := by simp [checkM, ht]
    simp [e, hs]
  | some T =>
    by_cases hb : r.gen.bits = r.limit
    · have hbb : (r.gen.bits != r.limit) = false := by simp [hb]
      by_cases c0 : r.every < 0
      · have e : checkM r = 1 := by simp [checkM, ht, hb, c0]
        simp [hbb, e, c0, St.seg, o1, rsegLimit, rsegEvery, rsegSpacing, rsegSubsidy, rsegWork, rsegBits, hs]
      by_cases c1 : 1000 < r.every
      · have e : checkM r = 1 := by simp [checkM, ht, hb, c1]
        simp [hbb, e, c0, c1, St.seg, o1, rsegLimit, rsegEvery, rsegSpacing, rsegSubsidy, rsegWork, rsegBits, hs]
      by_cases c2 : r.spacing < 1
      · have e : checkM r = 1 := by simp [checkM, ht, hb, c2]
        simp [hbb, e, c0, c1, c2, St.seg, o1, rsegLimit, rsegEvery, rsegSpacing, rsegSubsidy, rsegWork, rsegBits, hs]
      by_cases c3 : 1048576 < r.spacing
      · have e : checkM r = 1 := by simp [checkM, ht, hb, c3]
        simp [hbb, e, c0, c1, c2, c3, St.seg, o1, rsegLimit, rsegEvery, rsegSpacing, rsegSubsidy, rsegWork, rsegBits, hs]
      by_cases c4 : r.subsidy < 0
      · have e : checkM r = 1 := by simp [checkM, ht, hb, c4]
        simp [hbb, e, c0, c1, c2, c3, c4, St.seg, o1, rsegLimit, rsegEvery, rsegSpacing, rsegSubsidy, rsegWork, rsegBits, hs]
      by_cases c5 : 1125899906842624 < r.subsidy
      · have e : checkM r = 1 := by simp [checkM, ht, hb, c5]
        simp [hbb, e, c0, c1, c2, c3, c4, c5, St.seg, o1, rsegLimit, rsegEvery, rsegSpacing, rsegSubsidy, rsegWork, rsegBits, hs]
      by_cases c6 : r.work < 0
      · have e : checkM r = 1 := by simp [checkM, ht, hb, c6]
        simp [hbb, e, c0, c1, c2, c3, c4, c5, c6, St.seg, o1, rsegLimit, rsegEvery, rsegSpacing, rsegSubsidy, rsegWork, rsegBits, hs]
      by_cases c7 : 1000 < r.work
      · have e : checkM r = 1 := by simp [checkM, ht, hb, c7]
        simp [hbb, e, c0, c1, c2, c3, c4, c5, c6, c7, St.seg, o1, rsegLimit, rsegEvery, rsegSpacing, rsegSubsidy, rsegWork, rsegBits, hs]
      have e : checkM r = 0 := by simp [checkM, ht, hb, c0, c1, c2, c3, c4, c5, c6, c7]
      simp [hbb, e, c0, c1, c2, c3, c4, c5, c6, c7, St.seg, o1, rsegLimit, rsegEvery, rsegSpacing, rsegSubsidy, rsegWork, rsegBits, hs]
    · have hbb : (r.gen.bits != r.limit) = true := by simp [hb]
      have e : checkM r = 30 := by simp [checkM, hb]
      simp [hbb, e, St.seg, o1, rsegLimit, rsegBits, hs]
set_option maxHeartbeats 1000000 in
/-- New -/
theorem spec155 (ok : OkIndex P F) (st : St) (r : Rl) : ACalls P (F 155) [.agg (eRl r)] st fun v st' =>
    if checkM r = 0 then ∃ tid, v = .tup [.ptr (some (tid, 0)), .int .i64 0] ∧ Sep [TreeS tid r (newM r), Was st] st' else v = .tup [.ptr none, .int .i64 (checkM r)] ∧ st' = st := by
  have okh := ok.toOkHead
  refine shows_call ok.mixed ok.h155 (by simp [k155]) ?_
  simp only [k155]
  simp
  intro i1 h1
  have S := (Sep.start st).new h1 (.cells (eRl r))
  generalize st.upd i1 _ = st1 at S ⊢
  have o1 := S.get
  have hs := S.was' (st0 := st) (by simp)
  simp [St.seg, o1, rsegAll]
  refine (spec154 ok st1 r).mono ?_
  rintro v st1 ⟨rfl, rfl⟩
  by_cases hc : checkM r = 0
  · simp [hc, St.seg, o1, rsegAll]
    intro i12 h12
    have S := S.new h12 (.mp [])
    generalize st1.upd i12 _ = st2 at S ⊢
    have hfl : fillV z76_2d2c [(0, 74, .agg (eRl r)), (75, 1, .map (some i12))] = some (eRl r ++ [.sl .nil [] 0, .map (some i12)]) := by
      have hz : z76_2d2c = z76_2d2c.take 74 ++ [.sl .nil [] 0, .map none] := rfl
      have hl : (z76_2d2c.take 74).length = 74 := rfl
      have e1 : spliceV z76_2d2c 0 (eRl r) = eRl r ++ [.sl .nil [] 0, .map none] := by
        unfold spliceV
        rw [List.take_zero, List.nil_append, Nat.zero_add, eRl_len]; rfl
      have e2 : spliceV (eRl r ++ [.sl .nil [] 0, .map none]) 75 [.map (some i12)] = eRl r ++ [.sl .nil [] 0, .map (some i12)] := by
        rw [show 75 = 74 + 1 from rfl, splice_right (eRl_len r)]; rfl
      have hz2 : z76_2d2c.length = 76 := rfl
      simp [fillV, eRl_len, hz2, e1, e2]
    simp [hfl]
    intro i14 h14
    have S := S.new h14 (.cells (eRl r ++ [.sl .nil [] 0, .map (some i12)]))
    generalize st2.upd i14 _ = st3 at S ⊢
    have o1 := S.mem (i := i1) (o := .cells (eRl r)) (by simp)
    have S := Sep.slNil (sz := 108) (f := eNd) S
    have S : Sep [All [Sl 108 eNd (.sl .nil [] 0) [], pt i14 (.cells (eRl r ++ [.sl .nil [] 0, .map (some i12)])), pt i12 (.mp [])], pt i1 (.cells (eRl r)), Was st] st3 := Sep.all (L1 := [_, _, _]) S
    have S : Sep [TreeS i14 r [], pt i1 (.cells (eRl r)), Was st] st3 := S.head fun h hh => ⟨_, i12, [], hh, fun k => rfl⟩
    simp [St.seg, o1, rsegGen]
    refine (Sep.call S (fun h hh => spec156 ok hh (fun h => absurd rfl h) (by simp) r.gen (-1) (.inl rfl))).mono ?_
    intro v st4 S
    have S := S.head (A' := TreeS i14 r (newM r)) fun h hh => hh.2
    simp
    exact ⟨_, sub_self _, Sep.tail (fun r hr => hr.drop) S⟩
  · have hcb : (checkM r != 0) = true := by simp [hc]
    simp [hc, hcb, hs]
end
end Go.Ab

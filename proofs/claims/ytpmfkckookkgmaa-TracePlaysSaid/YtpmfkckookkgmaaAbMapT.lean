/-
  Maps whose keys and values are told by lists; permuted and nested assertions; maps that are gone through.
-/
import Derived.Test.YtpmfkckookkgmaaAbSlice
set_option linter.unusedSimpArgs false
set_option linter.unusedVariables false
namespace Go.Ab
open Go Go.RowKit

/-! ### assertions -/
theorem Sep.perm {L L' : List Asn} (h : L.Perm L') : ∀ {st : St}, Sep L st → Sep L' st := by
  induction h with
  | nil => exact fun h => h
  | cons x _ ih => exact fun h => Sep.tail (fun r hr => ih hr) h
  | swap x y l => exact fun h => h.swap
  | trans _ _ ih1 ih2 => exact fun h => ih2 (ih1 h)

/-- Assertions as one. -/
def All (L : List Asn) : Asn := fun h => Sep L h

theorem Sep.app {L1 L2 : List Asn} : ∀ {st : St}, Sep (All L1 :: L2) st → Sep (L1 ++ L2) st := by
  induction L1 with
  | nil => exact fun h => h.drop
  | cons A L1 ih =>
    intro st h
    obtain ⟨a, r, h1, h2, ⟨b, c, k1, k2, k3, k4⟩, h4⟩ := h
    have hcr : Disj c r := disj_sub h1 (sub_trans (sub_right k1) k2)
    have hbr : Disj b r := disj_sub h1 (sub_trans (sub_add b c) k2)
    refine ⟨b, c.add r, fun i => ?_, fun i o e => h2 i o ?_, k3, ih ⟨c, r, hcr, St.sub_refl _, k4, h4⟩⟩
    · rcases k1 i with e | e
      · exact .inl e
      · rcases hbr i with e' | e'
        · exact .inl e'
        · exact .inr (add_none.2 ⟨e, e'⟩)
    · simp only [St.add] at e ⊢
      cases hb : b i with
      | some x =>
        rw [hb] at e
        cases e
        rw [k2 i o (by simp [St.add, hb])]
      | none =>
        rw [hb] at e
        simp only at e
        cases hc : c i with
        | some x =>
          rw [hc] at e
          cases e
          rw [k2 i o (by simp [St.add, hb, hc])]
        | none =>
          rw [hc] at e
          simp only at e
          have : a i = none := (h1 i).resolve_right (by rw [e]; simp)
          rw [this]
          exact e

theorem Sep.all {L1 L2 : List Asn} : ∀ {st : St}, Sep (L1 ++ L2) st → Sep (All L1 :: L2) st := by
  induction L1 with
  | nil => exact fun h => h.put trivial
  | cons A L1 ih =>
    intro st h
    obtain ⟨a, r, h1, h2, h3, h4⟩ := h
    obtain ⟨c, d, k1, k2, k3, k4⟩ := ih h4
    have hac : Disj a c := disj_symm (disj_sub (disj_symm h1) (sub_trans (sub_add c d) k2))
    have had : Disj a d := disj_symm (disj_sub (disj_symm h1) (sub_trans (sub_right k1) k2))
    refine ⟨a.add c, d, fun i => ?_, fun i o e => h2 i o ?_, ⟨a, c, hac, St.sub_refl _, h3, k3⟩, k4⟩
    · rcases had i with e | e
      · rcases k1 i with e' | e'
        · exact .inl (add_none.2 ⟨e, e'⟩)
        · exact .inr e'
      · exact .inr e
    · simp only [St.add] at e ⊢
      cases ha : a i with
      | some x => rw [ha] at e; exact e
      | none =>
        rw [ha] at e
        simp only at e ⊢
        exact k2 i o (by simpa [St.add] using e)

/-! ### maps told by lists -/
section
variable {K A : Type} [DecidableEq K] (ek : K → V) (ev : A → V)

def encM (l : List (K × A)) : List (V × V) := l.map fun p => (ek p.1, ev p.2)
def aSet (k : K) (v : A) : List (K × A) → List (K × A)
  | [] => [(k, v)]
  | p :: l => if k = p.1 then (k, v) :: l else p :: aSet k v l
def aDel (k : K) : List (K × A) → List (K × A)
  | [] => []
  | p :: l => if k = p.1 then l else p :: aDel k l

/-- Keys of a kind, told by K. -/
structure Keyed (kk : KK) : Prop where
  key : ∀ k, isKey kk (ek k) = true
  eq : ∀ a b, keyEq kk (ek a) (ek b) = some (decide (a = b))

variable {ek ev} {kk : KK} (hk : Keyed ek kk)
include hk

theorem mfind_enc (k : K) : ∀ l : List (K × A), mfind kk (ek k) (encM ek ev l) = some ((l.lookup k).map ev)
  | [] => by simp [mfind, encM]
  | (k', v') :: l => by
    have ih := mfind_enc k l
    simp only [encM, List.map_cons, mfind, hk.eq, List.lookup_cons] at ih ⊢
    by_cases h : k = k'
    · simp [h]
    · have : (k == k') = false := by simp [h]
      simp only [h, decide_false, this]
      exact ih

theorem mput_enc (k : K) (v : A) : ∀ l : List (K × A), mput kk (ek k) (ev v) (encM ek ev l) = some (encM ek ev (aSet k v l))
  | [] => by simp [mput, encM, aSet]
  | p :: l => by
    have ih := mput_enc k v l
    simp only [encM, List.map_cons, mput, hk.eq, aSet] at ih ⊢
    by_cases h : k = p.1
    · simp [h]
    · simp only [h, decide_false, if_false, List.map_cons]
      rw [ih]
      rfl

theorem mrem_enc (k : K) : ∀ l : List (K × A), mrem kk (ek k) (encM ek ev l) = some (encM ek ev (aDel k l))
  | [] => by simp [mrem, encM, aDel]
  | p :: l => by
    have ih := mrem_enc k l
    simp only [encM, List.map_cons, mrem, hk.eq, aDel] at ih ⊢
    by_cases h : k = p.1
    · simp [h]
    · simp only [h, decide_false, if_false, List.map_cons]
      rw [ih]
      rfl

/-- Looking up. -/
theorem lookup_enc {st : St} {id : Nat} {l : List (K × A)} (h : st id = some (.mp (encM ek ev l))) (z : V) (ok : Bool) (k : K) :
    lookupV st kk z ok (.map (some id)) (ek k) = some (if ok then .tup [((l.lookup k).map ev).getD z, .bool (l.lookup k).isSome] else ((l.lookup k).map ev).getD z) := by
  simp [lookupV, hk.key, mapOf, h, mfind_enc hk]

theorem lookup_none {st : St} (z : V) (ok : Bool) (k : K) : lookupV st kk z ok (.map none) (ek k) = some (if ok then .tup [z, .bool false] else z) := by
  simp [lookupV, hk.key, mapOf, mfind]

theorem mset_enc {st : St} {id : Nat} {l : List (K × A)} (h : st id = some (.mp (encM ek ev l))) (k : K) (v : A) : msetS st kk (.map (some id)) (ek k) (ev v) = some (st.upd id (.mp (encM ek ev (aSet k v l)))) := by
  simp [msetS, hk.key, h, mput_enc hk]

theorem mdel_enc {st : St} {id : Nat} {l : List (K × A)} (h : st id = some (.mp (encM ek ev l))) (k : K) : mdelS st kk (.map (some id)) (ek k) = some (st.upd id (.mp (encM ek ev (aDel k l)))) := by
  simp [mdelS, hk.key, h, mrem_enc hk]

theorem mdel_none {st : St} (k : K) : mdelS st kk (.map none) (ek k) = some st := by
  simp [mdelS, hk.key]
end

@[simp] theorem encM_length {K A : Type} (ek : K → V) (ev : A → V) (l : List (K × A)) : (encM ek ev l).length = l.length := by simp [encM]
@[simp] theorem encM_nil {K A : Type} (ek : K → V) (ev : A → V) : encM ek ev ([] : List (K × A)) = [] := rfl
theorem lenMap_mp {st : St} {id : Nat} {es : List (V × V)} (h : st id = some (.mp es)) : lenMapV st (.map (some id)) = some (.int .i64 es.length) := by simp [lenMapV, h]
@[simp] theorem lenMap_none {st : St} : lenMapV st (.map none) = some (.int .i64 0) := _root_.id rfl

def kInt (n : Int) : V := .int .i64 n
theorem keyed_int : Keyed kInt .int := ⟨fun _ => rfl, fun a b => by
  simp only [kInt, keyEq, if_true]
  congr 1⟩

/-! ### names of 32 bytes -/
abbrev Id := Vector UInt8 32
def eId (x : Id) : List V := x.toList.map fun b => V.int .u8 b.toNat
theorem eId_len (x : Id) : (eId x).length = 32 := by simp [eId]
def kId (x : Id) : V := .agg (eId x)
def eBytes (l : List UInt8) : List V := l.map fun b => V.int .u8 b.toNat

theorem eqL_bytes : ∀ (a b : List UInt8), a.length = b.length → eqL (eBytes a) (eBytes b) = some (decide (a = b))
  | [], [], _ => rfl
  | [], _ :: _, h => by simp at h
  | _ :: _, [], h => by simp at h
  | x :: a, y :: b, h => by
    have ih := eqL_bytes a b (by simpa using h)
    simp only [eBytes, List.map_cons, eqL, if_true] at ih ⊢
    rw [ih]
    simp only [Option.map_some, Option.some.injEq]
    rw [Bool.eq_iff_iff]
    simp only [Bool.and_eq_true, beq_iff_eq, decide_eq_true_eq, List.cons.injEq]
    constructor
    · rintro ⟨h1, h2⟩
      exact ⟨UInt8.toNat_inj.1 (by omega), h2⟩
    · rintro ⟨h1, h2⟩
      exact ⟨by rw [h1], h2⟩

theorem eqL_id (a b : Id) : eqL (eId a) (eId b) = some (decide (a = b)) := by
  have := eqL_bytes a.toList b.toList (by simp)
  rw [show eId a = eBytes a.toList from rfl, show eId b = eBytes b.toList from rfl, this]
  congr 1
  rw [Bool.eq_iff_iff]
  simp only [decide_eq_true_eq]
  exact ⟨fun h => Vector.toList_inj.1 h, fun h => by rw [h]⟩

theorem keyed_id : Keyed kId (.agg 32) := ⟨fun k => by simp [isKey, kId, eId], fun a b => by
  simp only [keyEq, kId]
  rw [if_pos (eId_len a), eqL_id]⟩

/-! ### maps that are gone through -/
/-- A map that is gone through: its entries, and which were seen; the one that was seen last. -/
def Going (m it : Nat) (l : List ((V × V) × Bool)) (last : Option Nat) : Asn := fun h =>
  ∃ (bs : List Nat) (clk since : Nat) (seen : List Nat) (stp : Nat), h m = some (.mpi (l.map (·.1)) bs clk) ∧ h it = some (.mit (some m) since seen stp) ∧ bs.length = l.length ∧ bs.Pairwise (· < ·) ∧ (∀ b ∈ bs, b < since) ∧ since ≤ stp ∧ stp ≤ clk ∧
    (∀ i (hi : i < l.length), bs.getD i 0 ∈ seen ↔ l[i].2 = true) ∧ ∀ i, last = some i → i < l.length ∧ seen.getLast? = some (bs.getD i 0) ∧ stp = clk

theorem pw_inj {bs : List Nat} (h : bs.Pairwise (· < ·)) {i j : Nat} (hi : i < bs.length) (hj : j < bs.length) (e : bs.getD i 0 = bs.getD j 0) : i = j := by
  have hp := List.pairwise_iff_getElem.1 h
  simp only [List.getD_eq_getElem?_getD, List.getElem?_eq_getElem hi, List.getElem?_eq_getElem hj, Option.getD_some] at e
  rcases Nat.lt_trichotomy i j with hlt | he | hgt
  · have := hp i j hi hj hlt; omega
  · exact he
  · have := hp j i hj hi hgt; omega

theorem Sep.rng {m : Nat} {es : List (V × V)} {L : List Asn} {st : St} (h : Sep (pt m (.mp es) :: L) st) {K : V → St → Prop} (hK : ∀ it st', Sep (Going m it (es.map fun e => (e, false)) none :: L) st' → K (.ptr (some (it, 0))) st') : rngMapS (.map (some m)) st K := by
  simp only [rngMapS, h.get]
  intro it hit bs clk h1 h2 h3
  refine hK it _ ?_
  have hm := ne_id h.get hit
  obtain ⟨a, r, k1, k2, k3, k4⟩ := h
  have hra : a it = none := by
    cases e : a it with
    | none => rfl
    | some o => have := k2 it o (add_some e); rw [hit] at this; cases this
  have hrr : r it = none := by
    cases e : r it with
    | none => rfl
    | some o => have := k2 it o (sub_right k1 it o e); rw [hit] at this; cases this
  refine ⟨(a.upd m (.mpi es bs clk)).upd it (.mit (some m) clk [] clk), r, (k1.upd (k1.some k3) _).upd hrr _, fun i o e => ?_, ?_, k4⟩
  · rw [upd_add, upd_add] at e
    by_cases e1 : i = it
    · simpa [e1] using e
    · by_cases e2 : i = m
      · simpa [e1, e2] using e
      · simp only [st_upd, e1, e2, if_false] at e ⊢
        exact k2 i o e
  · refine ⟨bs, clk, clk, [], clk, ?_, by simp, by simpa using h1, h2, h3, Nat.le_refl _, Nat.le_refl _, fun i hi => by simp, fun i e => by cases e⟩
    have : (es.map fun e => (e, false)).map (·.1) = es := by simp [Function.comp_def]
    rw [this]
    simp [hm]

theorem Sep.next {m it : Nat} {l : List ((V × V) × Bool)} {last : Option Nat} {L : List Asn} {st : St} (h : Sep (Going m it l last :: L) st) {K : V → St → Prop}
    (h1 : (∀ x ∈ l, x.2 = true) → K (.tup [.bool false]) st)
    (h2 : ∀ i (hi : i < l.length), l[i].2 = false → ∀ st', Sep (Going m it (l.set i (l[i].1, true)) (some i) :: L) st' → K (.tup [.bool true, l[i].1.1, l[i].1.2]) st') : nextMapS (.ptr (some (it, 0))) st K := by
  obtain ⟨a, r, k1, k2, ⟨bs, clk, since, seen, stp, g1, g2, g3, g4, g5, g6, g7, g8, g9⟩, k4⟩ := h
  have e1 := k2 _ _ (add_some g1)
  have e2 := k2 _ _ (add_some g2)
  simp only [nextMapS, e2, e1]
  refine ⟨g5, g6, by simpa using g3, fun hs => h1 fun x hx => ?_, fun i hi hn => ?_⟩
  · obtain ⟨i, hi, rfl⟩ := List.getElem_of_mem hx
    refine (g8 i hi).1 (hs _ ?_)
    rw [List.getD_eq_getElem?_getD, List.getElem?_eq_getElem (by omega)]
    exact List.getElem_mem _
  · have hi' : i < l.length := by simpa using hi
    have hf : l[i].2 = false := by
      cases hb : l[i].2 with
      | false => rfl
      | true => exact absurd ((g8 i hi').2 hb) hn
    have hd : (l.map (·.1)).getD i default = l[i].1 := by
      rw [List.getD_eq_getElem?_getD, List.getElem?_map, List.getElem?_eq_getElem hi']
      rfl
    rw [hd]
    refine h2 i hi' hf _ ?_
    have hne : m ≠ it := fun e => by rw [e, g2] at g1; cases g1
    refine ⟨a.upd it (.mit (some m) since (seen ++ [bs.getD i 0]) clk), r, k1.upd (k1.some g2) _, fun j o e => ?_, ⟨bs, clk, since, seen ++ [bs.getD i 0], clk, ?_, by simp, by simpa using g3, g4, g5, by omega, Nat.le_refl _, fun j hj => ?_, fun j e => ?_⟩, k4⟩
    · rw [upd_add] at e
      by_cases ej : j = it
      · simpa [ej] using e
      · simp only [st_upd, ej, if_false] at e ⊢
        exact k2 j o e
    · have : (l.set i (l[i].1, true)).map (·.1) = l.map (·.1) := by
        rw [List.map_set]
        apply List.ext_getElem
        · simp
        · intro j q1 q2
          simp only [List.getElem_set, List.getElem_map]
          split
          · rename_i e; subst e; rfl
          · rfl
      rw [this]
      simp [hne, g1]
    · simp only [List.length_set] at hj
      simp only [List.mem_append, List.mem_singleton, List.getElem_set]
      by_cases e : i = j
      · subst e; simp
      · simp only [e, if_false]
        rw [← g8 j hj]
        constructor
        · rintro (h | h)
          · exact h
          · exact absurd (pw_inj g4 (by omega) (by omega) h).symm e
        · exact .inl
    · cases e
      exact ⟨by simpa using hi', by simp, rfl⟩

theorem Sep.ent {m it i : Nat} {l : List ((V × V) × Bool)} {L : List Asn} {st : St} (h : Sep (Going m it l (some i) :: L) st) : ∃ hi : i < l.length, entryV st (.ptr (some (it, 0))) = some (.tup [l[i].1.1, l[i].1.2]) := by
  obtain ⟨a, r, k1, k2, ⟨bs, clk, since, seen, stp, g1, g2, g3, g4, g5, g6, g7, g8, g9⟩, k4⟩ := h
  have e1 := k2 _ _ (add_some g1)
  have e2 := k2 _ _ (add_some g2)
  obtain ⟨hi, q1, q2⟩ := g9 i rfl
  refine ⟨hi, ?_⟩
  have hib : i < bs.length := by omega
  have hf : bs.findIdx? (· == bs.getD i 0) = some i := by
    rw [List.findIdx?_eq_some_iff_getElem]
    refine ⟨hib, by simp [List.getD_eq_getElem?_getD, hib], fun j hj => ?_⟩
    simp only [Bool.not_eq_true, beq_eq_false_iff_ne, ne_eq]
    intro e
    have := pw_inj g4 (i := j) (j := i) (by omega) hib (by simp only [List.getD_eq_getElem?_getD, List.getElem?_eq_getElem (show j < bs.length by omega), Option.getD_some] at e ⊢; exact e)
    omega
  simp only [entryV, e2, e1, q2, if_true, q1, Option.bind_some, hf, List.getElem?_map, List.getElem?_eq_getElem hi, Option.map_some]

/-- It is gone through no more. -/
theorem Sep.gone {m it : Nat} {l : List ((V × V) × Bool)} {last : Option Nat} {L : List Asn} {st : St} (h : Sep (Going m it l last :: L) st) :
    frzV st (.map (some m)) = some (.map (some m), st.upd m (.mp (l.map (·.1)))) ∧ Sep (pt m (.mp (l.map (·.1))) :: L) (st.upd m (.mp (l.map (·.1)))) := by
  obtain ⟨a, r, k1, k2, ⟨bs, clk, since, seen, stp, g1, g2, g3, g4, g5, g6, g7, g8, g9⟩, k4⟩ := h
  have e1 := k2 _ _ (add_some g1)
  refine ⟨by simp [frzV, e1], a.upd m (.mp (l.map (·.1))), r, k1.upd (k1.some g1) _, fun j o e => ?_, by simp [pt], k4⟩
  rw [upd_add] at e
  by_cases ej : j = m
  · simpa [ej] using e
  · simp only [st_upd, ej, if_false] at e ⊢
    exact k2 j o e

/-- How many were not seen yet. -/
def unseen (l : List ((V × V) × Bool)) : Nat := l.countP fun x => !x.2
theorem unseen_set {l : List ((V × V) × Bool)} {i : Nat} (hi : i < l.length) (hf : l[i].2 = false) (x : V × V) : unseen (l.set i (x, true)) < unseen l := by
  unfold unseen
  rw [List.countP_set hi]
  have : 0 < l.countP fun x => !x.2 := List.countP_pos_iff.2 ⟨l[i], List.getElem_mem _, by simp [hf]⟩
  simp [hf]
  omega

theorem Sep.mem {i : Nat} {o : AObj} : ∀ {L : List Asn} {st : St}, Sep L st → pt i o ∈ L → st i = some o
  | [], _, _, h => by cases h
  | A :: L, st, hs, h => by
    rcases List.mem_cons.1 h with e | h
    · subst e; exact hs.get
    · obtain ⟨a, r, h1, h2, h3, h4⟩ := hs
      exact h2 _ _ (sub_right h1 _ _ (Sep.mem h4 h))

theorem Sep.memA {A : Asn} : ∀ {L : List Asn} {st : St}, Sep L st → A ∈ L → ∃ h', St.sub h' st ∧ A h'
  | [], _, _, h => by cases h
  | B :: L, st, hs, h => by
    rcases List.mem_cons.1 h with e | h
    · subst e; exact hs.part
    · obtain ⟨a, r, h1, h2, h3, h4⟩ := hs
      obtain ⟨h', k1, k2⟩ := Sep.memA h4 h
      exact ⟨h', sub_trans k1 (sub_trans (sub_right h1) h2), k2⟩

/-! ### sets of names -/
def setM (ks : List Id) : List (V × V) := encM kId V.bool (ks.map fun k => (k, true))
/-- A set of names, in whatever order they stand there. -/
def MapSet (aid : Nat) (keys : List Id) : Asn := fun h => ∃ ks, ks.Perm keys ∧ h aid = some (.mp (setM ks))
def addK (keys : List Id) (x : Id) : List Id := if x ∈ keys then keys else keys ++ [x]

theorem set_lookup {K : Type} [DecidableEq K] (ks : List K) (x : K) : (ks.map fun k => (k, true)).lookup x = if x ∈ ks then some true else none := by
  induction ks with
  | nil => simp
  | cons k l ih =>
    simp only [List.map_cons, List.lookup_cons, ih]
    by_cases h : x = k
    · simp [h]
    · have : (x == k) = false := by simp [h]
      simp [h, this]
theorem set_aSet (ks : List Id) (x : Id) : aSet x true (ks.map fun k => (k, true)) = (addK ks x).map fun k => (k, true) := by
  induction ks with
  | nil => simp [aSet, addK]
  | cons k l ih =>
    simp only [List.map_cons, aSet, addK] at ih ⊢
    by_cases h : x = k
    · simp [h]
    · simp only [h, if_false, List.mem_cons, false_or]
      rw [ih]
      split <;> simp
theorem set_aDel (ks : List Id) (x : Id) : aDel x (ks.map fun k => (k, true)) = (ks.erase x).map fun k => (k, true) := by
  induction ks with
  | nil => simp [aDel]
  | cons k l ih =>
    simp only [List.map_cons, aDel, List.erase_cons]
    by_cases h : x = k
    · simp [h]
    · have : (k == x) = false := by simp; exact fun e => h e.symm
      simp only [h, if_false, this, Bool.false_eq_true]
      rw [ih]
      rfl
theorem addK_perm {a b : List Id} (h : a.Perm b) (x : Id) : (addK a x).Perm (addK b x) := by
  unfold addK
  by_cases hx : x ∈ a
  · rw [if_pos hx, if_pos (h.mem_iff.1 hx)]; exact h
  · rw [if_neg hx, if_neg (fun e => hx (h.mem_iff.2 e))]
    exact h.append_right _

theorem MapSet.look {aid : Nat} {keys : List Id} {st : St} (h : MapSet aid keys st) (x : Id) : lookupV st (.agg 32) (.bool false) false (.map (some aid)) (.agg (eId x)) = some (.bool (decide (x ∈ keys))) := by
  obtain ⟨ks, hp, hs⟩ := h
  have := lookup_enc keyed_id hs (.bool false) false x
  rw [show V.agg (eId x) = kId x from rfl, this, set_lookup]
  by_cases hx : x ∈ ks
  · simp [hx, hp.mem_iff.1 hx]
  · have hx' : x ∉ keys := fun e => hx (hp.mem_iff.2 e)
    simp [hx, hx']
theorem MapSet.len {aid : Nat} {keys : List Id} {st : St} (h : MapSet aid keys st) : lenMapV st (.map (some aid)) = some (.int .i64 keys.length) := by
  obtain ⟨ks, hp, hs⟩ := h
  rw [lenMap_mp hs, ← hp.length_eq]
  simp [setM]
theorem Sep.mset {aid : Nat} {keys : List Id} {L : List Asn} {st : St} (h : Sep (MapSet aid keys :: L) st) (x : Id) : ∃ st', msetS st (.agg 32) (.map (some aid)) (.agg (eId x)) (.bool true) = some st' ∧ Sep (MapSet aid (addK keys x) :: L) st' := by
  obtain ⟨a, r, h1, h2, ⟨ks, hp, hs⟩, h4⟩ := h
  have e := mset_enc keyed_id (h2 _ _ (add_some hs)) x true
  rw [set_aSet] at e
  have hsep : Sep (pt aid (.mp (setM ks)) :: L) st := ⟨a, r, h1, h2, hs, h4⟩
  exact ⟨_, e, (hsep.set _).head fun h hh => ⟨addK ks x, addK_perm hp x, hh⟩⟩
theorem Sep.mdel {aid : Nat} {keys : List Id} {L : List Asn} {st : St} (h : Sep (MapSet aid keys :: L) st) (x : Id) : ∃ st', mdelS st (.agg 32) (.map (some aid)) (.agg (eId x)) = some st' ∧ Sep (MapSet aid (keys.erase x) :: L) st' := by
  obtain ⟨a, r, h1, h2, ⟨ks, hp, hs⟩, h4⟩ := h
  have e := mdel_enc keyed_id (h2 _ _ (add_some hs)) x
  rw [set_aDel] at e
  have hsep : Sep (pt aid (.mp (setM ks)) :: L) st := ⟨a, r, h1, h2, hs, h4⟩
  exact ⟨_, e, (hsep.set _).head fun h hh => ⟨ks.erase x, hp.erase x, hh⟩⟩
theorem MapSet.sub {aid : Nat} {keys : List Id} {h st : St} (hs : MapSet aid keys h) (hsub : St.sub h st) : MapSet aid keys st := by
  obtain ⟨ks, hp, hh⟩ := hs
  exact ⟨ks, hp, hsub _ _ hh⟩
theorem Sep.setOf {aid : Nat} {keys : List Id} {L : List Asn} {st : St} (h : Sep L st) (hm : MapSet aid keys ∈ L) : MapSet aid keys st := by
  obtain ⟨h', k1, k2⟩ := h.memA hm
  exact k2.sub k1
end Go.Ab

/-
  Operands, lists of cells, and the reading of memory.
-/
import Derived.Test.YtpmfkckookkgmaaAbMem
set_option linter.unusedSimpArgs false
set_option linter.unusedVariables false
namespace Go.Ab
open Go Go.RowKit

theorem getD_toList (xs : Array Value) (i : Nat) : xs.getD i undef = xs.toList.getD i undef := by
  rw [Array.getD_eq_getD_getElem?, List.getD_eq_getElem?_getD, Array.getElem?_toList]

section
variable {G : Gh}

theorem LRel.nil : LRel G [] [] := ⟨rfl, fun i hi => absurd hi (Nat.not_lt_zero _)⟩
theorem LRel.cons {v : V} {x : Value} {vs : List V} {xs : List Value} (h : VRel G v x) (k : LRel G vs xs) : LRel G (v :: vs) (x :: xs) := by
  refine ⟨by simp [k.1], fun i hi => ?_⟩
  cases i with
  | zero => exact h
  | succ i => exact k.2 i (by simpa using hi)
theorem LRel.head {v : V} {x : Value} {vs : List V} {xs : List Value} (h : LRel G (v :: vs) (x :: xs)) : VRel G v x := h.2 0 (by simp)
theorem LRel.tail {v : V} {x : Value} {vs : List V} {xs : List Value} (h : LRel G (v :: vs) (x :: xs)) : LRel G vs xs :=
  ⟨by simpa using h.1, fun i hi => h.2 (i + 1) (by simpa using hi)⟩
theorem LRel.nil_inv {xs : List Value} (h : LRel G [] xs) : xs = [] := List.eq_nil_of_length_eq_zero h.1
theorem LRel.cons_inv {v : V} {vs : List V} {xs : List Value} (h : LRel G (v :: vs) xs) : ∃ x ys, xs = x :: ys ∧ VRel G v x ∧ LRel G vs ys := by
  cases xs with
  | nil => exact absurd h.1 (by simp)
  | cons x ys => exact ⟨x, ys, rfl, h.head, h.tail⟩
theorem LRel.append {vs us : List V} {xs ys : List Value} (h : LRel G vs xs) (k : LRel G us ys) : LRel G (vs ++ us) (xs ++ ys) := by
  induction vs generalizing xs with
  | nil => rw [h.nil_inv]; exact k
  | cons v vs ih =>
    obtain ⟨x, zs, rfl, h1, h2⟩ := h.cons_inv
    exact LRel.cons h1 (ih h2)

/-- Cells: each is one cell. -/
def CRel (G : Gh) (cs : List V) (xs : List Value) : Prop := LRel G cs xs ∧ ∀ x ∈ xs, x.oneCell' = true

theorem CRel.mono {G' : Gh} (hle : G.le G') {cs : List V} {xs : List Value} (h : CRel G cs xs) : CRel G' cs xs := ⟨h.1.mono hle, h.2⟩
theorem CRel.length {cs : List V} {xs : List Value} (h : CRel G cs xs) : xs.length = cs.length := h.1.1
theorem CRel.nil : CRel G [] [] := ⟨LRel.nil, fun _ h => absurd h (by simp)⟩
theorem CRel.append {vs us : List V} {xs ys : List Value} (h : CRel G vs xs) (k : CRel G us ys) : CRel G (vs ++ us) (xs ++ ys) :=
  ⟨h.1.append k.1, fun x hx => (List.mem_append.1 hx).elim (h.2 x) (k.2 x)⟩
theorem CRel.mk {cs : List V} {xs : List Value} (hl : xs.length = cs.length) (hv : ∀ i, i < cs.length → VRel G (cs.getD i .junk) (xs.getD i undef)) (h1 : ∀ i, i < cs.length → (xs.getD i undef).oneCell' = true) : CRel G cs xs :=
  ⟨⟨hl, hv⟩, fun x hx => by
    obtain ⟨i, hi, rfl⟩ := List.getElem_of_mem hx
    have := h1 i (by omega)
    rwa [List.getD_eq_getElem?_getD, List.getElem?_eq_getElem hi] at this⟩
theorem CRel.val {cs : List V} {xs : List Value} (h : CRel G cs xs) (i : Nat) (hi : i < cs.length) : VRel G (cs.getD i .junk) (xs.getD i undef) := h.1.2 i hi
theorem CRel.one {cs : List V} {xs : List Value} (h : CRel G cs xs) (i : Nat) (hi : i < cs.length) : (xs.getD i undef).oneCell' = true := by
  have hi' : i < xs.length := by rw [h.length]; exact hi
  rw [List.getD_eq_getElem?_getD, List.getElem?_eq_getElem hi']
  exact h.2 _ (List.getElem_mem _)

theorem getD_drop {α : Type} (l : List α) (o i : Nat) (d : α) : (l.drop o).getD i d = l.getD (o + i) d := by
  simp [List.getD_eq_getElem?_getD]
theorem getD_take {α : Type} (l : List α) (n i : Nat) (d : α) (h : i < n) : (l.take n).getD i d = l.getD i d := by
  simp [List.getD_eq_getElem?_getD, List.getElem?_take, h]

theorem CRel.drop {cs : List V} {xs : List Value} (h : CRel G cs xs) (o : Nat) : CRel G (cs.drop o) (xs.drop o) := by
  refine CRel.mk (by simp [h.length]) (fun i hi => ?_) (fun i hi => ?_) <;> rw [List.length_drop] at hi
  · rw [getD_drop, getD_drop]; exact h.val _ (by omega)
  · rw [getD_drop]; exact h.one _ (by omega)
theorem CRel.take {cs : List V} {xs : List Value} (h : CRel G cs xs) (n : Nat) : CRel G (cs.take n) (xs.take n) := by
  refine CRel.mk (by simp [h.length]) (fun i hi => ?_) (fun i hi => ?_) <;> rw [List.length_take] at hi
  · rw [getD_take _ _ _ _ (by omega), getD_take _ _ _ _ (by omega)]; exact h.val _ (by omega)
  · rw [getD_take _ _ _ _ (by omega)]; exact h.one _ (by omega)

def spliceX (l : List Value) (o : Nat) (vs : List Value) : List Value := l.take o ++ vs ++ l.drop (o + vs.length)

theorem CRel.splice {cs vs : List V} {xs ys : List Value} (h : CRel G cs xs) (k : CRel G vs ys) (o : Nat) : CRel G (spliceV cs o vs) (spliceX xs o ys) := by
  unfold spliceV spliceX
  rw [k.length]
  exact ((h.take o).append k).append (h.drop _)

theorem length_spliceV {cs vs : List V} {o : Nat} (h : o + vs.length ≤ cs.length) : (spliceV cs o vs).length = cs.length := by
  unfold spliceV
  simp
  omega

theorem segOf_some {l c : List V} {off sz : Nat} (h : segOf l off sz = some c) : off + sz ≤ l.length ∧ c = (l.drop off).take sz := by
  unfold segOf at h
  split at h
  · exact ⟨‹_›, (Option.some.inj h).symm⟩
  · cases h

theorem VRel.agg_of {cs : List V} {xs : List Value} (h : CRel G cs xs) : VRel G (.agg cs) (.agg xs.toArray) :=
  .agg cs xs.toArray (by simp [h.length]) (fun i hi => by rw [getD_toList]; exact h.val i hi) (fun i hi => by rw [getD_toList]; exact h.one i hi)

theorem VRel.agg_inv {cs : List V} {x : Value} (h : VRel G (.agg cs) x) : ∃ xs : Array Value, x = .agg xs ∧ CRel G cs xs.toList := by
  cases h with
  | agg _ xs hl hv h1 => exact ⟨xs, rfl, CRel.mk (by simpa using hl) (fun i hi => by rw [← getD_toList]; exact hv i hi) (fun i hi => by rw [← getD_toList]; exact h1 i hi)⟩

/-- The cells of a value that can be stored. -/
theorem VRel.cells {v : V} {x : Value} {vs : List V} (h : VRel G v x) (hv : v.cells? = some vs) : CRel G vs x.cells.toList := by
  have one : ∀ {u : V} {y : Value}, VRel G u y → y.oneCell' = true → CRel G [u] [y] := fun hu hy => ⟨LRel.cons hu LRel.nil, fun z hz => by rw [List.mem_singleton.1 hz]; exact hy⟩
  cases v with
  | agg cs =>
    obtain ⟨xs, rfl, hc⟩ := h.agg_inv
    cases hv
    exact hc
  | junk => cases hv
  | tup l => cases hv
  | bool b => cases hv; cases h; exact one (.bool b) rfl
  | int k n => cases hv; cases h; exact one (.int k n) rfl
  | str s => cases hv; cases h; exact one (.str s) rfl
  | ptr p => cases hv; have h' := h; cases h <;> exact one h' rfl
  | eptr cs => cases hv; have h' := h; cases h <;> exact one h' rfl
  | sl k cs n => cases hv; have h' := h; cases h <;> exact one h' rfl
  | hsl a b c d => cases hv; have h' := h; cases h <;> exact one h' rfl
  | map m => cases hv; have h' := h; cases h <;> exact one h' rfl
  | func f c => cases hv; have h' := h; cases h <;> exact one h' rfl
  | nilf => cases hv; have h' := h; cases h <;> exact one h' rfl

theorem packV_rel {ag : Bool} {l : List V} {v : V} {xs : List Value} (h : CRel G l xs) (hp : packV ag l = some v) :
    if ag = true then VRel G v (.agg xs.toArray) else ∃ x, xs = [x] ∧ VRel G v x := by
  unfold packV at hp
  cases ag with
  | true =>
    simp only [if_true] at hp ⊢
    cases hp
    exact VRel.agg_of h
  | false =>
    simp only [Bool.false_eq_true, if_false] at hp ⊢
    match l, hp with
    | [u], hp =>
      cases hp
      obtain ⟨x, ys, rfl, h1, h2⟩ := h.1.cons_inv
      rw [h2.nil_inv]
      exact ⟨x, rfl, h1⟩

theorem ofCell_rel {x : Value} {v : V} (h : ofCell x = some v) : VRel G v x ∧ x.oneCell' = true := by
  unfold ofCell at h
  split at h <;> cases h
  · exact ⟨.bool _, rfl⟩
  · exact ⟨.int _ _, rfl⟩
  · exact ⟨.str _, rfl⟩
  · exact ⟨.nilptr, rfl⟩
  · exact ⟨.slnil _ (.inl rfl), rfl⟩
  · exact ⟨.nilmap, rfl⟩
  · exact ⟨.nilf, rfl⟩

theorem ofCells_rel : ∀ {l : List Value} {vs : List V}, ofCells l = some vs → CRel G vs l
  | [], vs, h => by cases h; exact CRel.nil
  | x :: l, vs, h => by
    simp only [ofCells] at h
    split at h
    · rename_i v us h1 h2
      cases h
      obtain ⟨a, b⟩ := ofCell_rel (G := G) h1
      have k := ofCells_rel h2
      exact ⟨LRel.cons a k.1, fun y hy => by
        rcases List.mem_cons.1 hy with rfl | hy
        · exact b
        · exact k.2 y hy⟩
    · cases h

theorem ofVal_rel {x : Value} {v : V} (h : ofVal x = some v) : VRel G v x := by
  unfold ofVal at h
  split at h
  · rename_i xs
    cases hc : ofCells xs.toList with
    | none => rw [hc] at h; cases h
    | some vs =>
      rw [hc] at h
      cases h
      have := VRel.agg_of (ofCells_rel (G := G) hc)
      simpa using this
  · exact (ofCell_rel h).1

variable {n : Nat} {env : Env} {a : Act}

theorem ofX_rel (he : EnvRel G n env a) {o : Operand} {x : X} (h : ofX n o = some x) : VRel G (x.ev env) (a.eval o) := by
  cases o with
  | tmp i =>
    simp only [ofX] at h
    split at h
    · cases h
      exact he.2.2 i ‹_›
    · cases h
  | const v =>
    simp only [ofX] at h
    cases hv : ofVal v with
    | none => rw [hv] at h; cases h
    | some u =>
      rw [hv] at h
      cases h
      exact ofVal_rel hv
  | func f =>
    cases h
    exact .func f [] #[] rfl (fun i hi => absurd hi (Nat.not_lt_zero _))
  | global g => cases h

theorem ofXs_rel (he : EnvRel G n env a) : ∀ {os : List Operand} {xs : List X}, ofXs n os = some xs → LRel G (xs.map (·.ev env)) (os.map a.eval)
  | [], xs, h => by cases h; exact LRel.nil
  | o :: os, xs, h => by
    simp only [ofXs] at h
    split at h
    · rename_i v us h1 h2
      cases h
      exact LRel.cons (ofX_rel he h1) (ofXs_rel he h2)
    · cases h
end

section
variable {B : Nat} {w0 : World} {G : Gh} {st : St} {w : World}

/-- The cells behind an object's number, as the machine reads them. -/
theorem seg_cells (h : StRel B w0 G st w) {id off sz b l m : Nat} {c : List V} (hs : st.seg id off sz = some c) (hι : G.ι id = some (b, l, m)) :
    ∃ xs, CRel G c xs ∧ xs.length = sz ∧ ∀ j x, xs[j]? = some x → w.cell? ⟨b, off + j, none⟩ = some x := by
  unfold St.seg at hs
  split at hs
  · rename_i cs hcs
    obtain ⟨h1, rfl⟩ := segOf_some hs
    obtain ⟨b', l', m', k1, k2, C, T, k3, k4, k5, k6, k7, k8⟩ := h.obj id _ hcs
    rw [hι] at k1
    cases k1
    have hC : CRel G cs (C.toList.take l) := CRel.mk (by simp; omega) (fun i hi => by rw [getD_take _ _ _ _ (by omega), ← getD_toList]; exact (k7 i hi).1)
      (fun i hi => by rw [getD_take _ _ _ _ (by omega), ← getD_toList]; exact (k7 i hi).2)
    refine ⟨((C.toList.take l).drop off).take sz, (hC.drop off).take sz, by simp; omega, fun j x hx => ?_⟩
    have hj : j < sz := by
      have := (List.getElem?_eq_some_iff.1 hx).1
      simp at this
      omega
    rw [List.getElem?_take, if_pos hj, List.getElem?_drop, List.getElem?_take, if_pos (by omega), Array.getElem?_toList] at hx
    simp only [World.cell?, k3, Option.isSome_none, Bool.false_eq_true, if_false]
    exact hx
  · rename_i cs hcs
    obtain ⟨h1, rfl⟩ := segOf_some hs
    obtain ⟨b', l', m', k1, k2, k5, k7⟩ := h.obj id _ hcs
    rw [hι] at k1
    cases k1
    let f : Nat → Value := fun i => (G.pm b i).getD undef
    have hf : ∀ i, i < cs.length → G.pm b i = some (f i) ∧ VRel G (cs.getD i .junk) (f i) ∧ (f i).oneCell' = true := fun i hi => by
      obtain ⟨x, e1, e2, e3⟩ := k7 i hi
      have : f i = x := by show (G.pm b i).getD undef = x; rw [e1]; rfl
      rw [this]
      exact ⟨e1, e2, e3⟩
    have hlen : ((List.range cs.length).map f).length = cs.length := by simp
    have hget : ∀ i, i < cs.length → ((List.range cs.length).map f).getD i undef = f i := fun i hi => by simp [List.getD_eq_getElem?_getD, hi]
    have hC : CRel G cs ((List.range cs.length).map f) := CRel.mk hlen (fun i hi => by rw [hget i hi]; exact (hf i hi).2.1) (fun i hi => by rw [hget i hi]; exact (hf i hi).2.2)
    refine ⟨(((List.range cs.length).map f).drop off).take sz, (hC.drop off).take sz, by simp; omega, fun j x hx => ?_⟩
    have hj : j < sz := by
      have := (List.getElem?_eq_some_iff.1 hx).1
      simp at this
      omega
    have hx' : ((List.range cs.length).map f)[off + j]? = some x := by
      rw [List.getElem?_take, if_pos hj, List.getElem?_drop] at hx
      exact hx
    have hoj : off + j < cs.length := by omega
    rw [List.getElem?_map, List.getElem?_range hoj] at hx'
    cases hx'
    exact h.pm b _ _ (hf _ hoj).1
  · cases hs

/-- The cells that nobody writes, as the machine reads them. -/
theorem pm_cells (h : StRel B w0 G st w) {cs : List V} {b o : Nat} {f : Nat → Value} (hp : ∀ i, i < cs.length → G.pm b (o + i) = some (f i))
    (hv : ∀ i, i < cs.length → VRel G (cs.getD i .junk) (f i)) (h1 : ∀ i, i < cs.length → (f i).oneCell' = true) :
    ∃ xs, CRel G cs xs ∧ xs.length = cs.length ∧ (∀ i, i < cs.length → xs.getD i undef = f i) ∧ ∀ j x, xs[j]? = some x → w.cell? ⟨b, o + j, none⟩ = some x := by
  have hget : ∀ i, i < cs.length → ((List.range cs.length).map f).getD i undef = f i := fun i hi => by simp [List.getD_eq_getElem?_getD, hi]
  refine ⟨(List.range cs.length).map f, CRel.mk (by simp) (fun i hi => by rw [hget i hi]; exact hv i hi) (fun i hi => by rw [hget i hi]; exact h1 i hi), by simp, hget, fun j x hx => ?_⟩
  have hj : j < cs.length := by
    have := (List.getElem?_eq_some_iff.1 hx).1
    simpa using this
  rw [List.getElem?_map, List.getElem?_range hj] at hx
  cases hx
  exact h.pm b _ _ (hp j hj)
end
end Go.Ab

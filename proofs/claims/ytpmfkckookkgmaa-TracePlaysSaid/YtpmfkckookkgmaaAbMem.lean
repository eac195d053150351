/-
  What the relation between the abstract heap and the machine's memory bears: new blocks, written objects, objects that nobody writes any more.
-/
import Derived.Test.YtpmfkckookkgmaaAbComp
set_option linter.unusedSimpArgs false
set_option linter.unusedVariables false
namespace Go.Ab
open Go Go.RowKit

theorem lt_of_heap {w : World} {b : Nat} {o : Obj} (h : w.heap[b]? = some o) : b < w.heap.size := (Array.getElem?_eq_some_iff.1 h).1

theorem block_of_cell {w : World} {b o : Nat} {v : Value} (h : w.cell? ⟨b, o, none⟩ = some v) : b < w.heap.size := by
  unfold World.cell? at h
  simp only at h
  split at h
  · exact lt_of_heap ‹_›
  · cases h

theorem ObjRel.congr {G : Gh} {w w' : World} {b l m : Nat} {ob : AObj} (h : ObjRel G w b l m ob) (hb : b < w.heap.size → w'.heap[b]? = w.heap[b]?) : ObjRel G w' b l m ob := by
  cases ob with
  | cells cs =>
    obtain ⟨C, T, h1, h2⟩ := h
    exact ⟨C, T, (hb (lt_of_heap h1)).trans h1, h2⟩
  | ro cs => exact h
  | mp es =>
    obtain ⟨E, clk, h1, h2⟩ := h
    exact ⟨E, clk, (hb (lt_of_heap h1)).trans h1, h2⟩
  | siter s pos => exact (hb (lt_of_heap h)).trans h
  | mpi es bs clk =>
    obtain ⟨E, h1, h2⟩ := h
    exact ⟨E, (hb (lt_of_heap h1)).trans h1, h2⟩
  | mit mo since seen stp =>
    obtain ⟨bo, h1, h2⟩ := h
    exact ⟨bo, (hb (lt_of_heap h1)).trans h1, h2⟩

theorem ObjRel.mono {G G' : Gh} {w : World} {b l m : Nat} {ob : AObj} (hle : G.le G') (hpm : ∀ o, G.pm b o = none → G'.pm b o = none) (h : ObjRel G w b l m ob) : ObjRel G' w b l m ob := by
  cases ob with
  | cells cs =>
    obtain ⟨C, T, h1, h2, h3, h4, h5, h6⟩ := h
    exact ⟨C, T, h1, h2, h3, h4, fun i hi => ⟨(h5 i hi).1.mono hle, (h5 i hi).2⟩, fun o => hpm o (h6 o)⟩
  | ro cs => exact ⟨h.1, fun i hi => let ⟨x, h1, h2, h3⟩ := h.2 i hi; ⟨x, hle.pm _ _ _ h1, h2.mono hle, h3⟩⟩
  | mp es =>
    obtain ⟨E, clk, h1, h2, h3, h4⟩ := h
    exact ⟨E, clk, h1, h2, fun i hi => ⟨((h3 i hi).1).mono hle, ((h3 i hi).2).mono hle⟩, h4⟩
  | siter s pos => exact h
  | mpi es bs clk =>
    obtain ⟨E, h1, h2, h3, h4⟩ := h
    exact ⟨E, h1, h2, fun i hi => ⟨((h3 i hi).1).mono hle, ((h3 i hi).2).mono hle⟩, h4⟩
  | mit mo since seen stp =>
    obtain ⟨bo, h1, h2⟩ := h
    refine ⟨bo, h1, ?_⟩
    cases mo with
    | none => exact h2
    | some id =>
      obtain ⟨c, x, h3, h4⟩ := h2
      exact ⟨c, x, hle.ι _ _ h3, h4⟩

section
variable {B : Nat} {w0 : World} {G : Gh} {st : St} {w : World}

theorem StRel.dom (h : StRel B w0 G st w) {id : Nat} (hid : G.ι id = none) : st id = none := by
  cases hx : st id with
  | none => rfl
  | some o =>
    obtain ⟨b, l, m, h1, _⟩ := h.obj id o hx
    rw [hid] at h1
    cases h1

/-- New memory behind all that was there: nothing that is known changes. -/
theorem StRel.ext (h : StRel B w0 G st w) {w' : World} (hb : Below w.heap.size w w') : StRel B w0 G st w' := by
  refine ⟨h.below.trans (hb.mono h.size), Nat.le_trans h.size hb.size, fun id b x e => Nat.lt_of_lt_of_le (h.lt id b x e) hb.size, fun b o v e => ?_, fun id ob e => ?_, h.inj⟩
  · rw [hb.cell (p := ⟨b, o, none⟩) (block_of_cell (h.pm b o v e))]
    exact h.pm b o v e
  · obtain ⟨b, l, m, h1, h2, h3⟩ := h.obj id ob e
    exact ⟨b, l, m, h1, h2, h3.congr fun hlt => hb.block b hlt⟩

theorem size_alloc (w : World) (o : Obj) : (w.alloc o).heap.size = w.heap.size + 1 := by
  show (w.heap.push o).size = _
  simp
theorem heap_alloc_self (w : World) (o : Obj) : (w.alloc o).heap[w.heap.size]? = some o := by
  show (w.heap.push o)[w.heap.size]? = _
  simp
theorem below_alloc (w : World) (o : Obj) : Below w.heap.size w (w.alloc o) := (Below.refl _ _).alloc (Nat.le_refl _) o
theorem below_drew (w : World) : Below w.heap.size w w.drew := (Below.refl _ _).drew

/-- A ghost with one object more. -/
def Gh.addObj (G : Gh) (x : Nat × Nat × Nat) : Gh where
  ι := fun id => if id = G.N then some x else G.ι id
  pm := G.pm
  N := G.N + 1
  fresh := fun id h => by
    rw [if_neg (by omega)]
    exact G.fresh id (by omega)

theorem Gh.addObj_le (G : Gh) (x : Nat × Nat × Nat) : G.le (G.addObj x) :=
  ⟨fun id y h => by
    show (if id = G.N then some x else G.ι id) = some y
    rw [if_neg]
    · exact h
    · intro e
      rw [e, G.fresh G.N (Nat.le_refl _)] at h
      exact absurd h (by simp), fun _ _ _ h => h⟩

theorem Gh.addObj_new (G : Gh) (x : Nat × Nat × Nat) : (G.addObj x).ι G.N = some x := by simp [Gh.addObj]

theorem Gh.addObj_old (G : Gh) (x : Nat × Nat × Nat) {id : Nat} (h : id ≠ G.N) : (G.addObj x).ι id = G.ι id := by simp [Gh.addObj, h]

theorem St.upd_same (s : St) (id : Nat) (o : AObj) : (s.upd id o) id = some o := by simp [St.upd]
theorem St.upd_other (s : St) {id i : Nat} (o : AObj) (h : i ≠ id) : (s.upd id o) i = s i := by simp [St.upd, h]

/-- An object in the last block. -/
theorem StRel.addObj (h : StRel B w0 G st w) (o : Obj) (ob : AObj) (l m : Nat)
    (hob : ObjRel (G.addObj (w.heap.size, l, m)) (w.alloc o) w.heap.size l m ob) :
    st G.N = none ∧ StRel B w0 (G.addObj (w.heap.size, l, m)) (st.upd G.N ob) (w.alloc o) := by
  have hN : st G.N = none := h.dom (G.fresh _ (Nat.le_refl _))
  have hx := h.ext (below_alloc w o)
  have hle := G.addObj_le (w.heap.size, l, m)
  have hsz : (w.alloc o).heap.size = w.heap.size + 1 := size_alloc w o
  refine ⟨hN, hx.below, hx.size, fun id b x e => ?_, hx.pm, fun id ob' e => ?_, fun id id' b x x' h1 h2 e1 e2 => ?_⟩
  · by_cases hid : id = G.N
    · rw [hid, G.addObj_new] at e
      cases e
      omega
    · rw [G.addObj_old _ hid] at e
      exact hx.lt id b x e
  · by_cases hid : id = G.N
    · rw [hid, St.upd_same] at e
      cases e
      exact ⟨w.heap.size, l, m, by rw [hid]; exact G.addObj_new _, h.size, hob⟩
    · rw [St.upd_other _ _ hid] at e
      obtain ⟨b, l', m', k1, k2, k3⟩ := hx.obj id ob' e
      exact ⟨b, l', m', hle.ι _ _ k1, k2, k3.mono hle (fun _ e => e)⟩
  · have key : ∀ id x, (G.addObj (w.heap.size, l, m)).ι id = some (b, x) → (id = G.N ∧ b = w.heap.size) ∨ (id ≠ G.N ∧ G.ι id = some (b, x) ∧ b < w.heap.size) := by
      intro id x e1
      by_cases hid : id = G.N
      · left
        refine ⟨hid, ?_⟩
        rw [hid, G.addObj_new] at e1
        cases e1
        rfl
      · right
        rw [G.addObj_old _ hid] at e1
        exact ⟨hid, e1, h.lt _ _ _ e1⟩
    rcases key id x e1 with ⟨k1, k2⟩ | ⟨k1, k2, k3⟩ <;> rcases key id' x' e2 with ⟨k4, k5⟩ | ⟨k4, k5, k6⟩
    · rw [k1, k4]
    · omega
    · omega
    · rw [St.upd_other _ _ k1] at h1
      rw [St.upd_other _ _ k4] at h2
      exact h.inj id id' b x x' h1 h2 k2 k5

/-- A ghost with a block more that nobody writes. -/
def Gh.addPm (G : Gh) (b : Nat) (xs : List Value) : Gh where
  ι := G.ι
  pm := fun c o => if c = b then xs[o]? else G.pm c o
  N := G.N
  fresh := G.fresh

theorem Gh.addPm_le {G : Gh} {b : Nat} (hb : ∀ o, G.pm b o = none) (xs : List Value) : G.le (G.addPm b xs) :=
  ⟨fun _ _ h => h, fun c o v h => by
    show (if c = b then xs[o]? else G.pm c o) = some v
    by_cases e : c = b
    · rw [e, hb o] at h
      cases h
    · rw [if_neg e]
      exact h⟩

theorem Gh.addPm_new (G : Gh) (b : Nat) (xs : List Value) (o : Nat) : (G.addPm b xs).pm b o = xs[o]? := by simp [Gh.addPm]

theorem StRel.pm_lt (h : StRel B w0 G st w) {b : Nat} (hb : w.heap.size ≤ b) (o : Nat) : G.pm b o = none := by
  cases hx : G.pm b o with
  | none => rfl
  | some v =>
    have := block_of_cell (h.pm b o v hx)
    omega

/-- A new block of cells that nobody writes. -/
theorem StRel.addPm (h : StRel B w0 G st w) (xs : List Value) (T : TypeId) (fr : Nat × Nat) (ys : List Value) :
    G.le (G.addPm w.heap.size xs) ∧ StRel B w0 (G.addPm w.heap.size xs) st (w.alloc (.cells (xs ++ ys).toArray T fr)) := by
  have hx := h.ext (below_alloc w (.cells (xs ++ ys).toArray T fr))
  have hle := Gh.addPm_le (G := G) (b := w.heap.size) (fun o => h.pm_lt (Nat.le_refl _) o) xs
  refine ⟨hle, hx.below, hx.size, hx.lt, fun b o v e => ?_, fun id ob e => ?_, hx.inj⟩
  · by_cases hb : b = w.heap.size
    · subst hb
      rw [Gh.addPm_new] at e
      simp only [World.cell?, heap_alloc_self]
      simp only [Option.isSome_none, Bool.false_eq_true, if_false, List.getElem?_toArray]
      rw [List.getElem?_append_left (List.getElem?_eq_some_iff.1 e).1]
      exact e
    · exact hx.pm b o v (by simpa [Gh.addPm, hb] using e)
  · obtain ⟨b, l, m, k1, k2, k3⟩ := hx.obj id ob e
    have hlt := h.lt _ _ _ k1
    exact ⟨b, l, m, k1, k2, k3.mono hle (fun o ho => by
      show (if b = w.heap.size then xs[o]? else G.pm b o) = none
      rw [if_neg (by omega)]
      exact ho)⟩

/-- An object's block is written: all else is as it was. -/
theorem StRel.setObj (h : StRel B w0 G st w) {id b l m : Nat} {ob ob' : AObj} (hid : st id = some ob) (hro : ∀ cs, ob ≠ .ro cs) (hι : G.ι id = some (b, l, m)) {w' : World}
    (hos : w'.os = w.os) (htape : w'.tape = w.tape) (hout : w'.output = w.output) (hsz : w'.heap.size = w.heap.size) (hk : ∀ k, k ≠ b → w'.heap[k]? = w.heap[k]?)
    (hpm : ∀ o, G.pm b o = none) (hob : ObjRel G w' b l m ob') : StRel B w0 G (st.upd id ob') w' := by
  obtain ⟨b', l', m', k1, k2, k3⟩ := h.obj id ob hid
  rw [hι] at k1
  cases k1
  refine ⟨⟨hos.trans h.below.os, htape.trans h.below.tape, hout.trans h.below.output, by rw [hsz]; exact h.below.size, fun k hkB => (hk k (by omega)).trans (h.below.block k hkB)⟩,
    by rw [hsz]; exact h.size, fun id b x e => by rw [hsz]; exact h.lt id b x e, fun c o v e => ?_, fun i o e => ?_, fun i i' c x x' h1 h2 e1 e2 => ?_⟩
  · have hc : c ≠ b := fun e' => by
      rw [e', hpm o] at e
      cases e
    have := h.pm c o v e
    rw [← this]
    exact World.cell?_of_block (w := w) (a := ⟨c, o, none⟩) (hk c hc)
  · by_cases hi : i = id
    · subst hi
      rw [St.upd_same] at e
      cases e
      exact ⟨b, l, m, hι, k2, hob⟩
    · rw [St.upd_other _ _ hi] at e
      obtain ⟨c, l', m', j1, j2, j3⟩ := h.obj i o e
      refine ⟨c, l', m', j1, j2, j3.congr fun _ => hk c fun ec => ?_⟩
      exact hi (h.inj i id c (l', m') (l, m) (by rw [e]; simp) (by rw [hid]; simp) j1 (by rw [ec]; exact hι))
  · have key : ∀ i, (st.upd id ob') i ≠ none → st i ≠ none := fun i hi => by
      by_cases e : i = id
      · rw [e, hid]; simp
      · rw [St.upd_other _ _ e] at hi
        exact hi
    exact h.inj i i' c x x' (key i h1) (key i' h2) e1 e2

/-- An object that nobody writes from now on. -/
theorem StRel.freeze (h : StRel B w0 G st w) {id b l m : Nat} {cs : List V} (hid : st id = some (.cells cs)) (hι : G.ι id = some (b, l, m)) :
    ∃ G', G.le G' ∧ StRel B w0 G' (st.upd id (.ro cs)) w := by
  obtain ⟨b', l', m', k1, k2, C, T, k3, k4, k5, k6, k7, k8⟩ := h.obj id _ hid
  rw [hι] at k1
  cases k1
  have hle := Gh.addPm_le (G := G) (b := b) k8 (C.toList.take l)
  have hget : ∀ i, i < l → (C.toList.take l)[i]? = some (C.getD i undef) := fun i hi => by
    rw [List.getElem?_take, if_pos hi, Array.getElem?_toList, Array.getD_eq_getD_getElem?, Array.getElem?_eq_getElem (by omega)]
    rfl
  refine ⟨G.addPm b (C.toList.take l), hle, h.below, h.size, h.lt, fun c o v e => ?_, fun i o e => ?_, fun i i' c x x' h1 h2 e1 e2 => ?_⟩
  · by_cases hc : c = b
    · subst hc
      rw [Gh.addPm_new] at e
      have hlt := (List.getElem?_eq_some_iff.1 e).1
      simp only [List.length_take, Array.length_toList] at hlt
      rw [hget o (by omega)] at e
      simp only [World.cell?, k3, Option.isSome_none, Bool.false_eq_true, if_false]
      rw [← e, Array.getD_eq_getD_getElem?, Array.getElem?_eq_getElem (by omega)]
      rfl
    · exact h.pm c o v (by simpa [Gh.addPm, hc] using e)
  · by_cases hi : i = id
    · subst hi
      rw [St.upd_same] at e
      cases e
      exact ⟨b, l, m, hι, k2, k5, fun j hj => ⟨C.getD j undef, by rw [Gh.addPm_new]; exact hget j (by omega), (k7 j hj).1.mono hle, (k7 j hj).2⟩⟩
    · rw [St.upd_other _ _ hi] at e
      obtain ⟨c, l', m', j1, j2, j3⟩ := h.obj i o e
      refine ⟨c, l', m', j1, j2, j3.mono hle fun o' ho' => ?_⟩
      show (if c = b then (C.toList.take l)[o']? else G.pm c o') = none
      rw [if_neg]
      · exact ho'
      · intro ec
        exact hi (h.inj i id c (l', m') (l, m) (by rw [e]; simp) (by rw [hid]; simp) j1 (by rw [ec]; exact hι))
  · have key : ∀ i, (st.upd id (.ro cs)) i ≠ none → st i ≠ none := fun i hi => by
      by_cases e : i = id
      · rw [e, hid]; simp
      · rw [St.upd_other _ _ e] at hi
        exact hi
    exact h.inj i i' c x x' (key i h1) (key i' h2) e1 e2

theorem sub_del (st : St) (id : Nat) : St.sub (st.del id) st := fun i o h => by
  unfold St.del at h
  by_cases e : i = id
  · rw [if_pos e] at h; cases h
  · rw [if_neg e] at h; exact h
end
end Go.Ab

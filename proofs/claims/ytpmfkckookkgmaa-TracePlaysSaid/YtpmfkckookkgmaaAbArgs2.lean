/-
  Arguments with slices in slices.
-/
import Derived.Test.YtpmfkckookkgmaaAbArgs
set_option linter.unusedSimpArgs false
set_option linter.unusedVariables false
namespace Go.Ab
open Go Go.RowKit Go.ChangeShapes Go.WideShapes Go.Deep
section
variable {H : Type} {enc : TypeId × Value → H} {P : Program} {w : World} {base : Nat} {spare : Nat → Bool} {held : Bool}

/-- What a type's cells are, as they are handed in. -/
def Opens (enc : TypeId × Value → H) (P : Program) (w : World) (base : Nat) (spare : Nat → Bool) (held : Bool) {α : Type} (f : α → List V) (sz : Nat) (t : TypeId) : Prop :=
  ∀ (fuel : Nat) (cs : List Value) (x : DataW H × List MemPlace), DataW.trod enc P w base spare held fuel t cs = some x → ∃ r : α, cs.length = sz ∧ ∀ j, j < sz → VRel (Gh.all w) ((f r).getD j .junk) (cs.getD j undef) ∧ (cs.getD j undef).oneCell' = true

theorem opens_byte {t : TypeId} (hu : P.underlying t = some (.int .u8)) : Opens enc P w base spare held e8 1 t := by
  intro fuel cs x h
  obtain ⟨n, rfl, _, hwf⟩ := DataW.trod_int hu h
  obtain ⟨b, hb⟩ := shape_byte (P := P) hu [.int .u8 n] rfl (.int hu n hwf)
  refine ⟨b, rfl, fun j hj => ?_⟩
  obtain rfl : j = 0 := by omega
  rw [← hb]
  exact ⟨.int _ _, rfl⟩
theorem opens_int {t : TypeId} (hu : P.underlying t = some (.int .i64)) : Opens enc P w base spare held e1 1 t := by
  intro fuel cs x h
  obtain ⟨n, rfl, _, hwf⟩ := DataW.trod_int hu h
  refine ⟨n, rfl, fun j hj => ?_⟩
  obtain rfl : j = 0 := by omega
  exact ⟨.int _ _, rfl⟩

/-- A slice, in whatever it lies. -/
theorem open_rows2 {α : Type} (f : α → List V) {sz : Nat} (hsz : 0 < sz) (hf : ∀ a, (f a).length = sz) {t e : TypeId} (ht : P.underlying t = some (.slice e)) (hc : P.cellsOf e = sz) (hsp : ∀ b, spare b = true) (ho : Opens enc P w base spare held f sz e)
    {fuel : Nat} {ao : Option Addr} {len cap : Nat} {x : DataW H × List MemPlace} (h : DataW.trod enc P w base spare held fuel t [.slice ao len cap] = some x) :
    ∃ l : List α, l.length = len ∧ VRel (Gh.all w) (.sl .any (rowsOf f l) l.length) (.slice ao len cap) := by
  rcases open_slice ht h with ⟨h0, _⟩ | ⟨a, len', cap', m, n, D, Pl, hcs, hb, hl, hm, hmm, hx, hi⟩
  · simp only [List.cons.injEq, Value.slice.injEq, and_true] at h0
    obtain ⟨rfl, rfl, rfl⟩ := h0
    exact ⟨[], rfl, .slnil _ (.inr rfl)⟩
  · simp only [List.cons.injEq, Value.slice.injEq, and_true] at hcs
    obtain ⟨rfl, rfl, rfl⟩ := hcs
    rw [hsp, if_pos rfl] at hmm
    subst hmm
    by_cases h0 : m = 0
    · subst h0
      obtain rfl : len = 0 := by omega
      exact ⟨[], rfl, .slz a⟩
    have hs : a.spot = none := by
      obtain ⟨cs', h1, h2⟩ := hi 0 (by omega)
      obtain ⟨_, k1, _⟩ := ho _ _ _ h2
      obtain ⟨_, hcl, hat⟩ := World.cells?_some h1
      have := hat 0 (by omega)
      have hlt : 0 < cs'.length := by omega
      rw [List.getElem?_eq_getElem hlt] at this
      have hq := World.cell?_spot this
      simpa [Addr.add] using hq
    obtain ⟨b, o, sp⟩ := a
    simp only at hs
    subst hs
    have row : ∀ i, i < len → ∃ r : α, ∀ j, j < sz → ∃ y, w.cell? ⟨b, o + (i * sz + j), none⟩ = some y ∧ VRel (Gh.all w) ((f r).getD j .junk) y ∧ y.oneCell' = true := fun i hil => by
      obtain ⟨cs', h1, h2⟩ := hi i (by omega)
      obtain ⟨r, k1, k2⟩ := ho _ _ _ h2
      obtain ⟨_, hcl, hat⟩ := World.cells?_some h1
      refine ⟨r, fun j hj => ⟨cs'.getD j undef, ?_, (k2 j hj).1, (k2 j hj).2⟩⟩
      have := hat j (by omega)
      rw [hc, add_lit, add_lit] at this
      rw [show o + (i * sz + j) = o + i * sz + j by omega]
      have hlt : j < cs'.length := by omega
      rw [List.getD_eq_getElem?_getD, List.getElem?_eq_getElem hlt]
      rw [List.getElem?_eq_getElem hlt] at this
      simpa using this
    obtain ⟨l, hll, hrow⟩ := choose_list len row
    have cell : ∀ i, i < (rowsOf f l).length → ∃ y, (w.cell? ⟨b, o + i, none⟩).getD undef = y ∧ w.cell? ⟨b, o + i, none⟩ = some y ∧ VRel (Gh.all w) ((rowsOf f l).getD i .junk) y ∧ y.oneCell' = true := fun i hil => by
      rw [rowsOf_length hf] at hil
      have hq : i / sz < l.length := (Nat.div_lt_iff_lt_mul hsz).2 hil
      obtain ⟨y, h1, h2, h3⟩ := hrow (i / sz) hq (i % sz) (Nat.mod_lt _ hsz)
      have e : i / sz * sz + i % sz = i := by rw [Nat.mul_comm]; exact Nat.div_add_mod i sz
      have hg := rowsOf_at hf l (i / sz) (i % sz) hq (Nat.mod_lt _ hsz)
      rw [e] at hg h1
      exact ⟨y, by rw [h1]; rfl, h1, by rw [hg]; exact h2, h3⟩
    refine ⟨l, hll, ?_⟩
    rw [hll]
    refine .sl .any _ len b o m (by simp) hl (fun e => by cases e) (fun i => (w.cell? ⟨b, o + i, none⟩).getD undef) (fun i hil => ?_) (fun i hil => ?_) (fun i hil => ?_) <;> obtain ⟨y, q1, q2, q3, q4⟩ := cell i hil
    · rw [q1]
      simp only [Gh.all]
      rw [if_pos (block_of_cell q2), q2]
    · rw [q1]; exact q3
    · rw [q1]; exact q4

/-- A cell that is a slice. -/
def eSl {α : Type} (f : α → List V) (l : List α) : List V := [.sl .any (rowsOf f l) l.length]
theorem opens_slice {α : Type} (f : α → List V) {sz : Nat} (hsz : 0 < sz) (hf : ∀ a, (f a).length = sz) {t e : TypeId} (ht : P.underlying t = some (.slice e)) (hc : P.cellsOf e = sz) (hsp : ∀ b, spare b = true) (ho : Opens enc P w base spare held f sz e) : Opens enc P w base spare held (eSl f) 1 t := by
  intro fuel cs x h
  have hcs : ∃ ao len cap, cs = [.slice ao len cap] := by
    rcases open_slice ht h with ⟨h0, _⟩ | ⟨a, len', cap', m, n, D, Pl, hcs, _⟩
    · exact ⟨_, _, _, h0⟩
    · exact ⟨_, _, _, hcs⟩
  obtain ⟨ao, len, cap, rfl⟩ := hcs
  obtain ⟨l, hl, hv⟩ := open_rows2 f hsz hf ht hc hsp ho h
  refine ⟨l, rfl, fun j hj => ?_⟩
  obtain rfl : j = 0 := by omega
  exact ⟨hv, rfl⟩

/-- A struct's fields, each opened. -/
theorem opens_fields {t : TypeId} {fs : Array Field} (hu : P.underlying t = some (.struct fs)) {fuel : Nat} {cs : List Value} {x : DataW H × List MemPlace} (h : DataW.trod enc P w base spare held fuel t cs = some x) :
    cs.length = P.cellsOf t ∧ ∀ (i : Nat) (fd : Field), fs[i]? = some fd → ∀ {α : Type} (f : α → List V) (sz : Nat), Opens enc P w base spare held f sz fd.type → P.cellsOf fd.type = sz → ∃ r : α, ∀ j, j < sz → VRel (Gh.all w) ((f r).getD j .junk) (cs.getD (fd.offset + j) undef) ∧ (cs.getD (fd.offset + j) undef).oneCell' = true := by
  obtain ⟨xs, n', _, _, hlen, hxl, hg⟩ := DataW.trod_struct hu h
  refine ⟨hlen, fun i fd hi α f sz ho hc => ?_⟩
  have hlt : i < fs.size := (Array.getElem?_eq_some_iff.1 hi).1
  obtain ⟨r, k1, k2⟩ := ho _ _ _ ((hg i fd hi).trans (List.getElem?_eq_getElem (by omega)))
  refine ⟨r, fun j hj => ?_⟩
  have := k2 j hj
  rw [hc] at this
  simp only [List.getD_eq_getElem?_getD, List.getElem?_take, List.getElem?_drop, if_pos hj] at this ⊢
  exact this
end
end Go.Ab

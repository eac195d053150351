/-
  What a ban does to a list of rows: plain.
-/
import Derived.Test.YtpmfkckookkgmaaWBan4
set_option linter.unusedVariables false
set_option linter.unusedSimpArgs false
namespace Go.Proofs.Ytpmfkckookkgmaa
open Go Go.Ab

theorem findAt_none {rows : Rows2} {a : Int} : findAt rows a = none ↔ ∀ r ∈ rows, r.1 ≠ a := by
  simp [findAt, List.findIdx?_eq_none_iff]

theorem untilM_some {rows : Rows2} {a x : Int} (h : untilM rows a = some x) : (a, x) ∈ rows := by
  unfold untilM at h
  split at h <;> cases h
  rename_i i hf
  obtain ⟨hi, h1⟩ := findAt_lt hf
  rw [set_getD rows hi]
  have := List.getElem_mem hi
  rw [← h1]
  exact this

theorem untilM_none {rows : Rows2} {a : Int} : untilM rows a = none ↔ ∀ r ∈ rows, r.1 ≠ a := by
  rw [← findAt_none]
  unfold untilM
  split <;> simp_all

theorem putM_length {rows : Rows2} (h : rows.length ≤ 32) (a u : Int) : (putM rows a u).length ≤ 32 := by
  unfold putM
  split
  · assumption
  · rw [List.length_eraseIdx_of_lt (firstMin_lt _ _ (by simp) (Nat.le_refl _))]
    simp
    omega

theorem banM_length {rows : Rows2} (h : rows.length ≤ 32) (a u : Int) : (banM rows a u).length ≤ 32 := by
  unfold banM
  split
  · simpa using h
  · exact putM_length h a u

theorem putM_mem {rows : Rows2} {a u : Int} {r : Int × Int} (h : r ∈ putM rows a u) : r ∈ rows ∨ r = (a, u) := by
  unfold putM at h
  split at h
  · simpa using h
  · simpa using List.mem_of_mem_eraseIdx h

/-- Who has been banned is banned for as long at least; unless there was no room. -/
theorem banM_until {rows : Rows2} (a u : Int) : (∃ x, untilM (banM rows a u) a = some x ∧ u ≤ x) ∨ (untilM (banM rows a u) a = none ∧ 32 ≤ rows.length) := by
  cases hf : findAt rows a with
  | some i =>
    obtain ⟨hi, h1⟩ := findAt_lt hf
    left
    have hb : banM rows a u = rows.set i (rows[i].1, max u rows[i].2) := by simp [banM, hf, hi]
    have hf2 : findAt (rows.set i (rows[i].1, max u rows[i].2)) a = some i := by
      unfold findAt at hf ⊢
      rw [List.findIdx?_eq_some_iff_getElem] at hf ⊢
      obtain ⟨k1, k2, k3⟩ := hf
      refine ⟨by simpa using hi, by simpa using h1, fun j hj => ?_⟩
      have := k3 j hj
      rw [List.getElem_set_ne (by omega)]
      exact this
    refine ⟨max u rows[i].2, ?_, by omega⟩
    rw [hb]
    simp [untilM, hf2, hi]
  | none =>
    have hb : banM rows a u = putM rows a u := by simp [banM, hf]
    rw [hb]
    cases hu : untilM (putM rows a u) a with
    | some x =>
      left
      refine ⟨x, rfl, ?_⟩
      rcases putM_mem (untilM_some hu) with h | h
      · exact absurd rfl (findAt_none.1 hf _ h)
      · cases h; omega
    | none =>
      right
      refine ⟨rfl, ?_⟩
      rw [untilM_none] at hu
      unfold putM at hu
      split at hu
      · exact absurd rfl (hu (a, u) (by simp))
      · rename_i h
        simp at h
        omega
end Go.Proofs.Ytpmfkckookkgmaa

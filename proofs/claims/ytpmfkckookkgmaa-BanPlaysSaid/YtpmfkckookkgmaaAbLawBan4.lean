/-
  The walk of BanPlays: the plain part.
-/
import Derived.Test.YtpmfkckookkgmaaAbLawBan2
set_option linter.unusedVariables false
set_option linter.unusedSimpArgs false
namespace Go.Ab
open Go

def updM (a u : Int) (r : Int × Int) : Int × Int := if r.1 = a then (r.1, max r.2 u) else r

theorem want_until {a : Int} : ∀ {rows : Rows2} (w : Option Int), Uniq rows → rows.foldl (fun w x => if x.1 = a then some x.2 else w) w = (untilM rows a).or w
  | [], w, _ => by simp [untilM, findAt]
  | r :: l, w, h => by
    unfold Uniq at h
    simp only [List.map_cons, List.nodup_cons] at h
    have ih := want_until (a := a) (rows := l) (if r.1 = a then some r.2 else w) h.2
    simp only [List.foldl_cons, ih]
    rw [untilM_find (r :: l)]
    by_cases e : r.1 = a
    · have hn : untilM l a = none := by
        rw [untilM_none]
        intro q hq e'
        exact h.1 (List.mem_map.2 ⟨q, hq, by rw [e', e]⟩)
      simp [e, hn]
    · have : (r.1 == a) = false := by simp [e]
      simp only [e, if_false, List.find?_cons, this]
      rw [untilM_find l]

theorem map_known {rows : Rows2} (h : Uniq rows) {a u : Int} {i : Nat} (hf : findAt rows a = some i) : rows.map (updM a u) = banM rows a u := by
  obtain ⟨hi, h1⟩ := findAt_lt hf
  rw [show banM rows a u = rows.set i ((rows.getD i (0, 0)).1, max u (rows.getD i (0, 0)).2) by simp [banM, hf], set_getD rows hi]
  apply List.ext_getElem
  · simp
  · intro j h2 h3
    simp only [List.length_map] at h2
    simp only [List.getElem_map, List.getElem_set]
    by_cases e : i = j
    · subst e
      simp [updM, h1, Int.max_comm]
    · have hne : rows[j].1 ≠ a := by
        intro e'
        have hp := List.pairwise_iff_getElem.1 h
        rcases Nat.lt_or_gt_of_ne e with hlt | hlt
        · have := hp i j (by simpa using hi) (by simpa using h2) hlt
          simp only [List.getElem_map] at this
          exact this (by rw [h1, e'])
        · have := hp j i (by simpa using h2) (by simpa using hi) hlt
          simp only [List.getElem_map] at this
          exact this (by rw [h1, e'])
      simp [e, updM, hne]

theorem map_unknown {rows : Rows2} {a u : Int} (hf : findAt rows a = none) : rows.map (updM a u) = rows := by
  have := findAt_none.1 hf
  conv => rhs; rw [← List.map_id rows]
  exact List.map_congr_left fun r hr => by simp [updM, this r hr]

theorem known_find (rows : Rows2) (a : Int) : rows.any (fun r => r.1 == a) = (findAt rows a).isSome := by
  cases hf : findAt rows a with
  | none =>
    have := findAt_none.1 hf
    simpa using this
  | some i =>
    obtain ⟨hi, h1⟩ := findAt_lt hf
    rw [List.any_eq_true.2 ⟨rows[i], List.getElem_mem _, by simpa using h1⟩]
    rfl

/-- What an operation does. -/
def stepM (rows : Rows2) (o : Int × Int × Int) : Rows2 := if o.1 = 1 then rows.filter (keepP o.2.2) else banM rows o.2.1 o.2.2
def playM (l : List (Int × Int × Int)) : Rows2 := l.foldl stepM []
theorem playM_snoc (l : List (Int × Int × Int)) (o : Int × Int × Int) : playM (l ++ [o]) = stepM (playM l) o := by simp [playM]
theorem step_all {rows : Rows2} (h : Uniq rows) (hl : rows.length ≤ 32) (o : Int × Int × Int) : Uniq (stepM rows o) ∧ (stepM rows o).length ≤ 32 := by
  unfold stepM
  split
  · exact ⟨uniq_filter h _, Nat.le_trans (List.length_filter_le _ _) hl⟩
  · exact ⟨uniq_ban h _ _, banM_length hl _ _⟩
theorem play_all (l : List (Int × Int × Int)) : Uniq (playM l) ∧ (playM l).length ≤ 32 := by
  have key : ∀ (l : List (Int × Int × Int)) (rows : Rows2), Uniq rows → rows.length ≤ 32 → Uniq (l.foldl stepM rows) ∧ (l.foldl stepM rows).length ≤ 32 := by
    intro l
    induction l with
    | nil => intro rows h1 h2; exact ⟨h1, h2⟩
    | cons o l ih =>
      intro rows h1 h2
      obtain ⟨g1, g2⟩ := step_all h1 h2 o
      exact ih _ g1 g2
  exact key l [] (by simp [Uniq]) (by simp)
end Go.Ab

/-
  Bans, plainly: rows whose addresses are all unlike.
-/
import Derived.Test.YtpmfkckookkgmaaAbBanB
set_option linter.unusedVariables false
set_option linter.unusedSimpArgs false
namespace Go.Ab
open Go

theorem untilM_find (rows : Rows2) (a : Int) : untilM rows a = (rows.find? fun r => r.1 == a).map (·.2) := by
  unfold untilM findAt
  induction rows with
  | nil => simp
  | cons r l ih =>
    simp only [List.findIdx?_cons, List.find?_cons]
    cases h : (r.1 == a) with
    | true => simp
    | false =>
      simp only [Bool.false_eq_true, if_false, ← ih]
      cases l.findIdx? (fun r => r.1 == a) <;> simp

def Uniq (rows : Rows2) : Prop := (rows.map (·.1)).Nodup

theorem uniq_until {rows : Rows2} (h : Uniq rows) {a x : Int} (hm : (a, x) ∈ rows) : untilM rows a = some x := by
  rw [untilM_find]
  induction rows with
  | nil => cases hm
  | cons r l ih =>
    unfold Uniq at h
    simp only [List.map_cons, List.nodup_cons] at h
    rcases List.mem_cons.1 hm with e | hm
    · subst e; simp
    · have : (r.1 == a) = false := by
        simp
        intro e
        exact h.1 (List.mem_map.2 ⟨(a, x), hm, e.symm⟩)
      simp only [List.find?_cons, this]
      exact ih h.2 hm

theorem uniq_filter {rows : Rows2} (h : Uniq rows) (p : Int × Int → Bool) : Uniq (rows.filter p) := by
  unfold Uniq at *
  exact h.sublist ((List.filter_sublist (l := rows)).map _)

theorem until_filter {rows : Rows2} (h : Uniq rows) (a now : Int) : untilM (rows.filter (keepP now)) a = if bannedM rows a now = true then untilM rows a else none := by
  cases hu : untilM rows a with
  | none =>
    have : untilM (rows.filter (keepP now)) a = none := by
      rw [untilM_none] at hu ⊢
      exact fun r hr => hu r (List.mem_filter.1 hr).1
    simp [this]
  | some x =>
    have hm := untilM_some hu
    by_cases hx : now < x
    · have : bannedM rows a now = true := by simp [bannedM, hu, hx]
      rw [if_pos this]
      exact uniq_until (uniq_filter h _) (List.mem_filter.2 ⟨hm, by simp [keepP, hx]⟩)
    · have : bannedM rows a now = false := by simp [bannedM, hu, hx]
      rw [if_neg (by rw [this]; simp)]
      rw [untilM_none]
      rintro r hr e
      obtain ⟨h1, h2⟩ := List.mem_filter.1 hr
      have h3 : (a, r.2) ∈ rows := by rw [← e]; exact h1
      have h4 := uniq_until h h3
      rw [hu] at h4
      cases h4
      simp [keepP] at h2
      omega

theorem banned_filter {rows : Rows2} (h : Uniq rows) (a now : Int) : bannedM (rows.filter (keepP now)) a now = bannedM rows a now := by
  unfold bannedM
  rw [until_filter h]
  cases hb : bannedM rows a now with
  | true => rw [if_pos rfl]
  | false =>
    simp
    unfold bannedM at hb
    cases hu : untilM rows a with
    | none => rfl
    | some u => rw [hu] at hb; simp at hb; simp [hb]

theorem filter_again (rows : Rows2) (now : Int) : (rows.filter (keepP now)).filter (keepP now) = rows.filter (keepP now) := by
  rw [List.filter_filter]
  simp

theorem uniq_ban {rows : Rows2} (h : Uniq rows) (a u : Int) : Uniq (banM rows a u) := by
  cases hf : findAt rows a with
  | some i =>
    obtain ⟨hi, h1⟩ := findAt_lt hf
    rw [show banM rows a u = rows.set i ((rows.getD i (0, 0)).1, max u (rows.getD i (0, 0)).2) by simp [banM, hf]]
    have : (rows.set i (rows[i].1, max u rows[i].2)).map (·.1) = rows.map (·.1) := by
      apply List.ext_getElem
      · simp
      · intro j h1 h2
        simp only [List.getElem_map, List.getElem_set]
        split
        · rename_i e; subst e; rfl
        · rfl
    simp only [set_getD rows hi]
    unfold Uniq
    rw [this]
    exact h
  | none =>
    have hn : Uniq (rows ++ [(a, u)]) := by
      unfold Uniq
      rw [List.map_append, List.nodup_append]
      refine ⟨h, by simp, ?_⟩
      intro x hx y hy e
      simp at hy
      subst hy
      obtain ⟨r, hr, rfl⟩ := List.mem_map.1 hx
      exact findAt_none.1 hf r hr e
    rw [show banM rows a u = putM rows a u by simp [banM, hf]]
    unfold putM
    split
    · exact hn
    · unfold Uniq at *
      exact hn.sublist ((List.eraseIdx_sublist _ _).map _)

theorem ban_mem {rows : Rows2} {a u : Int} {r : Int × Int} (h : r ∈ banM rows a u) : r.1 = a ∨ ∃ q ∈ rows, q.1 = r.1 := by
  unfold banM at h
  split at h
  · rename_i i hf
    obtain ⟨hi, h1⟩ := findAt_lt hf
    rw [set_getD rows hi] at h
    rcases List.mem_or_eq_of_mem_set h with h | h
    · exact .inr ⟨r, h, rfl⟩
    · exact .inl (by rw [h]; exact h1)
  · rcases putM_mem h with h | h
    · exact .inr ⟨r, h, rfl⟩
    · exact .inl (by rw [h])

theorem nodup_le : ∀ {l m : List Int}, l.Nodup → (∀ x ∈ l, x ∈ m) → l.length ≤ m.length
  | [], m, _, _ => by simp
  | x :: l, m, h, hs => by
    rw [List.nodup_cons] at h
    have hx := hs x (by simp)
    have := nodup_le (l := l) (m := m.erase x) h.2 (fun y hy => by
      rw [List.mem_erase_of_ne (fun e => h.1 (by rw [← e]; exact hy))]
      exact hs y (by simp [hy]))
    rw [List.length_erase_of_mem hx] at this
    have hp : 0 < m.length := List.length_pos_of_mem hx
    simp
    omega

/-- All bans of a list, one after the other. -/
def bansM (l : List (Int × Int × Int)) : Rows2 := l.foldl (fun rows o => banM rows o.2.1 o.2.2) []

theorem bansM_snoc (l : List (Int × Int × Int)) (o : Int × Int × Int) : bansM (l ++ [o]) = banM (bansM l) o.2.1 o.2.2 := by simp [bansM]

theorem bansM_all (l : List (Int × Int × Int)) : Uniq (bansM l) ∧ (bansM l).length ≤ 32 ∧ ∀ r ∈ bansM l, ∃ o ∈ l, o.2.1 = r.1 := by
  have key : ∀ (l : List (Int × Int × Int)) (rows : Rows2), Uniq rows → rows.length ≤ 32 → Uniq (l.foldl (fun rows o => banM rows o.2.1 o.2.2) rows) ∧ (l.foldl (fun rows o => banM rows o.2.1 o.2.2) rows).length ≤ 32 ∧ ∀ r ∈ l.foldl (fun rows o => banM rows o.2.1 o.2.2) rows, (∃ o ∈ l, o.2.1 = r.1) ∨ ∃ q ∈ rows, q.1 = r.1 := by
    intro l
    induction l with
    | nil => intro rows h1 h2; exact ⟨h1, h2, fun r hr => .inr ⟨r, hr, rfl⟩⟩
    | cons o l ih =>
      intro rows h1 h2
      obtain ⟨g1, g2, g3⟩ := ih (banM rows o.2.1 o.2.2) (uniq_ban h1 _ _) (banM_length h2 _ _)
      refine ⟨g1, g2, fun r hr => ?_⟩
      rcases g3 r hr with ⟨q, hq, e⟩ | ⟨q, hq, e⟩
      · exact .inl ⟨q, by simp [hq], e⟩
      · rcases ban_mem hq with h | ⟨p, hp, e'⟩
        · exact .inl ⟨o, by simp, by rw [← h, e]⟩
        · exact .inr ⟨p, hp, e'.trans e⟩
  obtain ⟨g1, g2, g3⟩ := key l [] (by simp [Uniq]) (by simp)
  exact ⟨g1, g2, fun r hr => (g3 r hr).resolve_right (by simp)⟩

/-- Who was asked for while they were banned. -/
def keptM (rows : Rows2) (now : Int) (l : List (Int × Int × Int)) : List Int := (l.filter fun o => bannedM rows o.2.1 now).map (·.2.1)

theorem kept_enough (l : List (Int × Int × Int)) (now : Int) : ((bansM l).filter (keepP now)).length ≤ (keptM (bansM l) now l).length := by
  obtain ⟨h1, h2, h3⟩ := bansM_all l
  have := nodup_le (uniq_filter h1 (keepP now)) (m := keptM (bansM l) now l) (fun x hx => by
    obtain ⟨r, hr, rfl⟩ := List.mem_map.1 hx
    obtain ⟨g1, g2⟩ := List.mem_filter.1 hr
    obtain ⟨o, ho, e⟩ := h3 r g1
    refine List.mem_map.2 ⟨o, List.mem_filter.2 ⟨ho, ?_⟩, e⟩
    have := uniq_until h1 (a := r.1) (x := r.2) g1
    simp [keepP] at g2
    simp [bannedM, e, this, g2])
  simpa using this

theorem kept_iff (rows : Rows2) (now a : Int) (l : List (Int × Int × Int)) (h : ∃ o ∈ l, o.2.1 = a) : a ∈ keptM rows now l ↔ bannedM rows a now = true := by
  unfold keptM
  constructor
  · intro hm
    obtain ⟨o, ho, rfl⟩ := List.mem_map.1 hm
    exact (List.mem_filter.1 ho).2
  · intro hb
    obtain ⟨o, ho, rfl⟩ := h
    exact List.mem_map.2 ⟨o, List.mem_filter.2 ⟨ho, hb⟩, rfl⟩

/-! ### two tables side by side -/
theorem ban_beside {A : Rows2} {a u0 x u : Int} (hx : x ≠ a) (hl : A.length + 2 ≤ 32) : banM ((a, u0) :: A) x u = (a, u0) :: banM A x u := by
  have hx' : (a == x) = false := by simp; exact fun e => hx e.symm
  unfold banM
  have : findAt ((a, u0) :: A) x = (findAt A x).map (· + 1) := by
    simp [findAt, List.findIdx?_cons, hx']
  rw [this]
  cases hf : findAt A x with
  | some i =>
    obtain ⟨hi, h1⟩ := findAt_lt hf
    simp
  | none =>
    have e1 : (((a, u0) :: A) ++ [(x, u)]).length ≤ 32 := by simp; omega
    have e2 : (A ++ [(x, u)]).length ≤ 32 := by simp; omega
    simp only [Option.map_none, putM, if_pos e1, if_pos e2]
    rfl

theorem until_beside {A : Rows2} {a u0 x : Int} (hx : x ≠ a) : untilM ((a, u0) :: A) x = untilM A x := by
  have hx' : (a == x) = false := by simp; exact fun e => hx e.symm
  rw [untilM_find, untilM_find]
  simp [hx']

theorem until_head {A : Rows2} {a u0 : Int} : untilM ((a, u0) :: A) a = some u0 := by
  rw [untilM_find]
  simp

theorem ban_grows (A : Rows2) (x u : Int) : (banM A x u).length ≤ A.length + 1 := by
  unfold banM
  split
  · simp
  · unfold putM
    split
    · simp
    · refine Nat.le_trans (List.length_eraseIdx_le _ _) (by simp)
end Go.Ab

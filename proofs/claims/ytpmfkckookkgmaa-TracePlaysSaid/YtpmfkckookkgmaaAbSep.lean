/-
  Parts of a heap side by side.
-/
import Derived.Test.YtpmfkckookkgmaaAbSimp
set_option linter.unusedSimpArgs false
set_option linter.unusedVariables false
namespace Go.Ab
open Go Go.RowKit

abbrev Asn := St → Prop
def pt (i : Nat) (o : AObj) : Asn := fun h => h i = some o

def Sep : List Asn → St → Prop
  | [], _ => True
  | A :: L, st => ∃ h r, Disj h r ∧ St.sub (h.add r) st ∧ A h ∧ Sep L r

theorem disj_symm {a b : St} (h : Disj a b) : Disj b a := fun i => (h i).symm
theorem disj_sub {a a' b : St} (h : Disj a b) (hs : St.sub a' a) : Disj a' b := h.sub hs
theorem sub_right {h r : St} (hd : Disj h r) : St.sub r (h.add r) := fun i o e => by
  have : h i = none := (hd i).resolve_right (by rw [e]; simp)
  simp [St.add, this, e]

theorem Sep.sub {L : List Asn} {st st' : St} (h : Sep L st) (hs : St.sub st st') : Sep L st' := by
  cases L with
  | nil => trivial
  | cons A L =>
    obtain ⟨a, r, h1, h2, h3, h4⟩ := h
    exact ⟨a, r, h1, sub_trans h2 hs, h3, h4⟩

theorem Sep.get {i : Nat} {o : AObj} {L : List Asn} {st : St} (h : Sep (pt i o :: L) st) : st i = some o := by
  obtain ⟨a, r, h1, h2, h3, h4⟩ := h
  exact h2 i o (add_some h3)

theorem Sep.drop {A : Asn} {L : List Asn} {st : St} (h : Sep (A :: L) st) : Sep L st := by
  obtain ⟨a, r, h1, h2, h3, h4⟩ := h
  exact Sep.sub h4 (sub_trans (sub_right h1) h2)

theorem Sep.head {A A' : Asn} {L : List Asn} {st : St} (hA : ∀ h, A h → A' h) (h : Sep (A :: L) st) : Sep (A' :: L) st := by
  obtain ⟨a, r, h1, h2, h3, h4⟩ := h
  exact ⟨a, r, h1, h2, hA _ h3, h4⟩

theorem Sep.swap {A B : Asn} {L : List Asn} {st : St} (h : Sep (A :: B :: L) st) : Sep (B :: A :: L) st := by
  obtain ⟨a, r, h1, h2, h3, b, r', k1, k2, k3, k4⟩ := h
  have hab : Disj a b := disj_symm (Disj.sub (disj_symm h1) (sub_trans (sub_add b r') k2))
  have har : Disj a r' := disj_symm (Disj.sub (disj_symm h1) (sub_trans (sub_right k1) k2))
  refine ⟨b, a.add r', fun i => ?_, fun i o e => h2 i o ?_, k3, a, r', har, St.sub_refl _, h3, k4⟩
  · rcases hab i with e | e
    · rcases k1 i with e' | e'
      · exact .inl e'
      · exact .inr (add_none.2 ⟨e, e'⟩)
    · exact .inl e
  · cases ha : a i with
    | some x =>
      have hb : b i = none := (hab i).resolve_left (by rw [ha]; simp)
      simp only [St.add, hb, ha] at e
      cases e
      exact add_some ha
    | none =>
      have : (b.add r') i = some o := by
        simp only [St.add, ha] at e ⊢
        exact e
      simp only [St.add, ha]
      exact k2 i o this

theorem Sep.tail {A : Asn} {L L' : List Asn} {st : St} (hL : ∀ r, Sep L r → Sep L' r) (h : Sep (A :: L) st) : Sep (A :: L') st := by
  obtain ⟨a, r, h1, h2, h3, h4⟩ := h
  exact ⟨a, r, h1, h2, h3, hL _ h4⟩

/-- The assertion at a place, brought to the front. -/
def pull : Nat → List Asn → List Asn
  | _, [] => []
  | 0, l => l
  | n + 1, A :: l => match pull n l with
    | B :: m => B :: A :: m
    | [] => [A]

theorem Sep.pull {st : St} : ∀ (n : Nat) (L : List Asn), Sep L st → Sep (Ab.pull n L) st := by
  intro n
  induction n generalizing st with
  | zero => intro L h; cases L <;> exact h
  | succ n ih =>
    intro L h
    cases L with
    | nil => trivial
    | cons A L =>
      have h1 := Sep.tail (fun r hr => ih L hr) h
      simp only [Ab.pull]
      cases hp : Ab.pull n L with
      | nil => rw [hp] at h1; exact h1
      | cons B m => rw [hp] at h1; exact h1.swap

theorem Sep.new {L : List Asn} {st : St} (h : Sep L st) {i : Nat} (hi : st i = none) (o : AObj) : Sep (pt i o :: L) (st.upd i o) := by
  refine ⟨fun j => if j = i then some o else none, st, fun j => ?_, fun j x e => ?_, by simp [pt], h⟩
  · by_cases e : j = i
    · exact .inr (e ▸ hi)
    · exact .inl (by simp [e])
  · by_cases e' : j = i
    · subst e'
      simpa [St.add, St.upd] using e
    · simpa [St.add, St.upd, e'] using e

theorem Sep.set {L : List Asn} {st : St} {i : Nat} {o : AObj} (h : Sep (pt i o :: L) st) (o' : AObj) : Sep (pt i o' :: L) (st.upd i o') := by
  obtain ⟨a, r, h1, h2, h3, h4⟩ := h
  refine ⟨a.upd i o', r, h1.upd (h1.some h3) _, fun j x e => ?_, by simp [pt], h4⟩
  rw [upd_add] at e
  by_cases e' : j = i
  · subst e'
    simpa [St.upd] using e
  · simp only [St.upd, e', if_false] at e ⊢
    exact h2 j x e

theorem Sep.del {L : List Asn} {st : St} {i : Nat} {o : AObj} (h : Sep (pt i o :: L) st) : Sep L (st.del i) := by
  obtain ⟨a, r, h1, h2, h3, h4⟩ := h
  refine h4.sub fun j x e => ?_
  have : j ≠ i := fun e' => by
    subst e'
    rw [h1.some h3] at e
    cases e
  simp only [St.del, this, if_false]
  exact h2 j x (sub_right h1 j x e)

theorem Sep.ne {i j : Nat} {o o' : AObj} {L : List Asn} {st : St} (h : Sep (pt i o :: pt j o' :: L) st) : i ≠ j := by
  obtain ⟨a, r, h1, h2, h3, h4⟩ := h
  have hj := Sep.get h4
  intro e
  subst e
  rw [h1.some h3] at hj
  cases hj

theorem Sep.one {A : Asn} {st : St} (h : A st) : Sep [A] st := by
  refine ⟨st, fun _ => none, fun _ => .inr rfl, fun i o e => ?_, h, trivial⟩
  simp only [St.add] at e
  cases hs : st i with
  | some x => rw [hs] at e; exact e
  | none => rw [hs] at e; cases e

/-- A call that needs a part of the heap. -/
theorem Sep.call {P : Program} {f : FuncId} {args : List V} {A : Asn} {L : List Asn} {st : St} (h : Sep (A :: L) st) {R : V → St → Prop} (hc : ∀ h, A h → ACalls P f args h R) : ACalls P f args st fun v st' => Sep (R v :: L) st' := by
  obtain ⟨a, r, h1, h2, h3, h4⟩ := h
  have hd : Disj a (fun i => if (a i).isSome = true then none else st i) := fun i => by
    cases e : a i with
    | none => exact .inl rfl
    | some o => exact .inr (by simp [e])
  have e : a.add (fun i => if (a i).isSome = true then none else st i) = st := by
    funext i
    simp only [St.add]
    cases e : a i with
    | some o => exact (h2 i o (add_some e)).symm
    | none => simp [e]
  have := (hc a h3).frame hd
  rw [e] at this
  refine this.mono ?_
  rintro v s ⟨s', k1, rfl, k3⟩
  have hr : St.sub r (fun i => if (a i).isSome = true then none else st i) := fun i o e => by
    have : a i = none := (h1 i).resolve_right (by rw [e]; simp)
    simp only [this, Option.isSome_none, Bool.false_eq_true, if_false]
    exact h2 i o (sub_right h1 i o e)
  refine ⟨s', r, disj_symm (Disj.sub (disj_symm k1) hr), ?_, k3, h4⟩
  intro i o e
  simp only [St.add] at e ⊢
  cases hs : s' i with
  | some x => rw [hs] at e; exact e
  | none => rw [hs] at e; exact hr i o e

theorem Sep.pure {p : Prop} {A : Asn} {L : List Asn} {st : St} (h : Sep ((fun h => p ∧ A h) :: L) st) : p ∧ Sep (A :: L) st := by
  obtain ⟨a, r, h1, h2, h3, h4⟩ := h
  exact ⟨h3.1, a, r, h1, h2, h3.2, h4⟩

theorem Sep.ex {α : Type} {A : α → Asn} {L : List Asn} {st : St} (h : Sep ((fun h => ∃ x, A x h) :: L) st) : ∃ x, Sep (A x :: L) st := by
  obtain ⟨a, r, h1, h2, ⟨x, h3⟩, h4⟩ := h
  exact ⟨x, a, r, h1, h2, h3, h4⟩

theorem Sep.part {A : Asn} {L : List Asn} {st : St} (h : Sep (A :: L) st) : ∃ h', St.sub h' st ∧ A h' := by
  obtain ⟨a, r, h1, h2, h3, h4⟩ := h
  exact ⟨a, sub_trans (sub_add a r) h2, h3⟩

/-- The heap as it was. -/
def Was (st : St) : Asn := fun h => h = st
theorem Sep.was {st0 st : St} {L : List Asn} (h : Sep (Was st0 :: L) st) : St.sub st0 st := by
  obtain ⟨h', h1, rfl⟩ := h.part
  exact h1
theorem Sep.start (st : St) : Sep [Was st] st := Sep.one rfl
end Go.Ab

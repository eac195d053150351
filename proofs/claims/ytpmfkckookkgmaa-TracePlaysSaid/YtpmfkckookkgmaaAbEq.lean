/-
  Equality of structs and arrays of whole numbers.
-/
import Derived.Test.YtpmfkckookkgmaaAbOps1
set_option linter.unusedSimpArgs false
set_option linter.unusedVariables false
namespace Go.Ab
open Go Go.RowKit

/-- Equality of the machine's cells that are whole numbers. -/
def eqX : List Value → List Value → Option Bool
  | [], [] => some true
  | .int k a :: xs, .int k' b :: ys => if k = k' then (eqX xs ys).map fun r => (a == b) && r else none
  | _, _ => none

theorem eqL_eqX {G : Gh} : ∀ {cs us : List V} {xs ys : List Value} {r : Bool}, LRel G cs xs → LRel G us ys → eqL cs us = some r → eqX xs ys = some r
  | [], [], xs, ys, r, h1, h2, h => by rw [h1.nil_inv, h2.nil_inv]; exact h
  | [], u :: us, xs, ys, r, h1, h2, h => by simp [eqL] at h
  | c :: cs, [], xs, ys, r, h1, h2, h => by cases c <;> simp [eqL] at h
  | c :: cs, u :: us, xs, ys, r, h1, h2, h => by
    obtain ⟨x, xs, rfl, hx, hxs⟩ := h1.cons_inv
    obtain ⟨y, ys, rfl, hy, hys⟩ := h2.cons_inv
    cases c <;> cases u <;> simp only [eqL] at h <;> try (cases h; done)
    rename_i k a k' b
    cases hx
    cases hy
    split at h
    · rename_i hk
      cases hr : eqL cs us with
      | none => rw [hr] at h; cases h
      | some r' =>
        rw [hr] at h
        simp only [eqX, hk, if_true, eqL_eqX hxs hys hr]
        exact h
    · cases h

theorem eqX_single {x y : Value} {r : Bool} (h : eqX [x] [y] = some r) : ∃ k a b, x = .int k a ∧ y = .int k b ∧ r = (a == b) := by
  unfold eqX at h
  split at h
  · rename_i h1 h2
    cases h1
  · rename_i k a xs k' b ys h1 h2
    cases h1
    cases h2
    split at h
    · rename_i hk
      subst hk
      cases h
      exact ⟨k, a, b, rfl, rfl, by simp⟩
    · cases h
  · cases h

theorem eqX_append : ∀ {xs ys : List Value} {us vs : List Value}, xs.length = ys.length → ∀ r, eqX (xs ++ us) (ys ++ vs) = some r → ∃ r1 r2, eqX xs ys = some r1 ∧ eqX us vs = some r2 ∧ r = (r1 && r2)
  | [], [], us, vs, _, r, h => ⟨true, r, rfl, h, by simp⟩
  | [], _ :: _, us, vs, hl, r, h => by simp at hl
  | _ :: _, [], us, vs, hl, r, h => by simp at hl
  | x :: xs, y :: ys, us, vs, hl, r, h => by
    cases x <;> cases y <;> simp only [List.cons_append, eqX] at h <;> try (cases h; done)
    rename_i k a k' b
    split at h
    · rename_i hk
      cases hr : eqX (xs ++ us) (ys ++ vs) with
      | none => rw [hr] at h; cases h
      | some r' =>
        rw [hr] at h
        cases h
        obtain ⟨r1, r2, h1, h2, rfl⟩ := eqX_append (by simpa using hl) r' hr
        exact ⟨(a == b) && r1, r2, by simp [eqX, hk, h1], h2, by rw [Bool.and_assoc]⟩
    · cases h

def packX (ag : Bool) (xs : List Value) : Value := if ag = true then .agg xs.toArray else xs.getD 0 undef

theorem run_part_seg {P : Program} {t : TypeId} {p : Bool × Nat} (hp : packOf P t = some p) {w : World} {xs : List Value} {off : Nat} (hl : off + p.2 ≤ xs.length) :
    (part t xs.toArray off).run P w = .ok (packX p.1 ((xs.drop off).take p.2)) w := by
  rw [run_part hp (by simpa using hl)]
  congr 1
  unfold packX
  cases hag : p.1 with
  | true => simp
  | false =>
    have h1 := (packOf_some hp).2.2 hag
    simp only [Bool.false_eq_true, if_false]
    rw [getD_toList, getD_take _ _ _ _ (by omega), getD_drop, Nat.add_zero]

theorem take_drop_split (xs : List Value) (o m k : Nat) : (xs.drop o).take (m + k) = (xs.drop o).take m ++ (xs.drop (o + m)).take k := by
  rw [List.take_add, List.drop_drop]

/-- The type's own pack. -/
theorem flat_pack {P : Program} {d : Nat} {t : TypeId} {n : Nat} (h : flatTy P d t = some n) : ∃ ag, packOf P t = some (ag, n) ∧ szOf P t = some n := by
  cases d with
  | zero => cases h
  | succ d =>
    unfold flatTy at h
    split at h
    · rename_i k hu
      split at h
      · rename_i hs
        cases h
        exact ⟨false, by simp [packOf, isAg, hu], hs⟩
      · cases h
    · rename_i fs hu
      split at h
      · cases h
      · obtain ⟨m, h1, h2⟩ := Option.bind_eq_some_iff.1 h
        split at h2
        · rename_i hs
          cases h2
          exact ⟨true, by simp [packOf, isAg, hu, hs], hs⟩
        · cases h2
    · rename_i len e hu
      split at h
      · cases h
      · obtain ⟨m, h1, h2⟩ := Option.bind_eq_some_iff.1 h
        split at h2
        · rename_i hs
          cases h2
          simp only [Bool.and_eq_true, decide_eq_true_eq] at hs
          exact ⟨true, by simp [packOf, isAg, hu, hs.2], hs.2⟩
        · cases h2
    · cases h

theorem flatFs_le {P : Program} {g : TypeId → Option Nat} : ∀ {fs : List Field} {n m : Nat}, flatFs P g fs n = some m → n ≤ m
  | [], n, m, h => by cases h; exact Nat.le_refl _
  | f :: fs, n, m, h => by
    simp only [flatFs] at h
    split at h
    · cases h
    · obtain ⟨k, h1, h2⟩ := Option.bind_eq_some_iff.1 h
      split at h2
      · have := flatFs_le h2
        omega
      · cases h2

theorem forIn_scan {P : Program} {w : World} (f : Nat → Option Bool × Unit → Sem (ForInStep (Option Bool × Unit))) (r : Nat → Bool) : ∀ (c i : Nat),
    (∀ j, i ≤ j → j < i + c → ∀ s, (f j s).run P w = .ok (if r j = true then .yield (none, ()) else .done (some false, ())) w) →
    (forIn (List.range' i c) ((none, ()) : Option Bool × Unit) f).run P w = .ok (if (List.range' i c).all r = true then (none, ()) else (some false, ())) w
  | 0, i, _ => by simp
  | c + 1, i, h => by
    have h0 := h i (Nat.le_refl _) (by omega) (none, ())
    have ih := forIn_scan f r c (i + 1) (fun j h1 h2 s => h j (by omega) (by omega) s)
    simp only [List.range'_succ, List.forIn_cons, Sem.run_bind, h0, Result.andThen_ok, List.all_cons]
    cases hr : r i with
    | false => simp
    | true =>
      simp only [if_true]
      rw [ih]
      cases (List.range' (i + 1) c).all r <;> rfl

theorem equal_flat {P : Program} : ∀ (d k : Nat) (t : TypeId) (n : Nat) (w : World) (xs ys : List Value) (r : Bool) (ag : Bool), flatTy P d t = some n → packOf P t = some (ag, n) → d ≤ k → xs.length = n → ys.length = n → eqX xs ys = some r →
    (Op.equalIn k t (packX ag xs) (packX ag ys)).run P w = .ok r w
  | 0, k, t, n, w, xs, ys, r, ag, h, _, _, _, _, _ => by cases h
  | d + 1, 0, t, n, w, xs, ys, r, ag, _, _, hk, _, _, _ => by omega
  | d + 1, k + 1, t, n, w, xs, ys, r, ag, h, hag, hk, hx, hy, he => by
    have h0 := h
    unfold flatTy at h
    split at h
    · rename_i kd hu
      split at h
      · cases h
        have : ag = false := by
          have := (packOf_some hag).1
          simp [isAg, hu] at this
          exact this
        subst this
        match xs, ys, hx, hy, he with
        | [x], [y], _, _, he =>
          obtain ⟨k1, a, b, rfl, rfl, rfl⟩ := eqX_single he
          simp only [packX, Bool.false_eq_true, if_false, List.getD_cons_zero]
          exact run_equalIn_int w k t k1 kd a b hu
      · cases h
    · rename_i fs hu
      split at h
      · cases h
      · rename_i hst
        simp only [Bool.or_eq_true, not_or, Bool.not_eq_true] at hst
        obtain ⟨m, h1, h2⟩ := Option.bind_eq_some_iff.1 h
        split at h2
        · cases h2
          have : ag = true := by
            have := (packOf_some hag).1
            simp [isAg, hu] at this
            exact this
          subst this
          simp only [packX, if_true]
          have hfo : P.fieldsOf t = fs := by simp [Program.fieldsOf, hu]
          rw [run_equalIn_struct w k t _ _ (by rw [hfo]; exact hu) hst.1, hfo]
          have key : ∀ (l : List Field) (o : Nat) (r : Bool), flatFs P (flatTy P d) l o = some n → n = xs.length → n = ys.length → eqX (xs.drop o) (ys.drop o) = some r →
              (Op.eqFields k xs.toArray ys.toArray l).run P w = .ok r w := by
            intro l
            induction l with
            | nil =>
              intro o r hf hmx hmy hq
              cases hf
              rw [List.drop_eq_nil_of_le (by omega), List.drop_eq_nil_of_le (by omega)] at hq
              cases hq
              rfl
            | cons f l ih =>
              intro o r hf hmx hmy hq
              simp only [flatFs] at hf
              split at hf
              · cases hf
              · rename_i hno
                simp only [Bool.or_eq_true, decide_eq_true_eq, not_or, ne_eq, Decidable.not_not] at hno
                obtain ⟨q, g1, g2⟩ := Option.bind_eq_some_iff.1 hf
                split at g2
                · rename_i hsq
                  obtain ⟨af, p1, p2⟩ := flat_pack g1
                  have hle := flatFs_le g2
                  have ex : xs.drop o = (xs.drop o).take q ++ xs.drop (o + q) := by rw [← List.drop_drop, List.take_append_drop]
                  have ey : ys.drop o = (ys.drop o).take q ++ ys.drop (o + q) := by rw [← List.drop_drop, List.take_append_drop]
                  rw [ex, ey] at hq
                  obtain ⟨r1, r2, q1, q2, rfl⟩ := eqX_append (by simp; omega) r hq
                  have e1 := run_part_seg (P := P) p1 (w := w) (xs := xs) (off := f.offset) (by simp only; omega)
                  have e2 := run_part_seg (P := P) p1 (w := w) (xs := ys) (off := f.offset) (by simp only; omega)
                  have e3 := equal_flat d k f.type q w ((xs.drop o).take q) ((ys.drop o).take q) r1 af g1 p1 (by omega) (by simp; omega) (by simp; omega) q1
                  rw [hno.2] at e1 e2
                  simp only [Op.eqFields, ne_eq, hno.1, not_false_eq_true, if_true, hno.2, Sem.run_bind, e1, e2, e3, Result.andThen_ok]
                  cases r1 with
                  | false => rfl
                  | true =>
                    simp only [Bool.not_true, Bool.false_eq_true, if_false, Bool.true_and]
                    exact ih (o + q) r2 g2 hmx hmy q2
                · cases g2
          exact key fs.toList 0 r h1 hx.symm hy.symm (by simpa using he)
        · cases h2
    · rename_i len e hu
      split at h
      · cases h
      · obtain ⟨m, h1, h2⟩ := Option.bind_eq_some_iff.1 h
        split at h2
        · rename_i hs
          cases h2
          simp only [Bool.and_eq_true, decide_eq_true_eq] at hs
          have : ag = true := by
            have := (packOf_some hag).1
            simp [isAg, hu] at this
            exact this
          subst this
          obtain ⟨ae, p1, p2⟩ := flat_pack h1
          simp only [packX, if_true]
          simp only [Op.equalIn, Sem.run_bind, run_underlying hu, Result.andThen_ok, run_sizeOf hs.1]
          have key : ∀ (c i : Nat) (r : Bool), i + c = len → eqX (xs.drop (i * m)) (ys.drop (i * m)) = some r →
              ∃ q : Nat → Bool, (∀ j, i ≤ j → j < i + c → (Op.equalIn k e (packX ae ((xs.drop (j * m)).take m)) (packX ae ((ys.drop (j * m)).take m))).run P w = .ok (q j) w) ∧ r = (List.range' i c).all q := by
            intro c
            induction c with
            | zero =>
              intro i r hi hq
              rw [List.drop_eq_nil_of_le (by rw [hx, ← hi]; simp), List.drop_eq_nil_of_le (by rw [hy, ← hi]; simp)] at hq
              cases hq
              exact ⟨fun _ => true, fun j h1 h2 => by omega, by simp⟩
            | succ c ih =>
              intro i r hi hq
              have hle : (i + 1) * m ≤ len * m := Nat.mul_le_mul_right _ (by omega)
              rw [Nat.add_mul, Nat.one_mul] at hle
              have ex : xs.drop (i * m) = (xs.drop (i * m)).take m ++ xs.drop ((i + 1) * m) := by rw [Nat.add_mul, Nat.one_mul, ← List.drop_drop, List.take_append_drop]
              have ey : ys.drop (i * m) = (ys.drop (i * m)).take m ++ ys.drop ((i + 1) * m) := by rw [Nat.add_mul, Nat.one_mul, ← List.drop_drop, List.take_append_drop]
              rw [ex, ey] at hq
              obtain ⟨r1, r2, q1, q2, rfl⟩ := eqX_append (by simp; omega) r hq
              have e3 := equal_flat d k e m w ((xs.drop (i * m)).take m) ((ys.drop (i * m)).take m) r1 ae h1 p1 (by omega) (by simp; omega) (by simp; omega) q1
              obtain ⟨q, g1, g2⟩ := ih (i + 1) r2 (by omega) q2
              refine ⟨fun j => if j = i then r1 else q j, fun j j1 j2 => ?_, ?_⟩
              · by_cases hj : j = i
                · subst hj; simpa using e3
                · simp only [hj, if_false]; exact g1 j (by omega) (by omega)
              · rw [g2, List.range'_succ, List.all_cons]
                simp only [if_true]
                congr 1
                apply Bool.eq_iff_iff.2
                simp only [List.all_eq_true, List.mem_range'_1]
                exact ⟨fun H j hj => by rw [if_neg (by omega)]; exact H j hj, fun H j hj => by have := H j hj; rwa [if_neg (by omega)] at this⟩
          obtain ⟨q, g1, g2⟩ := key len 0 r (by omega) (by simpa using he)
          rw [Std.Legacy.Range.forIn_eq_forIn_range']
          have hr : List.range' ([:len] : Std.Legacy.Range).start ([:len] : Std.Legacy.Range).size ([:len] : Std.Legacy.Range).step = List.range' 0 len := by simp [Std.Legacy.Range.size]
          rw [hr, forIn_scan _ q len 0]
          · rw [g2]
            cases (List.range' 0 len).all q <;> rfl
          · intro j j1 j2 s
            have hle : (j + 1) * m ≤ len * m := Nat.mul_le_mul_right _ (by omega)
            rw [Nat.add_mul, Nat.one_mul] at hle
            have e1 := run_part_seg (P := P) p1 (w := w) (xs := xs) (off := j * m) (by simp only; omega)
            have e2 := run_part_seg (P := P) p1 (w := w) (xs := ys) (off := j * m) (by simp only; omega)
            simp only [Sem.run_bind, e1, e2, g1 j j1 j2, Result.andThen_ok]
            cases q j <;> rfl
        · cases h2
    · cases h
end Go.Ab

/-
  Operations on numbers, strings and tests; structs and slices that are made.
-/
import Derived.Test.YtpmfkckookkgmaaAbEq
set_option linter.unusedSimpArgs false
set_option linter.unusedVariables false
namespace Go.Ab
open Go Go.RowKit

theorem beq_bytes (a b : ByteArray) : (a.toList == b.toList) = (a == b) := (beq_toListBytes a b).symm

section
variable {P : Program} {B : Nat} {w0 : World} {G : Gh} {st : St} {w : World} {n : Nat} {env : Env} {a : Act}

theorem bin_int {op : BinOp} {k k' : IntKind} {x y : Int} {r : V} (h : binV op (.int k x) (.int k' y) = some r) (t : TypeId) (ox oy : Operand) :
    ∃ z, (do eqGuard op t ox oy (.int k x) (.int k' y); binOp op t (.int k x) (.int k' y) : Sem Value).run P w = .ok z w ∧ VRel G r z := by
  simp only [eqGuard_at_int, pure_bind]
  by_cases hk : k = k'
  · subst hk
    cases op <;> simp only [binV, binI, if_true] at h <;> first
      | (cases h; refine ⟨_, ?_, .int _ _⟩; simp [binOp, Op.intArith, Op.intBits, bits]; done)
      | (cases h; refine ⟨_, ?_, .bool _⟩; simp [binOp, Op.intCmp]; done)
      | (split at h <;> cases h; rename_i hb; refine ⟨_, ?_, .int _ _⟩; simp [binOp, Op.intDiv, Op.shift, hb]; done)
  · cases op <;> simp only [binV, if_neg hk] at h <;> first
      | (cases h; done)
      | (split at h <;> cases h; rename_i hb; refine ⟨_, ?_, .int _ _⟩; simp [binOp, Op.shift, hb]; done)

theorem bin_sound {op : BinOp} {u v r : V} {x y : Value} (hu : VRel G u x) (hv : VRel G v y) (h : binV op u v = some r) (t : TypeId) (ox oy : Operand) :
    ∃ z, (do eqGuard op t ox oy x y; binOp op t x y : Sem Value).run P w = .ok z w ∧ VRel G r z := by
  cases hu with
  | int k x =>
    cases hv with
    | int k' y => exact bin_int h t ox oy
    | _ => simp [binV] at h
  | str s =>
    cases hv with
    | str s' =>
      cases op <;> simp only [binV] at h <;> first
        | (cases h; done)
        | (cases h; refine ⟨_, ?_, .bool _⟩; simp [eqGuard_at_string, binOp, Op.stringOp, beq_bytes]; done)
        | (cases h; refine ⟨_, ?_, .bool _⟩; simp [eqGuard_at_string, binOp, Op.stringOp, beq_bytes, bne]; done)
    | _ => simp [binV] at h
  | _ => simp [binV] at h

theorem eqGuard_ok {op : BinOp} {t : TypeId} {ox oy : Operand} {x y : Value} (hag : (∀ xs, x ≠ .agg xs)) (hif : x ≠ .nilIface) : eqGuard op t ox oy x y = pure () := by
  cases x <;> first
    | exact absurd rfl (hag _)
    | exact absurd rfl hif
    | (cases op <;> rfl)

theorem equal_bool (t : TypeId) (a b : Bool) (h : P.underlying t = some .bool) : (Op.equal t (.bool a) (.bool b)).run P w = .ok (a == b) w := run_equalIn_bool' w 9999 t a b h

theorem equalIn_ptr {t e : TypeId} (h : P.underlying t = some (.pointer e)) (d : Nat) (p q : Option Addr) (hn : p = none ∨ q = none) : (Op.equalIn (d + 1) t (.pointer p) (.pointer q)).run P w = .ok (p.isNone && q.isNone) w := by
  cases p <;> cases q <;> simp [Op.equalIn, run_underlying h] at hn ⊢
theorem equal_ptr {t e : TypeId} (h : P.underlying t = some (.pointer e)) (p q : Option Addr) (hn : p = none ∨ q = none) : (Op.equal t (.pointer p) (.pointer q)).run P w = .ok (p.isNone && q.isNone) w :=
  equalIn_ptr h 9999 p q hn

theorem equalIn_map {t k e : TypeId} (h : P.underlying t = some (.map k e)) (d : Nat) (p q : Option Nat) (hn : p = none ∨ q = none) : (Op.equalIn (d + 1) t (.map p) (.map q)).run P w = .ok (p.isNone && q.isNone) w := by
  cases p <;> cases q <;> simp [Op.equalIn, run_underlying h] at hn ⊢
theorem equal_map {t k e : TypeId} (h : P.underlying t = some (.map k e)) (p q : Option Nat) (hn : p = none ∨ q = none) : (Op.equal t (.map p) (.map q)).run P w = .ok (p.isNone && q.isNone) w :=
  equalIn_map h 9999 p q hn

theorem equalIn_fn {t : TypeId} {ps rs : Array TypeId} {va : Bool} (h : P.underlying t = some (.func ps rs va)) (d : Nat) : (Op.equalIn (d + 1) t .nilFunc .nilFunc).run P w = .ok true w ∧ ∀ f a c, (Op.equalIn (d + 1) t (.func f a c) .nilFunc).run P w = .ok false w := by
  refine ⟨?_, fun f a c => ?_⟩ <;> simp [Op.equalIn, run_underlying h]
theorem equal_fn {t : TypeId} {ps rs : Array TypeId} {va : Bool} (h : P.underlying t = some (.func ps rs va)) : (Op.equal t .nilFunc .nilFunc).run P w = .ok true w ∧ ∀ f a c, (Op.equal t (.func f a c) .nilFunc).run P w = .ok false w :=
  equalIn_fn h 9999

/-- The type is such that the kind of equality fits. -/
def eqFits (P : Program) (t : TypeId) : EK → Prop
  | .bool => P.underlying t = some .bool
  | .ptr => ∃ e, P.underlying t = some (.pointer e)
  | .map => ∃ k e, P.underlying t = some (.map k e)
  | .fn => ∃ a b c, P.underlying t = some (.func a b c)
  | .agg n => flatTy P 20 t = some n ∧ isAg P t = some true

theorem compEq_fits {t : TypeId} {e : EK} (h : compEq P t = some (some e)) : eqFits P t e := by
  unfold compEq at h
  split at h <;> try (cases h; done)
  · rename_i hu; cases h; exact hu
  · rename_i hu
    split at h <;> cases h
    exact ⟨_, hu⟩
  · rename_i hu; cases h; exact ⟨_, _, hu⟩
  · rename_i hu; cases h; exact ⟨_, _, _, hu⟩
  · rename_i hu
    obtain ⟨n, hn, he⟩ := Option.map_eq_some_iff.1 h
    cases he
    exact ⟨hn, by simp [isAg, hu]⟩
  · rename_i hu
    obtain ⟨n, hn, he⟩ := Option.map_eq_some_iff.1 h
    cases he
    exact ⟨hn, by simp [isAg, hu]⟩

theorem flat_guard {t : TypeId} {n : Nat} (hf : flatTy P 20 t = some n) (hag : isAg P t = some true) : P.eqGuardType P.depth t = false := by
  unfold flatTy at hf
  split at hf
  · rename_i hu; simp [isAg, hu] at hag
  · split at hf
    · cases hf
    · rename_i h; simp only [Bool.or_eq_true, not_or, Bool.not_eq_true] at h; exact h.2
  · split at hf
    · cases hf
    · rename_i h; simpa using h
  · cases hf

theorem eqL_length : ∀ {xs ys : List V} {r : Bool}, eqL xs ys = some r → xs.length = ys.length
  | [], [], _, _ => rfl
  | [], _ :: _, _, h => by simp [eqL] at h
  | x :: _, [], _, h => by cases x <;> simp [eqL] at h
  | x :: xs, y :: ys, r, h => by
    cases x <;> cases y <;> simp only [eqL] at h <;> try (cases h; done)
    split at h
    · cases hr : eqL xs ys with
      | none => rw [hr] at h; cases h
      | some r' => simp [eqL_length hr]
    · cases h

theorem eqK_sound {t : TypeId} {e : EK} (hf : eqFits P t e) {u v : V} {x y : Value} (hu : VRel G u x) (hv : VRel G v y) {r : Bool} (h : eqK e u v = some r) :
    (Op.equal t x y).run P w = .ok r w := by
  cases e with
  | bool =>
    cases hu <;> simp only [eqK] at h <;> try (cases h; done)
    cases hv <;> simp only [eqK] at h <;> try (cases h; done)
    cases h
    exact equal_bool t _ _ hf
  | ptr =>
    obtain ⟨e, he⟩ := hf
    cases hu <;> simp only [eqK] at h <;> try (cases h; done)
    · cases hv <;> simp only [eqK] at h <;> cases h <;> exact equal_ptr he _ _ (.inl rfl)
    · cases hv <;> simp only [eqK] at h <;> cases h <;> exact equal_ptr he _ _ (.inr rfl)
    · cases hv <;> simp only [eqK] at h <;> cases h <;> exact equal_ptr he _ _ (.inr rfl)
  | map =>
    obtain ⟨k, e, he⟩ := hf
    cases hu <;> simp only [eqK] at h <;> try (cases h; done)
    · cases hv <;> simp only [eqK] at h <;> cases h <;> exact equal_map he _ _ (.inl rfl)
    · cases hv <;> simp only [eqK] at h <;> cases h <;> exact equal_map he _ _ (.inr rfl)
  | fn =>
    obtain ⟨a, b, c, he⟩ := hf
    cases hu <;> simp only [eqK] at h <;> try (cases h; done)
    · cases hv <;> simp only [eqK] at h <;> cases h <;> exact (equal_fn he).2 _ _ _
    · cases hv <;> simp only [eqK] at h <;> cases h <;> exact (equal_fn he).1
  | agg n =>
    obtain ⟨hn, hag⟩ := hf
    cases u <;> simp only [eqK] at h <;> try (cases h; done)
    cases v <;> simp only [eqK] at h <;> try (cases h; done)
    split at h <;> try (cases h; done)
    rename_i hlen
    obtain ⟨xs, rfl, hx⟩ := hu.agg_inv
    obtain ⟨ys, rfl, hy⟩ := hv.agg_inv
    have hq := eqL_eqX hx.1 hy.1 h
    have hl := eqL_length h
    have hxn : xs.toList.length = n := by rw [hx.length, hlen]
    have hyn : ys.toList.length = n := by rw [hy.length, ← hl, ← hx.length, hxn]
    obtain ⟨ag, hp, hs⟩ := flat_pack hn
    have : ag = true := by
      have h1 := (packOf_some hp).1
      rw [hag] at h1
      exact (Option.some.inj h1).symm
    subst this
    have := equal_flat 20 10000 t n w xs.toList ys.toList r true hn hp (by omega) hxn hyn hq
    simpa [packX, Op.equal, Op.maxDepth] using this
end
end Go.Ab

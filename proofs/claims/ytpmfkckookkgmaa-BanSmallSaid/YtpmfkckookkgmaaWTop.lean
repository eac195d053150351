/-
  From contracts to the statements: what is alike in all.
-/
import Derived.Test.YtpmfkckookkgmaaRows
import Derived.Test.YtpmfkckookkgmaaABan
import Derived.Test.YtpmfkckookkgmaaAbArgs
import Derived.WalkKit
import Derived.ProofKit
import Derived.OpenShut
import Derived.ShutString
import Derived.ChangeOld
import Derived.Below
set_option linter.unusedVariables false
set_option linter.unusedSimpArgs false
namespace Go.Proofs.Ytpmfkckookkgmaa
open Go Go.Ab Go.ChangeShapes Go.WideShapes Go.ChangeAt Go.RowKit

theorem own : ownKnob Try.prog.godebug = none := by kernel_rfl
theorem laidOut : laidOutB Try.prog = true := by kernel_rfl

def opCells (r : Int × Int × Int) : List V := [V.int .i64 r.1, V.int .i64 r.2.1, V.int .i64 r.2.2]

/-- A slice that came in lies at no inner spot. -/
theorem slice_spot {P : Program} {w : World} {r : Reach} {base : Nat} {t e : TypeId} (ht : P.underlying t = some (.slice e)) {a : Option Addr} {len cap : Nat} (h : Value.okWide P w r base t (.slice a len cap)) : ∀ x, a = some x → x.spot = none := by
  rintro x rfl
  simp only [Value.okWide, ht, Cell.okWide, Cell.ok] at h
  exact h.2.2.2.1
theorem op_shape (vs : List V) (hl : vs.length = 3) (h : Shape Try.prog 28 vs) : ∃ r, vs = opCells r := by
  obtain ⟨a, e0, _⟩ := shape_int Try.underlying3 (shape_field Try.underlying28 h 0 _ rfl)
  obtain ⟨b, e1, _⟩ := shape_int Try.underlying3 (shape_field Try.underlying28 h 1 _ rfl)
  obtain ⟨c, e2, _⟩ := shape_int Try.underlying3 (shape_field Try.underlying28 h 2 _ rfl)
  match vs, hl with
  | [x, y, z], _ =>
    simp at e0 e1 e2
    exact ⟨(a, b, c), by simp [opCells, e0, e1, e2]⟩
end Go.Proofs.Ytpmfkckookkgmaa

/-
  The functions of this program by the numbers of the table; what is alike in all statements.
-/
import Derived.Test.YtpmfkckookkgmaaRows
import Derived.Test.YtpmfkckookkgmaaAbCoLaw17
import Derived.Test.YtpmfkckookkgmaaAbCoBan
import Derived.Test.YtpmfkckookkgmaaAbArgs
import Derived.WalkKit
import Derived.ProofKit
import Derived.OpenShut
import Derived.ShutString
import Derived.ChangeOld
import Derived.Below
set_option linter.unusedVariables false
set_option linter.unusedSimpArgs false
namespace Go.Proofs.Ytpmfkckookkgmaa
open Go Go.Ab Go.ChangeShapes Go.WideShapes Go.ChangeAt Go.RowKit

theorem own : ownKnob Try.prog.godebug = none := by kernel_rfl
theorem laidOut : laidOutB Try.prog = true := by kernel_rfl
def fn : Ab.Fn := fun k => k
theorem mixedP : Try.prog.follows .mixedOrders = true := Checked.mixed Try.checked
theorem okBan : OkBan Try.prog fn := ⟨mixedP, by kernel_rfl, by kernel_rfl, by kernel_rfl, by kernel_rfl, by kernel_rfl, by kernel_rfl, by kernel_rfl, by kernel_rfl, by kernel_rfl, by kernel_rfl, by kernel_rfl, by kernel_rfl, by kernel_rfl⟩
theorem okLaw17 : OkLaw17 Try.prog fn := ⟨mixedP, by kernel_rfl, by kernel_rfl, by kernel_rfl, by kernel_rfl, by kernel_rfl, by kernel_rfl⟩

theorem op_shape (vs : List V) (hl : vs.length = 3) (h : Shape Try.prog 28 vs) : ∃ r, vs = e3 r := by
  obtain ⟨a, e0, _⟩ := shape_int Try.underlying3 (shape_field Try.underlying28 h 0 _ rfl)
  obtain ⟨b, e1, _⟩ := shape_int Try.underlying3 (shape_field Try.underlying28 h 1 _ rfl)
  obtain ⟨c, e2, _⟩ := shape_int Try.underlying3 (shape_field Try.underlying28 h 2 _ rfl)
  match vs, hl with
  | [x, y, z], _ =>
    simp at e0 e1 e2
    exact ⟨(a, b, c), by simp [e3, e0, e1, e2]⟩

theorem pair_shape (vs : List V) (hl : vs.length = 2) (h : Shape Try.prog 35 vs) : ∃ a b, vs = [.int .i64 a, .int .i64 b] := shape_pair Try.underlying35 Try.underlying3 (by kernel_rfl) vs hl h
end Go.Proofs.Ytpmfkckookkgmaa

/-
  The pairs of an argument.
-/
import Derived.Test.YtjcpdljfkhbbkaaGreatTopW
set_option linter.unusedVariables false
set_option linter.unusedSimpArgs false
namespace Go.Proofs.YtjcpdljfkhbbkaaGreat
open Go Go.Ab Go.ChangeShapes Go.WideShapes Go.ChangeAt Go.RowKit
theorem shape_two (vs : List V) (hl : vs.length = 2) (h : Shape Tryz.prog 42 vs) : ∃ r, vs = e2 r := by
  obtain ⟨a, b, e⟩ := shape_pair Tryz.underlying42 Tryz.underlying3 (by kernel_rfl) vs hl h
  exact ⟨(a, b), e⟩
end Go.Proofs.YtjcpdljfkhbbkaaGreat

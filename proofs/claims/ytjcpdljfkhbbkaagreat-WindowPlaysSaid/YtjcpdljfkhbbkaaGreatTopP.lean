/-
  What WindowPlays calls besides; its argument's rows.
-/
import Derived.Test.YtjcpdljfkhbbkaaGreatTopS
import Derived.Test.YtjcpdljfkhbbkaaGreatV10
set_option linter.unusedVariables false
set_option linter.unusedSimpArgs false
namespace Go.Proofs.YtjcpdljfkhbbkaaGreat
open Go Go.Ab Go.ChangeShapes Go.WideShapes Go.ChangeAt Go.RowKit
theorem okLaw18b : OkLaw18b Tryz.prog fn := { mixed := mixedP, toOkLaw18 := okLaw18, h298 := by kernel_rfl, ok298 := by kernel_rfl }
theorem shape_op (vs : List V) (hl : vs.length = 4) (h : Shape Tryz.prog 86 vs) : ∃ o : Op4, vs = e4 o := by
  obtain ⟨a, ea, _⟩ := shape_int Tryz.underlying3 (shape_field Tryz.underlying86 h 0 _ rfl)
  obtain ⟨b, eb, _⟩ := shape_int Tryz.underlying3 (shape_field Tryz.underlying86 h 1 _ rfl)
  obtain ⟨c, ec, _⟩ := shape_int Tryz.underlying3 (shape_field Tryz.underlying86 h 2 _ rfl)
  obtain ⟨d, ed, _⟩ := shape_int Tryz.underlying3 (shape_field Tryz.underlying86 h 3 _ rfl)
  match vs, hl with
  | [x, y, z, t], _ =>
    simp at ea eb ec ed
    subst ea eb ec ed
    exact ⟨(a, b, c, d), rfl⟩
end Go.Proofs.YtjcpdljfkhbbkaaGreat

/-
  The functions of trace and law21 by the numbers of the table.
-/
import Derived.Test.YtpmfkckookkgmaaTop
import Derived.Test.YtpmfkckookkgmaaAbCoTrace
import Derived.Test.YtpmfkckookkgmaaAbCoLaw21
namespace Go.Proofs.Ytpmfkckookkgmaa
open Go Go.Ab
theorem okTrace : OkTrace Try.prog fn := ⟨mixedP, by kernel_rfl, by kernel_rfl, by kernel_rfl, by kernel_rfl, by kernel_rfl, by kernel_rfl, by kernel_rfl, by kernel_rfl, by kernel_rfl, by kernel_rfl⟩
theorem okLaw21 : OkLaw21 Try.prog fn := ⟨mixedP, by kernel_rfl, by kernel_rfl, by kernel_rfl, by kernel_rfl, by kernel_rfl, by kernel_rfl, by kernel_rfl, by kernel_rfl⟩
end Go.Proofs.Ytpmfkckookkgmaa

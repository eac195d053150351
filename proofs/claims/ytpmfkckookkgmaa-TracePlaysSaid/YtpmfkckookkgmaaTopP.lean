/-
  TracePlays: its argument.
-/
import Derived.Test.YtpmfkckookkgmaaTopT
import Derived.Test.YtpmfkckookkgmaaAbArgs2
import Derived.Test.YtpmfkckookkgmaaAbLaw21G
set_option linter.unusedVariables false
namespace Go.Proofs.Ytpmfkckookkgmaa
open Go Go.Ab
theorem opens_op {H : Type} {enc : TypeId × Value → H} {W : World} : Opens enc Try.prog W 0 (fun _ => true) true eOp4 4 73 := by
  intro fuel cs x h
  obtain ⟨hlen, hf⟩ := opens_fields Try.underlying73 h
  obtain ⟨a, ha⟩ := hf 0 _ rfl e1 1 (opens_int Try.underlying3) (by kernel_rfl)
  obtain ⟨b, hb⟩ := hf 1 _ rfl e1 1 (opens_int Try.underlying3) (by kernel_rfl)
  obtain ⟨c, hc⟩ := hf 2 _ rfl e1 1 (opens_int Try.underlying3) (by kernel_rfl)
  obtain ⟨l, hl⟩ := hf 3 _ rfl (eSl e8) 1 (opens_slice e8 (sz := 1) (by omega) (fun _ => rfl) Try.underlying43 (by kernel_rfl) (fun _ => rfl) (opens_byte Try.underlying5)) (by kernel_rfl)
  refine ⟨⟨a, b, c, .any, l⟩, hlen.trans (by kernel_rfl), fun j hj => ?_⟩
  match j, hj with
  | 0, _ => exact ha 0 (by omega)
  | 1, _ => exact hb 0 (by omega)
  | 2, _ => exact hc 0 (by omega)
  | 3, _ => exact hl 0 (by omega)
end Go.Proofs.Ytpmfkckookkgmaa

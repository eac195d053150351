/-
  The functions of this program by the numbers of the table; what is alike in all statements.
-/
import Derived.Test.YtgodabkifdmfcaaRows
import Derived.Test.YtgodabkifdmfcaaJ7
import Derived.Test.YtgodabkifdmfcaaJ8
import Derived.WalkKit
import Derived.ProofKit
import Derived.OpenShut
import Derived.ShutString
import Derived.ChangeOld
import Derived.Below
set_option linter.unusedVariables false
set_option linter.unusedSimpArgs false
namespace Go.Proofs.Ytgodabkifdmfcaa
open Go Go.Ab Go.ChangeShapes Go.WideShapes Go.ChangeAt Go.RowKit

theorem own : ownKnob Try.prog.godebug = none := by kernel_rfl
theorem laidOut : laidOutB Try.prog = true := by kernel_rfl
def fn : Ab.Fn := fun k => ([62, 49, 63, 37, 26, 29, 47, 54, 45, 70, 57, 60, 56, 53, 55, 68, 58, 48, 69, 61, 85, 0, 0, 0, 0, 0, 0, 0, 0, 0, 0, 0, 0, 0, 0, 42, 59, 44, 43, 40, 27, 10, 34, 15, 0, 0, 0, 0, 0, 0, 0, 0, 0, 0, 32, 13, 33, 46, 18, 20, 0, 16, 0, 19, 41, 52, 30, 31, 35, 17, 21, 67, 66, 75, 76, 77, 78, 79, 80, 81, 82, 83, 91, 84, 14, 12, 4, 5] : List Nat).getD (k - 100) 0
theorem mixedP : Try.prog.follows .mixedOrders = true := Checked.mixed Try.checked
theorem okHash : OkHash Try.prog fn :=
  { mixed := mixedP,   h100 := by kernel_rfl, h101 := by kernel_rfl, h102 := by kernel_rfl, h103 := by kernel_rfl, h104 := by kernel_rfl }
theorem okNum : OkNum Try.prog fn :=
  { mixed := mixedP,   h105 := by kernel_rfl, h106 := by kernel_rfl, h107 := by kernel_rfl, h108 := by kernel_rfl, h109 := by kernel_rfl, h110 := by kernel_rfl, h111 := by kernel_rfl, h112 := by kernel_rfl, h113 := by kernel_rfl, h114 := by kernel_rfl, h115 := by kernel_rfl, h116 := by kernel_rfl, h117 := by kernel_rfl, h118 := by kernel_rfl }
theorem okHead : OkHead Try.prog fn :=
  { mixed := mixedP, toOkNum := okNum, toOkHash := okHash,   h135 := by kernel_rfl, h136 := by kernel_rfl, h137 := by kernel_rfl, h138 := by kernel_rfl, h139 := by kernel_rfl, h140 := by kernel_rfl, h141 := by kernel_rfl, h142 := by kernel_rfl, h143 := by kernel_rfl }
theorem okIndex : OkIndex Try.prog fn :=
  { mixed := mixedP, toOkHead := okHead,   h154 := by kernel_rfl, h155 := by kernel_rfl, h156 := by kernel_rfl, h157 := by kernel_rfl, h158 := by kernel_rfl, h159 := by kernel_rfl, h161 := by kernel_rfl, h163 := by kernel_rfl, h164 := by kernel_rfl, h165 := by kernel_rfl, h166 := by kernel_rfl, h167 := by kernel_rfl, h168 := by kernel_rfl, h169 := by kernel_rfl, h170 := by kernel_rfl, h171 := by kernel_rfl, h172 := by kernel_rfl, h173 := by kernel_rfl, h179 := by kernel_rfl, h182 := by kernel_rfl }
theorem okLaw10a : OkLaw10a Try.prog fn :=
  { mixed := mixedP, toOkIndex := okIndex,   h184 := by kernel_rfl, h185 := by kernel_rfl, h186 := by kernel_rfl, h187 := by kernel_rfl }

theorem pair2_shape (vs : List V) (hl : vs.length = 2) (h : Shape Try.prog 62 vs) : ∃ r, vs = e2 r := by
  obtain ⟨a, b, e⟩ := shape_pair Try.underlying62 Try.underlying3 (by kernel_rfl) vs hl h
  exact ⟨(a, b), e⟩
end Go.Proofs.Ytgodabkifdmfcaa

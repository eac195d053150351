/-
  The functions of this program by the numbers of the table; what is alike in all statements.
-/
import Derived.Test.YtgodabkifdmfcaaRows
import Derived.Test.YtgodabkifdmfcaaH10
import Derived.WalkKit
import Derived.ProofKit
import Derived.OpenShut
import Derived.ShutString
import Derived.ChangeOld
import Derived.Below
set_option linter.unusedVariables false
set_option linter.unusedSimpArgs false
namespace Go.Proofs.Ytgodabkifdmfcaa
open Go Go.Ab Go.ChangeShapes Go.WideShapes Go.ChangeAt Go.RowKit

theorem own : ownKnob Try.prog.godebug = none := by kernel_rfl
theorem laidOut : laidOutB Try.prog = true := by kernel_rfl
def fn : Ab.Fn := fun k => ([62, 49, 63, 37, 26, 29, 47, 54, 45, 70, 57, 60, 56, 53, 55, 68, 58, 48, 69, 61, 85, 0, 0, 0, 0, 0, 0, 0, 0, 0, 0, 0, 0, 0, 0, 42, 59, 44, 43, 40, 27, 10, 34, 15, 0, 0, 0, 0, 0, 0, 0, 0, 0, 0, 32, 13, 33, 46, 18, 20, 0, 16, 0, 19, 41, 52, 30, 31, 35, 17, 21, 67, 66, 75, 76, 77, 78, 79, 80, 81, 82, 83, 91, 84, 14, 12, 4, 5, 7, 23, 8, 24, 25, 9, 11, 28, 22, 36, 38, 39, 50, 64, 65, 71, 72, 73, 74, 51, 0, 0, 0, 0, 0, 0, 0, 0, 0, 0, 0, 0, 0, 0, 0, 0, 0, 0, 0, 0, 0, 0, 0, 0, 0, 0, 0, 0, 0, 0, 0, 0, 0, 0, 0, 0, 0, 0, 6, 3, 0, 0, 0, 0, 0, 0, 0, 0, 0, 0, 0, 0, 0, 0, 0, 0, 0, 0, 0, 0, 0, 0, 0, 0, 0, 0, 0, 0, 0, 0, 0, 0, 0, 0, 0, 0, 0, 0, 0, 0, 0, 0] : List Nat).getD (k - 100) 0
theorem mixedP : Try.prog.follows .mixedOrders = true := Checked.mixed Try.checked
theorem int_range {n : Int} (h : (Lit.int .i64 n).wf = true) : -9223372036854775808 ≤ n ∧ n ≤ 9223372036854775807 := by
  simp [Lit.wf] at h
  exact h
theorem byte_range {n : Int} (h : (Lit.int .u8 n).wf = true) : 0 ≤ n ∧ n ≤ 255 := by
  simp [Lit.wf] at h
  exact h
theorem okNum : OkNum Try.prog fn :=
  { mixed := mixedP, h105 := by kernel_rfl, h106 := by kernel_rfl, h107 := by kernel_rfl, h108 := by kernel_rfl, h109 := by kernel_rfl, h110 := by kernel_rfl, h111 := by kernel_rfl, h112 := by kernel_rfl, h113 := by kernel_rfl, h114 := by kernel_rfl, h116 := by kernel_rfl, h117 := by kernel_rfl, h115 := by kernel_rfl, h118 := by kernel_rfl }
theorem okHash : OkHash Try.prog fn :=
  { mixed := mixedP, h100 := by kernel_rfl, h101 := by kernel_rfl, h103 := by kernel_rfl, h104 := by kernel_rfl, h102 := by kernel_rfl }
theorem okHead : OkHead Try.prog fn :=
  { mixed := mixedP, toOkNum := okNum, toOkHash := okHash, h135 := by kernel_rfl, h136 := by kernel_rfl, h137 := by kernel_rfl, h138 := by kernel_rfl, h139 := by kernel_rfl, h140 := by kernel_rfl, h141 := by kernel_rfl, h142 := by kernel_rfl, h143 := by kernel_rfl }
theorem okTx : OkTx Try.prog fn :=
  { mixed := mixedP, toOkHead := okHead, h192 := by kernel_rfl, h198 := by kernel_rfl, h200 := by kernel_rfl, h201 := by kernel_rfl, h199 := by kernel_rfl, h207 := by kernel_rfl, h202 := by kernel_rfl, h203 := by kernel_rfl, h204 := by kernel_rfl, h205 := by kernel_rfl, h206 := by kernel_rfl, h197 := by kernel_rfl }
theorem okHonest : OkHonest Try.prog fn :=
  { mixed := mixedP, toOkTx := okTx, h188 := by kernel_rfl, h190 := by kernel_rfl, h193 := by kernel_rfl, h194 := by kernel_rfl, h196 := by kernel_rfl, h189 := by kernel_rfl, h191 := by kernel_rfl, h195 := by kernel_rfl }
theorem okLaw19 : OkLaw19 Try.prog fn :=
  { mixed := mixedP, toOkHonest := okHonest, h246 := by kernel_rfl, h247 := by kernel_rfl }
end Go.Proofs.Ytgodabkifdmfcaa

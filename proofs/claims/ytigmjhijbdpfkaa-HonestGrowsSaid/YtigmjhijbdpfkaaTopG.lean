/-
  The functions of this program by the numbers of the table; what is alike in all statements.
-/
import Derived.Test.YtigmjhijbdpfkaaRows
import Derived.Test.YtigmjhijbdpfkaaG10
import Derived.WalkKit
import Derived.ProofKit
import Derived.OpenShut
import Derived.ShutString
import Derived.ChangeOld
import Derived.Below
set_option linter.unusedVariables false
set_option linter.unusedSimpArgs false
namespace Go.Proofs.Ytigmjhijbdpfkaa
open Go Go.Ab Go.ChangeShapes Go.WideShapes Go.ChangeAt Go.RowKit

theorem own : ownKnob Try.prog.godebug = none := by kernel_rfl
theorem laidOut : laidOutB Try.prog = true := by kernel_rfl
def fn : Ab.Fn := fun k => ([58, 45, 59, 28, 29, 37, 32, 48, 56, 74, 66, 69, 50, 47, 49, 60, 67, 33, 73, 70, 85, 0, 0, 0, 0, 0, 0, 0, 0, 0, 0, 0, 0, 0, 0, 31, 68, 55, 54, 46, 30, 10, 11, 17, 0, 0, 0, 0, 0, 0, 0, 0, 0, 0, 40, 15, 41, 57, 20, 36, 0, 18, 0, 21, 53, 65, 38, 39, 42, 19, 0, 72, 71, 75, 76, 77, 78, 79, 80, 81, 82, 83, 91, 84, 16, 14, 4, 0, 22, 7, 6, 9, 8, 23, 25, 43, 24, 27, 12, 26, 34, 51, 52, 61, 62, 63, 64, 44, 0, 0, 0, 0, 0, 0, 0, 0, 0, 0, 0, 0, 0, 0, 0, 0, 0, 0, 0, 0, 0, 0, 0, 0, 0, 0, 0, 0, 0, 0, 0, 0, 0, 0, 0, 0, 0, 0, 5, 0, 3, 13, 35, 0, 0, 0, 0, 0, 0, 0, 0, 0, 0, 0, 0, 0, 0, 0, 0, 0, 0, 0, 0, 0, 0, 0, 0, 0, 0, 0, 0, 0, 0, 0, 0, 0, 0, 0, 0, 0, 0, 0] : List Nat).getD (k - 100) 0
theorem mixedP : Try.prog.follows .mixedOrders = true := Checked.mixed Try.checked
theorem int_range {n : Int} (h : (Lit.int .i64 n).wf = true) : -9223372036854775808 ≤ n ∧ n ≤ 9223372036854775807 := by
  simp [Lit.wf] at h
  exact h
theorem byte_range {n : Int} (h : (Lit.int .u8 n).wf = true) : 0 ≤ n ∧ n ≤ 255 := by
  simp [Lit.wf] at h
  exact h
theorem okNum : OkNum Try.prog fn :=
  { mixed := mixedP, h105 := by kernel_rfl, h106 := by kernel_rfl, h107 := by kernel_rfl, h108 := by kernel_rfl, h109 := by kernel_rfl, h110 := by kernel_rfl, h111 := by kernel_rfl, h112 := by kernel_rfl, h113 := by kernel_rfl, h114 := by kernel_rfl, h116 := by kernel_rfl, h117 := by kernel_rfl, h115 := by kernel_rfl, h118 := by kernel_rfl }
theorem okHash : OkHash Try.prog fn :=
  { mixed := mixedP, h100 := by kernel_rfl, h101 := by kernel_rfl, h103 := by kernel_rfl, h104 := by kernel_rfl, h102 := by kernel_rfl }
theorem okHead : OkHead Try.prog fn :=
  { mixed := mixedP, toOkNum := okNum, toOkHash := okHash, h135 := by kernel_rfl, h136 := by kernel_rfl, h137 := by kernel_rfl, h138 := by kernel_rfl, h139 := by kernel_rfl, h140 := by kernel_rfl, h141 := by kernel_rfl, h142 := by kernel_rfl, h143 := by kernel_rfl }
theorem okTx : OkTx Try.prog fn :=
  { mixed := mixedP, toOkHead := okHead, h192 := by kernel_rfl, h198 := by kernel_rfl, h200 := by kernel_rfl, h201 := by kernel_rfl, h199 := by kernel_rfl, h207 := by kernel_rfl, h202 := by kernel_rfl, h203 := by kernel_rfl, h204 := by kernel_rfl, h205 := by kernel_rfl, h206 := by kernel_rfl, h197 := by kernel_rfl }
theorem okHonest : OkHonest Try.prog fn :=
  { mixed := mixedP, toOkTx := okTx, h188 := by kernel_rfl, h190 := by kernel_rfl, h193 := by kernel_rfl, h194 := by kernel_rfl, h196 := by kernel_rfl, h189 := by kernel_rfl, h191 := by kernel_rfl, h195 := by kernel_rfl }
theorem okServes : OkServes Try.prog fn :=
  { mixed := mixedP, toOkHonest := okHonest, h246 := by kernel_rfl }
theorem okCheck : OkCheck Try.prog fn :=
  { mixed := mixedP, toOkTx := okTx, h250 := by kernel_rfl, h249 := by kernel_rfl }
theorem okLaw19g : OkLaw19g Try.prog fn :=
  { mixed := mixedP, toOkServes := okServes, toOkCheck := okCheck, h248 := by kernel_rfl }
theorem hdrTy : HdrTy Try.prog 26 22 24 5 := { flds := ⟨_, Try.underlying26, rfl, rfl, rfl, rfl, rfl, rfl⟩, uw := Try.underlying22, ui := Try.underlying24, ub := Try.underlying5, cw := by kernel_rfl, ci := by kernel_rfl, cb := by kernel_rfl }
theorem hdr_shape (vs : List V) (hl : vs.length = 68) (h : Shape Try.prog 26 vs) : ∃ x : Hdr, vs = eHdr x := shape_hdr hdrTy hl h
theorem txTy : TxTy Try.prog 32 29 37 34 35 30 53 24 22 2 5 := { ftx := ⟨_, Try.underlying32, rfl, rfl⟩, fin := ⟨_, Try.underlying37, rfl, rfl⟩, fpt := ⟨_, Try.underlying34, rfl, rfl⟩, fou := ⟨_, Try.underlying53, rfl, rfl⟩, uis := Try.underlying29, uos := Try.underlying30, uk := Try.underlying35, ua := Try.underlying24, ub := Try.underlying5, uw := Try.underlying22, ul := Try.underlying2, ct := by kernel_rfl, cis := by kernel_rfl, cos := by kernel_rfl, ci := by kernel_rfl, cp := by kernel_rfl, ck := by kernel_rfl, co := by kernel_rfl, ca := by kernel_rfl, cw := by kernel_rfl, cl := by kernel_rfl, cb := by kernel_rfl, pp := by kernel_rfl, po := by kernel_rfl }
end Go.Proofs.Ytigmjhijbdpfkaa

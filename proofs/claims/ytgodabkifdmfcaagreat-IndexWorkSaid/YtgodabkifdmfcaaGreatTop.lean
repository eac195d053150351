/-
  The functions of this program by the numbers of the table; what is alike in all statements.
-/
import Derived.Test.YtgodabkifdmfcaaGreatRows
import Derived.Test.YtgodabkifdmfcaaGreatJ10
import Derived.WalkKit
import Derived.ProofKit
import Derived.OpenShut
import Derived.ShutString
import Derived.ChangeOld
import Derived.Below
set_option linter.unusedVariables false
set_option linter.unusedSimpArgs false
namespace Go.Proofs.YtgodabkifdmfcaaGreat
open Go Go.Ab Go.ChangeShapes Go.WideShapes Go.ChangeAt Go.RowKit

theorem own : ownKnob Tryz.prog.godebug = none := by kernel_rfl
theorem laidOut : laidOutB Tryz.prog = true := by kernel_rfl
def fn : Ab.Fn := fun k => ([124, 108, 125, 90, 60, 48, 25, 78, 93, 104, 80, 109, 79, 77, 26, 63, 81, 62, 102, 103, 123, 106, 75, 105, 96, 89, 107, 83, 86, 87, 97, 110, 111, 112, 72, 56, 82, 92, 57, 91, 61, 23, 24, 47, 84, 85, 58, 88, 95, 59, 98, 73, 99, 74, 70, 45, 65, 94, 14, 22, 64, 17, 67, 16, 55, 76, 18, 20, 29, 30, 51, 101, 100, 113, 114, 115, 116, 117, 118, 119, 120, 121, 131, 122, 46, 12, 0, 0, 0, 0, 0, 0, 0, 0, 0, 0, 0, 0, 0, 0, 0, 0, 0, 0, 0, 0, 0, 0, 49, 71, 50, 28, 15, 19, 21, 53, 52, 27, 54, 13, 3, 4, 5, 6, 32, 43, 37, 44, 39, 41, 69, 34, 68, 38, 42, 40, 66, 35, 31, 33, 36, 7, 8, 9, 10, 11] : List Nat).getD (k - 100) 0
theorem mixedP : Tryz.prog.follows .mixedOrders = true := Checked.mixed Tryz.checked
theorem okHash : OkHash Tryz.prog fn :=
  { mixed := mixedP,   h100 := by kernel_rfl, h101 := by kernel_rfl, h103 := by kernel_rfl, h104 := by kernel_rfl, h102 := by kernel_rfl }
theorem okNum : OkNum Tryz.prog fn :=
  { mixed := mixedP,   h105 := by kernel_rfl, h106 := by kernel_rfl, h107 := by kernel_rfl, h108 := by kernel_rfl, h109 := by kernel_rfl, h110 := by kernel_rfl, h111 := by kernel_rfl, h112 := by kernel_rfl, h113 := by kernel_rfl, h114 := by kernel_rfl, h116 := by kernel_rfl, h117 := by kernel_rfl, h115 := by kernel_rfl, h118 := by kernel_rfl }
theorem okHead : OkHead Tryz.prog fn :=
  { mixed := mixedP, toOkNum := okNum, toOkHash := okHash,   h135 := by kernel_rfl, h136 := by kernel_rfl, h137 := by kernel_rfl, h138 := by kernel_rfl, h139 := by kernel_rfl, h140 := by kernel_rfl, h141 := by kernel_rfl, h142 := by kernel_rfl, h143 := by kernel_rfl }
theorem okIndex : OkIndex Tryz.prog fn :=
  { mixed := mixedP, toOkHead := okHead,   h154 := by kernel_rfl, h155 := by kernel_rfl, h156 := by kernel_rfl, h157 := by kernel_rfl, h159 := by kernel_rfl, h161 := by kernel_rfl, h158 := by kernel_rfl, h163 := by kernel_rfl, h164 := by kernel_rfl, h166 := by kernel_rfl, h167 := by kernel_rfl, h168 := by kernel_rfl, h169 := by kernel_rfl, h170 := by kernel_rfl, h165 := by kernel_rfl, h172 := by kernel_rfl, h173 := by kernel_rfl, h179 := by kernel_rfl, h182 := by kernel_rfl, h171 := by kernel_rfl }
theorem okIndexZ : OkIndexZ Tryz.prog fn :=
  { mixed := mixedP, toOkIndex := okIndex,   h160 := by kernel_rfl, h162 := by kernel_rfl }
theorem okLaw10z : OkLaw10z Tryz.prog fn :=
  { mixed := mixedP, toOkIndex := okIndex,   h184 := by kernel_rfl, h185 := by kernel_rfl }
theorem okRef02 : OkRef02 Tryz.prog fn :=
  { mixed := mixedP,   h121 := by kernel_rfl, h122 := by kernel_rfl, h123 := by kernel_rfl, h124 := by kernel_rfl, h125 := by kernel_rfl, h126 := by kernel_rfl, h127 := by kernel_rfl, h128 := by kernel_rfl, h129 := by kernel_rfl }
theorem okRef01 : OkRef01 Tryz.prog fn :=
  { mixed := mixedP,   h130 := by kernel_rfl, h134 := by kernel_rfl, h131 := by kernel_rfl, h132 := by kernel_rfl, h133 := by kernel_rfl }
theorem okRef05 : OkRef05 Tryz.prog fn :=
  { mixed := mixedP, toOkRef02 := okRef02, toOkRef01 := okRef01,   h144 := by kernel_rfl, h145 := by kernel_rfl, h146 := by kernel_rfl, h147 := by kernel_rfl, h148 := by kernel_rfl, h149 := by kernel_rfl, h150 := by kernel_rfl, h151 := by kernel_rfl, h152 := by kernel_rfl, h153 := by kernel_rfl }
theorem okRef10 : OkRef10 Tryz.prog fn :=
  { mixed := mixedP, toOkRef05 := okRef05,   h208 := by kernel_rfl, h209 := by kernel_rfl, h210 := by kernel_rfl, h211 := by kernel_rfl, h212 := by kernel_rfl, h213 := by kernel_rfl, h214 := by kernel_rfl, h215 := by kernel_rfl, h216 := by kernel_rfl }
theorem okLaw10b : OkLaw10b Tryz.prog fn :=
  { mixed := mixedP, toOkRef10 := okRef10, toOkIndexZ := okIndexZ, toOkLaw10z := okLaw10z,   h217 := by kernel_rfl, h218 := by kernel_rfl, h219 := by kernel_rfl, h220 := by kernel_rfl, h221 := by kernel_rfl, h222 := by kernel_rfl, h223 := by kernel_rfl }

theorem hdrTy : HdrTy Tryz.prog 26 22 24 5 := { flds := ⟨_, Tryz.underlying26, rfl, rfl, rfl, rfl, rfl, rfl⟩, uw := Tryz.underlying22, ui := Tryz.underlying24, ub := Tryz.underlying5, cw := by kernel_rfl, ci := by kernel_rfl, cb := by kernel_rfl }
theorem rlTy : RlTy Tryz.prog 31 22 3 2 29 26 27 211 := { flds := ⟨_, Tryz.underlying31, rfl, rfl, rfl, rfl, rfl, rfl⟩, gens := ⟨_, Tryz.underlying29, rfl, rfl⟩, uw := Tryz.underlying22, ui := Tryz.underlying3, ul := Tryz.underlying2, ux := Tryz.underlying27, cw := by kernel_rfl, ci := by kernel_rfl, cl := by kernel_rfl, cg := by kernel_rfl, ch := by kernel_rfl, cx := by kernel_rfl }
theorem opTy : OpTy Tryz.prog 64 3 2 22 4 26 := { flds := ⟨_, Tryz.underlying64, rfl, rfl, rfl, rfl, rfl, rfl, rfl, rfl⟩, ui := Tryz.underlying3, ul := Tryz.underlying2, uw := Tryz.underlying22, ub := Tryz.underlying4, ci := by kernel_rfl, cl := by kernel_rfl, cw := by kernel_rfl, cb := by kernel_rfl, ch := by kernel_rfl }
theorem rl_shape (vs : List V) (hl : vs.length = 74) (h : Shape Tryz.prog 31 vs) : ∃ x, vs = eRl x := shape_rl rlTy hdrTy hl h
theorem op_shape (vs : List V) (hl : vs.length = 75) (h : Shape Tryz.prog 64 vs) : ∃ x, vs = eOp x := shape_op opTy hdrTy vs hl h
def ePair (r : Int × Int) : List V := [.int .i64 r.1, .int .i64 r.2]
theorem pair_shape (vs : List V) (hl : vs.length = 2) (h : Shape Tryz.prog 39 vs) : ∃ r, vs = ePair r := by
  obtain ⟨a, b, e⟩ := shape_pair Tryz.underlying39 Tryz.underlying3 (by kernel_rfl) vs hl h
  exact ⟨(a, b), e⟩
end Go.Proofs.YtgodabkifdmfcaaGreat

/-
  The functions of this program by the numbers of the table; what is alike in all statements.
-/
import Derived.Test.YtgodabkifdmfcaaGreatRows
import Derived.Test.YtgodabkifdmfcaaGreatK9
import Derived.Test.YtgodabkifdmfcaaGreatK10
import Derived.WalkKit
import Derived.ProofKit
import Derived.OpenShut
import Derived.ShutString
import Derived.ChangeOld
import Derived.Below
set_option linter.unusedVariables false
set_option linter.unusedSimpArgs false
namespace Go.Proofs.YtgodabkifdmfcaaGreat
open Go Go.Ab Go.ChangeShapes Go.WideShapes Go.ChangeAt Go.RowKit

theorem own : ownKnob Tryz.prog.godebug = none := by kernel_rfl
theorem laidOut : laidOutB Tryz.prog = true := by kernel_rfl
def fn : Ab.Fn := fun k => ([124, 108, 125, 90, 60, 48, 25, 78, 93, 104, 80, 109, 79, 77, 26, 63, 81, 62, 102, 103, 123, 106, 75, 105, 96, 89, 107, 83, 86, 87, 97, 110, 111, 112, 72, 56, 82, 92, 57, 91, 61, 23, 24, 47, 84, 85, 58, 88, 95, 59, 98, 73, 99, 74, 70, 45, 65, 94, 14, 22, 64, 17, 67, 16, 55, 76, 18, 20, 29, 30, 51, 101, 100, 113, 114, 115, 116, 117, 118, 119, 120, 121, 131, 122, 46, 12, 0, 0, 0, 0, 0, 0, 0, 0, 0, 0, 0, 0, 0, 0, 0, 0, 0, 0, 0, 0, 0, 0, 49, 71, 50, 28, 15, 19, 21, 53, 52, 27, 54, 13, 3, 4, 5, 6, 32, 43, 37, 44, 39, 41, 69, 34, 68, 38, 42, 40, 66, 35, 31, 33, 36, 7, 8, 9, 10, 11] : List Nat).getD (k - 100) 0
theorem mixedP : Tryz.prog.follows .mixedOrders = true := Checked.mixed Tryz.checked
theorem okHash : OkHash Tryz.prog fn :=
  { mixed := mixedP,   h100 := by kernel_rfl, h101 := by kernel_rfl, h103 := by kernel_rfl, h104 := by kernel_rfl, h102 := by kernel_rfl }
theorem okNum : OkNum Tryz.prog fn :=
  { mixed := mixedP,   h105 := by kernel_rfl, h106 := by kernel_rfl, h107 := by kernel_rfl, h108 := by kernel_rfl, h109 := by kernel_rfl, h110 := by kernel_rfl, h111 := by kernel_rfl, h112 := by kernel_rfl, h113 := by kernel_rfl, h114 := by kernel_rfl, h116 := by kernel_rfl, h117 := by kernel_rfl, h115 := by kernel_rfl, h118 := by kernel_rfl }
theorem okHead : OkHead Tryz.prog fn :=
  { mixed := mixedP, toOkNum := okNum, toOkHash := okHash,   h135 := by kernel_rfl, h136 := by kernel_rfl, h137 := by kernel_rfl, h138 := by kernel_rfl, h139 := by kernel_rfl, h140 := by kernel_rfl, h141 := by kernel_rfl, h142 := by kernel_rfl, h143 := by kernel_rfl }
theorem okIndex : OkIndex Tryz.prog fn :=
  { mixed := mixedP, toOkHead := okHead,   h154 := by kernel_rfl, h155 := by kernel_rfl, h156 := by kernel_rfl, h157 := by kernel_rfl, h159 := by kernel_rfl, h161 := by kernel_rfl, h158 := by kernel_rfl, h163 := by kernel_rfl, h164 := by kernel_rfl, h166 := by kernel_rfl, h167 := by kernel_rfl, h168 := by kernel_rfl, h169 := by kernel_rfl, h170 := by kernel_rfl, h165 := by kernel_rfl, h172 := by kernel_rfl, h173 := by kernel_rfl, h179 := by kernel_rfl, h182 := by kernel_rfl, h171 := by kernel_rfl }
theorem okIndexZ : OkIndexZ Tryz.prog fn :=
  { mixed := mixedP, toOkIndex := okIndex,   h160 := by kernel_rfl, h162 := by kernel_rfl }
theorem okRef02 : OkRef02 Tryz.prog fn :=
  { mixed := mixedP,   h121 := by kernel_rfl, h122 := by kernel_rfl, h123 := by kernel_rfl, h124 := by kernel_rfl, h125 := by kernel_rfl, h126 := by kernel_rfl, h127 := by kernel_rfl, h128 := by kernel_rfl, h129 := by kernel_rfl }
theorem okRef01 : OkRef01 Tryz.prog fn :=
  { mixed := mixedP,   h130 := by kernel_rfl, h134 := by kernel_rfl, h131 := by kernel_rfl, h132 := by kernel_rfl, h133 := by kernel_rfl }
theorem okRef05 : OkRef05 Tryz.prog fn :=
  { mixed := mixedP, toOkRef02 := okRef02, toOkRef01 := okRef01,   h144 := by kernel_rfl, h145 := by kernel_rfl, h146 := by kernel_rfl, h147 := by kernel_rfl, h148 := by kernel_rfl, h149 := by kernel_rfl, h150 := by kernel_rfl, h151 := by kernel_rfl, h152 := by kernel_rfl, h153 := by kernel_rfl }
theorem okRef10 : OkRef10 Tryz.prog fn :=
  { mixed := mixedP, toOkRef05 := okRef05,   h208 := by kernel_rfl, h209 := by kernel_rfl, h210 := by kernel_rfl, h211 := by kernel_rfl, h212 := by kernel_rfl, h213 := by kernel_rfl, h214 := by kernel_rfl, h215 := by kernel_rfl, h216 := by kernel_rfl }
theorem okRef11 : OkRef11 Tryz.prog fn :=
  { mixed := mixedP, toOkRef10 := okRef10,   h231 := by kernel_rfl, h232 := by kernel_rfl, h233 := by kernel_rfl, h234 := by kernel_rfl, h235 := by kernel_rfl }
theorem okLocate : OkLocate Tryz.prog fn :=
  { mixed := mixedP, toOkIndexZ := okIndexZ,   h224 := by kernel_rfl, h225 := by kernel_rfl, h226 := by kernel_rfl, h227 := by kernel_rfl, h228 := by kernel_rfl, h229 := by kernel_rfl, h230 := by kernel_rfl }
theorem okLaw11 : OkLaw11 Tryz.prog fn :=
  { mixed := mixedP, toOkRef11 := okRef11, toOkLocate := okLocate,   h236 := by kernel_rfl, h237 := by kernel_rfl, h238 := by kernel_rfl, h239 := by kernel_rfl, h240 := by kernel_rfl, h241 := by kernel_rfl, h242 := by kernel_rfl, h243 := by kernel_rfl, h244 := by kernel_rfl, h245 := by kernel_rfl }

def ePair (r : Int × Int) : List V := [.int .i64 r.1, .int .i64 r.2]
theorem pair_shape (vs : List V) (hl : vs.length = 2) (h : Shape Tryz.prog 39 vs) : ∃ r, vs = ePair r := by
  obtain ⟨a, b, e⟩ := shape_pair Tryz.underlying39 Tryz.underlying3 (by kernel_rfl) vs hl h
  exact ⟨(a, b), e⟩
def eTri (r : Int × Int × Int) : List V := [.int .i64 r.1, .int .i64 r.2.1, .int .i64 r.2.2]
theorem tri_shape (vs : List V) (hl : vs.length = 3) (h : Shape Tryz.prog 75 vs) : ∃ r, vs = eTri r := by
  obtain ⟨a, b, c, e⟩ := shape_tri Tryz.underlying75 Tryz.underlying3 (by kernel_rfl) vs hl h
  exact ⟨(a, b, c), e⟩
theorem int_range {n : Int} (h : (Lit.int .i64 n).wf = true) : -9223372036854775808 ≤ n ∧ n ≤ 9223372036854775807 := by
  simp [Lit.wf] at h
  exact h
end Go.Proofs.YtgodabkifdmfcaaGreat

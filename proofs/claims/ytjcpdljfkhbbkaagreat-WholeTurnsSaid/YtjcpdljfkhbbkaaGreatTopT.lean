/-
  The functions of this program by the numbers of the table; what is alike in all statements.
-/
import Derived.Test.YtjcpdljfkhbbkaaGreatRows
import Derived.Test.YtjcpdljfkhbbkaaGreatT5
import Derived.Shelf.SlMaps.Clone
import Derived.WalkKit
import Derived.ProofKit
import Derived.OpenShut
import Derived.ShutString
import Derived.ChangeOld
import Derived.Below
set_option linter.unusedVariables false
set_option linter.unusedSimpArgs false
namespace Go.Proofs.YtjcpdljfkhbbkaaGreat
open Go Go.Ab Go.ChangeShapes Go.WideShapes Go.ChangeAt Go.RowKit

theorem own : ownKnob Tryz.prog.godebug = none := by kernel_rfl
theorem laidOut : laidOutB Tryz.prog = true := by kernel_rfl
def fn : Ab.Fn := fun k => ([163, 126, 164, 85, 77, 116, 50, 118, 99, 170, 165, 137, 120, 117, 119, 152, 136, 80, 191, 138, 195, 207, 232, 206, 190, 203, 224, 183, 229, 210, 90, 129, 130, 131, 167, 79, 166, 98, 127, 115, 78, 43, 44, 71, 184, 185, 157, 230, 189, 221, 201, 180, 220, 198, 95, 55, 59, 100, 39, 38, 87, 20, 60, 102, 135, 169, 97, 86, 58, 18, 62, 108, 194, 211, 212, 213, 214, 215, 216, 217, 218, 219, 228, 151, 0, 0, 0, 0, 17, 57, 14, 54, 49, 72, 74, 109, 73, 94, 84, 88, 101, 113, 114, 112, 111, 153, 154, 128, 123, 162, 125, 179, 202, 200, 199, 178, 181, 0, 0, 0, 0, 0, 0, 0, 0, 0, 0, 0, 67, 68, 106, 0, 0, 0, 222, 0, 0, 0, 0, 0, 0, 0, 0, 0, 0, 0, 41, 0, 0, 75, 110, 76, 61, 42, 53, 65, 105, 133, 134, 96, 56, 196, 171, 23, 66, 15, 21, 22, 40, 16, 51, 63, 26, 19, 64, 103, 104, 139, 140, 24, 34, 28, 37, 27, 30, 29, 69, 33, 32, 25, 70, 35, 31, 5, 6, 7, 9, 8, 36, 10, 11, 4, 3] : List Nat).getD (k - 100) 0
theorem mixedP : Tryz.prog.follows .mixedOrders = true := Checked.mixed Tryz.checked
theorem int_range {n : Int} (h : (Lit.int .i64 n).wf = true) : -9223372036854775808 ≤ n ∧ n ≤ 9223372036854775807 := by
  simp [Lit.wf] at h
  exact h
theorem byte_range {n : Int} (h : (Lit.int .u8 n).wf = true) : 0 ≤ n ∧ n ≤ 255 := by
  simp [Lit.wf] at h
  exact h
theorem okNum : OkNum Tryz.prog fn :=
  { mixed := mixedP, h105 := by kernel_rfl, h106 := by kernel_rfl, h107 := by kernel_rfl, h108 := by kernel_rfl, h109 := by kernel_rfl, h110 := by kernel_rfl, h111 := by kernel_rfl, h112 := by kernel_rfl, h113 := by kernel_rfl, h114 := by kernel_rfl, h116 := by kernel_rfl, h117 := by kernel_rfl, h115 := by kernel_rfl, h118 := by kernel_rfl }
theorem okHash : OkHash Tryz.prog fn :=
  { mixed := mixedP, h100 := by kernel_rfl, h101 := by kernel_rfl, h103 := by kernel_rfl, h104 := by kernel_rfl, h102 := by kernel_rfl }
theorem okHead : OkHead Tryz.prog fn :=
  { mixed := mixedP, toOkNum := okNum, toOkHash := okHash, h135 := by kernel_rfl, h136 := by kernel_rfl, h137 := by kernel_rfl, h138 := by kernel_rfl, h139 := by kernel_rfl, h140 := by kernel_rfl, h141 := by kernel_rfl, h142 := by kernel_rfl, h143 := by kernel_rfl }
theorem okTx : OkTx Tryz.prog fn :=
  { mixed := mixedP, toOkHead := okHead, h192 := by kernel_rfl, h198 := by kernel_rfl, h200 := by kernel_rfl, h201 := by kernel_rfl, h199 := by kernel_rfl, h207 := by kernel_rfl, h202 := by kernel_rfl, h203 := by kernel_rfl, h204 := by kernel_rfl, h205 := by kernel_rfl, h206 := by kernel_rfl, h197 := by kernel_rfl }
theorem okHonest : OkHonest Tryz.prog fn :=
  { mixed := mixedP, toOkTx := okTx, h188 := by kernel_rfl, h190 := by kernel_rfl, h189 := by kernel_rfl, h191 := by kernel_rfl }
theorem okCheck : OkCheck Tryz.prog fn :=
  { mixed := mixedP, toOkTx := okTx, h250 := by kernel_rfl, h249 := by kernel_rfl }
theorem okCheck2 : OkCheck2 Tryz.prog fn :=
  { mixed := mixedP, toOkCheck := okCheck, h251 := by kernel_rfl, h252 := by kernel_rfl, h253 := by kernel_rfl }
theorem okCoins : OkCoins Tryz.prog fn :=
  { mixed := mixedP, toOkCheck2 := okCheck2, h255 := by kernel_rfl, h257 := by kernel_rfl, h258 := by kernel_rfl, h259 := by kernel_rfl, h260 := by kernel_rfl, h261 := by kernel_rfl, h262 := by kernel_rfl, h263 := by kernel_rfl }
theorem okIndex : OkIndex Tryz.prog fn :=
  { mixed := mixedP, toOkHead := okHead, h154 := by kernel_rfl, h155 := by kernel_rfl, h156 := by kernel_rfl, h157 := by kernel_rfl, h159 := by kernel_rfl, h161 := by kernel_rfl, h158 := by kernel_rfl, h163 := by kernel_rfl, h164 := by kernel_rfl, h166 := by kernel_rfl, h167 := by kernel_rfl, h168 := by kernel_rfl, h169 := by kernel_rfl, h170 := by kernel_rfl, h165 := by kernel_rfl, h172 := by kernel_rfl, h173 := by kernel_rfl, h179 := by kernel_rfl, h182 := by kernel_rfl, h171 := by kernel_rfl }
theorem okIndexZ : OkIndexZ Tryz.prog fn :=
  { mixed := mixedP, toOkIndex := okIndex, h160 := by kernel_rfl, h162 := by kernel_rfl }
theorem okLocate : OkLocate Tryz.prog fn :=
  { mixed := mixedP, toOkIndexZ := okIndexZ, h228 := by kernel_rfl, h229 := by kernel_rfl, h230 := by kernel_rfl }
theorem okChain : OkChain Tryz.prog fn :=
  { mixed := mixedP, toOkCoins := okCoins, toOkLocate := okLocate, h265 := by kernel_rfl, h266 := by kernel_rfl, h267 := by kernel_rfl, h268 := by kernel_rfl, h269 := by kernel_rfl, h271 := by kernel_rfl, h273 := by kernel_rfl, h275 := by kernel_rfl, h274 := by kernel_rfl, h277 := by kernel_rfl, h278 := by kernel_rfl, h276 := by kernel_rfl }
theorem okTopT : OkTopT Tryz.prog fn :=
  { mixed := mixedP, toOkHonest := okHonest, toOkChain := okChain, h302 := by kernel_rfl }
theorem okEqual : OkEqual Tryz.prog fn :=
  { mixed := mixedP, toOkCoins := okCoins, h264 := by kernel_rfl }
def cloneRen : Go.Shelf.Ren := ⟨fun | 5 => 105 | 7 => 141 | n => n, fun | 23 => 46 | 25 => 106 | 3 => 153 | 4 => 4 | 20 => 20 | n => n, fun | n => n⟩
theorem cloneLays : SlLaysW.n5 Tryz.prog cloneRen :=
  { mixed := mixedP, f5 := ⟨"maps.Clone[map[tallystick/api.Point]tallystick/coins.Coin,tallystick/api.Point,tallystick/coins.Coin]", by decide, Tryz.func105.trans (congrArg some (by kernel_rfl))⟩, f7 := Tryz.func141.trans (congrArg some (by kernel_rfl)), t4 := Tryz.underlying4, a4 := Tryz.isAgg4, z4 := Tryz.sizeOf4, v4 := Tryz.zeroValue4, t20 := Tryz.underlying20, a20 := Tryz.isAgg20, z20 := Tryz.sizeOf20, v20 := Tryz.zeroValue20, t23 := Tryz.underlying46, a23 := Tryz.isAgg46, z23 := Tryz.sizeOf46, v23 := Tryz.zeroValue46 }
theorem cloneC : CloneC Tryz.prog (fn 256) := cloneC_of (fun w => AnyW.maps_Clone_nil cloneLays w) (fun w b E clk hb => AnyW.maps_Clone cloneLays b E clk w hb)
end Go.Proofs.YtjcpdljfkhbbkaaGreat

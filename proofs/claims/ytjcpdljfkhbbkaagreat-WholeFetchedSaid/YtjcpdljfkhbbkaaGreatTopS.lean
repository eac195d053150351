/-
  slices.Sort of this program, as a contract.
-/
import Derived.Test.YtjcpdljfkhbbkaaGreatTopW
import Derived.Test.YtjcpdljfkhbbkaaGreatZ4
import Derived.Shelf.Sort.Plain
import Derived.Shelf.Small.Bits
set_option linter.unusedVariables false
set_option linter.unusedSimpArgs false
namespace Go.Proofs.YtjcpdljfkhbbkaaGreat
open Go Go.Ab Go.RowKit Go.Sort
def sortLays_ren : Go.Shelf.Ren := ⟨fun | 189 => 69 | 125 => 108 | 257 => 107 | 128 => 151 | 129 => 152 | 294 => 142 | 295 => 143 | 296 => 144 | 297 => 145 | 298 => 146 | 299 => 147 | 216 => 148 | 300 => 149 | 301 => 150 | 328 => 172 | 329 => 173 | 330 => 174 | 331 => 175 | 332 => 176 | 215 => 177 | 343 => 197 | n => n, fun | 28 => 22 | 3 => 3 | 46 => 196 | 0 => 0 | 51 => 23 | 53 => 54 | 4 => 4 | 183 => 250 | 182 => 249 | 131 => 75 | 5 => 5 | 9 => 9 | 218 => 280 | 222 => 284 | 228 => 308 | 229 => 309 | n => n, fun | n => n⟩
theorem sortLays : Lays.n189 Tryz.prog sortLays_ren where
  mixed := by kernel_rfl
  f125 := Tryz.func108.trans (congrArg some (by kernel_rfl))
  f128 := Tryz.func151.trans (congrArg some (by kernel_rfl))
  f129 := Tryz.func152.trans (congrArg some (by kernel_rfl))
  f189 := Tryz.func69.trans (congrArg some (by kernel_rfl))
  f215 := Tryz.func177.trans (congrArg some (by kernel_rfl))
  f216 := Tryz.func148.trans (congrArg some (by kernel_rfl))
  f257 := Tryz.func107.trans (congrArg some (by kernel_rfl))
  f294 := Tryz.func142.trans (congrArg some (by kernel_rfl))
  f295 := Tryz.func143.trans (congrArg some (by kernel_rfl))
  f296 := Tryz.func144.trans (congrArg some (by kernel_rfl))
  f297 := Tryz.func145.trans (congrArg some (by kernel_rfl))
  f298 := Tryz.func146.trans (congrArg some (by kernel_rfl))
  f299 := Tryz.func147.trans (congrArg some (by kernel_rfl))
  f300 := Tryz.func149.trans (congrArg some (by kernel_rfl))
  f301 := Tryz.func150.trans (congrArg some (by kernel_rfl))
  f328 := Tryz.func172.trans (congrArg some (by kernel_rfl))
  f329 := Tryz.func173.trans (congrArg some (by kernel_rfl))
  f330 := Tryz.func174.trans (congrArg some (by kernel_rfl))
  f331 := Tryz.func175.trans (congrArg some (by kernel_rfl))
  f332 := Tryz.func176.trans (congrArg some (by kernel_rfl))
  f343 := Tryz.func197.trans (congrArg some (by kernel_rfl))
  t0 := Tryz.underlying0
  a0 := Tryz.isAgg0
  z0 := Tryz.sizeOf0
  v0 := Tryz.zeroValue0
  t3 := Tryz.underlying3
  a3 := Tryz.isAgg3
  z3 := Tryz.sizeOf3
  v3 := Tryz.zeroValue3
  t4 := Tryz.underlying4
  a4 := Tryz.isAgg4
  z4 := Tryz.sizeOf4
  v4 := Tryz.zeroValue4
  t5 := Tryz.underlying5
  a5 := Tryz.isAgg5
  z5 := Tryz.sizeOf5
  v5 := Tryz.zeroValue5
  t9 := Tryz.underlying9
  a9 := Tryz.isAgg9
  z9 := Tryz.sizeOf9
  v9 := Tryz.zeroValue9
  t28 := Tryz.underlying22
  a28 := Tryz.isAgg22
  z28 := Tryz.sizeOf22
  v28 := Tryz.zeroValue22
  t46 := Tryz.underlying196
  a46 := Tryz.isAgg196
  z46 := Tryz.sizeOf196
  v46 := Tryz.zeroValue196
  t51 := Tryz.underlying23
  a51 := Tryz.isAgg23
  z51 := Tryz.sizeOf23
  v51 := Tryz.zeroValue23
  t53 := Tryz.underlying54
  a53 := Tryz.isAgg54
  z53 := Tryz.sizeOf54
  v53 := Tryz.zeroValue54
  t131 := Tryz.underlying75
  a131 := Tryz.isAgg75
  z131 := Tryz.sizeOf75
  v131 := Tryz.zeroValue75
  t182 := Tryz.underlying249
  a182 := Tryz.isAgg249
  z182 := Tryz.sizeOf249
  v182 := Tryz.zeroValue249
  t183 := Tryz.underlying250
  a183 := Tryz.isAgg250
  z183 := Tryz.sizeOf250
  v183 := Tryz.zeroValue250
  t218 := Tryz.underlying280
  a218 := Tryz.isAgg280
  z218 := Tryz.sizeOf280
  v218 := Tryz.zeroValue280
  t222 := Tryz.underlying284
  a222 := Tryz.isAgg284
  z222 := Tryz.sizeOf284
  v222 := Tryz.zeroValue284
  t228 := Tryz.underlying308
  a228 := Tryz.isAgg308
  z228 := Tryz.sizeOf308
  v228 := Tryz.zeroValue308
  t229 := Tryz.underlying309
  a229 := Tryz.isAgg309
  z229 := Tryz.sizeOf309
  v229 := Tryz.zeroValue309
theorem ins_nil (p : Option Addr) (cap : Nat) (w : World) :
    Calls Tryz.prog 142 #[.slice p 0 cap, .int .i64 0, .int .i64 0] w fun e w' => e = .returned (.tuple #[]) ∧ w' = w := by
  go_enter Tryz.func142, Tryz.ntmps142
  go_wp2
  refine wp_loop_rounds 1 ?_
  rw [rounds_succ]
  go_wp2
  go_end0
  exact ⟨rfl, rfl⟩
set_option maxRecDepth 100000 in
theorem pdq_nil (p : Option Addr) (cap : Nat) (w : World) :
    Calls Tryz.prog 107 #[.slice p 0 cap, .int .i64 0, .int .i64 0, .int .i64 0] w fun e w' => e = .returned (.tuple #[]) ∧ w' = w := by
  go_enter Tryz.func107, Tryz.ntmps107
  go_wp2
  refine wp_loop_rounds 1 ?_
  rw [rounds_succ]
  go_wp2_with (first | (go_at_call 142; refine (ins_nil p cap _).mono ?_; rintro e w' ⟨rfl, rfl⟩))
  refine bodyPost_ret (results_none rfl _ _ _) rfl ?_
  exact ⟨rfl, rfl⟩
set_option maxRecDepth 100000 in
theorem sort_nil (p : Option Addr) (cap : Nat) (w : World) :
    Calls Tryz.prog 69 #[.slice p 0 cap] w fun e w' => e = .returned (.tuple #[]) ∧ w' = w := by
  have hLen : ∀ w, Calls Tryz.prog 108 #[.int .u64 0] w fun e w' => e = .returned (.int .i64 0) ∧ w' = w := fun w => Any.bits_Len (ρ := sortLays_ren) { sortLays with } 0 w (by omega) (by omega)
  go_enter Tryz.func69, Tryz.ntmps69
  go_wp2_with (first
    | (go_at_call 108; refine (hLen _).mono ?_; rintro e w' ⟨rfl, rfl⟩)
    | (go_at_call 107; refine (pdq_nil p cap _).mono ?_; rintro e w' ⟨rfl, rfl⟩))
  go_end0
  exact ⟨rfl, rfl⟩
theorem sortC : SortC Tryz.prog (fn 286) := sortC_of (fun w => sort_nil none 0 w) (fun blk off cap zs w h1 h2 h3 => Any.slices_Sort_int sortLays blk off cap zs w h1 h2 h3)
end Go.Proofs.YtjcpdljfkhbbkaaGreat

import Derived.Test.YtgodabkifdmfcaaGreatJ4
import Derived.Test.YtgodabkifdmfcaaGreatJ7
import Derived.Test.YtgodabkifdmfcaaGreatJ8
/-
  The code of functions of the program in the small language.
-/
set_option linter.unusedVariables false
namespace Go.Ab
open Go
-- regions [0, 1, 2, 3, 4, 5, 6]
/- tallystick/tallystickref10.Check -/
def k208 (F : Fn) : PF := PF.mk 60 1 [(.t 2)] (.seq (.ops [(PO.mk (some 1) (.box (.t 0)) none), (PO.mk (some 2) (.mv (.k (.int .i64 0))) none)]) (.seq (.ops [(PO.mk (some 6) (.fldA 0 (.t 1)) none), (PO.mk (some 7) (.load false 1 (.t 6)) none), (PO.mk (some 8) (.call (F 146) [(.t 7)]) none), (PO.mk (some 5) (.mv (.t 8)) none), (PO.mk (some 9) (.ext 0 (.t 5)) none), (PO.mk (some 10) (.ext 1 (.t 5)) none), (PO.mk (some 3) (.mv (.t 9)) none), (PO.mk (some 4) (.mv (.t 10)) none)]) (.seq (.seq (.ops [(PO.mk (some 11) (.mv (.t 4)) none), (PO.mk (some 12) (.not (.t 11)) none), (PO.mk (some 13) (.mv (.t 12)) none), (PO.mk (some 14) (.fldA 5 (.t 1)) (some (13, false))), (PO.mk (some 15) (.fldA 0 (.t 14)) (some (13, false))), (PO.mk (some 16) (.fldA 66 (.t 15)) (some (13, false))), (PO.mk (some 17) (.load false 1 (.t 16)) (some (13, false))), (PO.mk (some 18) (.fldA 0 (.t 1)) (some (13, false))), (PO.mk (some 19) (.load false 1 (.t 18)) (some (13, false))), (PO.mk (some 20) (.bin .neq (.t 17) (.t 19)) (some (13, false))), (PO.mk (some 21) (.pick (.t 13) (.k (.bool true)) (.t 20)) none)]) (.cond (.t 21) (.seq (.ops [(PO.mk (some 2) (.mv (.k (.int .i64 30))) none)]) .ret) .skip)) (.seq (.seq (.ops [(PO.mk (some 22) (.fldA 1 (.t 1)) none), (PO.mk (some 23) (.load false 1 (.t 22)) none), (PO.mk (some 24) (.bin .lss (.t 23) (.k (.int .i64 0))) none), (PO.mk (some 25) (.mv (.t 24)) none), (PO.mk (some 26) (.fldA 1 (.t 1)) (some (25, false))), (PO.mk (some 27) (.load false 1 (.t 26)) (some (25, false))), (PO.mk (some 28) (.bin .gtr (.t 27) (.k (.int .i64 1000))) (some (25, false))), (PO.mk (some 29) (.pick (.t 25) (.k (.bool true)) (.t 28)) none), (PO.mk (some 30) (.mv (.t 29)) none), (PO.mk (some 31) (.fldA 2 (.t 1)) (some (30, false))), (PO.mk (some 32) (.load false 1 (.t 31)) (some (30, false))), (PO.mk (some 33) (.bin .lss (.t 32) (.k (.int .i64 1))) (some (30, false))), (PO.mk (some 34) (.pick (.t 30) (.k (.bool true)) (.t 33)) none), (PO.mk (some 35) (.mv (.t 34)) none), (PO.mk (some 36) (.fldA 2 (.t 1)) (some (35, false))), (PO.mk (some 37) (.load false 1 (.t 36)) (some (35, false))), (PO.mk (some 38) (.bin .gtr (.t 37) (.k (.int .i64 1048576))) (some (35, false))), (PO.mk (some 39) (.pick (.t 35) (.k (.bool true)) (.t 38)) none), (PO.mk (some 40) (.mv (.t 39)) none), (PO.mk (some 41) (.fldA 3 (.t 1)) (some (40, false))), (PO.mk (some 42) (.load false 1 (.t 41)) (some (40, false))), (PO.mk (some 43) (.bin .lss (.t 42) (.k (.int .i64 0))) (some (40, false))), (PO.mk (some 44) (.pick (.t 40) (.k (.bool true)) (.t 43)) none), (PO.mk (some 45) (.mv (.t 44)) none), (PO.mk (some 46) (.fldA 3 (.t 1)) (some (45, false))), (PO.mk (some 47) (.load false 1 (.t 46)) (some (45, false))), (PO.mk (some 48) (.bin .gtr (.t 47) (.k (.int .i64 1125899906842624))) (some (45, false))), (PO.mk (some 49) (.pick (.t 45) (.k (.bool true)) (.t 48)) none), (PO.mk (some 50) (.mv (.t 49)) none), (PO.mk (some 51) (.fldA 4 (.t 1)) (some (50, false))), (PO.mk (some 52) (.load false 1 (.t 51)) (some (50, false))), (PO.mk (some 53) (.bin .lss (.t 52) (.k (.int .i64 0))) (some (50, false))), (PO.mk (some 54) (.pick (.t 50) (.k (.bool true)) (.t 53)) none), (PO.mk (some 55) (.mv (.t 54)) none), (PO.mk (some 56) (.fldA 4 (.t 1)) (some (55, false))), (PO.mk (some 57) (.load false 1 (.t 56)) (some (55, false))), (PO.mk (some 58) (.bin .gtr (.t 57) (.k (.int .i64 1000))) (some (55, false))), (PO.mk (some 59) (.pick (.t 55) (.k (.bool true)) (.t 58)) none)]) (.cond (.t 59) (.seq (.ops [(PO.mk (some 2) (.mv (.k (.int .i64 1))) none)]) .ret) .skip)) (.seq (.ops [(PO.mk (some 2) (.mv (.k (.int .i64 0))) none)]) .ret)))))
-- regions [0, 1, 2, 3, 4, 5, 6]
/- tallystick/tallystickref10.node -/
def k209 (F : Fn) : PF := PF.mk 43 3 [(PR.cell 6 true 104)] (.seq (.ops [(PO.mk (some 4) (.box (.t 1)) none), (PO.mk (some 6) (.alloc z104_1a18) none)]) (.seq (.ops [(PO.mk (some 11) (.fldA 66 (.t 4)) none), (PO.mk (some 12) (.load false 1 (.t 11)) none), (PO.mk (some 13) (.call (F 146) [(.t 12)]) none), (PO.mk (some 10) (.mv (.t 13)) none), (PO.mk (some 14) (.ext 0 (.t 10)) none), (PO.mk (some 15) (.ext 1 (.t 10)) none), (PO.mk (some 7) (.mv (.t 14)) none), (PO.mk (some 8) (.mv (.t 15)) none)]) (.seq (.draw [(.e, (PO.mk (some 20) (.mv (.t 2)) none)), (.e, (PO.mk (some 21) (.mv (.t 7)) none)), (.s, (PO.mk (some 16) (.load true 68 (.t 4)) none)), (.s, (PO.mk (some 17) (.load true 68 (.t 4)) none)), (.s, (PO.mk (some 18) (.call (F 151) [(.t 17)]) none)), (.s, (PO.mk (some 19) (.call (F 134) [(.t 18)]) none)), (.s, (PO.mk (some 22) (.call (F 148) [(.t 21)]) none)), (.e, (PO.mk (some 23) (.build z104_1a18 [(0, (68, (.t 16))), (68, (32, (.t 19))), (100, (1, (.t 20))), (102, (1, (.t 22)))]) none)), (.a, (PO.mk (some 9) (.alloc z104_1a18) none)), (.x, (PO.mk none (.store 104 (.t 9) (.t 23)) none))]) (.seq (.seq (.ops [(PO.mk (some 24) (.mv (.t 2)) none), (PO.mk (some 25) (.bin .geq (.t 24) (.k (.int .i64 0))) none)]) (.cond (.t 25) (.seq (.ops [(PO.mk (some 26) (.mv (.t 0)) none), (PO.mk (some 27) (.mv (.t 2)) none), (PO.mk (some 28) (.idxSl 104 (.t 26) (.t 27)) none), (PO.mk (some 29) (.fldA 101 (.t 28)) none), (PO.mk (some 30) (.load false 1 (.t 29)) none), (PO.mk (some 31) (.bin .add (.t 30) (.k (.int .i64 1))) none), (PO.mk (some 32) (.fldA 101 (.t 9)) none), (PO.mk none (.store 1 (.t 32) (.t 31)) none)]) (.draw [(.e, (PO.mk (some 33) (.fldA 102 (.t 9)) none)), (.e, (PO.mk (some 35) (.mv (.t 0)) none)), (.e, (PO.mk (some 36) (.mv (.t 2)) none)), (.e, (PO.mk (some 37) (.idxSl 104 (.t 35) (.t 36)) none)), (.e, (PO.mk (some 38) (.fldA 102 (.t 37)) none)), (.s, (PO.mk (some 34) (.load false 1 (.t 33)) none)), (.s, (PO.mk (some 39) (.load false 1 (.t 38)) none)), (.x, (PO.mk (some 40) (.call (F 124) [(.t 34), (.t 39)]) none)), (.e, (PO.mk (some 41) (.fldA 102 (.t 9)) none)), (.x, (PO.mk none (.store 1 (.t 41) (.t 40)) none))])) .skip)) (.seq (.ops [(PO.mk (some 42) (.load true 104 (.t 9)) none), (PO.mk none (.store 104 (.t 6) (.t 42)) none)]) .ret)))))
-- regions [0, 1]
/- tallystick/tallystickref10.New -/
def k210 (F : Fn) : PF := PF.mk 8 1 [(.t 2)] (.seq (.ops [(PO.mk (some 1) (.box (.t 0)) none), (PO.mk (some 2) (.mv (.k (.sl .nil [] 0))) none)]) (.seq (.ops [(PO.mk (some 3) (.fldA 5 (.t 1)) none), (PO.mk (some 4) (.fldA 0 (.t 3)) none), (PO.mk (some 5) (.load true 68 (.t 4)) none), (PO.mk (some 6) (.call (F 209) [(.k (.sl .nil [] 0)), (.t 5), (.k (.int .i64 (-1)))]) none), (PO.mk (some 7) (.bsl false 104 1 z104_1a18 [(0, (104, (.t 6)))]) none), (PO.mk (some 2) (.mv (.t 7)) none)]) .ret))
-- regions [0, 1, 2, 3, 5, 6, 4, 7]
/- tallystick/tallystickref10.Find -/
def k211 (F : Fn) : PF := PF.mk 22 2 [(.t 4)] (.seq (.ops [(PO.mk (some 3) (.box (.t 1)) none), (PO.mk (some 4) (.mv (.k (.int .i64 0))) none)]) (.seq (.ops [(PO.mk (some 5) (.mv (.k (.int .i64 (-1)))) none)]) (.seq (.seq (.ops [(PO.mk (some 6) (.mv (.k (.int .i64 0))) none)]) (.block 0 (.loop (.seq (.seq (.ops [(PO.mk (some 7) (.mv (.t 6)) none), (PO.mk (some 8) (.mv (.t 0)) none), (PO.mk (some 9) (.lenSl (.t 8)) none), (PO.mk (some 10) (.bin .lss (.t 7) (.t 9)) none)]) (.cond (.t 10) .skip (.exit 0))) (.seq (.block 1 (.seq (.draw [(.e, (PO.mk (some 13) (.mv (.t 0)) none)), (.e, (PO.mk (some 14) (.mv (.t 6)) none)), (.e, (PO.mk (some 15) (.idxSl 104 (.t 13) (.t 14)) none)), (.e, (PO.mk (some 16) (.fldA 68 (.t 15)) none)), (.s, (PO.mk (some 17) (.load true 32 (.t 16)) none)), (.s, (PO.mk (some 18) (.load true 32 (.t 3)) none)), (.e, (PO.mk (some 19) (.eqa (.agg 32) false (.t 17) (.t 18)) none))]) (.cond (.t 19) (.ops [(PO.mk (some 20) (.mv (.t 6)) none), (PO.mk (some 5) (.mv (.t 20)) none)]) .skip))) (.ops [(PO.mk (some 11) (.mv (.t 6)) none), (PO.mk (some 12) (.bin .add (.t 11) (.k (.int .i64 1))) none), (PO.mk (some 6) (.mv (.t 12)) none)])))))) (.seq (.ops [(PO.mk (some 21) (.mv (.t 5)) none), (PO.mk (some 4) (.mv (.t 21)) none)]) .ret))))
-- regions [0, 1, 2, 3, 4, 5]
/- tallystick/tallystickref10.Ancestor -/
def k212 (F : Fn) : PF := PF.mk 41 3 [(.t 6)] (.seq (.ops [(PO.mk (some 6) (.mv (.k (.int .i64 0))) none)]) (.seq (.seq (.ops [(PO.mk (some 7) (.mv (.t 1)) none), (PO.mk (some 8) (.bin .lss (.t 7) (.k (.int .i64 0))) none), (PO.mk (some 9) (.mv (.t 8)) none), (PO.mk (some 10) (.mv (.t 1)) (some (9, false))), (PO.mk (some 11) (.mv (.t 0)) (some (9, false))), (PO.mk (some 12) (.lenSl (.t 11)) (some (9, false))), (PO.mk (some 13) (.bin .geq (.t 10) (.t 12)) (some (9, false))), (PO.mk (some 14) (.pick (.t 9) (.k (.bool true)) (.t 13)) none), (PO.mk (some 15) (.mv (.t 14)) none), (PO.mk (some 16) (.mv (.t 2)) (some (15, false))), (PO.mk (some 17) (.bin .lss (.t 16) (.k (.int .i64 0))) (some (15, false))), (PO.mk (some 18) (.pick (.t 15) (.k (.bool true)) (.t 17)) none), (PO.mk (some 19) (.mv (.t 18)) none), (PO.mk (some 20) (.mv (.t 2)) (some (19, false))), (PO.mk (some 21) (.mv (.t 0)) (some (19, false))), (PO.mk (some 22) (.mv (.t 1)) (some (19, false))), (PO.mk (some 23) (.idxSl 104 (.t 21) (.t 22)) (some (19, false))), (PO.mk (some 24) (.fldA 101 (.t 23)) (some (19, false))), (PO.mk (some 25) (.load false 1 (.t 24)) (some (19, false))), (PO.mk (some 26) (.bin .gtr (.t 20) (.t 25)) (some (19, false))), (PO.mk (some 27) (.pick (.t 19) (.k (.bool true)) (.t 26)) none)]) (.cond (.t 27) (.seq (.ops [(PO.mk (some 6) (.mv (.k (.int .i64 (-1)))) none)]) .ret) .skip)) (.seq (.block 0 (.loop (.seq (.seq (.ops [(PO.mk (some 28) (.mv (.t 0)) none), (PO.mk (some 29) (.mv (.t 1)) none), (PO.mk (some 30) (.idxSl 104 (.t 28) (.t 29)) none), (PO.mk (some 31) (.fldA 101 (.t 30)) none), (PO.mk (some 32) (.load false 1 (.t 31)) none), (PO.mk (some 33) (.mv (.t 2)) none), (PO.mk (some 34) (.bin .gtr (.t 32) (.t 33)) none)]) (.cond (.t 34) .skip (.exit 0))) (.block 1 (.ops [(PO.mk (some 35) (.mv (.t 0)) none), (PO.mk (some 36) (.mv (.t 1)) none), (PO.mk (some 37) (.idxSl 104 (.t 35) (.t 36)) none), (PO.mk (some 38) (.fldA 100 (.t 37)) none), (PO.mk (some 39) (.load false 1 (.t 38)) none), (PO.mk (some 1) (.mv (.t 39)) none)]))))) (.seq (.ops [(PO.mk (some 40) (.mv (.t 1)) none), (PO.mk (some 6) (.mv (.t 40)) none)]) .ret))))
-- regions [0, 1, 2, 3, 4, 5, 6, 8, 9, 10, 12, 13, 11, 14, 15, 7, 16]
/- tallystick/tallystickref10.Median -/
def k213 (F : Fn) : PF := PF.mk 78 2 [(.t 4)] (.seq (.ops [(PO.mk (some 4) (.mv (.k (w32 0))) none)]) (.seq (.ops [(PO.mk (some 5) (.mv (.k (.sl .nil [] 0))) none)]) (.seq (.block 0 (.loop (.seq (.seq (.ops [(PO.mk (some 9) (.mv (.t 1)) none), (PO.mk (some 10) (.bin .geq (.t 9) (.k (.int .i64 0))) none), (PO.mk (some 11) (.mv (.t 10)) none), (PO.mk (some 12) (.mv (.t 5)) (some (11, true))), (PO.mk (some 13) (.lenSl (.t 12)) (some (11, true))), (PO.mk (some 14) (.bin .lss (.t 13) (.k (.int .i64 11))) (some (11, true))), (PO.mk (some 15) (.pick (.t 11) (.t 14) (.k (.bool false))) none)]) (.cond (.t 15) .skip (.exit 0))) (.block 1 (.seq (.ops [(PO.mk (some 16) (.mv (.t 5)) none), (PO.mk (some 17) (.mv (.t 0)) none), (PO.mk (some 18) (.mv (.t 1)) none), (PO.mk (some 19) (.idxSl 104 (.t 17) (.t 18)) none), (PO.mk (some 20) (.fldA 0 (.t 19)) none), (PO.mk (some 21) (.fldA 65 (.t 20)) none), (PO.mk (some 22) (.load false 1 (.t 21)) none), (PO.mk (some 23) (.bsl false 1 1 [(w32 0)] [(0, (1, (.t 22)))]) none), (PO.mk (some 24) (.app 1 4 (.t 16) (.t 23)) none), (PO.mk (some 5) (.mv (.t 24)) none)]) (.ops [(PO.mk (some 25) (.mv (.t 0)) none), (PO.mk (some 26) (.mv (.t 1)) none), (PO.mk (some 27) (.idxSl 104 (.t 25) (.t 26)) none), (PO.mk (some 28) (.fldA 100 (.t 27)) none), (PO.mk (some 29) (.load false 1 (.t 28)) none), (PO.mk (some 1) (.mv (.t 29)) none)])))))) (.seq (.seq (.ops [(PO.mk (some 6) (.mv (.k (.int .i64 0))) none)]) (.block 2 (.loop (.seq (.seq (.ops [(PO.mk (some 30) (.mv (.t 6)) none), (PO.mk (some 31) (.mv (.t 5)) none), (PO.mk (some 32) (.lenSl (.t 31)) none), (PO.mk (some 33) (.bin .lss (.t 30) (.t 32)) none)]) (.cond (.t 33) .skip (.exit 2))) (.seq (.block 3 (.seq (.ops [(PO.mk (some 7) (.mv (.k (.int .i64 0))) none)]) (.seq (.seq (.ops [(PO.mk (some 8) (.mv (.k (.int .i64 0))) none)]) (.block 4 (.loop (.seq (.seq (.ops [(PO.mk (some 36) (.mv (.t 8)) none), (PO.mk (some 37) (.mv (.t 5)) none), (PO.mk (some 38) (.lenSl (.t 37)) none), (PO.mk (some 39) (.bin .lss (.t 36) (.t 38)) none)]) (.cond (.t 39) .skip (.exit 4))) (.seq (.block 5 (.seq (.draw [(.e, (PO.mk (some 42) (.mv (.t 5)) none)), (.e, (PO.mk (some 43) (.mv (.t 8)) none)), (.e, (PO.mk (some 44) (.idxSl 1 (.t 42) (.t 43)) none)), (.e, (PO.mk (some 46) (.mv (.t 5)) none)), (.e, (PO.mk (some 47) (.mv (.t 6)) none)), (.e, (PO.mk (some 48) (.idxSl 1 (.t 46) (.t 47)) none)), (.s, (PO.mk (some 45) (.load false 1 (.t 44)) none)), (.s, (PO.mk (some 49) (.load false 1 (.t 48)) none)), (.e, (PO.mk (some 50) (.bin .lss (.t 45) (.t 49)) none)), (.e, (PO.mk (some 51) (.mv (.t 50)) none)), (.e, (PO.mk (some 52) (.mv (.t 5)) (some (51, false)))), (.e, (PO.mk (some 53) (.mv (.t 8)) (some (51, false)))), (.e, (PO.mk (some 54) (.idxSl 1 (.t 52) (.t 53)) (some (51, false)))), (.e, (PO.mk (some 56) (.mv (.t 5)) (some (51, false)))), (.e, (PO.mk (some 57) (.mv (.t 6)) (some (51, false)))), (.e, (PO.mk (some 58) (.idxSl 1 (.t 56) (.t 57)) (some (51, false)))), (.s, (PO.mk (some 55) (.load false 1 (.t 54)) (some (51, false)))), (.s, (PO.mk (some 59) (.load false 1 (.t 58)) (some (51, false)))), (.e, (PO.mk (some 60) (.bin .eql (.t 55) (.t 59)) (some (51, false)))), (.e, (PO.mk (some 61) (.mv (.t 60)) (some (51, false)))), (.e, (PO.mk (some 62) (.mv (.t 8)) (some (61, true)))), (.e, (PO.mk (some 63) (.mv (.t 6)) (some (61, true)))), (.e, (PO.mk (some 64) (.bin .lss (.t 62) (.t 63)) (some (61, true)))), (.e, (PO.mk (some 65) (.pick (.t 61) (.t 64) (.k (.bool false))) (some (51, false)))), (.e, (PO.mk (some 66) (.pick (.t 51) (.k (.bool true)) (.t 65)) none))]) (.cond (.t 66) (.ops [(PO.mk (some 67) (.mv (.t 7)) none), (PO.mk (some 68) (.bin .add (.t 67) (.k (.int .i64 1))) none), (PO.mk (some 7) (.mv (.t 68)) none)]) .skip))) (.ops [(PO.mk (some 40) (.mv (.t 8)) none), (PO.mk (some 41) (.bin .add (.t 40) (.k (.int .i64 1))) none), (PO.mk (some 8) (.mv (.t 41)) none)])))))) (.seq (.ops [(PO.mk (some 69) (.mv (.t 7)) none), (PO.mk (some 70) (.mv (.t 5)) none), (PO.mk (some 71) (.lenSl (.t 70)) none), (PO.mk (some 72) (.bin .quo (.t 71) (.k (.int .i64 2))) none), (PO.mk (some 73) (.bin .eql (.t 69) (.t 72)) none)]) (.cond (.t 73) (.seq (.ops [(PO.mk (some 74) (.mv (.t 5)) none), (PO.mk (some 75) (.mv (.t 6)) none), (PO.mk (some 76) (.idxSl 1 (.t 74) (.t 75)) none), (PO.mk (some 77) (.load false 1 (.t 76)) none), (PO.mk (some 4) (.mv (.t 77)) none)]) .ret) .skip))))) (.ops [(PO.mk (some 34) (.mv (.t 6)) none), (PO.mk (some 35) (.bin .add (.t 34) (.k (.int .i64 1))) none), (PO.mk (some 6) (.mv (.t 35)) none)])))))) (.seq (.ops [(PO.mk (some 4) (.mv (.k (w32 0))) none)]) .ret)))))
-- regions [0, 1, 2, 3, 4, 5, 6, 7, 8, 9, 10]
/- tallystick/tallystickref10.Next -/
def k214 (F : Fn) : PF := PF.mk 77 3 [(.t 6)] (.seq (.ops [(PO.mk (some 3) (.box (.t 0)) none), (PO.mk (some 6) (.mv (.k (w32 0))) none)]) (.seq (.ops [(PO.mk (some 14) (.mv (.t 1)) none), (PO.mk (some 15) (.mv (.t 2)) none), (PO.mk (some 16) (.idxSl 104 (.t 14) (.t 15)) none), (PO.mk (some 17) (.load true 104 (.t 16)) none), (PO.mk (some 7) (.alloc z104_1a18) none), (PO.mk none (.store 104 (.t 7) (.t 17)) none)]) (.seq (.seq (.ops [(PO.mk (some 18) (.fldA 1 (.t 3)) none), (PO.mk (some 19) (.load false 1 (.t 18)) none), (PO.mk (some 20) (.bin .eql (.t 19) (.k (.int .i64 0))) none), (PO.mk (some 21) (.mv (.t 20)) none), (PO.mk (some 22) (.fldA 101 (.t 7)) (some (21, false))), (PO.mk (some 23) (.load false 1 (.t 22)) (some (21, false))), (PO.mk (some 24) (.bin .add (.t 23) (.k (.int .i64 1))) (some (21, false))), (PO.mk (some 25) (.fldA 1 (.t 3)) (some (21, false))), (PO.mk (some 26) (.load false 1 (.t 25)) (some (21, false))), (PO.mk (some 27) (.bin .rem (.t 24) (.t 26)) (some (21, false))), (PO.mk (some 28) (.bin .neq (.t 27) (.k (.int .i64 0))) (some (21, false))), (PO.mk (some 29) (.pick (.t 21) (.k (.bool true)) (.t 28)) none)]) (.cond (.t 29) (.seq (.ops [(PO.mk (some 30) (.fldA 0 (.t 7)) none), (PO.mk (some 31) (.fldA 66 (.t 30)) none), (PO.mk (some 32) (.load false 1 (.t 31)) none), (PO.mk (some 6) (.mv (.t 32)) none)]) .ret) .skip)) (.seq (.ops [(PO.mk (some 33) (.fldA 101 (.t 7)) none), (PO.mk (some 34) (.load false 1 (.t 33)) none), (PO.mk (some 35) (.bin .add (.t 34) (.k (.int .i64 1))) none), (PO.mk (some 36) (.fldA 1 (.t 3)) none), (PO.mk (some 37) (.load false 1 (.t 36)) none), (PO.mk (some 38) (.bin .sub (.t 35) (.t 37)) none), (PO.mk (some 8) (.mv (.t 38)) none)]) (.seq (.seq (.ops [(PO.mk (some 39) (.mv (.t 8)) none), (PO.mk (some 40) (.bin .lss (.t 39) (.k (.int .i64 0))) none)]) (.cond (.t 40) (.ops [(PO.mk (some 8) (.mv (.k (.int .i64 0))) none)]) .skip)) (.seq (.ops [(PO.mk (some 41) (.mv (.t 1)) none), (PO.mk (some 42) (.mv (.t 1)) none), (PO.mk (some 43) (.mv (.t 2)) none), (PO.mk (some 44) (.mv (.t 8)) none), (PO.mk (some 45) (.call (F 212) [(.t 42), (.t 43), (.t 44)]) none), (PO.mk (some 46) (.idxSl 104 (.t 41) (.t 45)) none), (PO.mk (some 47) (.load true 104 (.t 46)) none), (PO.mk (some 9) (.alloc z104_1a18) none), (PO.mk none (.store 104 (.t 9) (.t 47)) none)]) (.seq (.ops [(PO.mk (some 49) (.fldA 0 (.t 3)) none), (PO.mk (some 50) (.load false 1 (.t 49)) none), (PO.mk (some 51) (.call (F 146) [(.t 50)]) none), (PO.mk (some 48) (.mv (.t 51)) none), (PO.mk (some 52) (.ext 0 (.t 48)) none), (PO.mk (some 53) (.ext 1 (.t 48)) none), (PO.mk (some 10) (.mv (.t 52)) none), (PO.mk (some 11) (.mv (.t 53)) none)]) (.seq (.ops [(PO.mk (some 55) (.fldA 0 (.t 7)) none), (PO.mk (some 56) (.fldA 66 (.t 55)) none), (PO.mk (some 57) (.load false 1 (.t 56)) none), (PO.mk (some 58) (.fldA 0 (.t 7)) none), (PO.mk (some 59) (.fldA 65 (.t 58)) none), (PO.mk (some 60) (.load false 1 (.t 59)) none), (PO.mk (some 61) (.conv .i64 (.t 60)) none), (PO.mk (some 62) (.fldA 0 (.t 9)) none), (PO.mk (some 63) (.fldA 65 (.t 62)) none), (PO.mk (some 64) (.load false 1 (.t 63)) none), (PO.mk (some 65) (.conv .i64 (.t 64)) none), (PO.mk (some 66) (.bin .sub (.t 61) (.t 65)) none), (PO.mk (some 67) (.fldA 1 (.t 3)) none), (PO.mk (some 68) (.load false 1 (.t 67)) none), (PO.mk (some 69) (.fldA 2 (.t 3)) none), (PO.mk (some 70) (.load false 1 (.t 69)) none), (PO.mk (some 71) (.bin .mul (.t 68) (.t 70)) none), (PO.mk (some 72) (.mv (.t 10)) none), (PO.mk (some 73) (.call (F 149) [(.t 57), (.t 66), (.t 71), (.t 72)]) none), (PO.mk (some 54) (.mv (.t 73)) none), (PO.mk (some 74) (.ext 0 (.t 54)) none), (PO.mk (some 75) (.ext 1 (.t 54)) none), (PO.mk (some 12) (.mv (.t 74)) none), (PO.mk (some 13) (.mv (.t 75)) none)]) (.seq (.ops [(PO.mk (some 76) (.mv (.t 12)) none), (PO.mk (some 6) (.mv (.t 76)) none)]) .ret)))))))))
-- regions [0, 1, 2, 3, 4, 5, 6, 7, 8, 9, 10, 11, 12, 13, 14, 15, 16, 17, 18]
/- tallystick/tallystickref10.Add -/
def k215 (F : Fn) : PF := PF.mk 79 4 [(.t 8), (.t 9), (.t 10)] (.seq (.ops [(PO.mk (some 4) (.box (.t 0)) none), (PO.mk (some 6) (.box (.t 2)) none), (PO.mk (some 8) (.mv (.k (.sl .nil [] 0))) none), (PO.mk (some 9) (.mv (.k (.int .i64 0))) none), (PO.mk (some 10) (.mv (.k (.int .i64 0))) none)]) (.seq (.ops [(PO.mk (some 14) (.load true 68 (.t 6)) none), (PO.mk (some 15) (.call (F 151) [(.t 14)]) none), (PO.mk (some 16) (.call (F 134) [(.t 15)]) none), (PO.mk (some 11) (.alloc zR32_w80) none), (PO.mk none (.store 32 (.t 11) (.t 16)) none)]) (.seq (.seq (.ops [(PO.mk (some 17) (.mv (.t 1)) none), (PO.mk (some 18) (.load true 32 (.t 11)) none), (PO.mk (some 19) (.call (F 211) [(.t 17), (.t 18)]) none), (PO.mk (some 20) (.bin .geq (.t 19) (.k (.int .i64 0))) none)]) (.cond (.t 20) (.seq (.ops [(PO.mk (some 21) (.mv (.t 1)) none), (PO.mk (some 22) (.mv (.t 1)) none), (PO.mk (some 23) (.load true 32 (.t 11)) none), (PO.mk (some 24) (.call (F 211) [(.t 22), (.t 23)]) none), (PO.mk (some 8) (.mv (.t 21)) none), (PO.mk (some 9) (.mv (.t 24)) none), (PO.mk (some 10) (.mv (.k (.int .i64 5))) none)]) .ret) .skip)) (.seq (.ops [(PO.mk (some 25) (.mv (.t 1)) none), (PO.mk (some 26) (.fldA 1 (.t 6)) none), (PO.mk (some 27) (.load true 32 (.t 26)) none), (PO.mk (some 28) (.call (F 211) [(.t 25), (.t 27)]) none), (PO.mk (some 12) (.mv (.t 28)) none)]) (.seq (.seq (.ops [(PO.mk (some 29) (.mv (.t 12)) none), (PO.mk (some 30) (.bin .lss (.t 29) (.k (.int .i64 0))) none)]) (.cond (.t 30) (.seq (.ops [(PO.mk (some 31) (.mv (.t 1)) none), (PO.mk (some 8) (.mv (.t 31)) none), (PO.mk (some 9) (.mv (.k (.int .i64 (-1)))) none), (PO.mk (some 10) (.mv (.k (.int .i64 100))) none)]) .ret) .skip)) (.seq (.ops [(PO.mk (some 32) (.load true 68 (.t 6)) none), (PO.mk (some 33) (.fldA 0 (.t 4)) none), (PO.mk (some 34) (.load false 1 (.t 33)) none), (PO.mk (some 35) (.call (F 153) [(.t 32), (.t 34)]) none), (PO.mk (some 13) (.mv (.t 35)) none)]) (.seq (.seq (.ops [(PO.mk (some 36) (.mv (.t 13)) none), (PO.mk (some 37) (.bin .neq (.t 36) (.k (.int .i64 0))) none)]) (.cond (.t 37) (.seq (.ops [(PO.mk (some 38) (.mv (.t 1)) none), (PO.mk (some 39) (.mv (.t 13)) none), (PO.mk (some 8) (.mv (.t 38)) none), (PO.mk (some 9) (.mv (.k (.int .i64 (-1)))) none), (PO.mk (some 10) (.mv (.t 39)) none)]) .ret) .skip)) (.seq (.seq (.ops [(PO.mk (some 40) (.mv (.t 1)) none), (PO.mk (some 41) (.mv (.t 12)) none), (PO.mk (some 42) (.idxSl 104 (.t 40) (.t 41)) none), (PO.mk (some 43) (.fldA 103 (.t 42)) none), (PO.mk (some 44) (.load false 1 (.t 43)) none)]) (.cond (.t 44) (.seq (.ops [(PO.mk (some 45) (.mv (.t 1)) none), (PO.mk (some 8) (.mv (.t 45)) none), (PO.mk (some 9) (.mv (.k (.int .i64 (-1)))) none), (PO.mk (some 10) (.mv (.k (.int .i64 101))) none)]) .ret) .skip)) (.seq (.seq (.draw [(.e, (PO.mk (some 46) (.fldA 66 (.t 6)) none)), (.e, (PO.mk (some 49) (.mv (.t 1)) none)), (.e, (PO.mk (some 50) (.mv (.t 12)) none)), (.s, (PO.mk (some 47) (.load false 1 (.t 46)) none)), (.s, (PO.mk (some 48) (.load true 74 (.t 4)) none)), (.s, (PO.mk (some 51) (.call (F 214) [(.t 48), (.t 49), (.t 50)]) none)), (.e, (PO.mk (some 52) (.bin .neq (.t 47) (.t 51)) none))]) (.cond (.t 52) (.seq (.ops [(PO.mk (some 53) (.mv (.t 1)) none), (PO.mk (some 8) (.mv (.t 53)) none), (PO.mk (some 9) (.mv (.k (.int .i64 (-1)))) none), (PO.mk (some 10) (.mv (.k (.int .i64 30))) none)]) .ret) .skip)) (.seq (.seq (.draw [(.e, (PO.mk (some 54) (.fldA 65 (.t 6)) none)), (.e, (PO.mk (some 56) (.mv (.t 1)) none)), (.e, (PO.mk (some 57) (.mv (.t 12)) none)), (.s, (PO.mk (some 55) (.load false 1 (.t 54)) none)), (.s, (PO.mk (some 58) (.call (F 213) [(.t 56), (.t 57)]) none)), (.e, (PO.mk (some 59) (.bin .leq (.t 55) (.t 58)) none))]) (.cond (.t 59) (.seq (.ops [(PO.mk (some 60) (.mv (.t 1)) none), (PO.mk (some 8) (.mv (.t 60)) none), (PO.mk (some 9) (.mv (.k (.int .i64 (-1)))) none), (PO.mk (some 10) (.mv (.k (.int .i64 102))) none)]) .ret) .skip)) (.seq (.seq (.ops [(PO.mk (some 61) (.fldA 65 (.t 6)) none), (PO.mk (some 62) (.load false 1 (.t 61)) none), (PO.mk (some 63) (.conv .i64 (.t 62)) none), (PO.mk (some 64) (.bin .sub (.t 63) (.k (.int .i64 7200))) none), (PO.mk (some 65) (.mv (.t 3)) none), (PO.mk (some 66) (.bin .gtr (.t 64) (.t 65)) none)]) (.cond (.t 66) (.seq (.ops [(PO.mk (some 67) (.mv (.t 1)) none), (PO.mk (some 8) (.mv (.t 67)) none), (PO.mk (some 9) (.mv (.k (.int .i64 (-1)))) none), (PO.mk (some 10) (.mv (.k (.int .i64 103))) none)]) .ret) .skip)) (.seq (.draw2 [] [(.e, (PO.mk (some 68) (.bsl false 104 0 z104_1a18 []) none)), (.e, (PO.mk (some 69) (.mv (.t 1)) none)), (.e, (PO.mk (some 71) (.mv (.t 1)) none)), (.e, (PO.mk (some 73) (.mv (.t 12)) none)), (.e, (PO.mk (some 77) (.mv (.t 1)) none)), (.e, (PO.mk (some 78) (.lenSl (.t 77)) none)), (.s, (PO.mk (some 72) (.load true 68 (.t 6)) none)), (.x, (PO.mk (some 70) (.appf 104 160 (.t 68) (.t 69)) none)), (.x, (PO.mk (some 74) (.call (F 209) [(.t 71), (.t 72), (.t 73)]) none)), (.e, (PO.mk (some 75) (.bsl false 104 1 z104_1a18 [(0, (104, (.t 74)))]) none)), (.x, (PO.mk (some 76) (.app 104 160 (.t 70) (.t 75)) none)), (.e, (PO.mk (some 8) (.mv (.t 76)) none)), (.e, (PO.mk (some 9) (.mv (.t 78)) none)), (.e, (PO.mk (some 10) (.mv (.k (.int .i64 0))) none))]) .ret))))))))))))
-- regions [0, 1, 2, 3, 4, 6, 7, 8, 5, 9]
/- tallystick/tallystickref10.Fail -/
def k216 (F : Fn) : PF := PF.mk 54 2 [(.t 4), (.t 5)] (.seq (.ops [(PO.mk (some 4) (.mv (.k (.sl .nil [] 0))) none), (PO.mk (some 5) (.mv (.k (.int .i64 0))) none)]) (.seq (.ops [(PO.mk (some 9) (.bsl false 104 0 z104_1a18 []) none), (PO.mk (some 10) (.mv (.t 0)) none), (PO.mk (some 11) (.app 104 160 (.t 9) (.t 10)) none), (PO.mk (some 6) (.mv (.t 11)) none)]) (.seq (.ops [(PO.mk (some 7) (.mv (.k (.int .i64 0))) none)]) (.seq (.seq (.ops [(PO.mk (some 8) (.mv (.k (.int .i64 0))) none)]) (.block 0 (.loop (.seq (.seq (.ops [(PO.mk (some 12) (.mv (.t 8)) none), (PO.mk (some 13) (.mv (.t 0)) none), (PO.mk (some 14) (.lenSl (.t 13)) none), (PO.mk (some 15) (.bin .lss (.t 12) (.t 14)) none)]) (.cond (.t 15) .skip (.exit 0))) (.seq (.block 1 (.seq (.ops [(PO.mk (some 18) (.mv (.t 1)) none), (PO.mk (some 19) (.bin .geq (.t 18) (.k (.int .i64 1))) none), (PO.mk (some 20) (.mv (.t 19)) none), (PO.mk (some 21) (.mv (.t 1)) (some (20, true))), (PO.mk (some 22) (.mv (.t 0)) (some (20, true))), (PO.mk (some 23) (.lenSl (.t 22)) (some (20, true))), (PO.mk (some 24) (.bin .lss (.t 21) (.t 23)) (some (20, true))), (PO.mk (some 25) (.pick (.t 20) (.t 24) (.k (.bool false))) none), (PO.mk (some 26) (.mv (.t 25)) none), (PO.mk (some 27) (.mv (.t 0)) (some (26, true))), (PO.mk (some 28) (.mv (.t 8)) (some (26, true))), (PO.mk (some 29) (.mv (.t 0)) (some (26, true))), (PO.mk (some 30) (.mv (.t 1)) (some (26, true))), (PO.mk (some 31) (.idxSl 104 (.t 29) (.t 30)) (some (26, true))), (PO.mk (some 32) (.fldA 101 (.t 31)) (some (26, true))), (PO.mk (some 33) (.load false 1 (.t 32)) (some (26, true))), (PO.mk (some 34) (.call (F 212) [(.t 27), (.t 28), (.t 33)]) (some (26, true))), (PO.mk (some 35) (.mv (.t 1)) (some (26, true))), (PO.mk (some 36) (.bin .eql (.t 34) (.t 35)) (some (26, true))), (PO.mk (some 37) (.pick (.t 26) (.t 36) (.k (.bool false))) none), (PO.mk (some 38) (.mv (.t 37)) none), (PO.mk (some 39) (.mv (.t 0)) (some (38, true))), (PO.mk (some 40) (.mv (.t 8)) (some (38, true))), (PO.mk (some 41) (.idxSl 104 (.t 39) (.t 40)) (some (38, true))), (PO.mk (some 42) (.fldA 103 (.t 41)) (some (38, true))), (PO.mk (some 43) (.load false 1 (.t 42)) (some (38, true))), (PO.mk (some 44) (.not (.t 43)) (some (38, true))), (PO.mk (some 45) (.pick (.t 38) (.t 44) (.k (.bool false))) none)]) (.cond (.t 45) (.seq (.ops [(PO.mk (some 46) (.mv (.t 6)) none), (PO.mk (some 47) (.mv (.t 8)) none), (PO.mk (some 48) (.idxSl 104 (.t 46) (.t 47)) none), (PO.mk (some 49) (.fldA 103 (.t 48)) none), (PO.mk none (.store 1 (.t 49) (.k (.bool true))) none)]) (.ops [(PO.mk (some 50) (.mv (.t 7)) none), (PO.mk (some 51) (.bin .add (.t 50) (.k (.int .i64 1))) none), (PO.mk (some 7) (.mv (.t 51)) none)])) .skip))) (.ops [(PO.mk (some 16) (.mv (.t 8)) none), (PO.mk (some 17) (.bin .add (.t 16) (.k (.int .i64 1))) none), (PO.mk (some 8) (.mv (.t 17)) none)])))))) (.seq (.ops [(PO.mk (some 52) (.mv (.t 6)) none), (PO.mk (some 53) (.mv (.t 7)) none), (PO.mk (some 4) (.mv (.t 52)) none), (PO.mk (some 5) (.mv (.t 53)) none)]) .ret)))))
structure OkRef10 (P : Program) (F : Fn) : Prop where
  mixed : P.follows .mixedOrders = true
  toOkRef05 : OkRef05 P F
  h208 : compFn P ⟨[], [], [], [], []⟩ (F 208) = some (k208 F)
  h209 : compFn P ⟨[], [], [], [], []⟩ (F 209) = some (k209 F)
  h210 : compFn P ⟨[], [], [], [], []⟩ (F 210) = some (k210 F)
  h211 : compFn P ⟨[], [], [], [], []⟩ (F 211) = some (k211 F)
  h212 : compFn P ⟨[], [], [], [], []⟩ (F 212) = some (k212 F)
  h213 : compFn P ⟨[], [], [], [], []⟩ (F 213) = some (k213 F)
  h214 : compFn P ⟨[], [], [], [], []⟩ (F 214) = some (k214 F)
  h215 : compFn P ⟨[70], [], [], [], []⟩ (F 215) = some (k215 F)
  h216 : compFn P ⟨[], [], [], [], []⟩ (F 216) = some (k216 F)
end Go.Ab
/-
  tallystickref10: nodes in a slice; names, ancestors, the rules' check.
-/
set_option linter.unusedSimpArgs false
set_option linter.unusedVariables false
set_option maxRecDepth 10000
namespace Go.Ab
open Go Go.RowKit

/-! ### a row of a slice that can be read, and its parts -/
def rowP (sz : Nat) (s : V) (i : Nat) : V := (idxSlV sz s (.int .i64 (i : Int))).getD .junk
def fldP (o : Nat) (p : V) : V := (fldAV o p).getD .junk
section
variable {α : Type} {f : α → List V} {sz : Nat}
theorem Rd.row (hf : ∀ a, (f a).length = sz) {s : V} {l : List α} {st : St} (h : Rd sz f s l st) {i : Nat} (hi : i < l.length) :
    idxSlV sz s (.int .i64 (i : Int)) = some (rowP sz s i) ∧ fldAV 0 (rowP sz s i) = some (rowP sz s i) ∧ ldCells st sz (rowP sz s i) = some (f l[i]) ∧
      ∀ o n, o + n ≤ sz → fldAV o (rowP sz s i) = some (fldP o (rowP sz s i)) ∧ ldCells st n (fldP o (rowP sz s i)) = some (((f l[i]).drop o).take n) := by
  have hli := hf l[i]
  rcases h with ⟨k, rfl⟩ | ⟨sid, off, rfl, hs⟩
  · have e : idxSlV sz (.sl k (rowsOf f l) l.length) (.int .i64 (i : Int)) = some (.eptr ((rowsOf f l).drop (i * sz))) := by simp [hi]
    have er : rowP sz (.sl k (rowsOf f l) l.length) i = .eptr ((rowsOf f l).drop (i * sz)) := by rw [rowP, e]; rfl
    have hd : (rowsOf f l).drop (i * sz) = f l[i] ++ rowsOf f (l.drop (i + 1)) := by
      rw [rowsOf_drop hf, List.drop_eq_getElem_cons hi, rowsOf_cons]
    rw [er]
    refine ⟨e, by simp, ?_, fun o n hon => ⟨by simp [fldP], ?_⟩⟩
    · rw [ld_eptr, rowsOf_eptr hf l hi]
    · simp only [fldP, fldAV, Option.getD_some, ld_eptr]
      unfold segOf
      rw [hd, if_pos (by simp; omega), List.drop_zero, List.drop_append_of_le_length (by omega), List.take_append_of_le_length (by simp; omega)]
  · have e : idxSlV sz (.hsl sid off sz l.length) (.int .i64 (i : Int)) = some (.ptr (some (sid, off + i * sz))) := by simp [hi]
    have er : rowP sz (.hsl sid off sz l.length) i = .ptr (some (sid, off + i * sz)) := by rw [rowP, e]; rfl
    have hrow : st.seg sid (off + i * sz) sz = some (f l[i]) := by
      rw [seg_at hs hi]
      have := rowsOf_row hf l [] hi
      rw [List.append_nil] at this
      rw [this]
    rw [er]
    refine ⟨e, by simp, by rw [ld_ptr, hrow], fun o n hon => ⟨by simp [fldP], ?_⟩⟩
    simp only [fldP, fldAV, Option.getD_some, ld_ptr]
    unfold St.seg at hrow ⊢
    have key : ∀ cs : List V, segOf cs (off + i * sz) sz = some (f l[i]) → segOf cs (off + i * sz + o) n = some (((f l[i]).drop o).take n) := fun cs hc => by
      unfold segOf at hc ⊢
      split at hc
      · rename_i hle
        have hx := Option.some.inj hc
        rw [if_pos (by omega), ← hx, List.drop_take, List.drop_drop, List.take_take, Nat.min_eq_left (by omega)]
      · cases hc
    split at hrow <;> first | exact key _ hrow | cases hrow
end

/-! ### the nodes of the reference -/
abbrev Rw := Nd × SK × List Bool
def eRw (r : Rw) : List V := eHdr r.1.hdr ++ (eId r.1.id ++ [.int .i64 r.1.parent, .int .i64 r.1.height, slK_ r.2.1 r.2.2, .bool r.1.failed])
theorem eRw_len (r : Rw) : (eRw r).length = 104 := by simp [eRw, eHdr_len, eId_len]
def nds (l : List Rw) : List Nd := l.map (·.1)
@[simp] theorem nds_len (l : List Rw) : (nds l).length = l.length := by simp [nds]
theorem nds_get {l : List Rw} {i : Nat} (h : i < l.length) : (nds l)[i]'(by simpa using h) = l[i].1 := by simp [nds]
theorem nds_append (a b : List Rw) : nds (a ++ b) = nds a ++ nds b := by simp [nds]
/-- The bits mean the work, and aren't many. -/
def Okw (r : Rw) : Prop := valB r.2.2 = r.1.work ∧ r.2.2.length ≤ 512 + r.1.height
def Okws (l : List Rw) : Prop := ∀ r ∈ l, Okw r
theorem eRw_drop68 (r : Rw) : (eRw r).drop 68 = eId r.1.id ++ [.int .i64 r.1.parent, .int .i64 r.1.height, slK_ r.2.1 r.2.2, .bool r.1.failed] := by
  rw [eRw, ← eHdr_len r.1.hdr, List.drop_left]
theorem eRw_drop100 (r : Rw) : (eRw r).drop 100 = [.int .i64 r.1.parent, .int .i64 r.1.height, slK_ r.2.1 r.2.2, .bool r.1.failed] := by
  rw [show 100 = 68 + 32 from rfl, ← List.drop_drop, eRw_drop68]
  rw [show 32 = (eId r.1.id).length from (eId_len _).symm, List.drop_left]
theorem rwHdr (r : Rw) : ((eRw r).drop 0).take 68 = eHdr r.1.hdr := by rw [List.drop_zero, eRw, ← eHdr_len r.1.hdr, List.take_left]
theorem rwId (r : Rw) : ((eRw r).drop 68).take 32 = eId r.1.id := by rw [eRw_drop68, ← eId_len r.1.id, List.take_left]
theorem rwPar (r : Rw) : ((eRw r).drop 100).take 1 = [.int .i64 r.1.parent] := by rw [eRw_drop100]; rfl
theorem rwHgt (r : Rw) : ((eRw r).drop 101).take 1 = [.int .i64 r.1.height] := by rw [show 101 = 100 + 1 from rfl, ← List.drop_drop, eRw_drop100]; rfl
theorem rwWork (r : Rw) : ((eRw r).drop 102).take 1 = [slK_ r.2.1 r.2.2] := by rw [show 102 = 100 + 2 from rfl, ← List.drop_drop, eRw_drop100]; rfl
theorem rwFail (r : Rw) : ((eRw r).drop 103).take 1 = [.bool r.1.failed] := by rw [show 103 = 100 + 3 from rfl, ← List.drop_drop, eRw_drop100]; rfl
theorem rwTime (r : Rw) : ((eRw r).drop 65).take 1 = [w32 r.1.hdr.time] := by
  have := take_drop_take (cs := eRw r) (a := 0) (n := 68) (o := 65) (k := 1) (by omega)
  rw [Nat.zero_add] at this
  rw [this, rwHdr, hdrop65]; rfl
theorem rwBits (r : Rw) : ((eRw r).drop 66).take 1 = [w32 r.1.hdr.bits] := by
  have := take_drop_take (cs := eRw r) (a := 0) (n := 68) (o := 66) (k := 1) (by omega)
  rw [Nat.zero_add] at this
  rw [this, rwHdr, hdrop66]; rfl
/-- A slice of nodes that can be read. -/
abbrev RdN (s : V) (l : List Rw) (st : St) : Prop := Rd 104 eRw s l st

section
variable {P : Program} {F : Fn}
set_option maxHeartbeats 1000000 in
/-- Check -/
theorem spec208 (ok : OkRef10 P F) (st : St) (r : Rl) : ACalls P (F 208) [.agg (eRl r)] st fun v st' => v = .int .i64 (checkM r) ∧ st' = st := by
  have ok5 := ok.toOkRef05
  refine shows_call ok.mixed ok.h208 (by simp [k208]) ?_
  simp only [k208]
  simp
  intro i1 h1
  have S := (Sep.start st).new h1 (.cells (eRl r))
  generalize st.upd i1 _ = st1 at S ⊢
  have o1 := S.get
  have hs := S.was' (st0 := st) (by simp)
  simp [St.seg, o1, rsegLimit]
  refine (spec146 ok5 st1 r.limit).mono ?_
  rintro v st1 ⟨hT, rfl⟩
  rcases tgtB_cases hT with ⟨ht, rfl⟩ | ⟨T, k, l, ht, rfl, -, -⟩
  · have e : checkM r = 30 := by simp [checkM, ht]
    simp [e, hs]
  · by_cases hb : r.gen.bits = r.limit
    · have hbb : (r.gen.bits != r.limit) = false := by simp [hb]
      by_cases c0 : r.every < 0
      · have e : checkM r = 1 := by simp [checkM, ht, hb, c0]
        simp [hbb, e, c0, St.seg, o1, rsegLimit, rsegEvery, rsegSpacing, rsegSubsidy, rsegWork, rsegBits, hs]
      by_cases c1 : 1000 < r.every
      · have e : checkM r = 1 := by simp [checkM, ht, hb, c1]
        simp [hbb, e, c0, c1, St.seg, o1, rsegLimit, rsegEvery, rsegSpacing, rsegSubsidy, rsegWork, rsegBits, hs]
      by_cases c2 : r.spacing < 1
      · have e : checkM r = 1 := by simp [checkM, ht, hb, c2]
        simp [hbb, e, c0, c1, c2, St.seg, o1, rsegLimit, rsegEvery, rsegSpacing, rsegSubsidy, rsegWork, rsegBits, hs]
      by_cases c3 : 1048576 < r.spacing
      · have e : checkM r = 1 := by simp [checkM, ht, hb, c3]
        simp [hbb, e, c0, c1, c2, c3, St.seg, o1, rsegLimit, rsegEvery, rsegSpacing, rsegSubsidy, rsegWork, rsegBits, hs]
      by_cases c4 : r.subsidy < 0
      · have e : checkM r = 1 := by simp [checkM, ht, hb, c4]
        simp [hbb, e, c0, c1, c2, c3, c4, St.seg, o1, rsegLimit, rsegEvery, rsegSpacing, rsegSubsidy, rsegWork, rsegBits, hs]
      by_cases c5 : 1125899906842624 < r.subsidy
      · have e : checkM r = 1 := by simp [checkM, ht, hb, c5]
        simp [hbb, e, c0, c1, c2, c3, c4, c5, St.seg, o1, rsegLimit, rsegEvery, rsegSpacing, rsegSubsidy, rsegWork, rsegBits, hs]
      by_cases c6 : r.work < 0
      · have e : checkM r = 1 := by simp [checkM, ht, hb, c6]
        simp [hbb, e, c0, c1, c2, c3, c4, c5, c6, St.seg, o1, rsegLimit, rsegEvery, rsegSpacing, rsegSubsidy, rsegWork, rsegBits, hs]
      by_cases c7 : 1000 < r.work
      · have e : checkM r = 1 := by simp [checkM, ht, hb, c7]
        simp [hbb, e, c0, c1, c2, c3, c4, c5, c6, c7, St.seg, o1, rsegLimit, rsegEvery, rsegSpacing, rsegSubsidy, rsegWork, rsegBits, hs]
      have e : checkM r = 0 := by simp [checkM, ht, hb, c0, c1, c2, c3, c4, c5, c6, c7]
      simp [hbb, e, c0, c1, c2, c3, c4, c5, c6, c7, St.seg, o1, rsegLimit, rsegEvery, rsegSpacing, rsegSubsidy, rsegWork, rsegBits, hs]
    · have hbb : (r.gen.bits != r.limit) = true := by simp [hb]
      have e : checkM r = 30 := by simp [checkM, hb]
      simp [hbb, e, St.seg, o1, rsegLimit, rsegBits, hs]
/-- The number of a name, or -1. -/
def findI (l : List Nd) (id : Id) : Int := match findM l id with | some i => i | none => -1
theorem findI_push (l : List Nd) (x : Nd) (id : Id) : findI (l ++ [x]) id = if x.id = id then (l.length : Int) else findI l id := by
  unfold findI
  rw [findM_append]
  split <;> rename_i h <;> split at h <;> simp_all
/-- Find -/
theorem spec211 (ok : OkRef10 P F) {st : St} {s : V} {l : List Rw} (h : RdN s l st) (hl : l.length ≤ 1000000) (k : Id) : ACalls P (F 211) [s, .agg (eId k)] st fun v st' => v = .int .i64 (findI (nds l) k) ∧ st' = st := by
  refine shows_call ok.mixed ok.h211 (by simp [k211]) ?_
  simp only [k211]
  simp
  intro i3 h3
  have S := (Sep.start st).new h3 (.cells (eId k))
  generalize st.upd i3 _ = st1 at S ⊢
  have o3 := S.get
  have hs := S.was' (st0 := st) (by simp)
  have hr := h.sub hs
  have hlen := h.len
  refine vc_loopJ (fun c env' st' => ∃ i, i ≤ l.length ∧ c = l.length - i ∧ env' 6 = .int .i64 (i : Nat) ∧ env' 5 = .int .i64 (findI (nds (l.take i)) k) ∧ st' = st1) l.length
    ⟨0, by omega, by omega, rfl, by simp [nds, findI, findM], rfl⟩ ?_
  rintro J hJ c env' st2 hsame ⟨i, hi, rfl, h6, h5, rfl⟩
  have g0 := hsame.get 0 rfl
  have g3 := hsame.get 3 rfl
  simp at g0 g3
  clear hsame
  have w1 : IntKind.i64.wrap ((i : Int) + 1) = (i : Int) + 1 := wrap64 (by omega) (by omega)
  by_cases hlt : i < l.length
  · obtain ⟨r1, r2, r3, r4⟩ := hr.row eRw_len hlt
    obtain ⟨f1, f2⟩ := r4 68 32 (by omega)
    rw [rwId] at f2
    have hp : nds (l.take (i + 1)) = nds (l.take i) ++ [l[i].1] := by
      rw [List.take_succ_eq_append_getElem hlt, nds_append]; rfl
    have hfi := findI_push (nds (l.take i)) l[i].1 k
    rw [← hp, nds_len, List.length_take, Nat.min_eq_left (by omega)] at hfi
    simp [g0, g3, h6, hlen, hlt, r1, f1, f2, St.seg, o3, segId0, eqK, eId_len, eqL_id]
    by_cases he : l[i].1.id = k
    · rw [if_pos he] at hfi
      simp [he, h6, w1]
      exact Round.mk (l.length - (i + 1)) _ (by omega) (sub_self _) (hJ _ _ _ ⟨i + 1, by omega, rfl, by simp, by simp [hfi], rfl⟩)
    · rw [if_neg he] at hfi
      simp [he, h6, w1]
      exact Round.mk (l.length - (i + 1)) _ (by omega) (sub_self _) (hJ _ _ _ ⟨i + 1, by omega, rfl, by simp, by simp [hfi, h5], rfl⟩)
  · have : i = l.length := by omega
    subst this
    rw [List.take_length] at h5
    simp [g0, h6, hlen, h5, hs]
/-- Ancestor -/
theorem spec212 (ok : OkRef10 P F) {st : St} {s : V} {l : List Rw} (h : RdN s l st) (w : Wf (nds l)) (hl : l.length ≤ 1000000) (i k : Int) : ACalls P (F 212) [s, .int .i64 i, .int .i64 k] st fun v st' => v = .int .i64 (ancI (nds l) i k) ∧ st' = st := by
  refine shows_call ok.mixed ok.h212 (by simp [k212]) ?_
  simp only [k212]
  have hlen := h.len
  by_cases c1 : i < 0
  · have e : ancI (nds l) i k = -1 := by simp [ancI, c1]
    simp [c1, e]
  by_cases c2 : (l.length : Int) ≤ i
  · have e : ancI (nds l) i k = -1 := by simp [ancI, c2]
    simp [c1, c2, hlen, e]
  by_cases c3 : k < 0
  · have e : ancI (nds l) i k = -1 := by simp [ancI, c3]
    simp [c1, c2, c3, hlen, e]
  obtain ⟨n, rfl⟩ : ∃ n : Nat, i = n := ⟨i.toNat, by omega⟩
  obtain ⟨q, rfl⟩ : ∃ n : Nat, k = n := ⟨k.toNat, by omega⟩
  have hn : n < l.length := by omega
  have hnn : n < (nds l).length := by simpa using hn
  have c2' : ¬ l.length ≤ n := by omega
  have hg : ∀ j (hj : j < l.length), hgt (nds l) j = l[j].1.height := fun j hj => by rw [hgt_at (by simpa using hj), nds_get hj]
  obtain ⟨r1, r2, r3, r4⟩ := h.row eRw_len hn
  obtain ⟨f1, f2⟩ := r4 101 1 (by omega)
  rw [rwHgt, ← hg n hn] at f2
  by_cases c4 : hgt (nds l) n < q
  · have e : ancI (nds l) n q = -1 := by
      have : (hgt (nds l) n : Int) < q := by omega
      simp [ancI, this]
    simp [c1, c2', c3, hlen, e, r1, f1, f2, c4]
  · have e : ancI (nds l) n q = (anc (nds l) n q : Nat) := by
      have h1 : ¬ (hgt (nds l) n : Int) < q := by omega
      have h3 : ¬ ((n : Int) < 0) := by omega
      have h4 : ¬ ((q : Int) < 0) := by omega
      simp [ancI, h1, h3, h4, c2', c4]
    simp [c1, c2', c3, hlen, e, r1, f1, f2, c4]
    refine vc_loopJ (fun c env' st' => ∃ j, j < l.length ∧ q ≤ hgt (nds l) j ∧ c = j ∧ env' 1 = .int .i64 (j : Nat) ∧ anc (nds l) j q = anc (nds l) n q ∧ st' = st) n
      ⟨n, hn, by omega, rfl, by simp, rfl, rfl⟩ ?_
    rintro J hJ c env' st2 hsame ⟨j, hj, hq, rfl, h1, ha, rfl⟩
    have g0 := hsame.get 0 rfl
    have g2 := hsame.get 2 rfl
    simp at g0 g2
    clear hsame
    obtain ⟨r1, r2, r3, r4⟩ := h.row eRw_len hj
    obtain ⟨f1, f2⟩ := r4 101 1 (by omega)
    obtain ⟨f3, f4⟩ := r4 100 1 (by omega)
    rw [rwHgt, ← hg c hj] at f2
    rw [rwPar] at f4
    have hjn : c < (nds l).length := by simpa using hj
    by_cases hlt : q < hgt (nds l) c
    · have hp0 := w.pos_of_hgt (i := c) (by omega)
      have hpl := w.par_lt hp0 hjn
      have hph := w.hgt_par hp0 hjn
      have hpa := w.anc_par hjn hlt
      have hpe : (l[c].1.parent : Int) = (par (nds l) c : Nat) := by
        have := w.succ c _ hp0 (List.getElem?_eq_getElem hjn)
        rw [par_at hjn, nds_get hj] 
        rw [nds_get hj] at this
        omega
      rw [hpe] at f4
      simp [g0, g2, h1, r1, f1, f2, f3, f4, hlt]
      exact Round.mk (par (nds l) c) _ hpl (sub_self _) (hJ _ _ _ ⟨par (nds l) c, by omega, by omega, rfl, by simp, by rw [← hpa]; exact ha, rfl⟩)
    · have hqe : q = hgt (nds l) c := by omega
      have : anc (nds l) c q = c := by rw [hqe, anc_self]
      simp [g0, g2, h1, r1, f1, f2, hlt, ← ha, this]
end
end Go.Ab
/-
  The middle one of some numbers: the one ahead of which stand half of them.
-/
set_option linter.unusedSimpArgs false
set_option linter.unusedVariables false
namespace Go.Ab
open Go Go.RowKit

theorem sorted32_pair (l : List W32) : ∀ (i j : Nat) (hi : i < (sorted32 l).length) (hj : j < (sorted32 l).length), i ≤ j → (sorted32 l)[i] ≤ (sorted32 l)[j] := by
  have hs : (sorted32 l).Pairwise (fun a b => decide (a ≤ b) = true) := by
    refine List.pairwise_mergeSort (fun a b c h1 h2 => ?_) (fun a b => ?_) l
    · simp at h1 h2 ⊢; exact Nat.le_trans h1 h2
    · simp; exact Nat.le_total a.toNat b.toNat
  intro i j hi hj hij
  rcases Nat.lt_or_ge i j with h | h
  · have := List.pairwise_iff_getElem.1 hs i j hi hj h
    simpa using this
  · have : i = j := by omega
    subst this
    exact Nat.le_refl _
/-- How many are less; how many are the same, up to a place. -/
def cLt (t : List W32) (m : W32) : Nat := t.countP fun x => decide (x < m)
def cLe (t : List W32) (m : W32) : Nat := t.countP fun x => decide (x ≤ m)
def cEq (t : List W32) (m : W32) (c : Nat) : Nat := (t.take c).countP fun x => decide (x = m)
section
variable {s : List W32} (hs : ∀ (i j : Nat) (hi : i < s.length) (hj : j < s.length), i ≤ j → s[i] ≤ s[j])
include hs
theorem below_le {k : Nat} (hk : k < s.length) {m : W32} (h : m ≤ s[k]) : cLt s m ≤ k := by
  have e : s = s.take k ++ s.drop k := (List.take_append_drop k s).symm
  unfold cLt
  rw [e, List.countP_append]
  have h1 : (s.take k).countP (fun x => decide (x < m)) ≤ k := by
    refine Nat.le_trans List.countP_le_length ?_
    simp; omega
  have h2 : (s.drop k).countP (fun x => decide (x < m)) = 0 := by
    rw [List.countP_eq_zero]
    intro x hx
    obtain ⟨j, hj, rfl⟩ := List.mem_iff_getElem.1 hx
    rw [List.getElem_drop]
    have hj' : k + j < s.length := by simpa [Nat.lt_sub_iff_add_lt, Nat.add_comm] using hj
    have := hs k (k + j) hk hj' (by omega)
    simp only [decide_eq_true_eq, BitVec.lt_def, BitVec.le_def] at this h ⊢
    omega
  omega
theorem below_ge {k : Nat} (hk : k < s.length) {m : W32} (h : s[k] < m) : k + 1 ≤ cLt s m := by
  have e : s = s.take (k + 1) ++ s.drop (k + 1) := (List.take_append_drop _ s).symm
  unfold cLt
  rw [e, List.countP_append]
  have h1 : (s.take (k + 1)).countP (fun x => decide (x < m)) = (s.take (k + 1)).length := by
    rw [List.countP_eq_length]
    intro x hx
    obtain ⟨j, hj, rfl⟩ := List.mem_iff_getElem.1 hx
    rw [List.getElem_take]
    have hj' : j < k + 1 := by simp at hj; omega
    have := hs j k (by omega) hk (by omega)
    simp only [decide_eq_true_eq, BitVec.lt_def, BitVec.le_def] at this h ⊢
    omega
  rw [h1, List.length_take]
  omega
theorem upto_le {k : Nat} (hk : k < s.length) {m : W32} (h : m < s[k]) : cLe s m ≤ k := by
  have e : s = s.take k ++ s.drop k := (List.take_append_drop k s).symm
  unfold cLe
  rw [e, List.countP_append]
  have h1 : (s.take k).countP (fun x => decide (x ≤ m)) ≤ k := by
    refine Nat.le_trans List.countP_le_length ?_
    simp; omega
  have h2 : (s.drop k).countP (fun x => decide (x ≤ m)) = 0 := by
    rw [List.countP_eq_zero]
    intro x hx
    obtain ⟨j, hj, rfl⟩ := List.mem_iff_getElem.1 hx
    rw [List.getElem_drop]
    have hj' : k + j < s.length := by simpa [Nat.lt_sub_iff_add_lt, Nat.add_comm] using hj
    have := hs k (k + j) hk hj' (by omega)
    simp only [decide_eq_true_eq, BitVec.lt_def, BitVec.le_def] at this h ⊢
    omega
  omega
theorem upto_ge {k : Nat} (hk : k < s.length) {m : W32} (h : s[k] ≤ m) : k + 1 ≤ cLe s m := by
  have e : s = s.take (k + 1) ++ s.drop (k + 1) := (List.take_append_drop _ s).symm
  unfold cLe
  rw [e, List.countP_append]
  have h1 : (s.take (k + 1)).countP (fun x => decide (x ≤ m)) = (s.take (k + 1)).length := by
    rw [List.countP_eq_length]
    intro x hx
    obtain ⟨j, hj, rfl⟩ := List.mem_iff_getElem.1 hx
    rw [List.getElem_take]
    have hj' : j < k + 1 := by simp at hj; omega
    have := hs j k (by omega) hk (by omega)
    simp only [decide_eq_true_eq, BitVec.lt_def, BitVec.le_def] at this h ⊢
    omega
  rw [h1, List.length_take]
  omega
end
theorem cLt_sorted (t : List W32) (m : W32) : cLt (sorted32 t) m = cLt t m := (List.mergeSort_perm t _).countP_eq _
theorem cLe_sorted (t : List W32) (m : W32) : cLe (sorted32 t) m = cLe t m := (List.mergeSort_perm t _).countP_eq _
theorem cLe_split (t : List W32) (m : W32) : cLe t m = cLt t m + cEq t m t.length := by
  unfold cLe cLt cEq
  rw [List.take_length]
  induction t with
  | nil => rfl
  | cons x t ih =>
    simp only [List.countP_cons, ih, decide_eq_true_eq]
    by_cases h1 : x < m
    · have h2 : x ≤ m := Nat.le_of_lt h1
      have h3 : x ≠ m := fun e => by subst e; exact absurd h1 (Nat.lt_irrefl _)
      simp [h1, h2, h3]; omega
    · by_cases h3 : x = m
      · have h2 : x ≤ m := by subst h3; exact Nat.le_refl _
        simp [h1, h2, h3]; omega
      · have h2 : ¬ x ≤ m := fun h => by
          have e : x.toNat ≠ m.toNat := fun e => h3 (BitVec.eq_of_toNat_eq e)
          simp only [BitVec.lt_def, BitVec.le_def] at h h1
          omega
        simp [h1, h2, h3]
theorem cEq_succ (t : List W32) (m : W32) {c : Nat} (h : c < t.length) : cEq t m (c + 1) = cEq t m c + if t[c] = m then 1 else 0 := by
  unfold cEq
  rw [List.take_succ_eq_append_getElem h, List.countP_append]
  simp [List.countP_cons]
theorem cEq_mono (t : List W32) (m : W32) {c : Nat} (h : c ≤ t.length) : cEq t m c ≤ cEq t m t.length := by
  have e : t.take t.length = t.take c ++ t.drop c := by rw [List.take_length, List.take_append_drop]
  unfold cEq
  rw [e, List.countP_append]
  omega
/-- How many stand ahead of the a-th, of the first c. -/
def rk (t : List W32) (a : Nat) : Nat → Nat
  | 0 => 0
  | c + 1 => rk t a c + if t.getD c 0 < t.getD a 0 ∨ (t.getD c 0 = t.getD a 0 ∧ c < a) then 1 else 0
theorem rk_le (t : List W32) (a c : Nat) : rk t a c ≤ c := by
  induction c with
  | zero => exact Nat.le_refl _
  | succ c ih => rw [rk]; split <;> omega
theorem rk_eq (t : List W32) {a : Nat} (ha : a < t.length) : ∀ c, c ≤ t.length → rk t a c = (t.take c).countP (fun x => decide (x < t[a])) + cEq t t[a] (min c a)
  | 0, _ => by simp [rk, cEq]
  | c + 1, h => by
    have hc : c < t.length := by omega
    have e1 : t.getD c 0 = t[c] := by simp [hc]
    have e2 : t.getD a 0 = t[a] := by simp [ha]
    have ih := rk_eq t ha c (by omega)
    rw [rk, ih, e1, e2, List.take_succ_eq_append_getElem hc, List.countP_append]
    simp only [List.countP_cons, List.countP_nil, Nat.zero_add, decide_eq_true_eq]
    by_cases h1 : t[c] < t[a]
    · have h2 : t[c] ≠ t[a] := fun e => by rw [e] at h1; exact absurd h1 (Nat.lt_irrefl _)
      have : cEq t t[a] (min (c + 1) a) = cEq t t[a] (min c a) := by
        by_cases hca : c < a
        · rw [show min (c + 1) a = c + 1 by omega, show min c a = c by omega, cEq_succ t _ hc, if_neg h2]; rfl
        · rw [show min (c + 1) a = a by omega, show min c a = a by omega]
      rw [this]
      simp [h1]; omega
    · by_cases h2 : t[c] = t[a]
      · by_cases hca : c < a
        · have : cEq t t[a] (min (c + 1) a) = cEq t t[a] (min c a) + 1 := by
            rw [show min (c + 1) a = c + 1 by omega, show min c a = c by omega, cEq_succ t _ hc, if_pos h2]
          rw [this]
          simp [h1, h2, hca]; omega
        · rw [show min (c + 1) a = min c a by omega]
          simp [h1, h2, hca]
      · have : cEq t t[a] (min (c + 1) a) = cEq t t[a] (min c a) := by
          by_cases hca : c < a
          · rw [show min (c + 1) a = c + 1 by omega, show min c a = c by omega, cEq_succ t _ hc, if_neg h2]; rfl
          · rw [show min (c + 1) a = a by omega, show min c a = a by omega]
        rw [this]
        simp [h1, h2]
theorem rk_all (t : List W32) {a : Nat} (ha : a < t.length) : rk t a t.length = cLt t t[a] + cEq t t[a] a := by
  rw [rk_eq t ha _ (Nat.le_refl _), List.take_length, Nat.min_eq_right (by omega)]; rfl
theorem middle_get {t : List W32} (h : t ≠ []) : middle32 t = (sorted32 t)[t.length / 2]'(by rw [sorted32_length]; have := List.length_pos_iff.2 h; omega) := by
  have hl : t.length / 2 < (sorted32 t).length := by rw [sorted32_length]; have := List.length_pos_iff.2 h; omega
  unfold middle32
  rw [List.getD_eq_getElem?_getD, List.getElem?_eq_getElem hl]; rfl
/-- Ahead of which half stand is the middle one. -/
theorem rk_middle {t : List W32} {a : Nat} (ha : a < t.length) (h : rk t a t.length = t.length / 2) : t[a] = middle32 t := by
  have hne : t ≠ [] := by rintro rfl; simp at ha
  have hl : t.length / 2 < (sorted32 t).length := by rw [sorted32_length]; omega
  rw [middle_get hne]
  rw [rk_all t ha] at h
  have h1 : cEq t t[a] a < cEq t t[a] t.length := by
    have := cEq_mono t t[a] (c := a + 1) (by omega)
    rw [cEq_succ t _ ha, if_pos rfl] at this
    omega
  have h2 := cLe_split t t[a]
  obtain ⟨x, hx⟩ : ∃ x, x = t[a] := ⟨_, rfl⟩
  rw [← hx] at h h1 h2 ⊢
  obtain ⟨y, hy⟩ : ∃ y, y = (sorted32 t)[t.length / 2] := ⟨_, rfl⟩
  rw [← hy]
  apply BitVec.eq_of_toNat_eq
  have p1 : ¬ x < y := fun hlt => by
    have := upto_le (sorted32_pair t) hl (m := x) (by rw [← hy]; exact hlt)
    rw [cLe_sorted] at this
    omega
  have p2 : ¬ y < x := fun hlt => by
    have := below_ge (sorted32_pair t) hl (m := x) (by rw [← hy]; exact hlt)
    rw [cLt_sorted] at this
    omega
  simp only [BitVec.lt_def] at p1 p2
  omega
theorem step_through {g : Nat → Nat} (n k : Nat) (h0 : g 0 ≤ k) (hn : k < g n) (hs : ∀ c, c < n → g (c + 1) ≤ g c + 1) : ∃ c, c < n ∧ g c = k ∧ g (c + 1) = k + 1 := by
  induction n with
  | zero => omega
  | succ n ih =>
    by_cases h : k < g n
    · obtain ⟨c, h1, h2⟩ := ih h fun c hc => hs c (by omega)
      exact ⟨c, by omega, h2⟩
    · have := hs n (by omega)
      exact ⟨n, by omega, by omega, by omega⟩
/-- There is one. -/
theorem rk_some {t : List W32} (hne : t ≠ []) : ∃ a, a < t.length ∧ rk t a t.length = t.length / 2 := by
  have hp := List.length_pos_iff.2 hne
  have hl : t.length / 2 < (sorted32 t).length := by rw [sorted32_length]; omega
  obtain ⟨m, hm⟩ : ∃ m, m = (sorted32 t)[t.length / 2] := ⟨_, rfl⟩
  have h1 := below_le (sorted32_pair t) hl (m := m) (by rw [← hm]; exact Nat.le_refl _)
  have h2 := upto_ge (sorted32_pair t) hl (m := m) (by rw [← hm]; exact Nat.le_refl _)
  rw [cLt_sorted] at h1
  rw [cLe_sorted, cLe_split] at h2
  obtain ⟨c, hc, e1, e2⟩ := step_through (g := fun c => cLt t m + cEq t m c) t.length (t.length / 2) (by simp [cEq]; exact h1) (by show _ < cLt t m + _; omega) (fun c hc => by
    show cLt t m + cEq t m (c + 1) ≤ cLt t m + cEq t m c + 1
    rw [cEq_succ t m hc]
    split <;> omega)
  rw [cEq_succ t m hc] at e2
  have : t[c] = m := by
    by_cases h : t[c] = m
    · exact h
    · rw [if_neg h] at e2; omega
  exact ⟨c, hc, by rw [rk_all t hc, this]; exact e1⟩
end Go.Ab
/-
  tallystickref10: the middle time, the next bits.
-/
set_option linter.unusedSimpArgs false
set_option linter.unusedVariables false
set_option maxRecDepth 10000
namespace Go.Ab
open Go Go.RowKit
section
variable {P : Program} {F : Fn}
/-- What follows an exit, behind a name. -/
def exK (i : Nat) (M : Env → St → Prop) (Q : Ex → Env → St → Prop) : Ex → Env → St → Prop := fun e env st => if e = .exit i then M env st else Q e env st
@[simp] theorem exK_n (i : Nat) (M : Env → St → Prop) (Q : Ex → Env → St → Prop) (env : Env) (st : St) : exK i M Q .normal env st = Q .normal env st := by simp [exK]
@[simp] theorem exK_r (i : Nat) (M : Env → St → Prop) (Q : Ex → Env → St → Prop) (env : Env) (st : St) : exK i M Q .ret env st = Q .ret env st := by simp [exK]
@[simp] theorem exK_e (i j : Nat) (M : Env → St → Prop) (Q : Ex → Env → St → Prop) (env : Env) (st : St) : exK i M Q (.exit j) env st = if j = i then M env st else Q (.exit j) env st := by simp [exK]
theorem timesM_len (l : List Nd) : ∀ n i, (timesM l n i).length ≤ n
  | 0, i => by simp [timesM]
  | n + 1, i => by
    unfold timesM
    split
    · rename_i x _
      split
      · simp
      · have := timesM_len l n x.parent.toNat
        simp only [List.length_cons]; omega
    · simp
theorem vc_exitTo {c : PC} {Q : Ex → Env → St → Prop} {env : Env} {st : St} (i : Nat) (M : Env → St → Prop) (h : vc P c (exK i M Q) env st) (k : ∀ env' st', Same c.writes env env' → M env' st' → Q (.exit i) env' st') : vc P c Q env st :=
  vc_frame c _ _ env st (fun e env' st' hs hq => by
    unfold exK at hq
    split at hq
    · rename_i h; subst h; exact k _ _ hs hq
    · exact hq) h
set_option maxHeartbeats 2000000 in
/-- Median -/
theorem spec213 (ok : OkRef10 P F) {st : St} {s : V} {l : List Rw} (h : RdN s l st) (w : Wf (nds l)) (hl : l.length ≤ 16384) {n : Nat} (hn : n < l.length) : ACalls P (F 213) [s, .int .i64 (n : Nat)] st fun v st' => v = w32 (medianM (nds l) n) ∧ st' = st := by
  refine shows_call ok.mixed ok.h213 (by simp [k213]) ?_
  simp only [k213]
  have hnn : n < (nds l).length := by simpa using hn
  simp
  refine vc_exitTo 0 (fun env' st' => ∃ q, env' 5 = q ∧ Sep [Sl 1 e32 q (timesM (nds l) 11 n), Was st] st') ?goA ?goB
  case goB =>
    rintro env1 st1 hsame ⟨q, h5, S⟩
    obtain ⟨T, hT⟩ : ∃ T, T = timesM (nds l) 11 n := ⟨_, rfl⟩
    have hne : T ≠ [] := by rw [hT]; exact timesM_ne hnn
    have hTl : T.length ≤ 11 := by rw [hT]; exact timesM_len _ _ _
    have em : medianM (nds l) n = middle32 T := by rw [hT]; rfl
    rw [← hT] at S
    rw [em]
    have hlen := (Sep.rd e32_len S).len
    have hsub := S.was' (st0 := st) (by simp)
    have rd := Sep.rd e32_len S
    simp
    refine vc_loopJ (fun c env' st' => ∃ a, a ≤ T.length ∧ c = T.length - a ∧ (∀ b, b < a → rk T b T.length ≠ T.length / 2) ∧ env' 6 = .int .i64 (a : Nat) ∧ env' 5 = q ∧ st' = st1) T.length
      ⟨0, by omega, by omega, by omega, by simp, by simp [h5], rfl⟩ ?_
    clear h5
    rintro J hJ c env2 st2 hsame ⟨a, ha, rfl, hall, h6, h5, rfl⟩
    clear hsame
    have wa : IntKind.i64.wrap ((a : Int) + 1) = (a : Int) + 1 := wrap64 (by omega) (by omega)
    by_cases hlt : a < T.length
    · obtain ⟨pa, hpa, hla⟩ := rd.idx e32_len hlt .i64
      simp [h5, h6, hlen, hlt]
      refine vc_loopJ (fun c env' st' => ∃ b, b ≤ T.length ∧ c = T.length - b ∧ env' 8 = .int .i64 (b : Nat) ∧ env' 7 = .int .i64 (rk T a b : Nat) ∧ st' = st2) T.length
        ⟨0, by omega, by omega, by simp, by simp [rk], rfl⟩ ?_
      rintro J2 hJ2 c env3 st3 hsame ⟨b, hb, rfl, h8, h7, rfl⟩
      have g5 := (hsame.get 5 rfl).trans (by simp [h5] : _ = q)
      have g6 := (hsame.get 6 rfl).trans (by simp [h6] : _ = V.int .i64 (a : Int))
      clear hsame
      have hrl := rk_le T a b
      by_cases hbl : b < T.length
      · obtain ⟨pb, hpb, hlb⟩ := rd.idx e32_len hbl .i64
        have wb : IntKind.i64.wrap ((b : Int) + 1) = (b : Int) + 1 := wrap64 (by omega) (by omega)
        have wr : IntKind.i64.wrap ((rk T a b : Int) + 1) = (rk T a b : Int) + 1 := wrap64 (by omega) (by omega)
        have e1 : T.getD b 0 = T[b] := by simp [hbl]
        have e2 : T.getD a 0 = T[a] := by simp [hlt]
        have hrk : rk T a (b + 1) = rk T a b + if T[b] < T[a] ∨ (T[b] = T[a] ∧ b < a) then 1 else 0 := by rw [rk, e1, e2]
        obtain ⟨x, hx⟩ : ∃ x, x = T[b] := ⟨_, rfl⟩
        obtain ⟨y, hy⟩ : ∃ y, y = T[a] := ⟨_, rfl⟩
        rw [← hx] at hlb hrk
        rw [← hy] at hla hrk
        have on : (x < y ∨ (x = y ∧ b < a)) → rk T a (b + 1) = rk T a b + 1 := fun h => by rw [hrk, if_pos h]
        have off : ¬ (x < y ∨ (x = y ∧ b < a)) → rk T a (b + 1) = rk T a b := fun h => by rw [hrk, if_neg h]; rfl
        by_cases c1 : x < y
        · have e := on (.inl c1)
          simp [g5, g6, h7, h8, hlen, hbl, hpa, hpb, hla, hlb, e32, c1, wb, wr]
          exact Round.mk (T.length - (b + 1)) _ (by omega) (sub_self _) (hJ2 _ _ _ ⟨b + 1, by omega, rfl, by simp, by simp [e], rfl⟩)
        · by_cases c2 : x = y
          · subst c2
            by_cases c3 : b < a
            · have e := on (.inr ⟨rfl, c3⟩)
              simp [g5, g6, h7, h8, hlen, hbl, hpa, hpb, hla, hlb, e32, c1, c3, wb, wr]
              exact Round.mk (T.length - (b + 1)) _ (by omega) (sub_self _) (hJ2 _ _ _ ⟨b + 1, by omega, rfl, by simp, by simp [e], rfl⟩)
            · have e := off (fun h => h.elim c1 fun h => c3 h.2)
              simp [g5, g6, h7, h8, hlen, hbl, hpa, hpb, hla, hlb, e32, c1, c3, wb, wr]
              exact Round.mk (T.length - (b + 1)) _ (by omega) (sub_self _) (hJ2 _ _ _ ⟨b + 1, by omega, rfl, by simp, by simp [e, h7], rfl⟩)
          · have e := off (fun h => h.elim c1 fun h => c2 h.1)
            have c2' : (x == y) = false := by simp [c2]
            simp [g5, g6, h7, h8, hlen, hbl, hpa, hpb, hla, hlb, e32, c1, c2', wb, wr]
            exact Round.mk (T.length - (b + 1)) _ (by omega) (sub_self _) (hJ2 _ _ _ ⟨b + 1, by omega, rfl, by simp, by simp [e, h7], rfl⟩)
      · have : b = T.length := by omega
        subst this
        have hq : ((T.length : Int).tdiv 2) = ((T.length / 2 : Nat) : Int) := tdiv_nat _ 2
        have hw : IntKind.i64.wrap ((T.length / 2 : Nat) : Int) = ((T.length / 2 : Nat) : Int) := wrap64 (by omega) (by omega)
        obtain ⟨H, hH⟩ : ∃ H, H = T.length / 2 := ⟨_, rfl⟩
        rw [← hH] at hq hw
        by_cases hk : rk T a T.length = H
        · have hm := rk_middle hlt (by rw [hk, hH])
          rw [hm] at hla
          have hb' : ((rk T a T.length : Int) == (H : Int)) = true := by simp [hk]
          simp [g5, g6, h7, h8, hlen, hq, hw, hb', hpa, hla, e32]
          exact hsub
        · have hb' : ((rk T a T.length : Int) == (H : Int)) = false := by simp; omega
          simp [g5, g6, h7, h8, hlen, hq, hw, hb', wa]
          refine Round.mk (T.length - (a + 1)) _ (by omega) (sub_self _) (hJ _ _ _ ⟨a + 1, by omega, rfl, ?_, by simp, by simp [g5], rfl⟩)
          intro b hb
          rcases Nat.lt_or_ge b a with h | h
          · exact hall b h
          · have : b = a := by omega
            subst this
            rw [← hH]; exact hk
    · exfalso
      obtain ⟨b, hb, e⟩ := rk_some hne
      exact hall b (by omega) e
  refine vc_loopJ (fun c env' st' => ∃ (acc : List W32) (j : Int) (q : V), c = 11 - acc.length ∧ acc.length ≤ 11 ∧ acc ++ timesI (nds l) (11 - acc.length) j = timesM (nds l) 11 n ∧ (0 ≤ j → j < l.length) ∧ env' 1 = .int .i64 j ∧ env' 5 = q ∧ Sep [Sl 1 e32 q acc, Was st] st') 11
    ⟨[], n, .sl .nil [] 0, rfl, by simp, ?_, by omega, by simp, by simp, (Sep.start st).slNil⟩ ?_
  · simp [timesI]; omega
  · rintro J hJ c env' st2 hsame ⟨acc, j, q, rfl, hal, he, hj, g1, g5, S⟩
    have g0 := hsame.get 0 rfl
    simp at g0
    clear hsame
    have hsub := S.was' (st0 := st) (by simp)
    have h2 := h.sub hsub
    have hlen := (Sep.rd e32_len S).len
    by_cases hgo : 0 ≤ j ∧ (acc.length : Int) < 11
    · obtain ⟨hj0, ha⟩ := hgo
      obtain ⟨p, rfl⟩ : ∃ p : Nat, j = p := ⟨j.toNat, by omega⟩
      have hp : p < l.length := by have := hj hj0; omega
      have hpn : p < (nds l).length := by simpa using hp
      obtain ⟨r1, r2, r3, r4⟩ := h2.row eRw_len hp
      obtain ⟨f1, f2⟩ := r4 65 1 (by omega)
      rw [rwTime] at f2
      obtain ⟨T, hT⟩ : ∃ T, T = l[p].1.hdr.time := ⟨_, rfl⟩
      rw [← hT] at f2
      simp [g0, g1, g5, hlen, ha, r1, r2, f1, f2, hf32]
      have hel : elems st2 1 (.sl .full (e32 T) 1) = some (e32 T, 1) := rfl
      rw [hel]
      refine Sep.app1 e32_len (by omega) S (a := T) rfl (by omega) ?_
      intro s' st3 S
      have h3 := h.sub (S.was' (st0 := st) (by simp))
      obtain ⟨r1, r2, r3, r4⟩ := h3.row eRw_len hp
      obtain ⟨f1, f2⟩ := r4 100 1 (by omega)
      rw [rwPar] at f2
      simp [g0, g1, r1, f1, f2]
      have e11 : 11 - acc.length = (11 - (acc.length + 1)) + 1 := by omega
      refine Round.mk (11 - (acc ++ [T]).length) _ (by simp; omega) (sub_self _) (hJ _ _ _ ⟨acc ++ [T], l[p].1.parent, s', rfl, by simp; omega, ?_, ?_, by simp, by simp, S⟩)
      · rw [← he]
        have : timesI (nds l) (11 - acc.length) (p : Int) = T :: timesI (nds l) (11 - (acc.length + 1)) l[p].1.parent := by
          have := timesM_succ (l := nds l) (n := 11 - (acc.length + 1)) hpn
          rw [nds_get hp, ← hT] at this
          rw [e11, ← this]; simp [timesI]; omega
        rw [this]; simp
      · intro hq
        rcases Nat.eq_zero_or_pos p with e | e
        · subst e
          have := (w.zero _ (List.getElem?_eq_getElem hpn)).1
          rw [nds_get hp] at this
          omega
        · have := (w.succ p _ e (List.getElem?_eq_getElem hpn)).2.1
          rw [nds_get hp] at this
          omega
    · have eT : acc = timesM (nds l) 11 n := by
        rw [← he]
        by_cases hj0 : 0 ≤ j
        · have e11 : 11 - acc.length = 0 := by omega
          rw [e11]
          have : timesI (nds l) 0 j = [] := by unfold timesI; split <;> rfl
          rw [this]; simp
        · have : timesI (nds l) (11 - acc.length) j = [] := by unfold timesI; rw [if_pos (by omega)]
          rw [this]; simp
      rw [← eT]
      by_cases hj0 : 0 ≤ j
      · have ha : ¬ ((acc.length : Int) < 11) := fun h => hgo ⟨hj0, h⟩
        simp [g1, g5, hlen, hj0, ha]
        exact S
      · simp [g1, g5, hj0]
        exact S
end
end Go.Ab
/-
  tallystickref10: the next bits; a node; a new tree.
-/
set_option linter.unusedSimpArgs false
set_option linter.unusedVariables false
set_option maxRecDepth 10000
namespace Go.Ab
open Go Go.RowKit
theorem xsegHdr (r : Rw) : segOf (eRw r) 0 68 = some (eHdr r.1.hdr) := seg_of_take (rwHdr r) (by rw [eRw_len]; omega)
theorem xsegId (r : Rw) : segOf (eRw r) 68 32 = some (eId r.1.id) := seg_of_take (rwId r) (by rw [eRw_len]; omega)
theorem xsegPar (r : Rw) : segOf (eRw r) 100 1 = some [.int .i64 r.1.parent] := seg_of_take (rwPar r) (by rw [eRw_len]; omega)
theorem xsegHgt (r : Rw) : segOf (eRw r) 101 1 = some [.int .i64 r.1.height] := seg_of_take (rwHgt r) (by rw [eRw_len]; omega)
theorem xsegWork (r : Rw) : segOf (eRw r) 102 1 = some [slK_ r.2.1 r.2.2] := seg_of_take (rwWork r) (by rw [eRw_len]; omega)
theorem xsegFail (r : Rw) : segOf (eRw r) 103 1 = some [.bool r.1.failed] := seg_of_take (rwFail r) (by rw [eRw_len]; omega)
theorem xsegTime (r : Rw) : segOf (eRw r) 65 1 = some [w32 r.1.hdr.time] := seg_of_take (rwTime r) (by rw [eRw_len]; omega)
theorem xsegBits (r : Rw) : segOf (eRw r) 66 1 = some [w32 r.1.hdr.bits] := seg_of_take (rwBits r) (by rw [eRw_len]; omega)
theorem xsegAll (r : Rw) : segOf (eRw r) 0 104 = some (eRw r) := by
  unfold segOf
  rw [if_pos (by rw [eRw_len]; omega), List.drop_zero, ← eRw_len r, List.take_length]
theorem spl_z104 (r : Rw) : spliceV z104_1a18 0 (eRw r) = eRw r := by
  unfold spliceV
  rw [List.take_zero, List.nil_append, Nat.zero_add, eRw_len, ← z104_1a18_len, List.drop_length, List.append_nil]
theorem store104 {st : St} {i : Nat} {r : Rw} : storeS (st.upd i (.cells z104_1a18)) 104 (.ptr (some (i, 0))) (.agg (eRw r)) = some (st.upd i (.cells (eRw r))) := by
  simp [storeS, eRw_len, spl_z104]
section
variable {P : Program} {F : Fn}
set_option maxHeartbeats 2000000 in
/-- Next -/
theorem spec214 (ok : OkRef10 P F) {st : St} {s : V} {l : List Rw} (h : RdN s l st) (w : Wf (nds l)) (hl : l.length ≤ 16384) {r : Rl} (hr : checkM r = 0) {n : Nat} (hn : n < l.length) : ACalls P (F 214) [.agg (eRl r), s, .int .i64 (n : Nat)] st fun v st' => v = w32 (nextM r (nds l) n) ∧ st' = st := by
  have ok5 := ok.toOkRef05
  obtain ⟨hr1, hr2, hr3, hr4, hr5, hr6, -, -⟩ := checkM_ok hr
  refine shows_call ok.mixed ok.h214 (by simp [k214]) ?_
  simp only [k214]
  have hnn : n < (nds l).length := by simpa using hn
  obtain ⟨x, hx⟩ : ∃ x, x = l[n] := ⟨_, rfl⟩
  have hxh : x.1.height = hgt (nds l) n := by rw [hgt_at hnn, nds_get hn, hx]
  have hgl := w.hgt_le hnn
  obtain ⟨E, hE⟩ : ∃ E : Nat, r.every = E := ⟨r.every.toNat, by omega⟩
  obtain ⟨H, hH⟩ : ∃ H, H = x.1.height := ⟨_, rfl⟩
  have hnx : nextM r (nds l) n = if E = 0 ∨ (H + 1) % E ≠ 0 then x.1.hdr.bits else (nextN x.1.hdr.bits ((x.1.hdr.time.toNat : Int) - (nd (nds l) (anc (nds l) n (H + 1 - E))).hdr.time.toNat) (r.every * r.spacing) (limitN r)).getD 0 := by
    have e0 : nd (nds l) n = x.1 := by rw [nd_at hnn, nds_get hn, hx]
    unfold nextM
    simp only [e0, ← hH, hE]
    have e1 : ((H : Int) + 1).tmod (E : Int) = (((H + 1) % E : Nat) : Int) := by
      rw [Int.tmod_eq_emod_of_nonneg (by omega)]; push_cast; rfl
    have e2 : (max 0 ((H : Int) + 1 - E)).toNat = H + 1 - E := by omega
    rw [e1, e2]
    have e3 : ((E : Int) = 0 ∨ (((H + 1) % E : Nat) : Int) ≠ 0) ↔ (E = 0 ∨ (H + 1) % E ≠ 0) := by omega
    by_cases c : (E = 0 ∨ (H + 1) % E ≠ 0)
    · rw [if_pos c, if_pos (e3.2 c)]
    · rw [if_neg c, if_neg (fun h => c (e3.1 h))]
  have rEv := rsegEvery r
  have rSp := rsegSpacing r
  rw [hE] at rEv
  simp
  intro i3 h3
  have S := (Sep.start st).new h3 (.cells (eRl r))
  generalize st.upd i3 _ = st1 at S ⊢
  obtain ⟨r1, r2, r3, r4⟩ := (h.sub (S.was' (st0 := st) (by simp))).row eRw_len hn
  rw [← hx] at r3
  simp [r1, r3]
  intro i7 h7
  have S := S.new h7 (.cells z104_1a18)
  simp [store104]
  have S := S.setAt (.cells (eRw x)) 0 rfl
  simp at S
  generalize st1.upd i7 _ = st2 at S ⊢
  have hs := S.was' (st0 := st) (by simp)
  have o3 := S.mem (i := i3) (o := .cells (eRl r)) (by simp)
  have o7 := S.get
  have xH := xsegHgt x
  rw [← hH] at xH hxh
  have hw1 : IntKind.i64.wrap ((H : Int) + 1) = (H : Int) + 1 := wrap64 (by omega) (by omega)
  simp [St.seg, o3, rEv]
  by_cases hE0 : E = 0
  · have : nextM r (nds l) n = x.1.hdr.bits := by rw [hnx, if_pos (.inl hE0)]
    rw [this]
    have hE0' : ((E : Int) == 0) = true := by simp [hE0]
    simp [hE0, o7, xsegBits, St.seg, hs]
  · have hem : ((H : Int) + 1).tmod (E : Int) = (((H + 1) % E : Nat) : Int) := by
      rw [Int.tmod_eq_emod_of_nonneg (by omega)]; push_cast; rfl
    obtain ⟨M, hM⟩ : ∃ M, M = (H + 1) % E := ⟨_, rfl⟩
    have hMl : M < E := hM ▸ Nat.mod_lt _ (by omega)
    rw [← hM] at hem hnx
    have hem2 : IntKind.i64.wrap ((((H : Int) + 1)) % (E : Int)) = (M : Int) := by
      rw [← Int.tmod_eq_emod_of_nonneg (by omega), hem]; exact wrap64 (by omega) (by omega)
    have hem3 : IntKind.i64.wrap ((((H : Int) + 1)).tmod (E : Int)) = (M : Int) := by
      rw [hem]; exact wrap64 (by omega) (by omega)
    have hEb : ((E : Int) == 0) = false := by simp; omega
    simp [hEb, hE0, o7, xH, St.seg, hw1, o3, rEv, hem2, hem3]
    by_cases hM0 : M = 0
    · rw [if_neg (by omega)] at hnx
      rw [hnx]
      have htb : (((H : Int) + 1).tmod (E : Int) != 0) = false := by rw [hem, hM0]; rfl
      obtain ⟨K, hK⟩ : ∃ K, K = H + 1 - E := ⟨_, rfl⟩
      rw [← hK]
      have hw3 : IntKind.i64.wrap ((H : Int) + 1 - (E : Int)) = (H : Int) + 1 - (E : Int) := wrap64 (by omega) (by omega)
      have hKh : K ≤ hgt (nds l) n := by omega
      have hal := w.anc_lt (i := n) (h := K) hnn
      obtain ⟨A, hA⟩ : ∃ A, A = anc (nds l) n K := ⟨_, rfl⟩
      have ea : ancI (nds l) n K = (A : Nat) := by
        have h1 : ¬ (nds l).length ≤ n := by omega
        have h1' : ¬ l.length ≤ n := by omega
        have h2 : ¬ hgt (nds l) n < K := by omega
        have h3 : ¬ ((n : Int) < 0) := by omega
        have h4 : ¬ ((K : Int) < 0) := by omega
        simp [ancI, h1', h2, h3, h4, hA]
      rw [← hA] at hal ⊢
      have hal' : A < l.length := by simpa using hal
      simp [htb, o7, o3, xH, rEv, St.seg, hw1, hw3]
      refine condB_join (fun env' st' => env' 8 = .int .i64 (K : Int) ∧ st' = st2) ?_ ?_
      · by_cases hneg : (H : Int) + 1 - (E : Int) < 0
        · have : K = 0 := by omega
          simp [hneg, this]
        · have : (K : Int) = (H : Int) + 1 - (E : Int) := by omega
          simp [hneg, this]
      rintro env' st' hsame ⟨h8, rfl⟩
      have g1 := (hsame.get 1 rfl).trans (by simp : _ = s)
      have g2 := (hsame.get 2 rfl).trans (by simp : _ = V.int .i64 (n : Int))
      have g3 := (hsame.get 3 rfl).trans (by simp : _ = V.ptr (some (i3, 0)))
      have g7 := (hsame.get 7 rfl).trans (by simp : _ = V.ptr (some (i7, 0)))
      clear hsame
      have hr2 := h.sub hs
      simp [g1, g2, h8]
      refine (spec212 ok hr2 w (by omega) n K).mono ?_
      rintro v st2 ⟨rfl, rfl⟩
      rw [ea]
      obtain ⟨r1, r2, r3, r4⟩ := hr2.row eRw_len hal'
      obtain ⟨y, hy⟩ : ∃ y, y = l[A] := ⟨_, rfl⟩
      have hyn : nd (nds l) A = y.1 := by rw [nd_at hal, nds_get hal', hy]
      rw [← hy] at r3
      rw [hyn]
      simp [r1, r3]
      intro i9 h9
      have S := S.new h9 (.cells z104_1a18)
      simp [store104]
      have S := S.setAt (.cells (eRw y)) 0 rfl
      simp at S
      generalize st2.upd i9 _ = st3 at S ⊢
      have hs := S.was' (st0 := st) (by simp)
      have o3 := S.mem (i := i3) (o := .cells (eRl r)) (by simp)
      have o7 := S.mem (i := i7) (o := .cells (eRw x)) (by simp)
      have o9 := S.get
      simp [g3, St.seg, o3, rsegLimit]
      refine (spec146 ok5 st3 r.limit).mono ?_
      rintro v st3 ⟨hT, rfl⟩
      rcases tgtB_cases hT with ⟨ht, rfl⟩ | ⟨T, k, tb, ht, rfl, hTv, hTl⟩
      · exact absurd ht hr1
      · have hlim : limitN r = valB tb := by rw [limitN, ht, hTv]; rfl
        obtain ⟨SP, hSP⟩ : ∃ n : Nat, r.spacing = n := ⟨r.spacing.toNat, by omega⟩
        rw [hSP] at rSp
        have hm : E * SP ≤ 1000 * 1048576 := Nat.mul_le_mul (by omega) (by omega)
        obtain ⟨Q, hQ⟩ : ∃ n : Int, n = (E : Int) * (SP : Int) := ⟨_, rfl⟩
        have hQb : 0 ≤ Q ∧ Q ≤ 1000 * 1048576 := by
          have : Q = ((E * SP : Nat) : Int) := by rw [hQ]; push_cast; rfl
          omega
        have hw4 : IntKind.i64.wrap Q = Q := wrap64 (by omega) (by omega)
        have hx1 := x.1.hdr.time.isLt
        have hx2 := y.1.hdr.time.isLt
        have hw5 : IntKind.i64.wrap ((x.1.hdr.time.toNat : Int) - (y.1.hdr.time.toNat : Int)) = (x.1.hdr.time.toNat : Int) - (y.1.hdr.time.toNat : Int) := wrap64 (by omega) (by omega)
        simp [g3, g7, St.seg, o3, o7, o9, xsegBits, xsegTime, rEv, rSp, hw5, ← hQ, hw4]
        refine (spec149 ok5 x.1.hdr.bits _ Q (rd_slK k tb st3) (by omega) (by omega)).mono ?_
        rintro v st3 ⟨rfl, rfl⟩
        rw [hE, hSP, ← hQ, hlim]
        unfold nextR
        cases nextN x.1.hdr.bits ((x.1.hdr.time.toNat : Int) - (y.1.hdr.time.toNat : Int)) Q (valB tb) <;> simp [hs]
    · rw [if_pos (.inr hM0)] at hnx
      rw [hnx]
      have htb : (((H : Int) + 1).tmod (E : Int) != 0) = true := by rw [hem]; simp; omega
      simp [htb, o7, xsegBits, St.seg, hs]
end
end Go.Ab
/-
  law10: plain: the easy rules, and what is mined by them.
-/
set_option linter.unusedSimpArgs false
set_option linter.unusedVariables false
namespace Go.Ab
open Go Go.RowKit
def easyB : W32 := 545259519#32
def easyR : Rl := ⟨easyB, 0, 10, 50, 0, { hdr0 with bits := easyB }, .sl .nil [] 0⟩
theorem easy_limit : tgt easyB ≠ none := by decide +kernel
def growH : Hdr := { hdr0 with prev := hId easyR.gen, time := 5#32, bits := easyB }
theorem grow_mined : (match mineN growH easyB 100 with | some h => decide (hId h ≠ hId easyR.gen) | none => false) = true := by decide +kernel
end Go.Ab
/-
  The code of functions of the program in the small language.
-/
set_option linter.unusedVariables false
namespace Go.Ab
open Go
-- regions [0, 1]
/- tallystick/tallysticklaw10.easy -/
def k184 (F : Fn) : PF := PF.mk 4 0 [(PR.cell 0 true 74)] (.seq (.ops [(PO.mk (some 0) (.alloc z74_2f53) none)]) (.seq (.ops [(PO.mk (some 1) (.build z68_39b1 [(66, (1, (.k (w32 545259519))))]) none), (PO.mk (some 2) (.build z69_adc1 [(0, (68, (.t 1)))]) none), (PO.mk (some 3) (.build z74_2f53 [(0, (1, (.k (w32 545259519)))), (2, (1, (.k (.int .i64 10)))), (3, (1, (.k (.int .i64 50)))), (5, (69, (.t 2)))]) none), (PO.mk none (.store 74 (.t 0) (.t 3)) none)]) .ret))
-- regions [0, 1, 2, 3, 4, 5, 6, 7]
/- tallystick/tallysticklaw10.grows -/
def k185 (F : Fn) : PF := PF.mk 93 0 [(.t 0)] (.seq (.ops [(PO.mk (some 0) (.mv (.k (.bool false))) none)]) (.seq (.ops [(PO.mk (some 10) (.call (F 184) []) none), (PO.mk (some 11) (.call (F 155) [(.t 10)]) none), (PO.mk (some 9) (.mv (.t 11)) none), (PO.mk (some 12) (.ext 0 (.t 9)) none), (PO.mk (some 13) (.ext 1 (.t 9)) none), (PO.mk (some 1) (.mv (.t 12)) none), (PO.mk (some 2) (.mv (.t 13)) none)]) (.seq (.seq (.ops [(PO.mk (some 14) (.mv (.t 1)) none), (PO.mk (some 15) (.eqa .ptr false (.t 14) (.k (.ptr none))) none), (PO.mk (some 16) (.mv (.t 15)) none), (PO.mk (some 17) (.mv (.t 2)) (some (16, false))), (PO.mk (some 18) (.bin .neq (.t 17) (.k (.int .i64 0))) (some (16, false))), (PO.mk (some 19) (.pick (.t 16) (.k (.bool true)) (.t 18)) none), (PO.mk (some 20) (.mv (.t 19)) none), (PO.mk (some 21) (.mv (.t 1)) (some (20, false))), (PO.mk (some 22) (.call (F 159) [(.t 21)]) (some (20, false))), (PO.mk (some 23) (.bin .neq (.t 22) (.k (.int .i64 1))) (some (20, false))), (PO.mk (some 24) (.pick (.t 20) (.k (.bool true)) (.t 23)) none)]) (.cond (.t 24) (.seq (.ops [(PO.mk (some 0) (.mv (.k (.bool false))) none)]) .ret) .skip)) (.seq (.ops [(PO.mk (some 26) (.mv (.t 1)) none), (PO.mk (some 27) (.call (F 161) [(.t 26), (.k (.int .i64 0))]) none), (PO.mk (some 28) (.fld true 68 32 (.t 27)) none), (PO.mk (some 29) (.build z68_39b1 [(1, (32, (.t 28))), (65, (1, (.k (w32 5)))), (66, (1, (.k (w32 545259519))))]) none), (PO.mk (some 30) (.call (F 143) [(.t 29), (.k (w32 545259519)), (.k (.int .i64 100))]) none), (PO.mk (some 25) (.mv (.t 30)) none), (PO.mk (some 31) (.ext 0 (.t 25)) none), (PO.mk (some 32) (.ext 1 (.t 25)) none), (PO.mk (some 3) (.alloc z68_39b1) none), (PO.mk none (.store 68 (.t 3) (.t 31)) none), (PO.mk (some 4) (.mv (.t 32)) none)]) (.seq (.ops [(PO.mk (some 34) (.mv (.t 1)) none), (PO.mk (some 35) (.load true 68 (.t 3)) none), (PO.mk (some 36) (.call (F 169) [(.t 34), (.t 35), (.k (.int .i64 100))]) none), (PO.mk (some 33) (.mv (.t 36)) none), (PO.mk (some 37) (.ext 0 (.t 33)) none), (PO.mk (some 38) (.ext 1 (.t 33)) none), (PO.mk (some 5) (.mv (.t 37)) none), (PO.mk (some 6) (.mv (.t 38)) none)]) (.seq (.ops [(PO.mk (some 40) (.mv (.t 1)) none), (PO.mk (some 41) (.load true 68 (.t 3)) none), (PO.mk (some 42) (.call (F 169) [(.t 40), (.t 41), (.k (.int .i64 100))]) none), (PO.mk (some 39) (.mv (.t 42)) none), (PO.mk (some 43) (.ext 0 (.t 39)) none), (PO.mk (some 44) (.ext 1 (.t 39)) none), (PO.mk (some 7) (.mv (.t 43)) none), (PO.mk (some 8) (.mv (.t 44)) none)]) (.seq (.ops [(PO.mk (some 45) (.mv (.t 4)) none), (PO.mk (some 46) (.mv (.t 45)) none), (PO.mk (some 47) (.mv (.t 5)) (some (46, true))), (PO.mk (some 48) (.bin .eql (.t 47) (.k (.int .i64 1))) (some (46, true))), (PO.mk (some 49) (.pick (.t 46) (.t 48) (.k (.bool false))) none), (PO.mk (some 50) (.mv (.t 49)) none), (PO.mk (some 51) (.mv (.t 6)) (some (50, true))), (PO.mk (some 52) (.bin .eql (.t 51) (.k (.int .i64 0))) (some (50, true))), (PO.mk (some 53) (.pick (.t 50) (.t 52) (.k (.bool false))) none), (PO.mk (some 54) (.mv (.t 53)) none), (PO.mk (some 55) (.mv (.t 8)) (some (54, true))), (PO.mk (some 56) (.bin .eql (.t 55) (.k (.int .i64 5))) (some (54, true))), (PO.mk (some 57) (.pick (.t 54) (.t 56) (.k (.bool false))) none), (PO.mk (some 58) (.mv (.t 57)) none), (PO.mk (some 59) (.mv (.t 1)) (some (58, true))), (PO.mk (some 60) (.call (F 161) [(.t 59), (.k (.int .i64 1))]) (some (58, true))), (PO.mk (some 61) (.fld false 102 1 (.t 60)) (some (58, true))), (PO.mk (some 62) (.bin .eql (.t 61) (.k (.int .i64 1))) (some (58, true))), (PO.mk (some 63) (.pick (.t 58) (.t 62) (.k (.bool false))) none), (PO.mk (some 64) (.mv (.t 63)) none), (PO.mk (some 65) (.mv (.t 1)) (some (64, true))), (PO.mk (some 66) (.call (F 161) [(.t 65), (.k (.int .i64 1))]) (some (64, true))), (PO.mk (some 67) (.fld true 103 4 (.t 66)) (some (64, true))), (PO.mk (some 68) (.call (F 105) [(.k (w64 4))]) (some (64, true))), (PO.mk (some 69) (.eqa (.agg 4) false (.t 67) (.t 68)) (some (64, true))), (PO.mk (some 70) (.pick (.t 64) (.t 69) (.k (.bool false))) none), (PO.mk (some 71) (.mv (.t 70)) none), (PO.mk (some 72) (.mv (.t 1)) (some (71, true))), (PO.mk (some 73) (.call (F 163) [(.t 72), (.k (.int .i64 0)), (.k (.int .i64 1))]) (some (71, true))), (PO.mk (some 74) (.pick (.t 71) (.t 73) (.k (.bool false))) none), (PO.mk (some 75) (.mv (.t 74)) none), (PO.mk (some 76) (.mv (.t 1)) (some (75, true))), (PO.mk (some 77) (.call (F 166) [(.t 76), (.k (.int .i64 1))]) (some (75, true))), (PO.mk (some 78) (.bin .eql (.t 77) (.k (w32 5))) (some (75, true))), (PO.mk (some 79) (.pick (.t 75) (.t 78) (.k (.bool false))) none), (PO.mk (some 80) (.mv (.t 79)) none), (PO.mk (some 81) (.mv (.t 1)) (some (80, true))), (PO.mk (some 82) (.call (F 167) [(.t 81), (.k (.int .i64 1))]) (some (80, true))), (PO.mk (some 83) (.bin .eql (.t 82) (.k (w32 545259519))) (some (80, true))), (PO.mk (some 84) (.pick (.t 80) (.t 83) (.k (.bool false))) none), (PO.mk (some 85) (.mv (.t 84)) none), (PO.mk (some 86) (.pick (.t 85) (.k (.bool true)) (.k (.bool false))) none), (PO.mk (some 87) (.mv (.t 86)) none), (PO.mk (some 88) (.pick (.t 87) (.k (.bool true)) (.k (.bool false))) none), (PO.mk (some 89) (.mv (.t 88)) none), (PO.mk (some 90) (.pick (.t 89) (.k (.bool true)) (.k (.bool false))) none), (PO.mk (some 91) (.mv (.t 90)) none), (PO.mk (some 92) (.pick (.t 91) (.k (.bool true)) (.k (.bool false))) none), (PO.mk (some 0) (.mv (.t 92)) none)]) .ret)))))))
structure OkLaw10z (P : Program) (F : Fn) : Prop where
  mixed : P.follows .mixedOrders = true
  toOkIndex : OkIndex P F
  h184 : compFn P ⟨[], [], [], [], []⟩ (F 184) = some (k184 F)
  h185 : compFn P ⟨[], [], [], [], []⟩ (F 185) = some (k185 F)
end Go.Ab
/-
  law10: easy, grows.
-/
set_option linter.unusedSimpArgs false
set_option linter.unusedVariables false
set_option maxRecDepth 10000
namespace Go.Ab
open Go Go.RowKit

/-! ### plain -/
theorem mineN_some {h : Hdr} {limit : W32} {n : Nat} {x : Hdr} (e : mineN h limit n = some x) : x.ver = h.ver ∧ x.prev = h.prev ∧ x.root = h.root ∧ x.time = h.time ∧ x.bits = h.bits ∧ provedN x limit = 0 := by
  induction n generalizing h with
  | zero => cases e
  | succ n ih =>
    unfold mineN at e
    split at e
    · cases e
      rename_i hp
      exact ⟨rfl, rfl, rfl, rfl, rfl, hp⟩
    · exact ih (h := { h with nonce := h.nonce + 1 }) e
theorem newM_wf (r : Rl) : Wf (newM r) := by
  refine ⟨by simp [newM], fun x h => ?_, fun i x h0 h => ?_, fun i x h0 h => ?_⟩
  · simp [newM] at h; rw [← h]; exact ⟨rfl, rfl⟩
  · have := (List.getElem?_eq_some_iff.1 h).1
    simp [newM] at this; omega
  · have := (List.getElem?_eq_some_iff.1 h).1
    simp [newM] at this; omega
theorem ndOf_wf {l : List Nd} (w : Wf l) {h : Hdr} {p : Nat} (hp : p < l.length) : Wf (l ++ [ndOf l h p]) := w.push hp rfl rfl rfl
theorem addM_cases (r : Rl) (l : List Nd) (h : Hdr) (now : Int) : (addM r l h now).1 = l ∧ (addM r l h now).2.2 ≠ 0 ∨ ∃ p, findM l h.prev = some p ∧ findM l (hId h) = none ∧ fitsM r l h p now = 0 ∧ l.length ≠ 16384 ∧ addM r l h now = (l ++ [ndOf l h p], (l.length : Int), 0) := by
  unfold addM
  cases h1 : findM l (hId h) with
  | some i => exact .inl ⟨rfl, by simp⟩
  | none =>
    cases h2 : findM l h.prev with
    | none => exact .inl ⟨rfl, by simp⟩
    | some p =>
      dsimp only
      by_cases h3 : fitsM r l h p now ≠ 0
      · rw [if_pos h3]; exact .inl ⟨rfl, h3⟩
      · rw [if_neg h3]
        by_cases h4 : l.length = 16384
        · rw [if_pos h4]; exact .inl ⟨rfl, by simp⟩
        · rw [if_neg h4]
          exact .inr ⟨p, rfl, rfl, by simpa using h3, h4, rfl⟩
theorem addM_ok {r : Rl} {l : List Nd} {h : Hdr} {now : Int} {p : Nat} (h1 : findM l (hId h) = none) (h2 : findM l h.prev = some p) (h3 : fitsM r l h p now = 0) (h4 : l.length ≠ 16384) : addM r l h now = (l ++ [ndOf l h p], (l.length : Int), 0) := by
  simp only [addM, h1, h2, h3, h4, if_false, ne_eq, not_true_eq_false]
theorem addM_twice {r : Rl} {l : List Nd} {h : Hdr} {now : Int} {i : Nat} (h1 : findM l (hId h) = some i) : addM r l h now = (l, (i : Int), 5) := by
  simp only [addM, h1]
theorem addM_wf {r : Rl} {l : List Nd} (w : Wf l) (hl : l.length ≤ 16384) (h : Hdr) (now : Int) : Wf (addM r l h now).1 ∧ (addM r l h now).1.length ≤ 16384 := by
  rcases addM_cases r l h now with ⟨e, _⟩ | ⟨p, h1, _, _, h2, e⟩
  · rw [e]; exact ⟨w, hl⟩
  · rw [e]
    exact ⟨ndOf_wf w (findM_lt h1), by simp; omega⟩
theorem easy_check : checkM easyR = 0 := by
  have h := easy_limit
  simp [checkM, easyR, h]
theorem median_one {l : List Nd} {i : Nat} (h : timesM l 11 i = [(nd l i).hdr.time]) : medianM l i = (nd l i).hdr.time := by
  unfold medianM middle32 sorted32
  rw [h]
  simp

/-! ### headers built -/
theorem hspl_ver (h : Hdr) (x : W32) : spliceV (eHdr h) 0 [w32 x] = eHdr { h with ver := x } := rfl
theorem hspl_prev (h : Hdr) (p : Id) : spliceV (eHdr h) 1 (eId p) = eHdr { h with prev := p } := by
  have e : ∀ g : Hdr, eHdr g = [w32 g.ver] ++ (eId g.prev ++ (eId g.root ++ [w32 g.time, w32 g.bits, w32 g.nonce])) := fun g => rfl
  rw [e, show 1 = 1 + 0 from rfl, splice_right (n := 1) rfl]
  unfold spliceV
  rw [List.take_zero, List.nil_append, Nat.zero_add, show (eId p).length = (eId h.prev).length by rw [eId_len, eId_len], List.drop_left]; rfl
def eHpre65 (h : Hdr) : List V := w32 h.ver :: (eId h.prev ++ eId h.root)
theorem eHpre65_len (h : Hdr) : (eHpre65 h).length = 65 := by simp [eHpre65, eId_len]
theorem eHdr_pre65 (h : Hdr) : eHdr h = eHpre65 h ++ [w32 h.time, w32 h.bits, w32 h.nonce] := by simp [eHdr, eHpre65]
theorem hspl_time (h : Hdr) (x : W32) : spliceV (eHdr h) 65 [w32 x] = eHdr { h with time := x } := by
  rw [eHdr_pre65, show 65 = 65 + 0 from rfl, splice_right (eHpre65_len _), eHdr_pre65]; rfl
theorem hspl_bits (h : Hdr) (x : W32) : spliceV (eHdr h) 66 [w32 x] = eHdr { h with bits := x } := by
  rw [eHdr_pre65, show 66 = 65 + 1 from rfl, splice_right (eHpre65_len _), eHdr_pre65]; rfl
theorem build_h3 (p : Id) (t b : W32) : fillV (eHdr hdr0) [(1, 32, .agg (eId p)), (65, 1, w32 t), (66, 1, w32 b)] = some (eHdr { hdr0 with prev := p, time := t, bits := b }) := by
  simp [fillV, eHdr_len, eId_len, hspl_prev, hspl_time, hspl_bits]
theorem build_h4 (v : W32) (p : Id) (t b : W32) : fillV (eHdr hdr0) [(0, 1, w32 v), (1, 32, .agg (eId p)), (65, 1, w32 t), (66, 1, w32 b)] = some (eHdr { hdr0 with ver := v, prev := p, time := t, bits := b }) := by
  simp [fillV, eHdr_len, eId_len, hspl_ver, hspl_prev, hspl_time, hspl_bits]

/-! ### trees in the heap -/
section
variable {P : Program} {F : Fn} {tid : Nat} {r : Rl} {l : List Nd} {L : List Asn} {st : St}
theorem tree_add (ok : OkIndex P F) (S : Sep (TreeS tid r l :: L) st) (w : Wf l) (hl : l.length ≤ 16384) (hr : checkM r = 0) (x : Hdr) (now : Int) :
    ACalls P (F 169) [.ptr (some (tid, 0)), .agg (eHdr x), .int .i64 now] st fun v st' => v = .tup [.int .i64 (addM r l x now).2.1, .int .i64 (addM r l x now).2.2] ∧ Sep (TreeS tid r (addM r l x now).1 :: L) st' :=
  (Sep.call S (fun h hh => spec169 ok hh w hl hr x now)).mono fun v s hs => by
    obtain ⟨h', k1, k2, _⟩ := hs.part
    exact ⟨k2, hs.head fun h hh => hh.2⟩
theorem tree_fail (ok : OkIndex P F) (S : Sep (TreeS tid r l :: L) st) (w : Wf l) (hl : l.length ≤ 16384) (i : Int) :
    ACalls P (F 170) [.ptr (some (tid, 0)), .int .i64 i] st fun v st' => v = .int .i64 ((failM l i).2 : Nat) ∧ Sep (TreeS tid r (failM l i).1 :: L) st' :=
  (Sep.call S (fun h hh => spec170 ok hh w hl i)).mono fun v s hs => by
    obtain ⟨h', k1, k2, _⟩ := hs.part
    exact ⟨k2, hs.head fun h hh => hh.2⟩

theorem fldV_agg (ag : Bool) (o s : Nat) (cs : List V) : fldV ag o s (.agg cs) = (segOf cs o s).bind (packV ag) := rfl

theorem spec184 (ok : OkLaw10z P F) (st : St) : ACalls P (F 184) [] st fun v st' => v = .agg (eRl easyR) ∧ st' = st := by
  refine shows_call ok.mixed ok.h184 (by simp [k184]) ?_
  simp only [k184]
  simp
  intro i0 h0
  have f1 : fillV z68_39b1 [(66, 1, w32 545259519#32)] = some (eHdr { hdr0 with bits := easyB }) := rfl
  have f2 : fillV z69_adc1 [(0, 68, .agg (eHdr { hdr0 with bits := easyB }))] = some (eHdr { hdr0 with bits := easyB } ++ [.sl .nil [] 0]) := rfl
  have f3 : fillV z74_2f53 [(0, 1, w32 545259519#32), (2, 1, .int .i64 10), (3, 1, .int .i64 50), (5, 69, .agg (eHdr { hdr0 with bits := easyB } ++ [.sl .nil [] 0]))] = some (eRl easyR) := rfl
  have hz : z74_2f53.length = 74 := rfl
  have hsp : spliceV z74_2f53 0 (eRl easyR) = eRl easyR := rfl
  simp [f1, f2, f3]
  have hst : storeS (st.upd i0 (.cells z74_2f53)) 74 (.ptr (some (i0, 0))) (.agg (eRl easyR)) = some (st.upd i0 (.cells (eRl easyR))) := by
    simp [storeS, eRl_len, hsp, hz]
  simp [hst, St.seg, rsegAll]
  exact sub_upd h0
theorem osegHdr (x : Nd) : segOf (eNd x) 0 68 = some (eHdr x.hdr) := seg_of_take (nsegHdr x) (by rw [eNd_len]; omega)
theorem osegFail (x : Nd) : segOf (eNd x) 107 1 = some [.bool x.failed] := seg_of_take (nsegFail x) (by rw [eNd_len]; omega)
theorem storeH {st : St} {i : Nat} {h : Hdr} : storeS (st.upd i (.cells (eHdr hdr0))) 68 (.ptr (some (i, 0))) (.agg (eHdr h)) = some (st.upd i (.cells (eHdr h))) := by
  simp [storeS, eHdr_len, splice_hdr]
theorem mineR_get (h : Hdr) (limit : W32) (n : Nat) : mineR h limit n = .tup [.agg (eHdr ((mineN h limit n).getD hdr0)), .bool (mineN h limit n).isSome] := by
  unfold mineR
  cases mineN h limit n <;> rfl

/-- The tree of easy rules, and what grows on it. -/
def gen0 : Nd := ⟨easyR.gen, hId easyR.gen, -1, 0, 0, workN ((tgt easyB).getD 0), false⟩
theorem newM_easy : newM easyR = [gen0] := rfl
theorem easy_next {l : List Nd} {i : Nat} : nextM easyR l i = (nd l i).hdr.bits := by simp [nextM, easyR]
theorem grow_facts : ∃ h, mineN growH easyB 100 = some h ∧ h.prev = gen0.id ∧ h.time = 5#32 ∧ h.bits = easyB ∧ hId h ≠ gen0.id ∧ fitsM easyR [gen0] h (0 : Nat) 100 = 0 := by
  have hm := grow_mined
  cases e : mineN growH easyB 100 with
  | none => rw [e] at hm; cases hm
  | some h =>
    rw [e] at hm
    obtain ⟨h1, h2, h3, h4, h5, h6⟩ := mineN_some e
    refine ⟨h, rfl, h2, h4, h5, by have := of_decide_eq_true hm; exact this, ?_⟩
    have em : medianM [gen0] 0 = 0#32 := by
      rw [median_one]
      · rfl
      · rfl
    have hb : h.bits = nextM easyR [gen0] 0 := by rw [h5, easy_next]; rfl
    have h6' : provedN h easyR.limit = 0 := h6
    have ht : h.time = 5#32 := h4
    simp [fitsM, h6', hb, em, ht]
    simp [nd, gen0]
theorem easy_work : workN ((tgt easyB).getD 0) = 2 := by decide +kernel
theorem middle_two : middle32 [5#32, 0#32] = 5#32 := by
  have h : [0#32, 5#32] = sorted32 [5#32, 0#32] := sorted_of (by
    intro a b h1 h2
    have : a = 0 ∧ b = 1 := by simp at h2; omega
    rw [this.1, this.2]; decide) (List.Perm.swap _ _ _)
  unfold middle32
  rw [← h]; rfl
theorem ndOf_work (l : List Nd) (h : Hdr) (p : Nat) : (ndOf l h p).work = workN ((tgt h.bits).getD 0) + (nd l p).work := by
  unfold ndOf
  generalize workN _ = W
  rfl
theorem gen0_work : gen0.work = 2 := by
  have h := easy_work
  unfold gen0
  exact h
theorem grown_facts {h : Hdr} (hprev : h.prev = gen0.id) (htime : h.time = 5#32) (hbits : h.bits = easyB) (hid : hId h ≠ gen0.id) (hfit : fitsM easyR [gen0] h (0 : Nat) 100 = 0) :
    ∃ x : Nd, addM easyR [gen0] h 100 = ([gen0, x], 1, 0) ∧ addM easyR [gen0, x] h 100 = ([gen0, x], 1, 5) ∧ x.height = 1 ∧ x.work = 4 ∧ onB [gen0, x] 0 1 = true ∧ medianM [gen0, x] (clI [gen0, x] 1) = 5#32 ∧ nextM easyR [gen0, x] 1 = easyB ∧ Wf [gen0, x] := by
  have e0 : nd [gen0] 0 = gen0 := nd_at (by simp)
  have hg0 : hgt [gen0] 0 = 0 := by rw [hgt_at (by simp)]; rfl
  obtain ⟨x, hx⟩ : ∃ x, x = ndOf [gen0] h 0 := ⟨_, rfl⟩
  have x1 : x.hdr = h := by rw [hx]; rfl
  have x2 : x.id = hId h := by rw [hx]; rfl
  have x3 : x.parent = ((0 : Nat) : Int) := by rw [hx]; rfl
  have x4 : x.height = hgt [gen0] 0 + 1 := by rw [hx]; rfl
  have x5 : x.work = 4 := by rw [hx, ndOf_work, hbits, easy_work, e0, gen0_work]
  have hw : Wf ([gen0] ++ [x]) := by rw [hx]; exact ndOf_wf (newM_wf easyR) (by simp [newM])
  rw [hg0] at x4
  have eb : [gen0] ++ [x] = [gen0, x] := rfl
  rw [eb] at hw
  have gp : gen0.parent = -1 := rfl
  have gt : gen0.hdr.time = 0#32 := rfl
  refine ⟨x, ?_, ?_, x4, x5, ?_, ?_, ?_, hw⟩
  · have e1 : findM [gen0] (hId h) = none := by simp [findM, Ne.symm hid]
    have e2 : findM [gen0] h.prev = some 0 := by simp [findM, hprev]
    have := addM_ok e1 e2 hfit (by simp)
    rw [← hx, eb] at this
    exact this
  · have e1 : findM [gen0, x] (hId h) = some 1 := by simp [findM, x2]
    exact addM_twice e1
  · have h0 : hgt [gen0, x] 0 = 0 := by rw [hgt_at (by simp)]; rfl
    have h1 : hgt [gen0, x] 1 = 1 := by rw [hgt_at (by simp)]; simpa using x4
    have hp : par [gen0, x] 1 = 0 := by rw [par_at (by simp)]; simp [x3]
    have h2 : anc [gen0, x] 1 0 = 0 := by
      unfold anc
      rw [h1]
      show upN [gen0, x] 0 (par [gen0, x] 1) = 0
      rw [hp]; rfl
    have := onB_nat (l := [gen0, x]) (i := 0) (k := 1) (by simp) (by simp)
    refine this.trans ?_
    rw [h0, h1, h2]; rfl
  · have hc : clI [gen0, x] 1 = 1 := rfl
    have ht : timesM [gen0, x] 11 1 = [5#32, 0#32] := by
      simp [timesM, x1, x3, htime, gp, gt]
    unfold medianM
    rw [hc, ht, middle_two]
  · rw [easy_next, nd_at (by simp)]
    show x.hdr.bits = easyB
    rw [x1, hbits]
set_option maxHeartbeats 2000000 in
theorem spec185 (ok : OkLaw10z P F) (st : St) : ACalls P (F 185) [] st fun v st' => v = .bool true ∧ st' = st := by
  have oki := ok.toOkIndex
  have okh := oki.toOkHead
  obtain ⟨h, hm, hprev, htime, hbits, hid, hfit⟩ := grow_facts
  refine shows_call ok.mixed ok.h185 (by simp [k185]) ?_
  simp only [k185, z68_eq]
  simp
  refine (spec184 ok st).mono ?_
  rintro v st0 ⟨rfl, rfl⟩
  simp
  refine (spec155 oki st0 easyR).mono ?_
  rintro v st1 hv
  rw [if_pos easy_check] at hv
  obtain ⟨tid, rfl, S⟩ := hv
  rw [newM_easy] at S
  have w0 : Wf [gen0] := newM_wf easyR
  have TR := S.treeR (by simp)
  simp
  refine (spec159 oki TR).mono ?_
  rintro v st1 ⟨rfl, rfl⟩
  simp
  refine (spec161 oki TR w0 0).mono ?_
  rintro v st1 ⟨rfl, rfl⟩
  have e0 : nd [gen0] (inI [gen0] 0) = gen0 := rfl
  rw [e0]
  simp [fldV_agg, osegId, build_h3]
  have eg : ({ hdr0 with prev := gen0.id, time := 5#32, bits := 545259519#32 } : Hdr) = growH := rfl
  rw [eg]
  refine (spec143 okh st1 growH 545259519#32 100).mono ?_
  rintro v st1 ⟨rfl, rfl⟩
  rw [mineR_get, show (545259519#32) = easyB from rfl, show (max 0 (min (100 : Int) 65536)).toNat = 100 from rfl, hm]
  simp
  obtain ⟨x, a1, a2, hx1, hx2, hx3, hx4, hx5, hw⟩ := grown_facts hprev htime hbits hid hfit
  intro i3 h3
  have S := S.new h3 (.cells (eHdr hdr0))
  simp [storeH]
  have S := S.setAt (.cells (eHdr h)) 0 rfl
  simp at S
  generalize st1.upd i3 _ = st2 at S ⊢
  have o3 := S.get
  simp [St.seg, o3, hsegAll]
  refine (tree_add oki S.swap w0 (by simp) easy_check h 100).mono ?_
  rintro v st3 ⟨rfl, S⟩
  rw [a1] at S ⊢
  have o3 := S.swap.get
  simp [St.seg, o3, hsegAll]
  refine (tree_add oki S hw (by simp) easy_check h 100).mono ?_
  rintro v st4 ⟨rfl, S⟩
  rw [a2] at S ⊢
  have TR := S.treeR (by simp)
  have hs := S.was' (st0 := st0) (by simp)
  simp
  refine (spec161 oki TR hw 1).mono ?_
  rintro v st4 ⟨rfl, rfl⟩
  have e1 : nd [gen0, x] (inI [gen0, x] 1) = x := rfl
  have oh := osegHgt x
  have owk := osegWork x
  rw [hx1] at oh
  rw [hx2] at owk
  rw [e1]
  simp [fldV_agg, oh]
  refine (spec161 oki TR hw 1).mono ?_
  rintro v st4 ⟨rfl, rfl⟩
  rw [e1]
  simp [fldV_agg, owk]
  refine (spec105 okh.toOkNum st4 4#64).mono ?_
  rintro v st4 ⟨rfl, rfl⟩
  have e4 : eqL (eU (natU 4)) (eU (BitVec.setWidth 256 4#64)) = some true := by rw [eqL_u]; rfl
  simp [eqK, nU, eU_len, e4]
  refine (spec163 oki TR hw 0 1).mono ?_
  rintro v st4 ⟨rfl, rfl⟩
  simp [hx3]
  refine (spec166 oki TR hw (by simp) 1).mono ?_
  rintro v st4 ⟨rfl, rfl⟩
  rw [hx4]
  simp
  refine (spec167 oki TR hw (by simp) easy_check (i := 1) (by simp)).mono ?_
  rintro v st4 ⟨rfl, rfl⟩
  rw [hx5]
  simp [easyB, hs]
end
end Go.Ab
/-
  tallystickref10: a node, a new tree.
-/
set_option linter.unusedSimpArgs false
set_option linter.unusedVariables false
set_option maxRecDepth 10000
namespace Go.Ab
open Go Go.RowKit
def rw0 : Rw := (⟨hdr0, id0, 0, 0, 0, 0, false⟩, .nil, [])
theorem z104_eq : z104_1a18 = eRw rw0 := rfl
def eRpre (r : Rw) : List V := eHdr r.1.hdr ++ eId r.1.id
theorem eRpre_len (r : Rw) : (eRpre r).length = 100 := by simp [eRpre, eHdr_len, eId_len]
theorem eRw_pre (r : Rw) : eRw r = eRpre r ++ [.int .i64 r.1.parent, .int .i64 r.1.height, slK_ r.2.1 r.2.2, .bool r.1.failed] := by simp [eRw, eRpre]
theorem rspl_hdr (r : Rw) (h : Hdr) : spliceV (eRw r) 0 (eHdr h) = eRw ({ r.1 with hdr := h }, r.2) := by
  unfold spliceV
  rw [List.take_zero, List.nil_append, Nat.zero_add, eRw, show (eHdr h).length = (eHdr r.1.hdr).length by rw [eHdr_len, eHdr_len], List.drop_left]; rfl
theorem rspl_id (r : Rw) (i : Id) : spliceV (eRw r) 68 (eId i) = eRw ({ r.1 with id := i }, r.2) := by
  rw [eRw, show 68 = 68 + 0 from rfl, splice_right (eHdr_len _)]
  unfold spliceV
  rw [List.take_zero, List.nil_append, Nat.zero_add, show (eId i).length = (eId r.1.id).length by rw [eId_len, eId_len], List.drop_left]; rfl
theorem rspl_par (r : Rw) (n : Int) : spliceV (eRw r) 100 [.int .i64 n] = eRw ({ r.1 with parent := n }, r.2) := by
  rw [eRw_pre, show 100 = 100 + 0 from rfl, splice_right (eRpre_len _), eRw_pre]; rfl
theorem rspl_hgt (r : Rw) (n : Nat) : spliceV (eRw r) 101 [.int .i64 n] = eRw ({ r.1 with height := n }, r.2) := by
  rw [eRw_pre, show 101 = 100 + 1 from rfl, splice_right (eRpre_len _), eRw_pre]; rfl
theorem rspl_work (r : Rw) (k : SK) (b : List Bool) : spliceV (eRw r) 102 [slK_ k b] = eRw (r.1, k, b) := by
  rw [eRw_pre, show 102 = 100 + 2 from rfl, splice_right (eRpre_len _), eRw_pre]; rfl
theorem rspl_fail (r : Rw) (b : Bool) : spliceV (eRw r) 103 [.bool b] = eRw ({ r.1 with failed := b }, r.2) := by
  rw [eRw_pre, show 103 = 100 + 3 from rfl, splice_right (eRpre_len _), eRw_pre]; rfl
theorem slK_cells (k : SK) (b : List Bool) : (slK_ k b).cells? = some [slK_ k b] := rfl
theorem build_rw (h : Hdr) (i : Id) (p : Int) (b : List Bool) : fillV z104_1a18 [(0, 68, .agg (eHdr h)), (68, 32, .agg (eId i)), (100, 1, .int .i64 p), (102, 1, slB b)] = some (eRw (⟨h, i, p, 0, 0, 0, false⟩, .some, b)) := by
  rw [z104_eq]
  have e : slB b = slK_ .some b := rfl
  rw [e]
  simp [fillV, eHdr_len, eId_len, slK_cells, rspl_hdr, rspl_id, rspl_par, rspl_work, eRw_len]
  rfl
theorem workN_le (t : Nat) : workN t ≤ 2 ^ 256 := Nat.div_le_self _ _
theorem val_work_n (t n : Nat) (h : 256 < n) : valB (bitsN n (workN t)) = workN t := by
  rw [valB_bitsN]
  exact Nat.mod_eq_of_lt (Nat.lt_of_le_of_lt (workN_le t) (Nat.pow_lt_pow_right (by omega) h))
theorem val_work (t : Nat) : valB (bitsN 512 (workN t)) = workN t := val_work_n t 512 (by omega)
section
variable {P : Program} {F : Fn}
/-- The work's place of a row: unseen. -/
theorem rw_work_ign (x : Nd) (n : Nat) (q : SK × List Bool) : eRw ({ x with work := n }, q) = eRw (x, q) := rfl
set_option maxHeartbeats 2000000 in
theorem spec209a (ok : OkRef10 P F) (st : St) (s : V) (h : Hdr) {t : Nat} (ht : tgt h.bits = some t) : ACalls P (F 209) [s, .agg (eHdr h), .int .i64 (-1)] st fun v st' => v = .agg (eRw (⟨h, hId h, -1, 0, 0, workN t, false⟩, .some, bitsN 512 (workN t))) ∧ st' = st := by
  have ok5 := ok.toOkRef05
  have ok1 := ok5.toOkRef01
  refine shows_call ok.mixed ok.h209 (by simp [k209]) ?_
  simp only [k209]
  simp
  intro i4 h4
  have S := (Sep.start st).new h4 (.cells (eHdr h))
  generalize st.upd i4 _ = st1 at S ⊢
  simp
  intro i6 h6
  have S := S.new h6 (.cells z104_1a18)
  generalize st1.upd i6 _ = st2 at S ⊢
  have o4 := S.mem (i := i4) (o := .cells (eHdr h)) (by simp)
  simp [St.seg, o4, hsegBits]
  refine (spec146 ok5 st2 h.bits).mono ?_
  rintro v st2 ⟨hT, rfl⟩
  rcases tgtB_cases hT with ⟨ht2, rfl⟩ | ⟨T, k, tb, ht2, rfl, hTv, hTl⟩
  · rw [ht] at ht2; cases ht2
  · rw [ht] at ht2
    have ht2 := Option.some.inj ht2
    simp [St.seg, o4, hsegAll]
    refine ⟨_, spec151 ok5 st2 h, ?_⟩
    simp
    refine ⟨_, spec134 ok1 st2 (hBytes h) (by rw [hBytes_len]; omega), ?_⟩
    simp
    refine ⟨_, spec148 ok5 (rd_slK k tb st2) (by omega) (by rw [hTv, ← ht2]; exact (tgt_lt ht).2), ?_⟩
    rw [hTv, ← ht2]
    obtain ⟨W, hW⟩ : ∃ W, W = bitsN 512 (workN t) := ⟨_, rfl⟩
    rw [← hW]
    have hid : sha2 (hBytes h) = hId h := rfl
    rw [hid]
    obtain ⟨I, hI⟩ : ∃ I, I = hId h := ⟨_, rfl⟩
    rw [← hI]
    simp [build_rw]
    intro i9 h9
    have S := S.new h9 (.cells z104_1a18)
    simp [store104]
    have S := S.setAt (.cells (eRw (⟨h, I, -1, 0, 0, 0, false⟩, .some, W))) 0 rfl
    simp at S
    generalize st2.upd i9 _ = st3 at S ⊢
    have o9 := S.get
    have o6 := S.mem (i := i6) (o := .cells z104_1a18) (by simp)
    have T := S.setAt (.cells (eRw (⟨h, I, -1, 0, 0, 0, false⟩, .some, W))) 1 rfl
    have hst : storeS st3 104 (.ptr (some (i6, 0))) (.agg (eRw (⟨h, I, -1, 0, 0, 0, false⟩, .some, W))) = some (st3.upd i6 (.cells (eRw (⟨h, I, -1, 0, 0, 0, false⟩, .some, W)))) := by
      simp [storeS, o6, eRw_len, spl_z104]
    simp [St.seg, o9, xsegAll, hst]
    exact ⟨T.was' (by simp), rfl⟩
/-- A row, or nothing. -/
def rwd (l : List Rw) (p : Nat) : Rw := (l[p]?).getD rw0
theorem rwd_at {l : List Rw} {p : Nat} (h : p < l.length) : rwd l p = l[p] := by simp [rwd, h]
/-- The node that stands behind one. -/
def rwOf (l : List Rw) (h : Hdr) (p : Nat) : Rw := (ndOf (nds l) h p, .some, addB (bitsN 512 (workN ((tgt h.bits).getD 0))) (rwd l p).2.2)
theorem rwOf_ok {l : List Rw} (hO : Okws l) {h : Hdr} {p : Nat} (hp : p < l.length) : Okw (rwOf l h p) := by
  have hm := hO l[p] (List.getElem_mem hp)
  have hpn : p < (nds l).length := by simpa using hp
  have e0 : nd (nds l) p = l[p].1 := by rw [nd_at hpn, nds_get hp]
  have e1 : hgt (nds l) p = l[p].1.height := by rw [hgt_at hpn, nds_get hp]
  have e2 : (ndOf (nds l) h p).height = hgt (nds l) p + 1 := rfl
  refine ⟨?_, ?_⟩
  · show valB (addB _ _) = (ndOf (nds l) h p).work
    rw [addB_val, val_work, rwd_at hp, hm.1, ndOf_work, e0]
  · show (addB _ _).length ≤ 512 + (ndOf (nds l) h p).height
    rw [addB_len, bitsN_len, rwd_at hp, e2, e1]
    have := hm.2
    omega
set_option maxHeartbeats 2000000 in
theorem spec209 (ok : OkRef10 P F) {st : St} {s : V} {l : List Rw} (hr : RdN s l st) (w : Wf (nds l)) (hO : Okws l) (hl : l.length ≤ 16384) (h : Hdr) {t : Nat} (ht : tgt h.bits = some t) {p : Nat} (hp : p < l.length) : ACalls P (F 209) [s, .agg (eHdr h), .int .i64 (p : Nat)] st fun v st' => v = .agg (eRw (rwOf l h p)) ∧ st' = st := by
  have ok5 := ok.toOkRef05
  have ok1 := ok5.toOkRef01
  have ok2 := ok5.toOkRef02
  have hpn : p < (nds l).length := by simpa using hp
  have hgl := w.hgt_le hpn
  have eh : hgt (nds l) p = l[p].1.height := by rw [hgt_at hpn, nds_get hp]
  have hm := hO l[p] (List.getElem_mem hp)
  refine shows_call ok.mixed ok.h209 (by simp [k209]) ?_
  simp only [k209]
  simp
  intro i4 h4
  have S := (Sep.start st).new h4 (.cells (eHdr h))
  generalize st.upd i4 _ = st1 at S ⊢
  simp
  intro i6 h6
  have S := S.new h6 (.cells z104_1a18)
  generalize st1.upd i6 _ = st2 at S ⊢
  have o4 := S.mem (i := i4) (o := .cells (eHdr h)) (by simp)
  simp [St.seg, o4, hsegBits]
  refine (spec146 ok5 st2 h.bits).mono ?_
  rintro v st2 ⟨hT, rfl⟩
  rcases tgtB_cases hT with ⟨ht2, rfl⟩ | ⟨T, k, tb, ht2, rfl, hTv, hTl⟩
  · rw [ht] at ht2; cases ht2
  · rw [ht] at ht2
    have ht2 := Option.some.inj ht2
    simp [St.seg, o4, hsegAll]
    refine ⟨_, spec151 ok5 st2 h, ?_⟩
    simp
    refine ⟨_, spec134 ok1 st2 (hBytes h) (by rw [hBytes_len]; omega), ?_⟩
    simp
    refine ⟨_, spec148 ok5 (rd_slK k tb st2) (by omega) (by rw [hTv, ← ht2]; exact (tgt_lt ht).2), ?_⟩
    rw [hTv, ← ht2]
    have hgd : (tgt h.bits).getD 0 = t := by rw [ht]; rfl
    have hres : rwOf l h p = (⟨h, hId h, (p : Int), (ndOf (nds l) h p).skip, l[p].1.height + 1, (ndOf (nds l) h p).work, false⟩, .some, addB (bitsN 512 (workN t)) l[p].2.2) := by
      unfold rwOf
      rw [hgd, rwd_at hp, ← eh]; rfl
    rw [hres]
    have hWl : (bitsN 512 (workN t)).length = 512 := bitsN_len _ _
    obtain ⟨W, hW⟩ : ∃ W, W = bitsN 512 (workN t) := ⟨_, rfl⟩
    rw [← hW] at hWl ⊢
    have hid : sha2 (hBytes h) = hId h := rfl
    rw [hid]
    obtain ⟨I, hI⟩ : ∃ I, I = hId h := ⟨_, rfl⟩
    rw [← hI]
    simp [build_rw]
    intro i9 h9
    have S := S.new h9 (.cells z104_1a18)
    simp [store104]
    have S := S.setAt (.cells (eRw (⟨h, I, p, 0, 0, 0, false⟩, .some, W))) 0 rfl
    simp at S
    generalize st2.upd i9 _ = st3 at S ⊢
    obtain ⟨r1, r2, r3, r4⟩ := (hr.sub (S.was' (st0 := st) (by simp))).row eRw_len hp
    obtain ⟨f1, f2⟩ := r4 101 1 (by omega)
    rw [rwHgt] at f2
    have w1 : IntKind.i64.wrap ((l[p].1.height : Int) + 1) = ((l[p].1.height + 1 : Nat) : Int) := by rw [wrap64 (by omega) (by omega)]; omega
    obtain ⟨H, hH⟩ : ∃ H, H = l[p].1.height + 1 := ⟨_, rfl⟩
    rw [← hH] at w1 ⊢
    have o9 := S.get
    have hst1 : storeS st3 1 (.ptr (some (i9, 101))) (.int .i64 (H : Int)) = some (st3.upd i9 (.cells (eRw (⟨h, I, p, 0, H, 0, false⟩, .some, W)))) := by
      have := rspl_hgt (⟨h, I, p, 0, 0, 0, false⟩, .some, W) H
      simp [storeS, o9, eRw_len, this]
    simp [r1, f1, f2, w1, hst1]
    have S := S.setAt (.cells (eRw (⟨h, I, p, 0, H, 0, false⟩, .some, W))) 0 rfl
    simp at S
    generalize st3.upd i9 _ = st4 at S ⊢
    have o9 := S.get
    obtain ⟨r1, r2, r3, r4⟩ := (hr.sub (S.was' (st0 := st) (by simp))).row eRw_len hp
    obtain ⟨f1, f2⟩ := r4 102 1 (by omega)
    rw [rwWork] at f2
    have xw := xsegWork (⟨h, I, p, 0, H, 0, false⟩, .some, W)
    simp only at xw
    simp [r1, f1, f2, St.seg, o9, xw]
    refine (spec124 ok2 (rd_slK .some W st4) (rd_slK l[p].2.1 l[p].2.2 st4) (by omega) (by have := hm.2; omega)).mono ?_
    rintro v st4 ⟨rfl, rfl⟩
    obtain ⟨B, hB⟩ : ∃ B, B = addB W l[p].2.2 := ⟨_, rfl⟩
    rw [← hB]
    have hst2 : storeS st4 1 (.ptr (some (i9, 102))) (slB B) = some (st4.upd i9 (.cells (eRw (⟨h, I, p, 0, H, 0, false⟩, .some, B)))) := by
      have := rspl_work (⟨h, I, p, 0, H, 0, false⟩, .some, W) .some B
      have e : slB B = slK_ .some B := rfl
      rw [e]
      simp [storeS, o9, eRw_len, slK_cells, this]
    simp [hst2]
    have S := S.setAt (.cells (eRw (⟨h, I, p, 0, H, 0, false⟩, .some, B))) 0 rfl
    simp at S
    generalize st4.upd i9 _ = st5 at S ⊢
    have o9 := S.get
    have o6 := S.mem (i := i6) (o := .cells z104_1a18) (by simp)
    have T := S.setAt (.cells (eRw (⟨h, I, p, 0, H, 0, false⟩, .some, B))) 1 rfl
    have hst : storeS st5 104 (.ptr (some (i6, 0))) (.agg (eRw (⟨h, I, p, 0, H, 0, false⟩, .some, B))) = some (st5.upd i6 (.cells (eRw (⟨h, I, p, 0, H, 0, false⟩, .some, B)))) := by
      simp [storeS, o6, eRw_len, spl_z104]
    simp [St.seg, o9, xsegAll, hst]
    exact ⟨T.was' (by simp), rfl⟩
/-- New -/
def rwNew (r : Rl) : Rw := (⟨r.gen, hId r.gen, -1, 0, 0, workN ((tgt r.gen.bits).getD 0), false⟩, .some, bitsN 512 (workN ((tgt r.gen.bits).getD 0)))
theorem rwNew_nds (r : Rl) : nds [rwNew r] = newM r := rfl
theorem rwNew_ok (r : Rl) : Okws [rwNew r] := by
  intro x hx
  have : x = rwNew r := by simpa using hx
  subst this
  exact ⟨val_work _, by show (bitsN 512 _).length ≤ _; rw [bitsN_len]; omega⟩
theorem spec210 (ok : OkRef10 P F) (st : St) {r : Rl} (hr : checkM r = 0) : ACalls P (F 210) [.agg (eRl r)] st fun v st' => v = .sl .full (rowsOf eRw [rwNew r]) 1 ∧ st' = st := by
  obtain ⟨hr1, hr2, -⟩ := checkM_ok hr
  obtain ⟨t, ht⟩ : ∃ t, tgt r.gen.bits = some t := by
    cases e : tgt r.gen.bits with
    | none => rw [hr2] at e; exact absurd e hr1
    | some t => exact ⟨t, rfl⟩
  refine shows_call ok.mixed ok.h210 (by simp [k210]) ?_
  simp only [k210]
  simp
  intro i1 h1
  have S := (Sep.start st).new h1 (.cells (eRl r))
  generalize st.upd i1 _ = st1 at S ⊢
  have o1 := S.get
  have hs := S.was' (st0 := st) (by simp)
  simp [St.seg, o1, rsegGen]
  refine (spec209a ok st1 _ r.gen ht).mono ?_
  rintro v st1 ⟨rfl, rfl⟩
  have hgd : (tgt r.gen.bits).getD 0 = t := by rw [ht]; rfl
  have e : (⟨r.gen, hId r.gen, -1, 0, 0, workN t, false⟩, .some, bitsN 512 (workN t)) = rwNew r := by unfold rwNew; rw [hgd]
  rw [e]
  obtain ⟨x, hx⟩ : ∃ x, x = rwNew r := ⟨_, rfl⟩
  rw [← hx]
  have hf : fillV (repV z104_1a18 1) [(0, 104, .agg (eRw x))] = some (eRw x) := by
    have h0 : repV z104_1a18 1 = z104_1a18 := by simp [repV]
    rw [h0]
    simp [fillV, eRw_len, spl_z104]
  simp [hf, hs]
end
end Go.Ab
/-
  tallystickref10: a header comes; one fails.
-/
set_option linter.unusedSimpArgs false
set_option linter.unusedVariables false
set_option maxRecDepth 10000
namespace Go.Ab
open Go Go.RowKit
section
variable {P : Program} {F : Fn}
theorem findI_some {l : List Nd} {id : Id} {i : Nat} (h : findM l id = some i) : findI l id = i := by rw [findI, h]
theorem findI_none {l : List Nd} {id : Id} (h : findM l id = none) : findI l id = -1 := by rw [findI, h]
theorem provedN_bits {h : Hdr} {limit : W32} (e : provedN h limit = 0) : ∃ t, tgt h.bits = some t := by
  unfold provedN at e
  cases h1 : tgt h.bits with
  | none => rw [h1] at e; simp at e
  | some t => exact ⟨t, rfl⟩
/-- The slice as it was, or another one beside all there was. -/
def NewOr (s : V) (l : List Rw) (s' : V) (l' : List Rw) (st st' : St) : Prop := (s' = s ∧ l' = l ∧ St.sub st st') ∨ Sep [RdN s' l', Was st] st'
theorem Sep.over {A : Asn} {L : List Asn} {st st' : St} (h : Sep [A, Was st] st') (S : Sep L st) : Sep (A :: L) st' := by
  obtain ⟨a, r, h1, h2, h3, h4⟩ := h
  exact ⟨a, r, h1, h2, h3, S.sub (Sep.was h4)⟩
theorem NewOr.over {s s' : V} {l l' : List Rw} {st st' : St} {L : List Asn} (h : NewOr s l s' l' st st') (S : Sep (RdN s l :: L) st) : Sep (RdN s' l' :: L) st' := by
  rcases h with ⟨rfl, rfl, h⟩ | h
  · exact S.sub h
  · exact h.over S.drop
/-- What comes of adding. -/
def AddR (r : Rl) (s : V) (l : List Rw) (x : Hdr) (now : Int) (st : St) (v : V) (st' : St) : Prop :=
  ∃ s' l', v = .tup [s', .int .i64 (addM r (nds l) x now).2.1, .int .i64 (addM r (nds l) x now).2.2] ∧ NewOr s l s' l' st st' ∧ nds l' = (addM r (nds l) x now).1 ∧ Okws l'
set_option maxHeartbeats 4000000 in
theorem spec215 (ok : OkRef10 P F) {st : St} {s : V} {l : List Rw} (hr : RdN s l st) (w : Wf (nds l)) (hO : Okws l) (hl : l.length ≤ 16000) {r : Rl} (hc : checkM r = 0) (x : Hdr) (now : Int) :
    ACalls P (F 215) [.agg (eRl r), s, .agg (eHdr x), .int .i64 now] st (AddR r s l x now st) := by
  have ok5 := ok.toOkRef05
  have ok1 := ok5.toOkRef01
  refine shows_call ok.mixed ok.h215 (by simp [k215]) ?_
  simp only [k215]
  simp
  intro i4 h4
  have S := (Sep.start st).new h4 (.cells (eRl r))
  generalize st.upd i4 _ = st1 at S ⊢
  intro i6 h6
  have S := S.new h6 (.cells (eHdr x))
  generalize st1.upd i6 _ = st2 at S ⊢
  have o6 := S.get
  simp [St.seg, o6, hsegAll]
  refine (spec151 ok5 st2 x).mono ?_
  rintro v st2 ⟨rfl, rfl⟩
  simp
  refine (spec134 ok1 st2 (hBytes x) (by rw [hBytes_len]; omega)).mono ?_
  rintro v st2 ⟨rfl, rfl⟩
  have hid : sha2 (hBytes x) = hId x := rfl
  rw [hid]
  obtain ⟨I, hI⟩ : ∃ I, I = hId x := ⟨_, rfl⟩
  rw [← hI]
  simp
  intro i11 h11
  have S := S.new h11 (.cells zR32_w80)
  have hst := store_z32 S.get I
  have S := S.setAt (.cells (eId I)) 0 rfl
  simp at S
  simp [hst]
  generalize st2.upd i11 (.cells (eId I)) = st3 at S ⊢
  have hs := S.was' (st0 := st) (by simp)
  have hr3 := hr.sub hs
  have o11 := S.get
  have o6 := S.mem (i := i6) (o := .cells (eHdr x)) (by simp)
  have o4 := S.mem (i := i4) (o := .cells (eRl r)) (by simp)
  have stay : ∀ (i e : Int), addM r (nds l) x now = (nds l, i, e) → AddR r s l x now st (.tup [s, .int .i64 i, .int .i64 e]) st3 := fun i e h => ⟨s, l, by rw [h], .inl ⟨rfl, rfl, hs⟩, by rw [h], hO⟩
  have fin : ∀ v, AddR r s l x now st v st3 → ∃ s', St.sub s' st3 ∧ AddR r s l x now st v s' := fun v h => ⟨st3, St.sub_refl _, h⟩
  simp [St.seg, o11, segId0]
  refine (spec211 ok hr3 (by omega) I).mono ?_
  rintro v st3 ⟨rfl, rfl⟩
  cases h1 : findM (nds l) I with
  | some i =>
    have e := addM_twice (r := r) (now := now) (by rw [← hI]; exact h1)
    have h0 : (0 : Int) ≤ (i : Int) := by omega
    rw [findI_some h1]
    simp [h0, St.seg, o11, segId0]
    refine (spec211 ok hr3 (by omega) I).mono ?_
    rintro v st3 ⟨rfl, rfl⟩
    rw [findI_some h1]
    simp
    exact fin _ (stay _ _ e)
  | none =>
    rw [findI_none h1]
    have e1 : findM (nds l) (hId x) = none := by rw [← hI]; exact h1
    have xp := hsegPrev x
    simp [St.seg, o6, xp]
    refine (spec211 ok hr3 (by omega) x.prev).mono ?_
    rintro v st3 ⟨rfl, rfl⟩
    cases h2 : findM (nds l) x.prev with
    | none =>
      have e : addM r (nds l) x now = (nds l, -1, 100) := by simp only [addM, e1, h2]
      rw [findI_none h2]
      simp
      exact fin _ (stay _ _ e)
    | some p =>
      rw [findI_some h2]
      have hpn := findM_lt h2
      have hp : p < l.length := by simpa using hpn
      have hp0 : ¬ ((p : Int) < 0) := by omega
      have hne : (nds l).length ≠ 16384 := by simp; omega
      have bad : ∀ e : Int, fitsM r (nds l) x p now = e → e ≠ 0 → addM r (nds l) x now = (nds l, -1, e) := fun e h he => by
        simp only [addM, e1, h2, h, if_pos he]
      have hlim : ¬ ((p : Int) < 0 ∨ ((nds l).length : Int) ≤ (p : Int)) := by omega
      have hfit : fitsM r (nds l) x p now = if provedN x r.limit ≠ 0 then provedN x r.limit else if (nd (nds l) p).failed = true then 101 else if x.bits ≠ nextM r (nds l) p then 30 else if x.time ≤ medianM (nds l) p then 102 else if now < (x.time.toNat : Int) - 7200 then 103 else 0 := by
        unfold fitsM
        rw [if_neg hlim, Int.toNat_natCast]
      simp [hp0, St.seg, o6, hsegAll, o4, rsegLimit]
      refine (spec153 ok5 st3 x r.limit).mono ?_
      rintro v st3 ⟨rfl, rfl⟩
      obtain ⟨E, hE⟩ : ∃ E, E = provedN x r.limit := ⟨_, rfl⟩
      rw [← hE] at hfit ⊢
      by_cases c1 : E = 0
      · rw [if_neg (by simp [c1])] at hfit
        have c1b : (E != 0) = false := by simp [c1]
        obtain ⟨r1, r2, r3, r4⟩ := hr3.row eRw_len hp
        obtain ⟨f1, f2⟩ := r4 103 1 (by omega)
        rw [rwFail] at f2
        have e0 : nd (nds l) p = l[p].1 := by rw [nd_at hpn, nds_get hp]
        rw [e0] at hfit
        simp [c1b, r1, f1, f2]
        cases c2 : l[p].1.failed with
        | true =>
          rw [c2, if_pos rfl] at hfit
          simp
          exact fin _ (stay _ _ (bad _ hfit (by omega)))
        | false =>
          rw [c2, if_neg (by simp)] at hfit
          simp [St.seg, o6, o4, hsegBits, rsegAll]
          refine ⟨_, spec214 ok hr3 w (by omega) hc hp, ?_⟩
          by_cases c3 : x.bits = nextM r (nds l) p
          · rw [if_neg (by simp [c3])] at hfit
            have c3b : (x.bits != nextM r (nds l) p) = false := by simp [c3]
            simp [c3b, St.seg, o6, hsegTime]
            refine ⟨_, spec213 ok hr3 w (by omega) hp, ?_⟩
            by_cases c4 : x.time ≤ medianM (nds l) p
            · rw [if_pos c4] at hfit
              simp [c4]
              exact fin _ (stay _ _ (bad _ hfit (by omega)))
            · rw [if_neg c4] at hfit
              have hxt := x.time.isLt
              have w1 : IntKind.i64.wrap ((x.time.toNat : Int) - 7200) = (x.time.toNat : Int) - 7200 := wrap64 (by omega) (by omega)
              by_cases c5 : now < (x.time.toNat : Int) - 7200
              · rw [if_pos c5] at hfit
                simp [c4, St.seg, o6, hsegTime, w1, c5]
                exact fin _ (stay _ _ (bad _ hfit (by omega)))
              · rw [if_neg c5] at hfit
                have e := addM_ok e1 h2 hfit hne
                obtain ⟨t, ht⟩ := provedN_bits (hE.symm.trans c1)
                have hlen := hr3.len
                have hel := hr3.elems eRw_len
                have hf0 : fillV (repV z104_1a18 0) [] = some [] := rfl
                simp [Conf, c4, St.seg, o6, hsegTime, w1, c5, hlen, hsegAll, hf0, hel]
                refine app_nil _ _ (.inr rfl) (by omega) (by omega) ?_
                intro i70 h70
                have S := S.new h70 (.cells (rowsOf eRw l))
                generalize st3.upd i70 _ = st4 at S ⊢
                have hs4 := S.was' (st0 := st) (by simp)
                simp
                refine (spec209 ok (hr.sub hs4) w hO (by omega) x ht hp).mono ?_
                rintro v st4 ⟨rfl, rfl⟩
                obtain ⟨z, hz⟩ : ∃ z, z = rwOf l x p := ⟨_, rfl⟩
                rw [← hz]
                have hf : fillV (repV z104_1a18 1) [(0, 104, .agg (eRw z))] = some (eRw z) := by
                  have h0 : repV z104_1a18 1 = z104_1a18 := by simp [repV]
                  rw [h0]
                  simp [fillV, eRw_len, spl_z104]
                have hel2 : ∀ g, elems g 104 (.sl .full (eRw z) 1) = some (eRw z, 1) := fun g => by simp [elems, eRw_len]
                simp [hf, hel2]
                have S : Sep [Sl 104 eRw (.hsl i70 0 104 l.length) l, pt i11 (.cells (eId I)), pt i6 (.cells (eHdr x)), pt i4 (.cells (eRl r)), Was st] st4 := S.head fun g hg => .inr ⟨i70, [], rfl, by rw [List.append_nil]; exact hg, by simp⟩
                refine Sep.app1 eRw_len (by omega) S (a := z) rfl (by omega) ?_
                intro s' st5 S
                simp
                refine ⟨st5, St.sub_refl _, s', l ++ [z], ?_, .inr ((Sep.tail (fun r hr => hr.drop.drop.drop) S).head fun h hh => hh.rd eRw_len), ?_, ?_⟩
                · rw [e]; simp
                · rw [e, nds_append, hz]; rfl
                · intro y hy
                  rcases List.mem_append.1 hy with h | h
                  · exact hO y h
                  · have : y = z := by simpa using h
                    rw [this, hz]
                    exact rwOf_ok hO hp
          · rw [if_pos c3] at hfit
            have c3b : (x.bits != nextM r (nds l) p) = true := by simp [c3]
            simp [c3b]
            exact fin _ (stay _ _ (bad _ hfit (by omega)))
      · rw [if_pos c1] at hfit
        have c1b : (E != 0) = true := by simp [c1]
        simp [c1b]
        exact fin _ (stay _ _ (bad _ hfit c1))
end
end Go.Ab
/-
  tallystickref10: one fails, and all behind it.
-/
set_option linter.unusedSimpArgs false
set_option linter.unusedVariables false
set_option maxRecDepth 10000
namespace Go.Ab
open Go Go.RowKit
def rwsTo (l : List Rw) (n : Int) (k : Nat) : List Rw := l.mapIdx fun j x => if decide (j < k) && onB (nds l) n j then ({ x.1 with failed := true }, x.2) else x
section
variable {l : List Rw} {n k : Nat}
@[simp] theorem rwsTo_len (n : Int) (k : Nat) : (rwsTo l n k).length = l.length := by simp [rwsTo]
theorem rwsTo_get? (n : Int) (k j : Nat) : (rwsTo l n k)[j]? = (l[j]?).map fun x => if decide (j < k) && onB (nds l) n j then ({ x.1 with failed := true }, x.2) else x := by simp [rwsTo]
theorem nds_get? (l : List Rw) (j : Nat) : (nds l)[j]? = (l[j]?).map (·.1) := by simp [nds]
theorem rwsTo_nds (n : Int) (k : Nat) : nds (rwsTo l n k) = failTo (nds l) n k := by
  apply List.ext_getElem?
  intro j
  unfold failTo
  rw [setF_get?, nds_get?, nds_get?, rwsTo_get?]
  cases l[j]? with
  | none => rfl
  | some x =>
    simp only [Option.map_some]
    cases h : (decide (j < k) && onB (nds l) n (j : Int)) <;> simp
theorem rwsTo_zero (n : Int) : rwsTo l n 0 = l := by
  apply List.ext_getElem?
  intro j
  rw [rwsTo_get?]
  cases l[j]? <;> simp
theorem rwsTo_get (hk : k < l.length) : (rwsTo l n k)[k]'(by simpa using hk) = l[k] := by simp [rwsTo]
theorem rwsTo_on (hk : k < l.length) (h : onB (nds l) n k = true) : (rwsTo l n k).set k ({ l[k].1 with failed := true }, l[k].2) = rwsTo l n (k + 1) := by
  apply List.ext_getElem?
  intro j
  rw [List.getElem?_set, rwsTo_get?, rwsTo_get?]
  by_cases e : k = j
  · subst e
    simp [hk, h]
  · have : decide (j < k + 1) = decide (j < k) := by
      rw [decide_eq_decide]; omega
    simp only [e, if_false, this]
theorem rwsTo_off (hk : k < l.length) (h : onB (nds l) n k = false ∨ l[k].1.failed = true) : rwsTo l n (k + 1) = rwsTo l n k := by
  apply List.ext_getElem?
  intro j
  rw [rwsTo_get?, rwsTo_get?]
  by_cases e : j = k
  · subst e
    rw [List.getElem?_eq_getElem hk]
    rcases h with h | h
    · simp [h]
    · simp only [Option.map_some]
      have : ({ l[j].1 with failed := true }, l[j].2) = l[j] := by
        rcases hx : l[j] with ⟨x, q⟩
        rw [hx] at h
        cases x
        simp at h
        rw [h]
      rw [this]
      simp
  · have : decide (j < k + 1) = decide (j < k) := by
      rw [decide_eq_decide]; omega
    rw [this]
theorem rwsTo_ok (hO : Okws l) (n : Int) (k : Nat) : Okws (rwsTo l n k) := by
  intro y hy
  obtain ⟨j, hj, rfl⟩ := List.mem_iff_getElem.1 hy
  have hj' : j < l.length := by simpa using hj
  have := hO l[j] (List.getElem_mem hj')
  simp only [rwsTo, List.getElem_mapIdx]
  split
  · exact this
  · exact this
theorem failTo_all (l : List Nd) (n : Int) : failTo l n l.length = setF (fun k => onB l n (k : Nat)) l := by
  apply List.ext_getElem?
  intro j
  unfold failTo
  rw [setF_get?, setF_get?]
  by_cases h : j < l.length
  · simp [h]
  · rw [List.getElem?_eq_none (by omega)]; rfl
theorem failM_in {l : List Nd} {n : Nat} (h1 : 1 ≤ n) (h2 : n < l.length) : failM l n = (failTo l n l.length, failN l n l.length) := by
  unfold failM
  rw [if_neg (by omega), failTo_all]; rfl
end
section
variable {P : Program} {F : Fn}
/-- What comes of failing. -/
def FailR (s : V) (l : List Rw) (i : Int) (st : St) (v : V) (st' : St) : Prop :=
  ∃ s' l', v = .tup [s', .int .i64 ((failM (nds l) i).2 : Nat)] ∧ NewOr s l s' l' st st' ∧ nds l' = (failM (nds l) i).1 ∧ Okws l'
theorem rdN_obj {oid : Nat} {l : List Rw} {h : St} {n : Nat} (hn : n = l.length) (hh : h oid = some (.cells (rowsOf eRw l))) : RdN (.hsl oid 0 104 n) l h := by
  subst hn
  refine .inr ⟨oid, 0, rfl, ?_⟩
  have hrow := rowsOf_length eRw_len l
  simp only [St.seg, hh, segOf]
  rw [if_pos (by rw [hrow]; omega), List.drop_zero, ← hrow, List.take_length]
set_option maxHeartbeats 4000000 in
theorem spec216 (ok : OkRef10 P F) {st : St} {s : V} {l : List Rw} (hr : RdN s l st) (w : Wf (nds l)) (hO : Okws l) (hl : l.length ≤ 16000) (i : Int) :
    ACalls P (F 216) [s, .int .i64 i] st (FailR s l i st) := by
  refine shows_call ok.mixed ok.h216 (by simp [k216]) ?_
  simp only [k216]
  have hlen := hr.len
  have hel := hr.elems eRw_len
  have hf0 : fillV (repV z104_1a18 0) [] = some [] := rfl
  have hne : l ≠ [] := by
    have := w.ne
    rintro rfl
    simp at this
  have hlp := List.length_pos_iff.2 hne
  simp [hf0, hel]
  refine app_nil _ _ (.inr rfl) (by omega) (by omega) ?_
  intro oid hoid
  have S := (Sep.start st).new hoid (.cells (rowsOf eRw l))
  generalize st.upd oid _ = st1 at S ⊢
  simp
  by_cases hin : 1 ≤ i ∧ i < (l.length : Int)
  · obtain ⟨n, rfl⟩ : ∃ n : Nat, i = n := ⟨i.toNat, by omega⟩
    have hn1 : 1 ≤ n := by omega
    have hn : n < l.length := by omega
    have hnn : n < (nds l).length := by simpa using hn
    have eM := failM_in (l := nds l) hn1 hnn
    have S : Sep [pt oid (.cells (rowsOf eRw (rwsTo l n 0))), Was st] st1 := by rw [rwsTo_zero]; exact S
    refine vc_loopJ (fun c env' st' => ∃ k, k ≤ l.length ∧ c = l.length - k ∧ env' 8 = .int .i64 (k : Nat) ∧ env' 7 = .int .i64 (failN (nds l) n k : Nat) ∧ Sep [pt oid (.cells (rowsOf eRw (rwsTo l n k))), Was st] st') l.length
      ⟨0, by omega, by omega, by simp, by simp [failN], S⟩ ?_
    clear S
    rintro J hJ c env' st2 hsame ⟨k, hk, rfl, h8, h7, S⟩
    have g0 := (hsame.get 0 rfl).trans (by simp : _ = s)
    have g1 := (hsame.get 1 rfl).trans (by simp : _ = V.int .i64 (n : Int))
    have g6 := (hsame.get 6 rfl).trans (by simp : _ = V.hsl oid 0 104 l.length)
    clear hsame
    have hsub := S.was' (st0 := st) (by simp)
    have hr2 := hr.sub hsub
    by_cases hlt : k < l.length
    · have hkn : k < (nds l).length := by simpa using hlt
      obtain ⟨r1, r2, r3, r4⟩ := hr2.row eRw_len hn
      obtain ⟨f1, f2⟩ := r4 101 1 (by omega)
      obtain ⟨q1, q2, q3, q4⟩ := hr2.row eRw_len hlt
      obtain ⟨f3, f4⟩ := q4 103 1 (by omega)
      rw [rwHgt] at f2
      rw [rwFail] at f4
      have eh : hgt (nds l) n = l[n].1.height := by rw [hgt_at hnn, nds_get hn]
      rw [← eh] at f2
      have hon : onB (nds l) n k = (ancI (nds l) k (hgt (nds l) n) == (n : Int)) := by
        have h0 : decide ((0 : Int) ≤ (n : Int)) = true := by simp
        have h1 : decide ((n : Int) < ((nds l).length : Int)) = true := by simp; omega
        rw [onB, h0, h1]; rfl
      have hsucc := failN_succ (n := n) hkn
      rw [nds_get hlt] at hsucc
      have hle := failN_le (nds l) n k
      have w8' : IntKind.i64.wrap ((k : Int) + 1) = (k : Int) + 1 := wrap64 (by omega) (by omega)
      have w7 : IntKind.i64.wrap ((failN (nds l) n k : Int) + 1) = (failN (nds l) n k : Int) + 1 := wrap64 (by omega) (by omega)
      have hn1' : (1 : Int) ≤ n := by omega
      simp [g0, g1, h8, hlen, hlt, hn1', hn, r1, f1, f2, q1, f3, f4]
      refine (spec212 ok hr2 w (by omega) k (hgt (nds l) n)).mono ?_
      rintro v st2 ⟨rfl, rfl⟩
      have off : (onB (nds l) n k = false ∨ l[k].1.failed = true) → rwsTo l n (k + 1) = rwsTo l n k ∧ failN (nds l) n (k + 1) = failN (nds l) n k := fun h => by
        refine ⟨rwsTo_off hlt h, ?_⟩
        rw [hsucc]
        rcases h with h | h <;> simp [h]
      have hon := hon.symm
      have next : ∀ (env : Env), env 8 = .int .i64 ((k + 1 : Nat) : Int) → env 7 = env' 7 → (onB (nds l) n k = false ∨ l[k].1.failed = true) → Round J (l.length - k) env st2 := fun env h1 h2 h => by
        obtain ⟨e1, e2⟩ := off h
        exact Round.mk (l.length - (k + 1)) _ (by omega) (sub_self _) (hJ _ _ _ ⟨k + 1, by omega, rfl, h1, by rw [h2, h7, e2], by rw [e1]; exact S⟩)
      cases hb : onB (nds l) n k with
      | false =>
        rw [hb] at hon
        simp [g1, hon, h8, w8']
        exact next _ (by simp) (by simp) (.inl hb)
      | true =>
        rw [hb] at hon
        cases hf : l[k].1.failed with
        | true =>
          rw [hf] at f4
          simp [g1, hon, q1, f3, f4, h8, w8', g0]
          exact next _ (by simp) (by simp) (.inr hf)
        | false =>
          rw [hf] at f4
          have hsu : failN (nds l) n (k + 1) = failN (nds l) n k + 1 := by rw [hsucc]; simp [hb, hf]
          have hkl : k < (rwsTo l n k).length := by simpa using hlt
          have hrow := rowsOf_length eRw_len (rwsTo l n k)
          have hsp := rowsOf_splice eRw_len (rwsTo l n k) [] hkl (o := 103) (vs := [.bool true]) (by simp) (a := ({ l[k].1 with failed := true }, l[k].2)) (by rw [rwsTo_get hlt, rspl_fail])
          rw [List.append_nil, List.append_nil, rwsTo_on hlt hb] at hsp
          have o6 := S.get
          have hst : storeS st2 1 (.ptr (some (oid, k * 104 + 103))) (.bool true) = some (st2.upd oid (.cells (rowsOf eRw (rwsTo l n (k + 1))))) := by
            simp only [storeS, o6, cells_bool]
            rw [if_pos (by rw [hrow]; simp; omega), hsp]
          have T := S.set (.cells (rowsOf eRw (rwsTo l n (k + 1))))
          simp [g1, hon, q1, f3, f4, h8, h7, w8', w7, g0, g6, hlt, hst]
          exact Round.mk (l.length - (k + 1)) _ (by omega) (sub_self _) (hJ _ _ _ ⟨k + 1, by omega, rfl, by simp, by simp [hsu], T⟩)
    · have : k = l.length := by omega
      subst this
      have hfl : (rwsTo l n l.length).length = l.length := rwsTo_len _ _
      simp [g0, g6, h7, h8, hlen]
      refine ⟨st2, St.sub_refl _, .hsl oid 0 104 l.length, rwsTo l n l.length, ?_, .inr (S.head fun h hh => rdN_obj hfl.symm hh), ?_, rwsTo_ok hO _ _⟩
      · rw [eM, nds_len]
      · rw [eM, rwsTo_nds, nds_len]
  · have eM : failM (nds l) i = (nds l, 0) := by
      unfold failM
      rw [if_pos (by simp; omega)]
    refine vc_loopJ (fun c env' st' => ∃ k, k ≤ l.length ∧ c = l.length - k ∧ env' 8 = .int .i64 (k : Nat) ∧ env' 7 = .int .i64 0 ∧ Sep [pt oid (.cells (rowsOf eRw l)), Was st] st') l.length
      ⟨0, by omega, by omega, by simp, by simp, S⟩ ?_
    clear S
    rintro J hJ c env' st2 hsame ⟨k, hk, rfl, h8, h7, S⟩
    have g0 := (hsame.get 0 rfl).trans (by simp : _ = s)
    have g1 := (hsame.get 1 rfl).trans (by simp : _ = V.int .i64 i)
    have g6 := (hsame.get 6 rfl).trans (by simp : _ = V.hsl oid 0 104 l.length)
    clear hsame
    have hsub := S.was' (st0 := st) (by simp)
    have w8' : IntKind.i64.wrap ((k : Int) + 1) = (k : Int) + 1 := wrap64 (by omega) (by omega)
    by_cases hlt : k < l.length
    · by_cases h1 : 1 ≤ i
      · have h2 : ¬ i < (l.length : Int) := fun h => hin ⟨h1, h⟩
        simp [g0, g1, h8, hlen, hlt, h1, h2, w8']
        exact Round.mk (l.length - (k + 1)) _ (by omega) (sub_self _) (hJ _ _ _ ⟨k + 1, by omega, rfl, by simp, by simp [h7], S⟩)
      · simp [g0, g1, h8, hlen, hlt, h1, w8']
        exact Round.mk (l.length - (k + 1)) _ (by omega) (sub_self _) (hJ _ _ _ ⟨k + 1, by omega, rfl, by simp, by simp [h7], S⟩)
    · have : k = l.length := by omega
      subst this
      simp [g0, g6, h7, h8, hlen]
      exact ⟨st2, St.sub_refl _, .hsl oid 0 104 l.length, l, by rw [eM]; rfl, .inr (S.head fun h hh => rdN_obj rfl hh), by rw [eM], hO⟩
end
end Go.Ab
/-
  The code of functions of the program in the small language.
-/
set_option linter.unusedVariables false
namespace Go.Ab
open Go
-- regions [0, 1]
/- (*tallystick/index.Tree).Rules -/
def k160 (F : Fn) : PF := PF.mk 7 1 [(PR.cell 2 true 74)] (.seq (.ops [(PO.mk (some 2) (.alloc z74_2f53) none)]) (.seq (.ops [(PO.mk (some 3) (.mv (.t 0)) none), (PO.mk (some 4) (.nilck (.t 3)) none), (PO.mk (some 5) (.fldA 0 (.t 4)) none), (PO.mk (some 6) (.load true 74 (.t 5)) none), (PO.mk none (.store 74 (.t 2) (.t 6)) none)]) .ret))
-- regions [0, 1, 2]
/- (*tallystick/index.Tree).Find -/
def k162 (F : Fn) : PF := PF.mk 19 2 [(.t 4), (.t 5)] (.seq (.ops [(PO.mk (some 3) (.box (.t 1)) none), (PO.mk (some 4) (.mv (.k (.int .i64 0))) none), (PO.mk (some 5) (.mv (.k (.bool false))) none)]) (.seq (.draw [(.e, (PO.mk (some 9) (.mv (.t 0)) none)), (.e, (PO.mk (some 10) (.nilck (.t 9)) none)), (.e, (PO.mk (some 11) (.fldA 75 (.t 10)) none)), (.s, (PO.mk (some 12) (.load false 1 (.t 11)) none)), (.s, (PO.mk (some 13) (.load true 32 (.t 3)) none)), (.s, (PO.mk (some 14) (.lookup (.agg 32) (.int .i64 0) true (.t 12) (.t 13)) none)), (.e, (PO.mk (some 8) (.mv (.t 14)) none)), (.e, (PO.mk (some 15) (.ext 0 (.t 8)) none)), (.e, (PO.mk (some 16) (.ext 1 (.t 8)) none)), (.e, (PO.mk (some 6) (.mv (.t 15)) none)), (.e, (PO.mk (some 7) (.mv (.t 16)) none))]) (.seq (.ops [(PO.mk (some 17) (.mv (.t 6)) none), (PO.mk (some 18) (.mv (.t 7)) none), (PO.mk (some 4) (.mv (.t 17)) none), (PO.mk (some 5) (.mv (.t 18)) none)]) .ret)))
structure OkIndexZ (P : Program) (F : Fn) : Prop where
  mixed : P.follows .mixedOrders = true
  toOkIndex : OkIndex P F
  h160 : compFn P ⟨[], [], [], [], []⟩ (F 160) = some (k160 F)
  h162 : compFn P ⟨[], [], [], [], []⟩ (F 162) = some (k162 F)
end Go.Ab
/-
  index: the rules, and which has a name.
-/
set_option linter.unusedSimpArgs false
set_option linter.unusedVariables false
set_option maxRecDepth 10000
namespace Go.Ab
open Go Go.RowKit
section
variable {P : Program} {F : Fn}
/-- Rules -/
theorem spec160 (ok : OkIndexZ P F) {st : St} {tid : Nat} {r : Rl} {l : List Nd} (h : TreeR tid r l st) : ACalls P (F 160) [.ptr (some (tid, 0))] st fun v st' => v = .agg (eRl r) ∧ st' = st := by
  obtain ⟨sid, mid, spare, es, h⟩ := h
  refine shows_call ok.mixed ok.h160 (by simp [k160]) ?_
  simp only [k160]
  simp
  intro i2 h2
  have hz : z74_2f53.length = 74 := rfl
  have hsp : spliceV z74_2f53 0 (eRl r) = eRl r := by simp [spliceV, eRl_len, hz]
  have h' := h.sub (sub_upd (o := .cells z74_2f53) h2)
  have o1 := h'.top
  have hall : segOf (eRl r) 0 74 = some (eRl r) := by
    unfold segOf
    rw [if_pos (by rw [eRl_len]; omega), List.drop_zero, ← eRl_len r, List.take_length]
  have hst : storeS (st.upd i2 (.cells z74_2f53)) 74 (.ptr (some (i2, 0))) (.agg (eRl r)) = some (st.upd i2 (.cells (eRl r))) := by
    simp [storeS, eRl_len, hsp, hz]
  generalize hst1 : st.upd i2 (.cells z74_2f53) = st1 at h' hst o1 ⊢
  have hsub : ∀ x, St.sub st (st.upd i2 (.cells x)) := fun x => sub_upd h2
  simp [St.seg, o1, tree_seg0, hst, hall, hsub]
theorem spec162 (ok : OkIndexZ P F) {st : St} {tid : Nat} {r : Rl} {l : List Nd} (h : TreeR tid r l st) (k : Id) : ACalls P (F 162) [.ptr (some (tid, 0)), .agg (eId k)] st fun v st' => v = .tup [.int .i64 (((findM l k).getD 0 : Nat) : Int), .bool (findM l k).isSome] ∧ st' = st := by
  obtain ⟨sid, mid, spare, es, h⟩ := h
  refine shows_call ok.mixed ok.h162 (by simp [k162]) ?_
  simp only [k162]
  simp
  intro i3 h3
  have S := (Sep.start st).new h3 (.cells (eId k))
  generalize st.upd i3 _ = st1 at S ⊢
  have hs : St.sub st st1 := S.was' (by simp)
  have h := h.sub hs
  have o3 := S.mem (i := i3) (o := .cells (eId k)) (by simp)
  have hk : segOf (eId k) 0 32 = some (eId k) := by
    unfold segOf
    rw [if_pos (by rw [eId_len]; omega), List.drop_zero, ← eId_len k, List.take_length]
  have hl := lookup_lk keyed_id (ev := kInt) h.by_ (.int .i64 0) k
  rw [h.look] at hl
  simp only [kId] at hl
  simp [St.seg, h.top, tree_seg75, o3, hk, hl]
  cases e : findM l k <;> simp [kInt, hs]
end
end Go.Ab

import Derived.Test.YtgodabkifdmfcaaGreatJ4
import Derived.Test.YtgodabkifdmfcaaGreatJ9
import Derived.Deep.Slices
import Derived.OpenShut
/-
  The code of functions of the program in the small language.
-/
set_option linter.unusedVariables false
namespace Go.Ab
open Go
-- regions [0, 1, 2, 3, 4, 5, 6, 7, 8, 9, 10, 11]
/- tallystick/tallysticklaw10.header -/
def k217 (F : Fn) : PF := PF.mk 66 2 [(PR.cell 4 true 68)] (.seq (.ops [(PO.mk (some 3) (.box (.t 1)) none), (PO.mk (some 4) (.alloc z68_39b1) none)]) (.seq (.seq (.ops [(PO.mk (some 10) (.fldA 6 (.t 3)) none), (PO.mk (some 11) (.load false 1 (.t 10)) none)]) (.cond (.t 11) (.seq (.ops [(PO.mk (some 12) (.fldA 7 (.t 3)) none), (PO.mk (some 13) (.load true 68 (.t 12)) none), (PO.mk none (.store 68 (.t 4) (.t 13)) none)]) .ret) .skip)) (.seq (.draw [(.e, (PO.mk (some 14) (.fldA 1 (.t 3)) none)), (.e, (PO.mk (some 16) (.mv (.t 0)) none)), (.s, (PO.mk (some 15) (.load false 1 (.t 14)) none)), (.s, (PO.mk (some 17) (.call (F 159) [(.t 16)]) none)), (.e, (PO.mk (some 18) (.bin .sub (.t 17) (.k (.int .i64 1))) none)), (.e, (PO.mk (some 19) (.min [(.t 15), (.t 18)]) none)), (.e, (PO.mk (some 20) (.max [(.k (.int .i64 0)), (.t 19)]) none)), (.e, (PO.mk (some 5) (.mv (.t 20)) none))]) (.seq (.ops [(PO.mk (some 21) (.mv (.t 0)) none), (PO.mk (some 22) (.mv (.t 5)) none), (PO.mk (some 23) (.call (F 161) [(.t 21), (.t 22)]) none), (PO.mk (some 6) (.alloc z108_9b14) none), (PO.mk none (.store 108 (.t 6) (.t 23)) none)]) (.seq (.draw [(.e, (PO.mk (some 24) (.fldA 7 (.t 3)) none)), (.e, (PO.mk (some 25) (.fldA 0 (.t 24)) none)), (.e, (PO.mk (some 27) (.fldA 68 (.t 6)) none)), (.e, (PO.mk (some 29) (.fldA 7 (.t 3)) none)), (.e, (PO.mk (some 30) (.fldA 33 (.t 29)) none)), (.e, (PO.mk (some 32) (.fldA 0 (.t 6)) none)), (.e, (PO.mk (some 33) (.fldA 65 (.t 32)) none)), (.e, (PO.mk (some 35) (.fldA 2 (.t 3)) none)), (.e, (PO.mk (some 39) (.mv (.t 0)) none)), (.e, (PO.mk (some 40) (.mv (.t 5)) none)), (.e, (PO.mk (some 42) (.fldA 7 (.t 3)) none)), (.e, (PO.mk (some 43) (.fldA 67 (.t 42)) none)), (.s, (PO.mk (some 26) (.load false 1 (.t 25)) none)), (.s, (PO.mk (some 28) (.load true 32 (.t 27)) none)), (.s, (PO.mk (some 31) (.load true 32 (.t 30)) none)), (.s, (PO.mk (some 34) (.load false 1 (.t 33)) none)), (.s, (PO.mk (some 36) (.load false 1 (.t 35)) none)), (.e, (PO.mk (some 37) (.conv .u32 (.t 36)) none)), (.e, (PO.mk (some 38) (.bin .add (.t 34) (.t 37)) none)), (.s, (PO.mk (some 41) (.call (F 167) [(.t 39), (.t 40)]) none)), (.s, (PO.mk (some 44) (.load false 1 (.t 43)) none)), (.e, (PO.mk (some 45) (.build z68_39b1 [(0, (1, (.t 26))), (1, (32, (.t 28))), (33, (32, (.t 31))), (65, (1, (.t 38))), (66, (1, (.t 41))), (67, (1, (.t 44)))]) none)), (.a, (PO.mk (some 7) (.alloc z68_39b1) none)), (.x, (PO.mk none (.store 68 (.t 7) (.t 45)) none))]) (.seq (.seq (.ops [(PO.mk (some 46) (.fldA 5 (.t 3)) none), (PO.mk (some 47) (.load false 1 (.t 46)) none), (PO.mk (some 48) (.bin .neq (.t 47) (.k (w32 0))) none)]) (.cond (.t 48) (.ops [(PO.mk (some 49) (.fldA 5 (.t 3)) none), (PO.mk (some 50) (.load false 1 (.t 49)) none), (PO.mk (some 51) (.fldA 66 (.t 7)) none), (PO.mk none (.store 1 (.t 51) (.t 50)) none)]) .skip)) (.seq (.seq (.draw [(.e, (PO.mk (some 54) (.mv (.t 0)) none)), (.e, (PO.mk (some 57) (.fldA 3 (.t 3)) none)), (.s, (PO.mk (some 53) (.load true 68 (.t 7)) none)), (.s, (PO.mk (some 55) (.call (F 160) [(.t 54)]) none)), (.e, (PO.mk (some 56) (.fld false 0 1 (.t 55)) none)), (.s, (PO.mk (some 58) (.load false 1 (.t 57)) none)), (.e, (PO.mk (some 59) (.min [(.t 58), (.k (.int .i64 40))]) none)), (.s, (PO.mk (some 60) (.call (F 143) [(.t 53), (.t 56), (.t 59)]) none)), (.e, (PO.mk (some 52) (.mv (.t 60)) none)), (.e, (PO.mk (some 61) (.ext 0 (.t 52)) none)), (.e, (PO.mk (some 62) (.ext 1 (.t 52)) none)), (.a, (PO.mk (some 8) (.alloc z68_39b1) none)), (.x, (PO.mk none (.store 68 (.t 8) (.t 61)) none)), (.e, (PO.mk (some 9) (.mv (.t 62)) none))]) (.seq (.ops [(PO.mk (some 63) (.mv (.t 9)) none)]) (.cond (.t 63) (.seq (.ops [(PO.mk (some 64) (.load true 68 (.t 8)) none), (PO.mk none (.store 68 (.t 4) (.t 64)) none)]) .ret) .skip))) (.seq (.ops [(PO.mk (some 65) (.load true 68 (.t 7)) none), (PO.mk none (.store 68 (.t 4) (.t 65)) none)]) .ret))))))))
-- regions [0, 1, 2, 3, 4, 5, 6, 7, 8, 9, 10, 11, 12]
/- tallystick/tallysticklaw10.like -/
def k218 (F : Fn) : PF := PF.mk 92 2 [(.t 4)] (.seq (.ops [(PO.mk (some 4) (.mv (.k (.bool false))) none)]) (.seq (.seq (.ops [(PO.mk (some 12) (.mv (.t 0)) none), (PO.mk (some 13) (.call (F 159) [(.t 12)]) none), (PO.mk (some 14) (.mv (.t 1)) none), (PO.mk (some 15) (.lenSl (.t 14)) none), (PO.mk (some 16) (.bin .neq (.t 13) (.t 15)) none)]) (.cond (.t 16) (.seq (.ops [(PO.mk (some 4) (.mv (.k (.bool false))) none)]) .ret) .skip)) (.seq (.seq (.ops [(PO.mk (some 17) (.mv (.t 1)) none), (PO.mk (some 18) (.lenSl (.t 17)) none), (PO.mk (some 19) (.mv (.k (.int .i64 0))) none)]) (.block 0 (.loop (.seq (.ops [(PO.mk (some 20) (.bin .lss (.t 19) (.t 18)) none)]) (.seq (.cond (.t 20) .skip (.exit 0)) (.seq (.block 1 (.seq (.ops [(PO.mk (some 21) (.mv (.t 19)) none), (PO.mk (some 22) (.idxSl 104 (.t 17) (.t 19)) none), (PO.mk (some 23) (.load true 104 (.t 22)) none), (PO.mk (some 6) (.alloc z104_1a18) none), (PO.mk (some 5) (.mv (.t 21)) none), (PO.mk none (.store 104 (.t 6) (.t 23)) none)]) (.seq (.ops [(PO.mk (some 24) (.mv (.t 0)) none), (PO.mk (some 25) (.mv (.t 5)) none), (PO.mk (some 26) (.call (F 161) [(.t 24), (.t 25)]) none), (PO.mk (some 7) (.alloc z108_9b14) none), (PO.mk none (.store 108 (.t 7) (.t 26)) none)]) (.seq (.ops [(PO.mk (some 28) (.fldA 102 (.t 6)) none), (PO.mk (some 29) (.load false 1 (.t 28)) none), (PO.mk (some 30) (.call (F 122) [(.t 29)]) none), (PO.mk (some 27) (.mv (.t 30)) none), (PO.mk (some 31) (.ext 0 (.t 27)) none), (PO.mk (some 32) (.ext 1 (.t 27)) none), (PO.mk (some 8) (.alloc [(w64 0), (w64 0), (w64 0), (w64 0)]) none), (PO.mk none (.store 4 (.t 8) (.t 31)) none), (PO.mk (some 9) (.mv (.t 32)) none)]) (.seq (.ops [(PO.mk (some 34) (.mv (.t 0)) none), (PO.mk (some 35) (.fldA 68 (.t 7)) none), (PO.mk (some 36) (.load true 32 (.t 35)) none), (PO.mk (some 37) (.call (F 162) [(.t 34), (.t 36)]) none), (PO.mk (some 33) (.mv (.t 37)) none), (PO.mk (some 38) (.ext 0 (.t 33)) none), (PO.mk (some 39) (.ext 1 (.t 33)) none), (PO.mk (some 10) (.mv (.t 38)) none), (PO.mk (some 11) (.mv (.t 39)) none)]) (.seq (.ops [(PO.mk (some 40) (.fldA 0 (.t 7)) none), (PO.mk (some 41) (.load true 68 (.t 40)) none), (PO.mk (some 42) (.fldA 0 (.t 6)) none), (PO.mk (some 43) (.load true 68 (.t 42)) none), (PO.mk (some 44) (.eqa (.agg 68) true (.t 41) (.t 43)) none), (PO.mk (some 45) (.mv (.t 44)) none), (PO.mk (some 46) (.fldA 68 (.t 7)) (some (45, false))), (PO.mk (some 47) (.load true 32 (.t 46)) (some (45, false))), (PO.mk (some 48) (.fldA 68 (.t 6)) (some (45, false))), (PO.mk (some 49) (.load true 32 (.t 48)) (some (45, false))), (PO.mk (some 50) (.eqa (.agg 32) true (.t 47) (.t 49)) (some (45, false))), (PO.mk (some 51) (.pick (.t 45) (.k (.bool true)) (.t 50)) none), (PO.mk (some 52) (.mv (.t 51)) none), (PO.mk (some 53) (.fldA 100 (.t 7)) (some (52, false))), (PO.mk (some 54) (.load false 1 (.t 53)) (some (52, false))), (PO.mk (some 55) (.fldA 100 (.t 6)) (some (52, false))), (PO.mk (some 56) (.load false 1 (.t 55)) (some (52, false))), (PO.mk (some 57) (.bin .neq (.t 54) (.t 56)) (some (52, false))), (PO.mk (some 58) (.pick (.t 52) (.k (.bool true)) (.t 57)) none), (PO.mk (some 59) (.mv (.t 58)) none), (PO.mk (some 60) (.fldA 102 (.t 7)) (some (59, false))), (PO.mk (some 61) (.load false 1 (.t 60)) (some (59, false))), (PO.mk (some 62) (.fldA 101 (.t 6)) (some (59, false))), (PO.mk (some 63) (.load false 1 (.t 62)) (some (59, false))), (PO.mk (some 64) (.bin .neq (.t 61) (.t 63)) (some (59, false))), (PO.mk (some 65) (.pick (.t 59) (.k (.bool true)) (.t 64)) none), (PO.mk (some 66) (.mv (.t 65)) none), (PO.mk (some 67) (.fldA 107 (.t 7)) (some (66, false))), (PO.mk (some 68) (.load false 1 (.t 67)) (some (66, false))), (PO.mk (some 69) (.fldA 103 (.t 6)) (some (66, false))), (PO.mk (some 70) (.load false 1 (.t 69)) (some (66, false))), (PO.mk (some 71) (.eqa .bool true (.t 68) (.t 70)) (some (66, false))), (PO.mk (some 72) (.pick (.t 66) (.k (.bool true)) (.t 71)) none), (PO.mk (some 73) (.mv (.t 72)) none), (PO.mk (some 74) (.fldA 103 (.t 7)) (some (73, false))), (PO.mk (some 75) (.load true 4 (.t 74)) (some (73, false))), (PO.mk (some 76) (.load true 4 (.t 8)) (some (73, false))), (PO.mk (some 77) (.eqa (.agg 4) true (.t 75) (.t 76)) (some (73, false))), (PO.mk (some 78) (.pick (.t 73) (.k (.bool true)) (.t 77)) none), (PO.mk (some 79) (.mv (.t 78)) none), (PO.mk (some 80) (.mv (.t 11)) (some (79, false))), (PO.mk (some 81) (.not (.t 80)) (some (79, false))), (PO.mk (some 82) (.pick (.t 79) (.k (.bool true)) (.t 81)) none), (PO.mk (some 83) (.mv (.t 82)) none), (PO.mk (some 84) (.mv (.t 10)) (some (83, false))), (PO.mk (some 85) (.mv (.t 1)) (some (83, false))), (PO.mk (some 86) (.fldA 68 (.t 6)) (some (83, false))), (PO.mk (some 87) (.load true 32 (.t 86)) (some (83, false))), (PO.mk (some 88) (.call (F 211) [(.t 85), (.t 87)]) (some (83, false))), (PO.mk (some 89) (.bin .neq (.t 84) (.t 88)) (some (83, false))), (PO.mk (some 90) (.pick (.t 83) (.k (.bool true)) (.t 89)) none)]) (.cond (.t 90) (.seq (.ops [(PO.mk (some 4) (.mv (.k (.bool false))) none)]) .ret) .skip))))))) (.ops [(PO.mk (some 91) (.bin .add (.t 19) (.k (.int .i64 1))) none), (PO.mk (some 19) (.mv (.t 91)) none)]))))))) (.seq (.ops [(PO.mk (some 4) (.mv (.k (.bool true))) none)]) .ret))))
-- regions [0, 1, 2, 3, 4, 5, 6, 7, 8, 9, 10, 11, 12, 13, 14, 15, 16, 17, 18, 19, 20, 21, 22, 23, 24]
/- tallystick/tallysticklaw10.play -/
def k219 (F : Fn) : PF := PF.mk 106 2 [(.t 4), (.t 5), (.t 6)] (.seq (.ops [(PO.mk (some 2) (.box (.t 0)) none), (PO.mk (some 4) (.mv (.k (.ptr none))) none), (PO.mk (some 5) (.mv (.k (.sl .nil [] 0))) none), (PO.mk (some 6) (.mv (.k (.bool false))) none)]) (.seq (.ops [(PO.mk (some 21) (.load true 74 (.t 2)) none), (PO.mk (some 22) (.call (F 155) [(.t 21)]) none), (PO.mk (some 20) (.mv (.t 22)) none), (PO.mk (some 23) (.ext 0 (.t 20)) none), (PO.mk (some 24) (.ext 1 (.t 20)) none), (PO.mk (some 7) (.mv (.t 23)) none), (PO.mk (some 8) (.mv (.t 24)) none)]) (.seq (.seq (.ops [(PO.mk (some 25) (.load true 74 (.t 2)) none), (PO.mk (some 26) (.call (F 208) [(.t 25)]) none), (PO.mk (some 9) (.mv (.t 26)) none)]) (.seq (.ops [(PO.mk (some 27) (.mv (.t 9)) none), (PO.mk (some 28) (.bin .neq (.t 27) (.k (.int .i64 0))) none)]) (.cond (.t 28) (.seq (.ops [(PO.mk (some 29) (.mv (.t 7)) none), (PO.mk (some 30) (.eqa .ptr false (.t 29) (.k (.ptr none))) none), (PO.mk (some 31) (.mv (.t 30)) none), (PO.mk (some 32) (.mv (.t 8)) (some (31, true))), (PO.mk (some 33) (.mv (.t 9)) (some (31, true))), (PO.mk (some 34) (.bin .eql (.t 32) (.t 33)) (some (31, true))), (PO.mk (some 35) (.pick (.t 31) (.t 34) (.k (.bool false))) none), (PO.mk (some 4) (.mv (.k (.ptr none))) none), (PO.mk (some 5) (.mv (.k (.sl .nil [] 0))) none), (PO.mk (some 6) (.mv (.t 35)) none)]) .ret) .skip))) (.seq (.seq (.ops [(PO.mk (some 36) (.mv (.t 7)) none), (PO.mk (some 37) (.eqa .ptr false (.t 36) (.k (.ptr none))) none), (PO.mk (some 38) (.mv (.t 37)) none), (PO.mk (some 39) (.mv (.t 8)) (some (38, false))), (PO.mk (some 40) (.bin .neq (.t 39) (.k (.int .i64 0))) (some (38, false))), (PO.mk (some 41) (.pick (.t 38) (.k (.bool true)) (.t 40)) none)]) (.cond (.t 41) (.seq (.ops [(PO.mk (some 4) (.mv (.k (.ptr none))) none), (PO.mk (some 5) (.mv (.k (.sl .nil [] 0))) none), (PO.mk (some 6) (.mv (.k (.bool false))) none)]) .ret) .skip)) (.seq (.ops [(PO.mk (some 42) (.load true 74 (.t 2)) none), (PO.mk (some 43) (.call (F 210) [(.t 42)]) none), (PO.mk (some 10) (.mv (.t 43)) none)]) (.seq (.seq (.ops [(PO.mk (some 44) (.mv (.t 1)) none), (PO.mk (some 45) (.lenSl (.t 44)) none), (PO.mk (some 46) (.mv (.k (.int .i64 0))) none)]) (.block 0 (.loop (.seq (.ops [(PO.mk (some 47) (.bin .lss (.t 46) (.t 45)) none)]) (.seq (.cond (.t 47) .skip (.exit 0)) (.seq (.block 1 (.seq (.ops [(PO.mk (some 48) (.idxSl 75 (.t 44) (.t 46)) none), (PO.mk (some 49) (.load true 75 (.t 48)) none), (PO.mk (some 12) (.alloc z75_1abe) none), (PO.mk none (.store 75 (.t 12) (.t 49)) none)]) (.seq (.seq (.ops [(PO.mk (some 50) (.fldA 0 (.t 12)) none), (PO.mk (some 51) (.load false 1 (.t 50)) none), (PO.mk (some 52) (.bin .eql (.t 51) (.k (.int .i64 1))) none)]) (.cond (.t 52) (.seq (.ops [(PO.mk (some 53) (.mv (.t 7)) none), (PO.mk (some 54) (.fldA 1 (.t 12)) none), (PO.mk (some 55) (.load false 1 (.t 54)) none), (PO.mk (some 56) (.call (F 170) [(.t 53), (.t 55)]) none), (PO.mk (some 13) (.mv (.t 56)) none)]) (.seq (.ops [(PO.mk (some 14) (.mv (.k (.int .i64 0))) none)]) (.seq (.seq (.ops [(PO.mk (some 58) (.mv (.t 10)) none), (PO.mk (some 59) (.fldA 1 (.t 12)) none), (PO.mk (some 60) (.load false 1 (.t 59)) none), (PO.mk (some 61) (.call (F 216) [(.t 58), (.t 60)]) none), (PO.mk (some 57) (.mv (.t 61)) none), (PO.mk (some 62) (.ext 0 (.t 57)) none), (PO.mk (some 63) (.ext 1 (.t 57)) none), (PO.mk (some 10) (.mv (.t 62)) none), (PO.mk (some 14) (.mv (.t 63)) none)]) (.seq (.ops [(PO.mk (some 64) (.mv (.t 13)) none), (PO.mk (some 65) (.mv (.t 14)) none), (PO.mk (some 66) (.bin .neq (.t 64) (.t 65)) none)]) (.cond (.t 66) (.seq (.ops [(PO.mk (some 67) (.mv (.t 7)) none), (PO.mk (some 68) (.mv (.t 10)) none), (PO.mk (some 4) (.mv (.t 67)) none), (PO.mk (some 5) (.mv (.t 68)) none), (PO.mk (some 6) (.mv (.k (.bool false))) none)]) .ret) .skip))) (.exit 1)))) .skip)) (.seq (.ops [(PO.mk (some 69) (.mv (.t 7)) none), (PO.mk (some 70) (.load true 75 (.t 12)) none), (PO.mk (some 71) (.call (F 217) [(.t 69), (.t 70)]) none), (PO.mk (some 15) (.alloc z68_39b1) none), (PO.mk none (.store 68 (.t 15) (.t 71)) none)]) (.seq (.ops [(PO.mk (some 73) (.mv (.t 7)) none), (PO.mk (some 74) (.load true 68 (.t 15)) none), (PO.mk (some 75) (.fldA 4 (.t 12)) none), (PO.mk (some 76) (.load false 1 (.t 75)) none), (PO.mk (some 77) (.call (F 169) [(.t 73), (.t 74), (.t 76)]) none), (PO.mk (some 72) (.mv (.t 77)) none), (PO.mk (some 78) (.ext 0 (.t 72)) none), (PO.mk (some 79) (.ext 1 (.t 72)) none), (PO.mk (some 16) (.mv (.t 78)) none), (PO.mk (some 17) (.mv (.t 79)) none)]) (.seq (.ops [(PO.mk (some 18) (.mv (.k (.int .i64 0))) none), (PO.mk (some 19) (.mv (.k (.int .i64 0))) none)]) (.seq (.ops [(PO.mk (some 81) (.load true 74 (.t 2)) none), (PO.mk (some 82) (.mv (.t 10)) none), (PO.mk (some 83) (.load true 68 (.t 15)) none), (PO.mk (some 84) (.fldA 4 (.t 12)) none), (PO.mk (some 85) (.load false 1 (.t 84)) none), (PO.mk (some 86) (.call (F 215) [(.t 81), (.t 82), (.t 83), (.t 85)]) none), (PO.mk (some 80) (.mv (.t 86)) none), (PO.mk (some 87) (.ext 0 (.t 80)) none), (PO.mk (some 88) (.ext 1 (.t 80)) none), (PO.mk (some 89) (.ext 2 (.t 80)) none), (PO.mk (some 10) (.mv (.t 87)) none), (PO.mk (some 18) (.mv (.t 88)) none), (PO.mk (some 19) (.mv (.t 89)) none)]) (.seq (.ops [(PO.mk (some 90) (.mv (.t 16)) none), (PO.mk (some 91) (.mv (.t 18)) none), (PO.mk (some 92) (.bin .neq (.t 90) (.t 91)) none), (PO.mk (some 93) (.mv (.t 92)) none), (PO.mk (some 94) (.mv (.t 17)) (some (93, false))), (PO.mk (some 95) (.mv (.t 19)) (some (93, false))), (PO.mk (some 96) (.bin .neq (.t 94) (.t 95)) (some (93, false))), (PO.mk (some 97) (.pick (.t 93) (.k (.bool true)) (.t 96)) none)]) (.cond (.t 97) (.seq (.ops [(PO.mk (some 98) (.mv (.t 7)) none), (PO.mk (some 99) (.mv (.t 10)) none), (PO.mk (some 4) (.mv (.t 98)) none), (PO.mk (some 5) (.mv (.t 99)) none), (PO.mk (some 6) (.mv (.k (.bool false))) none)]) .ret) .skip))))))))) (.ops [(PO.mk (some 100) (.bin .add (.t 46) (.k (.int .i64 1))) none), (PO.mk (some 46) (.mv (.t 100)) none)]))))))) (.seq (.ops [(PO.mk (some 101) (.mv (.t 7)) none), (PO.mk (some 102) (.mv (.t 10)) none), (PO.mk (some 103) (.mv (.t 7)) none), (PO.mk (some 104) (.mv (.t 10)) none), (PO.mk (some 105) (.call (F 218) [(.t 103), (.t 104)]) none), (PO.mk (some 4) (.mv (.t 101)) none), (PO.mk (some 5) (.mv (.t 102)) none), (PO.mk (some 6) (.mv (.t 105)) none)]) .ret)))))))
-- regions [0, 1, 2, 3, 4, 5, 6]
/- tallystick/tallysticklaw10.IndexPlays -/
def k220 (F : Fn) : PF := PF.mk 21 2 [(.t 4)] (.seq (.ops [(PO.mk (some 2) (.box (.t 0)) none), (PO.mk (some 4) (.mv (.k (.bool false))) none)]) (.seq (.seq (.ops [(PO.mk (some 8) (.call (F 185) []) none), (PO.mk (some 9) (.not (.t 8)) none)]) (.cond (.t 9) (.seq (.ops [(PO.mk (some 4) (.mv (.k (.bool false))) none)]) .ret) .skip)) (.seq (.seq (.ops [(PO.mk (some 10) (.mv (.t 1)) none), (PO.mk (some 11) (.lenSl (.t 10)) none), (PO.mk (some 12) (.bin .gtr (.t 11) (.k (.int .i64 30))) none)]) (.cond (.t 12) (.seq (.ops [(PO.mk (some 4) (.mv (.k (.bool true))) none)]) .ret) .skip)) (.seq (.ops [(PO.mk (some 14) (.load true 74 (.t 2)) none), (PO.mk (some 15) (.mv (.t 1)) none), (PO.mk (some 16) (.call (F 219) [(.t 14), (.t 15)]) none), (PO.mk (some 13) (.mv (.t 16)) none), (PO.mk (some 17) (.ext 0 (.t 13)) none), (PO.mk (some 18) (.ext 1 (.t 13)) none), (PO.mk (some 19) (.ext 2 (.t 13)) none), (PO.mk (some 5) (.mv (.t 17)) none), (PO.mk (some 6) (.mv (.t 18)) none), (PO.mk (some 7) (.mv (.t 19)) none)]) (.seq (.ops [(PO.mk (some 20) (.mv (.t 7)) none), (PO.mk (some 4) (.mv (.t 20)) none)]) .ret)))))
-- regions [0, 1, 2, 3, 4, 5, 6, 7, 8, 9, 10, 11, 12, 13, 14, 15, 16, 17, 18, 19]
/- tallystick/tallysticklaw10.IndexLooks -/
def k221 (F : Fn) : PF := PF.mk 102 3 [(.t 6)] (.seq (.ops [(PO.mk (some 3) (.box (.t 0)) none), (PO.mk (some 5) (.box (.t 2)) none), (PO.mk (some 6) (.mv (.k (.bool false))) none)]) (.seq (.seq (.ops [(PO.mk (some 13) (.call (F 185) []) none), (PO.mk (some 14) (.not (.t 13)) none)]) (.cond (.t 14) (.seq (.ops [(PO.mk (some 6) (.mv (.k (.bool false))) none)]) .ret) .skip)) (.seq (.seq (.ops [(PO.mk (some 15) (.mv (.t 1)) none), (PO.mk (some 16) (.lenSl (.t 15)) none), (PO.mk (some 17) (.bin .gtr (.t 16) (.k (.int .i64 30))) none)]) (.cond (.t 17) (.seq (.ops [(PO.mk (some 6) (.mv (.k (.bool true))) none)]) .ret) .skip)) (.seq (.ops [(PO.mk (some 19) (.load true 74 (.t 3)) none), (PO.mk (some 20) (.mv (.t 1)) none), (PO.mk (some 21) (.call (F 219) [(.t 19), (.t 20)]) none), (PO.mk (some 18) (.mv (.t 21)) none), (PO.mk (some 22) (.ext 0 (.t 18)) none), (PO.mk (some 23) (.ext 1 (.t 18)) none), (PO.mk (some 24) (.ext 2 (.t 18)) none), (PO.mk (some 7) (.mv (.t 22)) none), (PO.mk (some 8) (.mv (.t 23)) none), (PO.mk (some 9) (.mv (.t 24)) none)]) (.seq (.seq (.ops [(PO.mk (some 25) (.mv (.t 9)) none), (PO.mk (some 26) (.not (.t 25)) none), (PO.mk (some 27) (.mv (.t 26)) none), (PO.mk (some 28) (.mv (.t 7)) (some (27, false))), (PO.mk (some 29) (.eqa .ptr false (.t 28) (.k (.ptr none))) (some (27, false))), (PO.mk (some 30) (.pick (.t 27) (.k (.bool true)) (.t 29)) none)]) (.cond (.t 30) (.seq (.ops [(PO.mk (some 31) (.mv (.t 9)) none), (PO.mk (some 6) (.mv (.t 31)) none)]) .ret) .skip)) (.seq (.draw [(.e, (PO.mk (some 32) (.idxArr 2 1 (.t 5) (.k (.int .i64 0))) none)), (.e, (PO.mk (some 34) (.idxArr 2 1 (.t 5) (.k (.int .i64 1))) none)), (.s, (PO.mk (some 33) (.load false 1 (.t 32)) none)), (.e, (PO.mk (some 10) (.mv (.t 33)) none)), (.s, (PO.mk (some 35) (.load false 1 (.t 34)) none)), (.e, (PO.mk (some 11) (.mv (.t 35)) none))]) (.seq (.seq (.ops [(PO.mk (some 36) (.mv (.t 7)) none), (PO.mk (some 37) (.mv (.t 10)) none), (PO.mk (some 38) (.mv (.t 11)) none), (PO.mk (some 39) (.call (F 158) [(.t 36), (.t 37), (.t 38)]) none), (PO.mk (some 40) (.mv (.t 8)) none), (PO.mk (some 41) (.mv (.t 10)) none), (PO.mk (some 42) (.mv (.t 11)) none), (PO.mk (some 43) (.call (F 212) [(.t 40), (.t 41), (.t 42)]) none), (PO.mk (some 44) (.bin .neq (.t 39) (.t 43)) none)]) (.cond (.t 44) (.seq (.ops [(PO.mk (some 6) (.mv (.k (.bool false))) none)]) .ret) .skip)) (.seq (.seq (.ops [(PO.mk (some 45) (.mv (.t 10)) none), (PO.mk (some 46) (.bin .lss (.t 45) (.k (.int .i64 0))) none), (PO.mk (some 47) (.mv (.t 46)) none), (PO.mk (some 48) (.mv (.t 10)) (some (47, false))), (PO.mk (some 49) (.mv (.t 8)) (some (47, false))), (PO.mk (some 50) (.lenSl (.t 49)) (some (47, false))), (PO.mk (some 51) (.bin .geq (.t 48) (.t 50)) (some (47, false))), (PO.mk (some 52) (.pick (.t 47) (.k (.bool true)) (.t 51)) none)]) (.cond (.t 52) (.seq (.ops [(PO.mk (some 53) (.mv (.t 7)) none), (PO.mk (some 54) (.mv (.t 10)) none), (PO.mk (some 55) (.call (F 163) [(.t 53), (.t 54), (.k (.int .i64 0))]) none), (PO.mk (some 56) (.not (.t 55)) none), (PO.mk (some 57) (.mv (.t 56)) none), (PO.mk (some 58) (.mv (.t 7)) (some (57, true))), (PO.mk (some 59) (.mv (.t 10)) (some (57, true))), (PO.mk (some 60) (.call (F 161) [(.t 58), (.t 59)]) (some (57, true))), (PO.mk (some 61) (.fld false 102 1 (.t 60)) (some (57, true))), (PO.mk (some 62) (.bin .eql (.t 61) (.k (.int .i64 0))) (some (57, true))), (PO.mk (some 63) (.pick (.t 57) (.t 62) (.k (.bool false))) none), (PO.mk (some 6) (.mv (.t 63)) none)]) .ret) .skip)) (.seq (.seq (.ops [(PO.mk (some 64) (.mv (.t 8)) none), (PO.mk (some 65) (.lenSl (.t 64)) none), (PO.mk (some 66) (.mv (.k (.int .i64 0))) none)]) (.block 0 (.loop (.seq (.ops [(PO.mk (some 67) (.bin .lss (.t 66) (.t 65)) none)]) (.seq (.cond (.t 67) .skip (.exit 0)) (.seq (.block 1 (.seq (.ops [(PO.mk (some 68) (.mv (.t 66)) none), (PO.mk (some 12) (.mv (.t 68)) none)]) (.seq (.draw [(.e, (PO.mk (some 69) (.mv (.t 7)) none)), (.e, (PO.mk (some 70) (.mv (.t 10)) none)), (.e, (PO.mk (some 71) (.mv (.t 12)) none)), (.e, (PO.mk (some 73) (.mv (.t 8)) none)), (.e, (PO.mk (some 74) (.mv (.t 12)) none)), (.e, (PO.mk (some 75) (.mv (.t 8)) none)), (.e, (PO.mk (some 76) (.mv (.t 10)) none)), (.e, (PO.mk (some 77) (.idxSl 104 (.t 75) (.t 76)) none)), (.e, (PO.mk (some 78) (.fldA 101 (.t 77)) none)), (.e, (PO.mk (some 81) (.mv (.t 10)) none)), (.s, (PO.mk (some 72) (.call (F 163) [(.t 69), (.t 70), (.t 71)]) none)), (.s, (PO.mk (some 79) (.load false 1 (.t 78)) none)), (.s, (PO.mk (some 80) (.call (F 212) [(.t 73), (.t 74), (.t 79)]) none)), (.e, (PO.mk (some 82) (.bin .eql (.t 80) (.t 81)) none)), (.e, (PO.mk (some 83) (.eqa .bool true (.t 72) (.t 82)) none))]) (.cond (.t 83) (.seq (.ops [(PO.mk (some 6) (.mv (.k (.bool false))) none)]) .ret) .skip)))) (.ops [(PO.mk (some 84) (.bin .add (.t 66) (.k (.int .i64 1))) none), (PO.mk (some 66) (.mv (.t 84)) none)]))))))) (.seq (.draw [(.e, (PO.mk (some 85) (.mv (.t 7)) none)), (.e, (PO.mk (some 86) (.mv (.t 10)) none)), (.e, (PO.mk (some 88) (.mv (.t 8)) none)), (.e, (PO.mk (some 89) (.mv (.t 10)) none)), (.s, (PO.mk (some 87) (.call (F 166) [(.t 85), (.t 86)]) none)), (.s, (PO.mk (some 90) (.call (F 213) [(.t 88), (.t 89)]) none)), (.e, (PO.mk (some 91) (.bin .eql (.t 87) (.t 90)) none)), (.e, (PO.mk (some 92) (.mv (.t 91)) none)), (.e, (PO.mk (some 93) (.mv (.t 7)) (some (92, true)))), (.e, (PO.mk (some 94) (.mv (.t 10)) (some (92, true)))), (.e, (PO.mk (some 97) (.mv (.t 8)) (some (92, true)))), (.e, (PO.mk (some 98) (.mv (.t 10)) (some (92, true)))), (.s, (PO.mk (some 95) (.call (F 167) [(.t 93), (.t 94)]) (some (92, true)))), (.s, (PO.mk (some 96) (.load true 74 (.t 3)) (some (92, true)))), (.s, (PO.mk (some 99) (.call (F 214) [(.t 96), (.t 97), (.t 98)]) (some (92, true)))), (.e, (PO.mk (some 100) (.bin .eql (.t 95) (.t 99)) (some (92, true)))), (.e, (PO.mk (some 101) (.pick (.t 92) (.t 100) (.k (.bool false))) none)), (.e, (PO.mk (some 6) (.mv (.t 101)) none))]) .ret))))))))))
-- regions [0, 1, 2, 3, 4, 5, 6, 7, 8, 9, 11, 12, 13, 14, 15, 16, 10, 17]
/- tallystick/tallysticklaw10.IndexWork -/
def k222 (F : Fn) : PF := PF.mk 109 2 [(.t 4)] (.seq (.ops [(PO.mk (some 2) (.box (.t 0)) none), (PO.mk (some 4) (.mv (.k (.bool false))) none)]) (.seq (.seq (.ops [(PO.mk (some 11) (.call (F 185) []) none), (PO.mk (some 12) (.not (.t 11)) none)]) (.cond (.t 12) (.seq (.ops [(PO.mk (some 4) (.mv (.k (.bool false))) none)]) .ret) .skip)) (.seq (.seq (.ops [(PO.mk (some 13) (.mv (.t 1)) none), (PO.mk (some 14) (.lenSl (.t 13)) none), (PO.mk (some 15) (.bin .gtr (.t 14) (.k (.int .i64 30))) none)]) (.cond (.t 15) (.seq (.ops [(PO.mk (some 4) (.mv (.k (.bool true))) none)]) .ret) .skip)) (.seq (.ops [(PO.mk (some 17) (.load true 74 (.t 2)) none), (PO.mk (some 18) (.mv (.t 1)) none), (PO.mk (some 19) (.call (F 219) [(.t 17), (.t 18)]) none), (PO.mk (some 16) (.mv (.t 19)) none), (PO.mk (some 20) (.ext 0 (.t 16)) none), (PO.mk (some 21) (.ext 1 (.t 16)) none), (PO.mk (some 22) (.ext 2 (.t 16)) none), (PO.mk (some 5) (.mv (.t 20)) none), (PO.mk (some 6) (.mv (.t 21)) none), (PO.mk (some 7) (.mv (.t 22)) none)]) (.seq (.seq (.ops [(PO.mk (some 23) (.mv (.t 7)) none), (PO.mk (some 24) (.not (.t 23)) none), (PO.mk (some 25) (.mv (.t 24)) none), (PO.mk (some 26) (.mv (.t 5)) (some (25, false))), (PO.mk (some 27) (.eqa .ptr false (.t 26) (.k (.ptr none))) (some (25, false))), (PO.mk (some 28) (.pick (.t 25) (.k (.bool true)) (.t 27)) none)]) (.cond (.t 28) (.seq (.ops [(PO.mk (some 29) (.mv (.t 7)) none), (PO.mk (some 4) (.mv (.t 29)) none)]) .ret) .skip)) (.seq (.seq (.ops [(PO.mk (some 8) (.mv (.k (.int .i64 1))) none)]) (.block 0 (.loop (.seq (.seq (.ops [(PO.mk (some 30) (.mv (.t 8)) none), (PO.mk (some 31) (.mv (.t 5)) none), (PO.mk (some 32) (.call (F 159) [(.t 31)]) none), (PO.mk (some 33) (.bin .lss (.t 30) (.t 32)) none)]) (.cond (.t 33) .skip (.exit 0))) (.seq (.block 1 (.seq (.ops [(PO.mk (some 36) (.mv (.t 5)) none), (PO.mk (some 37) (.mv (.t 8)) none), (PO.mk (some 38) (.call (F 161) [(.t 36), (.t 37)]) none), (PO.mk (some 9) (.alloc z108_9b14) none), (PO.mk none (.store 108 (.t 9) (.t 38)) none)]) (.seq (.ops [(PO.mk (some 39) (.mv (.t 5)) none), (PO.mk (some 40) (.fldA 100 (.t 9)) none), (PO.mk (some 41) (.load false 1 (.t 40)) none), (PO.mk (some 42) (.call (F 161) [(.t 39), (.t 41)]) none), (PO.mk (some 10) (.alloc z108_9b14) none), (PO.mk none (.store 108 (.t 10) (.t 42)) none)]) (.seq (.seq (.draw [(.e, (PO.mk (some 43) (.fldA 100 (.t 9)) none)), (.s, (PO.mk (some 44) (.load false 1 (.t 43)) none)), (.e, (PO.mk (some 45) (.bin .lss (.t 44) (.k (.int .i64 0))) none)), (.e, (PO.mk (some 46) (.mv (.t 45)) none)), (.e, (PO.mk (some 47) (.fldA 100 (.t 9)) (some (46, false)))), (.e, (PO.mk (some 49) (.mv (.t 8)) (some (46, false)))), (.s, (PO.mk (some 48) (.load false 1 (.t 47)) (some (46, false)))), (.e, (PO.mk (some 50) (.bin .geq (.t 48) (.t 49)) (some (46, false)))), (.e, (PO.mk (some 51) (.pick (.t 46) (.k (.bool true)) (.t 50)) none)), (.e, (PO.mk (some 52) (.mv (.t 51)) none)), (.e, (PO.mk (some 53) (.fldA 0 (.t 9)) (some (52, false)))), (.e, (PO.mk (some 54) (.fldA 1 (.t 53)) (some (52, false)))), (.e, (PO.mk (some 56) (.fldA 68 (.t 10)) (some (52, false)))), (.s, (PO.mk (some 55) (.load true 32 (.t 54)) (some (52, false)))), (.s, (PO.mk (some 57) (.load true 32 (.t 56)) (some (52, false)))), (.e, (PO.mk (some 58) (.eqa (.agg 32) true (.t 55) (.t 57)) (some (52, false)))), (.e, (PO.mk (some 59) (.pick (.t 52) (.k (.bool true)) (.t 58)) none)), (.e, (PO.mk (some 60) (.mv (.t 59)) none)), (.e, (PO.mk (some 61) (.fldA 102 (.t 9)) (some (60, false)))), (.e, (PO.mk (some 63) (.fldA 102 (.t 10)) (some (60, false)))), (.s, (PO.mk (some 62) (.load false 1 (.t 61)) (some (60, false)))), (.s, (PO.mk (some 64) (.load false 1 (.t 63)) (some (60, false)))), (.e, (PO.mk (some 65) (.bin .add (.t 64) (.k (.int .i64 1))) (some (60, false)))), (.e, (PO.mk (some 66) (.bin .neq (.t 62) (.t 65)) (some (60, false)))), (.e, (PO.mk (some 67) (.pick (.t 60) (.k (.bool true)) (.t 66)) none)), (.e, (PO.mk (some 68) (.mv (.t 67)) none)), (.e, (PO.mk (some 69) (.fldA 107 (.t 10)) (some (68, false)))), (.s, (PO.mk (some 70) (.load false 1 (.t 69)) (some (68, false)))), (.e, (PO.mk (some 71) (.mv (.t 70)) (some (68, false)))), (.e, (PO.mk (some 72) (.fldA 107 (.t 9)) (some (71, true)))), (.s, (PO.mk (some 73) (.load false 1 (.t 72)) (some (71, true)))), (.e, (PO.mk (some 74) (.not (.t 73)) (some (71, true)))), (.e, (PO.mk (some 75) (.pick (.t 71) (.t 74) (.k (.bool false))) (some (68, false)))), (.e, (PO.mk (some 76) (.pick (.t 68) (.k (.bool true)) (.t 75)) none)), (.e, (PO.mk (some 77) (.mv (.t 76)) none)), (.e, (PO.mk (some 78) (.fldA 68 (.t 9)) (some (77, false)))), (.e, (PO.mk (some 80) (.fldA 0 (.t 9)) (some (77, false)))), (.s, (PO.mk (some 79) (.load true 32 (.t 78)) (some (77, false)))), (.s, (PO.mk (some 81) (.load true 68 (.t 80)) (some (77, false)))), (.s, (PO.mk (some 82) (.call (F 141) [(.t 81)]) (some (77, false)))), (.e, (PO.mk (some 83) (.eqa (.agg 32) true (.t 79) (.t 82)) (some (77, false)))), (.e, (PO.mk (some 84) (.pick (.t 77) (.k (.bool true)) (.t 83)) none)), (.e, (PO.mk (some 85) (.mv (.t 84)) none)), (.e, (PO.mk (some 86) (.fldA 0 (.t 9)) (some (85, false)))), (.e, (PO.mk (some 88) (.fldA 0 (.t 2)) (some (85, false)))), (.s, (PO.mk (some 87) (.load true 68 (.t 86)) (some (85, false)))), (.s, (PO.mk (some 89) (.load false 1 (.t 88)) (some (85, false)))), (.s, (PO.mk (some 90) (.call (F 142) [(.t 87), (.t 89)]) (some (85, false)))), (.e, (PO.mk (some 91) (.bin .neq (.t 90) (.k (.int .i64 0))) (some (85, false)))), (.e, (PO.mk (some 92) (.pick (.t 85) (.k (.bool true)) (.t 91)) none))]) (.cond (.t 92) (.seq (.ops [(PO.mk (some 4) (.mv (.k (.bool false))) none)]) .ret) .skip)) (.seq (.ops [(PO.mk (some 93) (.fldA 103 (.t 9)) none), (PO.mk (some 94) (.load true 4 (.t 93)) none), (PO.mk (some 95) (.fldA 103 (.t 10)) none), (PO.mk (some 96) (.load true 4 (.t 95)) none), (PO.mk (some 97) (.call (F 106) [(.t 94), (.t 96)]) none), (PO.mk (some 98) (.bin .leq (.t 97) (.k (.int .i64 0))) none), (PO.mk (some 99) (.mv (.t 98)) none), (PO.mk (some 100) (.fldA 103 (.t 10)) (some (99, true))), (PO.mk (some 101) (.load true 4 (.t 100)) (some (99, true))), (PO.mk (some 102) (.call (F 114) [(.t 101)]) (some (99, true))), (PO.mk (some 103) (.bin .lss (.t 102) (.k (.int .i64 250))) (some (99, true))), (PO.mk (some 104) (.pick (.t 99) (.t 103) (.k (.bool false))) none)]) (.cond (.t 104) (.seq (.ops [(PO.mk (some 4) (.mv (.k (.bool false))) none)]) .ret) .skip)))))) (.ops [(PO.mk (some 34) (.mv (.t 8)) none), (PO.mk (some 35) (.bin .add (.t 34) (.k (.int .i64 1))) none), (PO.mk (some 8) (.mv (.t 35)) none)])))))) (.seq (.ops [(PO.mk (some 105) (.mv (.t 5)) none), (PO.mk (some 106) (.call (F 161) [(.t 105), (.k (.int .i64 0))]) none), (PO.mk (some 107) (.fld false 107 1 (.t 106)) none), (PO.mk (some 108) (.not (.t 107)) none), (PO.mk (some 4) (.mv (.t 108)) none)]) .ret)))))))
-- regions [0, 1, 2, 3, 4, 5, 6, 7, 8, 9, 10, 11, 12]
/- tallystick/tallysticklaw10.IndexFits -/
def k223 (F : Fn) : PF := PF.mk 62 3 [(.t 6)] (.seq (.ops [(PO.mk (some 3) (.box (.t 0)) none), (PO.mk (some 5) (.box (.t 2)) none), (PO.mk (some 6) (.mv (.k (.bool false))) none)]) (.seq (.seq (.ops [(PO.mk (some 15) (.call (F 185) []) none), (PO.mk (some 16) (.not (.t 15)) none)]) (.cond (.t 16) (.seq (.ops [(PO.mk (some 6) (.mv (.k (.bool false))) none)]) .ret) .skip)) (.seq (.seq (.ops [(PO.mk (some 17) (.mv (.t 1)) none), (PO.mk (some 18) (.lenSl (.t 17)) none), (PO.mk (some 19) (.bin .gtr (.t 18) (.k (.int .i64 20))) none)]) (.cond (.t 19) (.seq (.ops [(PO.mk (some 6) (.mv (.k (.bool true))) none)]) .ret) .skip)) (.seq (.ops [(PO.mk (some 21) (.load true 74 (.t 3)) none), (PO.mk (some 22) (.mv (.t 1)) none), (PO.mk (some 23) (.call (F 219) [(.t 21), (.t 22)]) none), (PO.mk (some 20) (.mv (.t 23)) none), (PO.mk (some 24) (.ext 0 (.t 20)) none), (PO.mk (some 25) (.ext 1 (.t 20)) none), (PO.mk (some 26) (.ext 2 (.t 20)) none), (PO.mk (some 7) (.mv (.t 24)) none), (PO.mk (some 8) (.mv (.t 25)) none), (PO.mk (some 9) (.mv (.t 26)) none)]) (.seq (.seq (.ops [(PO.mk (some 27) (.mv (.t 9)) none), (PO.mk (some 28) (.not (.t 27)) none), (PO.mk (some 29) (.mv (.t 28)) none), (PO.mk (some 30) (.mv (.t 7)) (some (29, false))), (PO.mk (some 31) (.eqa .ptr false (.t 30) (.k (.ptr none))) (some (29, false))), (PO.mk (some 32) (.pick (.t 29) (.k (.bool true)) (.t 31)) none)]) (.cond (.t 32) (.seq (.ops [(PO.mk (some 33) (.mv (.t 9)) none), (PO.mk (some 6) (.mv (.t 33)) none)]) .ret) .skip)) (.seq (.ops [(PO.mk (some 34) (.mv (.t 7)) none), (PO.mk (some 35) (.load true 75 (.t 5)) none), (PO.mk (some 36) (.call (F 217) [(.t 34), (.t 35)]) none), (PO.mk (some 10) (.alloc z68_39b1) none), (PO.mk none (.store 68 (.t 10) (.t 36)) none)]) (.seq (.ops [(PO.mk (some 37) (.mv (.t 8)) none), (PO.mk (some 38) (.fldA 1 (.t 10)) none), (PO.mk (some 39) (.load true 32 (.t 38)) none), (PO.mk (some 40) (.call (F 211) [(.t 37), (.t 39)]) none), (PO.mk (some 11) (.mv (.t 40)) none)]) (.seq (.ops [(PO.mk (some 41) (.mv (.t 7)) none), (PO.mk (some 42) (.load true 68 (.t 10)) none), (PO.mk (some 43) (.mv (.t 11)) none), (PO.mk (some 44) (.fldA 4 (.t 5)) none), (PO.mk (some 45) (.load false 1 (.t 44)) none), (PO.mk (some 46) (.call (F 168) [(.t 41), (.t 42), (.t 43), (.t 45)]) none), (PO.mk (some 12) (.mv (.t 46)) none)]) (.seq (.ops [(PO.mk (some 48) (.mv (.t 7)) none), (PO.mk (some 49) (.load true 68 (.t 10)) none), (PO.mk (some 50) (.fldA 4 (.t 5)) none), (PO.mk (some 51) (.load false 1 (.t 50)) none), (PO.mk (some 52) (.call (F 169) [(.t 48), (.t 49), (.t 51)]) none), (PO.mk (some 47) (.mv (.t 52)) none), (PO.mk (some 53) (.ext 0 (.t 47)) none), (PO.mk (some 54) (.ext 1 (.t 47)) none), (PO.mk (some 13) (.mv (.t 53)) none), (PO.mk (some 14) (.mv (.t 54)) none)]) (.seq (.ops [(PO.mk (some 55) (.mv (.t 14)) none), (PO.mk (some 56) (.bin .eql (.t 55) (.k (.int .i64 5))) none), (PO.mk (some 57) (.mv (.t 56)) none), (PO.mk (some 58) (.mv (.t 12)) (some (57, false))), (PO.mk (some 59) (.mv (.t 14)) (some (57, false))), (PO.mk (some 60) (.bin .eql (.t 58) (.t 59)) (some (57, false))), (PO.mk (some 61) (.pick (.t 57) (.k (.bool true)) (.t 60)) none), (PO.mk (some 6) (.mv (.t 61)) none)]) .ret))))))))))
structure OkLaw10b (P : Program) (F : Fn) : Prop where
  mixed : P.follows .mixedOrders = true
  toOkRef10 : OkRef10 P F
  toOkIndexZ : OkIndexZ P F
  toOkLaw10z : OkLaw10z P F
  h217 : compFn P ⟨[], [], [], [], []⟩ (F 217) = some (k217 F)
  h218 : compFn P ⟨[], [], [], [], []⟩ (F 218) = some (k218 F)
  h219 : compFn P ⟨[], [], [], [], []⟩ (F 219) = some (k219 F)
  h220 : compFn P ⟨[], [], [], [], []⟩ (F 220) = some (k220 F)
  h221 : compFn P ⟨[], [], [], [], []⟩ (F 221) = some (k221 F)
  h222 : compFn P ⟨[], [], [], [], []⟩ (F 222) = some (k222 F)
  h223 : compFn P ⟨[], [], [], [], []⟩ (F 223) = some (k223 F)
end Go.Ab
/-
  law10: the header that an operation brings.
-/
set_option linter.unusedSimpArgs false
set_option linter.unusedVariables false
set_option maxRecDepth 10000
namespace Go.Ab
open Go Go.RowKit
structure OpM where
  kind : Int
  parent : Int
  behind : Int
  tries : Int
  now : Int
  bits : W32
  raw : Bool
  head : Hdr
def eOp (o : OpM) : List V := .int .i64 o.kind :: .int .i64 o.parent :: .int .i64 o.behind :: .int .i64 o.tries :: .int .i64 o.now :: w32 o.bits :: .bool o.raw :: eHdr o.head
theorem eOp_len (o : OpM) : (eOp o).length = 75 := by simp [eOp, eHdr_len]
theorem pseg {o : OpM} {a n : Nat} {ys : List V} (h : ((eOp o).drop a).take n = ys) (hl : a + n ≤ 75) : segOf (eOp o) a n = some ys := by
  unfold segOf
  rw [if_pos (by rw [eOp_len]; exact hl), h]
section
variable (o : OpM)
theorem psegKind : segOf (eOp o) 0 1 = some [.int .i64 o.kind] := pseg rfl (by omega)
theorem psegParent : segOf (eOp o) 1 1 = some [.int .i64 o.parent] := pseg rfl (by omega)
theorem psegBehind : segOf (eOp o) 2 1 = some [.int .i64 o.behind] := pseg rfl (by omega)
theorem psegTries : segOf (eOp o) 3 1 = some [.int .i64 o.tries] := pseg rfl (by omega)
theorem psegNow : segOf (eOp o) 4 1 = some [.int .i64 o.now] := pseg rfl (by omega)
theorem psegBits : segOf (eOp o) 5 1 = some [w32 o.bits] := pseg rfl (by omega)
theorem psegRaw : segOf (eOp o) 6 1 = some [.bool o.raw] := pseg rfl (by omega)
theorem eOp_drop7 : (eOp o).drop 7 = eHdr o.head := rfl
theorem psegHead : segOf (eOp o) 7 68 = some (eHdr o.head) := pseg (by rw [eOp_drop7, ← eHdr_len o.head, List.take_length]) (by omega)
theorem psegVer : segOf (eOp o) 7 1 = some [w32 o.head.ver] := pseg rfl (by omega)
theorem psegRoot : segOf (eOp o) 40 32 = some (eId o.head.root) := pseg (by
  rw [show 40 = 7 + 33 from rfl, ← List.drop_drop, eOp_drop7, hdrop33, ← eId_len o.head.root, List.take_left]) (by omega)
theorem psegNonce : segOf (eOp o) 74 1 = some [w32 o.head.nonce] := pseg (by
  rw [show 74 = 7 + 67 from rfl, ← List.drop_drop, eOp_drop7, hdrop67]; rfl) (by omega)
theorem psegAll : segOf (eOp o) 0 75 = some (eOp o) := pseg (by rw [List.drop_zero, ← eOp_len o, List.take_length]) (by omega)
end
theorem hspl_root (h : Hdr) (p : Id) : spliceV (eHdr h) 33 (eId p) = eHdr { h with root := p } := by
  have e : ∀ g : Hdr, eHdr g = (w32 g.ver :: eId g.prev) ++ (eId g.root ++ [w32 g.time, w32 g.bits, w32 g.nonce]) := fun g => rfl
  rw [e, show 33 = 33 + 0 from rfl, splice_right (n := 33) (by simp [eId_len])]
  unfold spliceV
  rw [List.take_zero, List.nil_append, Nat.zero_add, show (eId p).length = (eId h.root).length by rw [eId_len, eId_len], List.drop_left]; rfl
theorem build_h6 (v : W32) (p q : Id) (t b n : W32) : fillV (eHdr hdr0) [(0, 1, w32 v), (1, 32, .agg (eId p)), (33, 32, .agg (eId q)), (65, 1, w32 t), (66, 1, w32 b), (67, 1, w32 n)] = some (eHdr ⟨v, p, q, t, b, n⟩) := by
  simp [fillV, eHdr_len, eId_len, hspl_ver, hspl_prev, hspl_root, hspl_time, hspl_bits, splice_nonce]
/-- The header that is tried. -/
def headU (r : Rl) (l : List Nd) (o : OpM) : Hdr :=
  ⟨o.head.ver, (nd l (clI l o.parent)).id, o.head.root, (nd l (clI l o.parent)).hdr.time + BitVec.ofInt 32 o.behind, if o.bits = 0#32 then nextM r l (clI l o.parent) else o.bits, o.head.nonce⟩
/-- The header that an operation brings. -/
def headM (r : Rl) (l : List Nd) (o : OpM) : Hdr :=
  if o.raw then o.head else (mineN (headU r l o) r.limit (max 0 (min (min o.tries 40) 65536)).toNat).getD (headU r l o)
section
variable {P : Program} {F : Fn}
set_option maxHeartbeats 2000000 in
/-- header -/
theorem spec217 (ok : OkLaw10b P F) {st : St} {tid : Nat} {r : Rl} {l : List Nd} (h : TreeR tid r l st) (w : Wf l) (hl : l.length ≤ 16384) (hc : checkM r = 0) (o : OpM) :
    ACalls P (F 217) [.ptr (some (tid, 0)), .agg (eOp o)] st fun v st' => v = .agg (eHdr (headM r l o)) ∧ st' = st := by
  have okz := ok.toOkIndexZ
  have oki := okz.toOkIndex
  have okh := oki.toOkHead
  refine shows_call ok.mixed ok.h217 (by simp [k217]) ?_
  simp only [k217, z68_eq, z108_eq]
  simp
  intro i3 h3
  have S := (Sep.start st).new h3 (.cells (eOp o))
  generalize st.upd i3 _ = st1 at S ⊢
  simp
  intro i4 h4
  have S := S.new h4 (.cells (eHdr hdr0))
  generalize st1.upd i4 _ = st2 at S ⊢
  have o3 := S.mem (i := i3) (o := .cells (eOp o)) (by simp)
  have hs := S.was' (st0 := st) (by simp)
  simp [St.seg, o3, psegRaw]
  have setR : ∀ {st' : St} {L : List Asn} (S : Sep L st') {n : Nat} (hn : L[n]? = some (pt i4 (.cells (eHdr hdr0)))) (hw : Was st ∈ L.set n (pt i4 (.cells (eHdr hdr0)))) (g : Hdr), storeS st' 68 (.ptr (some (i4, 0))) (.agg (eHdr g)) = some (st'.upd i4 (.cells (eHdr g))) := fun {st' L} S {n} hn hw g => by
    have o4 := S.mem (List.mem_of_getElem? hn)
    simp [storeS, o4, eHdr_len, splice_hdr]
  cases hraw : o.raw with
  | true =>
    have e : headM r l o = o.head := by rw [headM, hraw]; rfl
    have hst := setR S (n := 0) rfl (by simp) o.head
    have T := S.set (.cells (eHdr o.head))
    rw [e]
    simp [St.seg, o3, psegHead, hst, hsegAll]
    exact T.was' (by simp)
  | false =>
    have e : headM r l o = (mineN (headU r l o) r.limit (max 0 (min (min o.tries 40) 65536)).toNat).getD (headU r l o) := by rw [headM, hraw]; rfl
    obtain ⟨R, hR⟩ : ∃ R, R = headM r l o := ⟨_, rfl⟩
    rw [← hR] at e ⊢
    have TR := h.sub hs
    obtain ⟨p, hp⟩ : ∃ p, p = clI l o.parent := ⟨_, rfl⟩
    have hpl : p < l.length := hp ▸ clI_lt w _
    have hlp := w.ne
    have hin : inI l p = p := by unfold inI; rw [if_neg (by omega)]; omega
    have hw : IntKind.i64.wrap ((l.length : Int) - 1) = (l.length : Int) - 1 := wrap64 (by omega) (by omega)
    have hmn : foldV min2V (.int .i64 o.parent) [.int .i64 ((l.length : Int) - 1)] = some (.int .i64 (min o.parent ((l.length : Int) - 1))) := by
      simp only [foldV, min2V, if_true, Option.bind_some]
      congr 2
      split <;> omega
    have hmx : foldV max2V (.int .i64 0) [.int .i64 (min o.parent ((l.length : Int) - 1))] = some (.int .i64 (p : Int)) := by
      simp only [foldV, max2V, if_true, Option.bind_some]
      unfold clI at hp
      congr 2
      split <;> omega
    have hmt : foldV min2V (.int .i64 o.tries) [.int .i64 40] = some (.int .i64 (min o.tries 40)) := by
      simp only [foldV, min2V, if_true, Option.bind_some]
      congr 2
      split <;> omega
    simp [St.seg, o3, psegParent]
    refine ⟨_, spec159 oki TR, ?_⟩
    simp [hw, hmn, hmx]
    refine (spec161 oki TR w p).mono ?_
    rintro v st2 ⟨rfl, rfl⟩
    rw [hin]
    obtain ⟨x, hx⟩ : ∃ x, x = nd l p := ⟨_, rfl⟩
    rw [← hx]
    have hU : headU r l o = ⟨o.head.ver, x.id, o.head.root, x.hdr.time + BitVec.ofInt 32 o.behind, if o.bits = 0#32 then nextM r l p else o.bits, o.head.nonce⟩ := by
      unfold headU; rw [← hp, ← hx]
    simp
    intro i6 h6
    have S := S.new h6 (.cells (eNd nd0))
    have hsp : ∀ x y, spliceV (eNd x) 0 (eNd y) = eNd y := fun x y => by simp [spliceV, eNd_len]
    simp [storeS, eNd_len, hsp]
    have S := S.setAt (.cells (eNd x)) 0 rfl
    simp at S
    generalize st2.upd i6 _ = st3 at S ⊢
    have o3 := S.mem (i := i3) (o := .cells (eOp o)) (by simp)
    have o6 := S.get
    have TR := h.sub (S.was' (st0 := st) (by simp))
    simp [St.seg, o3, o6, psegVer, osegId, psegRoot, osegTime, psegBehind, psegNonce]
    refine ⟨_, spec167 oki TR w hl hc hpl, ?_⟩
    obtain ⟨N, hN⟩ : ∃ N, N = nextM r l p := ⟨_, rfl⟩
    rw [← hN] at hU ⊢
    simp [St.seg, o3, psegNonce, build_h6]
    intro i7 h7
    have S := S.new h7 (.cells (eHdr hdr0))
    simp [storeH]
    have S := S.setAt (.cells (eHdr ⟨o.head.ver, x.id, o.head.root, x.hdr.time + BitVec.ofInt 32 o.behind, N, o.head.nonce⟩)) 0 rfl
    simp at S
    generalize st3.upd i7 _ = st4 at S ⊢
    have o3 := S.mem (i := i3) (o := .cells (eOp o)) (by simp)
    have o7 := S.get
    simp [St.seg, o3, psegBits]
    obtain ⟨U, hUe⟩ : ∃ U, U = headU r l o := ⟨_, rfl⟩
    rw [← hUe] at hU e
    refine condB_join (fun env' st' => Sep [pt i7 (.cells (eHdr U)), pt i6 (.cells (eNd x)), pt i4 (.cells (eHdr hdr0)), pt i3 (.cells (eOp o)), Was st] st') ?_ ?_
    · by_cases hb : o.bits = 0#32
      · rw [if_pos hb] at hU
        have hbb : (o.bits != 0#32) = false := by simp [hb]
        rw [← hU] at S
        simp [hbb]
        exact S
      · rw [if_neg hb] at hU
        have hbb : (o.bits != 0#32) = true := by simp [hb]
        have hst : storeS st4 1 (.ptr (some (i7, 66))) (w32 o.bits) = some (st4.upd i7 (.cells (eHdr U))) := by
          rw [hU]
          have := hspl_bits ⟨o.head.ver, x.id, o.head.root, x.hdr.time + BitVec.ofInt 32 o.behind, N, o.head.nonce⟩ o.bits
          simp [storeS, o7, eHdr_len, this]
        simp [hbb, St.seg, o3, psegBits, hst]
        exact S.set _
    clear S o3 o6 o7
    rintro env' st5 hsame S
    have g0 := (hsame.get 0 rfl).trans (by simp : _ = V.ptr (some (tid, 0)))
    have g3 := (hsame.get 3 rfl).trans (by simp : _ = V.ptr (some (i3, 0)))
    have g4 := (hsame.get 4 rfl).trans (by simp : _ = V.ptr (some (i4, 0)))
    have g7 := (hsame.get 7 rfl).trans (by simp : _ = V.ptr (some (i7, 0)))
    clear hsame
    have o3 := S.mem (i := i3) (o := .cells (eOp o)) (by simp)
    have o7 := S.get
    have TR := h.sub (S.was' (st0 := st) (by simp))
    simp [g0, g3, g7, St.seg, o3, o7, hsegAll]
    refine ⟨_, spec160 okz TR, ?_⟩
    simp [fldV_agg, rsegLimit, St.seg, o3, psegTries, hmt]
    refine ⟨_, spec143 okh st5 U r.limit (min o.tries 40), ?_⟩
    rw [mineR_get]
    obtain ⟨m, hm⟩ : ∃ m, m = mineN U r.limit (max 0 (min (min o.tries 40) 65536)).toNat := ⟨_, rfl⟩
    rw [← hm] at e ⊢
    simp
    intro i8 h8
    have S := S.new h8 (.cells (eHdr hdr0))
    simp [storeH]
    have S := S.setAt (.cells (eHdr (m.getD hdr0))) 0 rfl
    simp at S
    generalize st5.upd i8 _ = st6 at S ⊢
    have o7 := S.mem (i := i7) (o := .cells (eHdr U)) (by simp)
    have o8 := S.get
    have hst := fun g => setR S (n := 3) rfl (by simp) g
    cases m with
    | none =>
      have T := S.setAt (.cells (eHdr U)) 3 rfl
      simp [g4, g7, St.seg, o7, hsegAll, hst]
      exact ⟨T.was' (st0 := st) (by simp), by rw [e]; rfl⟩
    | some y =>
      have T := S.setAt (.cells (eHdr y)) 3 rfl
      simp at o8 T
      simp [g4, St.seg, o8, hsegAll, hst]
      exact ⟨T.was' (st0 := st) (by simp), by rw [e]; rfl⟩
end
end Go.Ab
/-
  law10: a tree is as the document's; trees that are played.
-/
set_option linter.unusedSimpArgs false
set_option linter.unusedVariables false
set_option maxRecDepth 10000
namespace Go.Ab
open Go Go.RowKit
theorem osegPar (x : Nd) : segOf (eNd x) 100 1 = some [.int .i64 x.parent] := seg_of_take (nsegPar x) (by rw [eNd_len]; omega)
theorem eqL_refl : ∀ cs : List V, (∀ v ∈ cs, ∃ k n, v = .int k n) → eqL cs cs = some true
  | [], _ => rfl
  | v :: cs, h => by
    obtain ⟨k, n, rfl⟩ := h v (by simp)
    have ih := eqL_refl cs fun u hu => h u (by simp [hu])
    simp [eqL, ih]
theorem eId_ints (x : Id) : ∀ v ∈ eId x, ∃ k n, v = .int k n := by
  intro v hv
  rw [eId_rows, rows_e8] at hv
  obtain ⟨b, -, rfl⟩ := List.mem_map.1 hv
  exact ⟨_, _, rfl⟩
theorem eHdr_ints (x : Hdr) : ∀ v ∈ eHdr x, ∃ k n, v = .int k n := by
  intro v hv
  unfold eHdr at hv
  rcases List.mem_cons.1 hv with rfl | hv
  · exact ⟨_, _, rfl⟩
  · rcases List.mem_append.1 hv with hv | hv
    · exact eId_ints _ v hv
    · rcases List.mem_append.1 hv with hv | hv
      · exact eId_ints _ v hv
      · simp at hv
        rcases hv with rfl | rfl | rfl <;> exact ⟨_, _, rfl⟩
theorem eqL_hdr (x : Hdr) : eqL (eHdr x) (eHdr x) = some true := eqL_refl _ (eHdr_ints x)
theorem findM_has {l : List Nd} {i : Nat} (hi : i < l.length) : ∃ k, findM l l[i].id = some k := by
  cases h : findM l l[i].id with
  | some k => exact ⟨k, rfl⟩
  | none => exact absurd rfl (findM_none h l[i] (List.getElem_mem hi))
/-- What can be made of a genesis. -/
inductive Made (r : Rl) : List Nd → Prop
  | new : Made r (newM r)
  | add {l : List Nd} (h : Made r l) (x : Hdr) (now : Int) : Made r (addM r l x now).1
  | fail {l : List Nd} (h : Made r l) (i : Int) : Made r (failM l i).1
theorem failM_wf {l : List Nd} (w : Wf l) (i : Int) : Wf (failM l i).1 ∧ (failM l i).1.length = l.length := by
  unfold failM
  split
  · exact ⟨w, rfl⟩
  · exact ⟨setF_wf w, setF_length⟩
section
variable {P : Program} {F : Fn}
set_option maxHeartbeats 4000000 in
/-- like -/
theorem spec218 (ok : OkLaw10b P F) {st : St} {tid : Nat} {r : Rl} {s : V} {l : List Rw} (h : TreeR tid r (nds l) st) (hr : RdN s l st) (w : Wf (nds l)) (hO : Okws l) (hl : l.length ≤ 16000) :
    ACalls P (F 218) [.ptr (some (tid, 0)), s] st fun v st' => v = .bool true ∧ st' = st := by
  have okz := ok.toOkIndexZ
  have oki := okz.toOkIndex
  have okr := ok.toOkRef10
  have ok2 := okr.toOkRef05.toOkRef02
  refine shows_call ok.mixed ok.h218 (by simp [k218]) ?_
  simp only [k218, z108_eq, eU_zero0]
  have hlen := hr.len
  simp
  refine (spec159 oki h).mono ?_
  rintro v st ⟨rfl, rfl⟩
  simp [hlen]
  refine vc_loopJ (fun c env' st' => ∃ i, i ≤ l.length ∧ c = l.length - i ∧ env' 19 = .int .i64 (i : Nat) ∧ Sep [Was st] st') l.length
    ⟨0, by omega, by omega, by simp, Sep.start st⟩ ?_
  rintro J hJ c env' st1 hsame ⟨i, hi, rfl, h19, S⟩
  have g0 := (hsame.get 0 rfl).trans (by simp : _ = V.ptr (some (tid, 0)))
  have g1 := (hsame.get 1 rfl).trans (by simp : _ = s)
  have g17 := (hsame.get 17 rfl).trans (by simp : _ = s)
  have g18 := (hsame.get 18 rfl).trans (by simp : _ = V.int .i64 (l.length : Int))
  clear hsame
  have hs := S.was' (st0 := st) (by simp)
  by_cases hlt : i < l.length
  · have hin : i < (nds l).length := by simpa using hlt
    have w1 : IntKind.i64.wrap ((i : Int) + 1) = (i : Int) + 1 := wrap64 (by omega) (by omega)
    obtain ⟨r1, r2, r3, r4⟩ := (hr.sub hs).row eRw_len hlt
    obtain ⟨x, hx⟩ : ∃ x, x = l[i] := ⟨_, rfl⟩
    have hO1 := hO l[i] (List.getElem_mem hlt)
    have hnd : nd (nds l) i = x.1 := by rw [nd_at hin, nds_get hlt, hx]
    obtain ⟨k, hk⟩ := findM_has hin
    rw [nds_get hlt] at hk
    rw [← hx] at r3 hO1 hk
    have hki : findI (nds l) x.1.id = k := findI_some hk
    simp [g17, g18, h19, hlt, r1, r3]
    intro i6 h6
    have S := S.new h6 (.cells z104_1a18)
    simp [store104]
    have S := S.setAt (.cells (eRw x)) 0 rfl
    simp at S
    generalize st1.upd i6 _ = st2 at S ⊢
    have TR := h.sub (S.was' (st0 := st) (by simp))
    simp [g0]
    refine (spec161 oki TR w i).mono ?_
    rintro v st2 ⟨rfl, rfl⟩
    have hini : inI (nds l) i = i := by unfold inI; rw [if_neg (by omega)]; omega
    rw [hini, hnd]
    simp
    intro i7 h7
    have S := S.new h7 (.cells (eNd nd0))
    have hsp : ∀ x y, spliceV (eNd x) 0 (eNd y) = eNd y := fun x y => by simp [spliceV, eNd_len]
    simp [storeS, eNd_len, hsp]
    have S := S.setAt (.cells (eNd x.1)) 0 rfl
    simp at S
    generalize st2.upd i7 _ = st3 at S ⊢
    have o6 := S.mem (i := i6) (o := .cells (eRw x)) (by simp)
    simp [St.seg, o6, xsegWork]
    refine (spec122 ok2 (rd_slK x.2.1 x.2.2 st3) (by have := hO1.2; have := w.hgt_le hin; rw [hgt_at hin, nds_get hlt, ← hx] at this; omega)).mono ?_
    rintro v st3 ⟨rfl, rfl⟩
    rw [hO1.1]
    have hspU : ∀ x y : U, spliceV (eU x) 0 (eU y) = eU y := fun _ _ => rfl
    simp
    intro i8 h8
    have S := S.new h8 (.cells (eU 0#256))
    simp [storeS, nU, eU_len, hspU]
    have S := S.setAt (.cells (eU (natU x.1.work))) 0 rfl
    simp at S
    generalize st3.upd i8 _ = st4 at S ⊢
    have o6 := S.mem (i := i6) (o := .cells (eRw x)) (by simp)
    have o7 := S.mem (i := i7) (o := .cells (eNd x.1)) (by simp)
    have o8 := S.get
    have hs4 := S.was' (st0 := st) (by simp)
    have TR := h.sub hs4
    simp [g0, St.seg, o7, osegId]
    refine (spec162 okz TR x.1.id).mono ?_
    rintro v st4 ⟨rfl, rfl⟩
    rw [hk]
    have hu := eqL_u (natU x.1.work) (natU x.1.work)
    have hidl := eqL_id x.1.id x.1.id
    simp at hu hidl
    simp [g1, St.seg, o6, o7, o8, osegHdr, xsegHdr, osegId, xsegId, osegPar, xsegPar, osegHgt, xsegHgt, osegFail, xsegFail, osegWork, segU, eqK, eHdr_len, eId_len, eU_len, eqL_hdr, hu, hidl]
    refine (spec211 okr (hr.sub hs4) (by omega) x.1.id).mono ?_
    rintro v st4 ⟨rfl, rfl⟩
    rw [hki]
    simp [h19, w1]
    exact Round.mk (l.length - (i + 1)) _ (by omega) (sub_self _) (hJ _ _ _ ⟨i + 1, by omega, rfl, by simp, S.drop.drop.drop⟩)
  · have : i = l.length := by omega
    subst this
    simp [g18, h19]
    exact hs
end
end Go.Ab
/-
  law10: play.
-/
set_option linter.unusedSimpArgs false
set_option linter.unusedVariables false
set_option maxRecDepth 10000
namespace Go.Ab
open Go Go.RowKit
theorem Made.wf {r : Rl} {l : List Nd} (h : Made r l) (hl : l.length ≤ 16384) : Wf l := by
  have key : ∀ {l : List Nd}, Made r l → l.length ≤ 16384 → Wf l := by
    intro l h
    induction h with
    | new => exact fun _ => newM_wf r
    | add h x now ih =>
      intro hl
      rename_i l0
      rcases addM_cases r l0 x now with ⟨e, _⟩ | ⟨p, h1, _, _, h2, e⟩
      · rw [e] at hl ⊢; exact ih hl
      · rw [e] at hl ⊢
        have : l0.length ≤ 16384 := by simp at hl; omega
        exact ndOf_wf (ih this) (findM_lt h1)
    | fail h i ih =>
      intro hl
      rename_i l0
      have hw : l0.length ≤ 16384 := by
        have : (failM l0 i).1.length = l0.length := by
          unfold failM; split <;> simp
        omega
      exact (failM_wf (ih hw) i).1
  exact key h hl
theorem addM_len (r : Rl) (l : List Nd) (x : Hdr) (now : Int) : (addM r l x now).1.length ≤ l.length + 1 := by
  rcases addM_cases r l x now with ⟨e, _⟩ | ⟨p, _, _, _, _, e⟩ <;> rw [e] <;> simp
theorem failM_len (l : List Nd) (i : Int) : (failM l i).1.length = l.length := by
  unfold failM; split <;> simp
theorem spl_z75 (o : OpM) : spliceV z75_1abe 0 (eOp o) = eOp o := by
  unfold spliceV
  rw [List.take_zero, List.nil_append, Nat.zero_add, eOp_len, ← z75_1abe_len, List.drop_length, List.append_nil]
theorem store75 {st : St} {i : Nat} {o : OpM} : storeS (st.upd i (.cells z75_1abe)) 75 (.ptr (some (i, 0))) (.agg (eOp o)) = some (st.upd i (.cells (eOp o))) := by
  simp [storeS, eOp_len, spl_z75]
/-- What comes of playing. -/
def PlayR (r : Rl) (n : Nat) (st : St) (v : V) (st' : St) : Prop :=
  (checkM r ≠ 0 ∧ v = .tup [.ptr none, .sl .nil [] 0, .bool true] ∧ St.sub st st') ∨
  (checkM r = 0 ∧ ∃ tid s l, v = .tup [.ptr (some (tid, 0)), s, .bool true] ∧ Made r (nds l) ∧ Okws l ∧ l.length ≤ 1 + n ∧ Sep [TreeS tid r (nds l), RdN s l, Was st] st')
section
variable {P : Program} {F : Fn}
set_option maxHeartbeats 4000000 in
/-- play -/
theorem spec219 (ok : OkLaw10b P F) (st : St) (r : Rl) (k : SK) (ops : List OpM) (hn : ops.length ≤ 30) :
    ACalls P (F 219) [.agg (eRl r), .sl k (rowsOf eOp ops) ops.length] st (PlayR r ops.length st) := by
  have okz := ok.toOkIndexZ
  have oki := okz.toOkIndex
  have okr := ok.toOkRef10
  refine shows_call ok.mixed ok.h219 (by simp [k219]) ?_
  simp only [k219, z68_eq]
  simp
  intro i2 h2
  have S := (Sep.start st).new h2 (.cells (eRl r))
  generalize st.upd i2 _ = st1 at S ⊢
  have o2 := S.get
  simp [St.seg, o2, rsegAll]
  refine (spec155 oki st1 r).mono ?_
  rintro v st2 hv
  by_cases hc : checkM r = 0
  case neg =>
    rw [if_neg hc] at hv
    obtain ⟨rfl, rfl⟩ := hv
    have hcb : (checkM r != 0) = true := by simp [hc]
    have hs := S.was' (st0 := st) (by simp)
    simp [St.seg, o2, rsegAll]
    refine (spec208 okr st2 r).mono ?_
    rintro v st2 ⟨rfl, rfl⟩
    simp [hcb, eqK]
    exact ⟨st2, St.sub_refl _, .inl ⟨hc, rfl, hs⟩⟩
  case pos =>
    rw [if_pos hc] at hv
    obtain ⟨tid, rfl, T⟩ := hv
    have S := T.over S
    have o2 := S.mem (i := i2) (o := .cells (eRl r)) (by simp)
    simp [St.seg, o2, rsegAll]
    refine (spec208 okr st2 r).mono ?_
    rintro v st2 ⟨rfl, rfl⟩
    simp [hc, eqK, St.seg, o2, rsegAll]
    refine (spec210 okr st2 hc).mono ?_
    rintro v st2 ⟨rfl, rfl⟩
    have S : Sep [RdN (.sl .full (rowsOf eRw [rwNew r]) 1) [rwNew r], TreeS tid r (nds [rwNew r]), pt i2 (.cells (eRl r)), Was st] st2 := S.put (.inl ⟨.full, rfl⟩)
    simp
    refine vc_loopJ (fun c env' st' => ∃ i s l, i ≤ ops.length ∧ c = ops.length - i ∧ env' 46 = .int .i64 (i : Nat) ∧ env' 10 = s ∧ Made r (nds l) ∧ Okws l ∧ l.length ≤ 1 + i ∧ Sep [RdN s l, TreeS tid r (nds l), pt i2 (.cells (eRl r)), Was st] st') ops.length
      ⟨0, _, [rwNew r], by omega, by omega, by simp, by simp, Made.new, rwNew_ok r, by simp, S⟩ ?_
    clear S T o2
    rintro J hJ c env' st3 hsame ⟨i, s, l, hi, rfl, h46, h10, hR, hO, hl, S⟩
    have g2 := (hsame.get 2 rfl).trans (by simp : _ = V.ptr (some (i2, 0)))
    have g7 := (hsame.get 7 rfl).trans (by simp : _ = V.ptr (some (tid, 0)))
    have g44 := (hsame.get 44 rfl).trans (by simp : _ = V.sl k (rowsOf eOp ops) ops.length)
    have g45 := (hsame.get 45 rfl).trans (by simp : _ = V.int .i64 (ops.length : Int))
    clear hsame
    have w : Wf (nds l) := hR.wf (by simp; omega)
    have hne := w.neNil
    have hnl : (nds l).length ≤ 16384 := by simp; omega
    by_cases hlt : i < ops.length
    · have w1 : IntKind.i64.wrap ((i : Int) + 1) = (i : Int) + 1 := wrap64 (by omega) (by omega)
      have rdo : Rd 75 eOp (.sl k (rowsOf eOp ops) ops.length) ops st3 := .inl ⟨k, rfl⟩
      obtain ⟨r1, r2, r3, r4⟩ := rdo.row eOp_len hlt
      obtain ⟨p, hp⟩ : ∃ p, p = rowP 75 (.sl k (rowsOf eOp ops) ops.length) i := ⟨_, rfl⟩
      rw [← hp] at r1 r3
      obtain ⟨o, ho⟩ : ∃ o, o = ops[i] := ⟨_, rfl⟩
      rw [← ho] at r3
      simp [g44, g45, h46, hlt, r1, r3, -idxSlV_sl]
      intro i12 h12
      have S := S.new h12 (.cells z75_1abe)
      simp [store75]
      have S := S.setAt (.cells (eOp o)) 0 rfl
      simp at S
      generalize st3.upd i12 _ = st4 at S ⊢
      have o12 := S.get
      have next : ∀ (env : Env) (st5 : St) (s' : V) (l' : List Rw), env 46 = .int .i64 ((i + 1 : Nat) : Int) → env 10 = s' → Made r (nds l') → Okws l' → l'.length ≤ 1 + (i + 1) → Sep [RdN s' l', TreeS tid r (nds l'), pt i12 (.cells (eOp o)), pt i2 (.cells (eRl r)), Was st] st5 → Round J (ops.length - i) env st5 := fun env st5 s' l' e1 e2 e3 e4 e5 S5 =>
        Round.mk (ops.length - (i + 1)) _ (by omega) (sub_self _) (hJ _ _ _ ⟨i + 1, s', l', by omega, rfl, e1, e2, e3, e4, e5, Sep.tail (fun _ h => Sep.tail (fun _ h => h.drop) h) S5⟩)
      by_cases hk : o.kind = 1
      · have hkb : (o.kind == 1) = true := by simp [hk]
        simp [g7, St.seg, o12, psegKind, hkb, psegParent]
        have S : Sep [TreeS tid r (nds l), pt i12 (.cells (eOp o)), RdN s l, pt i2 (.cells (eRl r)), Was st] st4 := S.pull 2
        refine (tree_fail oki S w hnl o.parent).mono ?_
        rintro v st5 ⟨rfl, S⟩
        have o12 := S.mem (i := i12) (o := .cells (eOp o)) (by simp)
        simp [h10, St.seg, o12, psegParent]
        have S : Sep [RdN s l, TreeS tid r (failM (nds l) o.parent).1, pt i12 (.cells (eOp o)), pt i2 (.cells (eRl r)), Was st] st5 := S.pull 2
        refine (spec216 okr S.rdOf w hO (by omega) o.parent).mono ?_
        rintro v st6 ⟨s', l', rfl, hN, hl', hO'⟩
        have S := hN.over S
        have hll : l'.length = l.length := by
          have := congrArg List.length hl'
          rw [nds_len, failM_len, nds_len] at this
          exact this
        simp
        simp [h46, w1]
        refine next _ _ s' l' (by simp) (by simp) (by rw [hl']; exact hR.fail _) hO' (by omega) (by rw [hl']; exact S)
      · have hkb : (o.kind == 1) = false := by simp [hk]
        simp [g7, St.seg, o12, psegKind, hkb, psegAll]
        have S : Sep [TreeS tid r (nds l), pt i12 (.cells (eOp o)), RdN s l, pt i2 (.cells (eRl r)), Was st] st4 := S.pull 2
        refine (spec217 ok (S.treeR hne) w hnl hc o).mono ?_
        rintro v st4 ⟨rfl, rfl⟩
        obtain ⟨x, hx⟩ : ∃ x, x = headM r (nds l) o := ⟨_, rfl⟩
        rw [← hx]
        simp
        intro i15 h15
        have S := S.new h15 (.cells (eHdr hdr0))
        simp [storeH]
        have S := S.setAt (.cells (eHdr x)) 0 rfl
        simp at S
        generalize st4.upd i15 _ = st5 at S ⊢
        have o15 := S.get
        have o12 := S.mem (i := i12) (o := .cells (eOp o)) (by simp)
        simp [g7, St.seg, o15, hsegAll, o12, psegNow]
        have S : Sep [TreeS tid r (nds l), pt i15 (.cells (eHdr x)), pt i12 (.cells (eOp o)), RdN s l, pt i2 (.cells (eRl r)), Was st] st5 := S.swap
        refine (tree_add oki S w hnl hc x o.now).mono ?_
        rintro v st6 ⟨rfl, S⟩
        have o15 := S.mem (i := i15) (o := .cells (eHdr x)) (by simp)
        have o12 := S.mem (i := i12) (o := .cells (eOp o)) (by simp)
        have o2 := S.mem (i := i2) (o := .cells (eRl r)) (by simp)
        simp [g2, h10, St.seg, o15, hsegAll, o12, psegNow, o2, rsegAll]
        have S : Sep [RdN s l, TreeS tid r (addM r (nds l) x o.now).1, pt i12 (.cells (eOp o)), pt i2 (.cells (eRl r)), Was st] st6 := (Sep.tail (fun _ h => h.drop) S).pull 2
        refine (spec215 okr S.rdOf w hO (by omega) hc x o.now).mono ?_
        rintro v st7 ⟨s', l', rfl, hN, hl', hO'⟩
        have S := hN.over S
        have hll : l'.length ≤ l.length + 1 := by
          have := congrArg List.length hl'
          have h2 := addM_len r (nds l) x o.now
          rw [nds_len] at this h2
          omega
        simp [h46, w1]
        refine next _ _ s' l' (by simp) (by simp) (by rw [hl']; exact hR.add _ _) hO' (by omega) (by rw [hl']; exact S)
    · have : i = ops.length := by omega
      subst this
      have S : Sep [TreeS tid r (nds l), RdN s l, pt i2 (.cells (eRl r)), Was st] st3 := S.swap
      simp [g44, g45, g7, h10, h46]
      refine (spec218 ok (S.treeR hne) S.swap.rdOf w hO (by omega)).mono ?_
      rintro v st3 ⟨rfl, rfl⟩
      simp
      exact ⟨st3, St.sub_refl _, .inr ⟨hc, tid, s, l, rfl, hR, hO, hl, Sep.tail (fun _ h => Sep.tail (fun _ h => h.drop) h) S⟩⟩
end
end Go.Ab
/-
  law10: IndexPlays, IndexLooks, IndexFits.
-/
set_option linter.unusedSimpArgs false
set_option linter.unusedVariables false
set_option maxRecDepth 10000
namespace Go.Ab
open Go Go.RowKit
section
variable {P : Program} {F : Fn}
set_option maxHeartbeats 1000000 in
/-- IndexPlays -/
theorem spec220 (ok : OkLaw10b P F) (st : St) (r : Rl) (k : SK) (ops : List OpM) :
    ACalls P (F 220) [.agg (eRl r), .sl k (rowsOf eOp ops) ops.length] st fun v st' => v = .bool true := by
  have okg := ok.toOkLaw10z
  refine shows_call ok.mixed ok.h220 (by simp [k220]) ?_
  simp only [k220]
  have fin : ∀ s : St, ∃ s', St.sub s' s := fun s => ⟨s, sub_self _⟩
  simp
  intro i2 h2
  have S := (Sep.start st).new h2 (.cells (eRl r))
  generalize st.upd i2 _ = st1 at S ⊢
  have o2 := S.get
  refine (spec185 okg st1).mono ?_
  rintro v st1 ⟨rfl, rfl⟩
  by_cases hl : (30 : Int) < ops.length
  · simp [hl, fin]
  · simp [hl, St.seg, o2, rsegAll]
    refine (spec219 ok st1 r k ops (by omega)).mono ?_
    rintro v st2 (⟨h1, rfl, h3⟩ | ⟨h1, tid, s, l, rfl, h3⟩)
    · simp [fin]
    · simp [fin]
set_option maxHeartbeats 4000000 in
/-- IndexLooks -/
theorem spec221 (ok : OkLaw10b P F) (st : St) (r : Rl) (k : SK) (ops : List OpM) (a b : Int) :
    ACalls P (F 221) [.agg (eRl r), .sl k (rowsOf eOp ops) ops.length, .agg [.int .i64 a, .int .i64 b]] st fun v st' => v = .bool true := by
  have okg := ok.toOkLaw10z
  have okz := ok.toOkIndexZ
  have oki := okz.toOkIndex
  have okr := ok.toOkRef10
  refine shows_call ok.mixed ok.h221 (by simp [k221]) ?_
  simp only [k221]
  have fin : ∀ s : St, ∃ s', St.sub s' s := fun s => ⟨s, sub_self _⟩
  simp
  intro i3 h3
  have S := (Sep.start st).new h3 (.cells (eRl r))
  generalize st.upd i3 _ = st1 at S ⊢
  intro i5 h5
  have S := S.new h5 (.cells [.int .i64 a, .int .i64 b])
  generalize st1.upd i5 _ = st2 at S ⊢
  refine (spec185 okg st2).mono ?_
  rintro v st2 ⟨rfl, rfl⟩
  have o3 := S.mem (i := i3) (o := .cells (eRl r)) (by simp)
  by_cases hl : (30 : Int) < ops.length
  · simp [hl, fin]
  · simp [hl, St.seg, o3, rsegAll]
    refine (spec219 ok st2 r k ops (by omega)).mono ?_
    rintro v st3 (⟨h1, rfl, h3⟩ | ⟨hc, tid, s, l, rfl, hR, hO, hll, T⟩)
    · simp [fin, eqK]
    · have w : Wf (nds l) := hR.wf (by simp; omega)
      have hne := w.neNil
      have hnl : (nds l).length ≤ 16384 := by simp; omega
      have hs := T.was' (st0 := st2) (by simp)
      have S := S.sub hs
      have o5 := S.get
      have o3 := S.mem (i := i3) (o := .cells (eRl r)) (by simp)
      have TR := T.treeR hne
      have rd := T.swap.rdOf
      have hlen := rd.len
      have e0 : segOf [V.int .i64 a, V.int .i64 b] 0 1 = some [.int .i64 a] := rfl
      have e1 : segOf [V.int .i64 a, V.int .i64 b] 1 1 = some [.int .i64 b] := rfl
      have x0 : idxArrV 2 1 (.ptr (some (i5, 0))) (.int .i64 0) = some (.ptr (some (i5, 0))) := rfl
      have x1 : idxArrV 2 1 (.ptr (some (i5, 0))) (.int .i64 1) = some (.ptr (some (i5, 1))) := rfl
      clear T S
      simp [eqK, x0, x1, St.seg, o5, e0, e1]
      refine (spec158 oki TR w a b).mono ?_
      rintro v st3 ⟨rfl, rfl⟩
      simp
      refine (spec212 okr rd w (by omega) a b).mono ?_
      rintro v st3 ⟨rfl, rfl⟩
      by_cases ha : a < 0 ∨ (l.length : Int) ≤ a
      · have hon : onB (nds l) a 0 = false := by
          unfold onB
          rcases ha with h | h
          · have : decide (0 ≤ a) = false := by simp; omega
            rw [this]; rfl
          · have : decide (a < ((nds l).length : Int)) = false := by simp; omega
            rw [this]; simp
        have hin : inI (nds l) a = 0 := by unfold inI; rw [if_pos (by simpa using ha)]
        have hh0 : (nd (nds l) 0).height = 0 := by
          rw [nd_at w.ne]
          exact (w.zero _ (List.getElem?_eq_getElem w.ne)).2
        have oh := osegHgt (nd (nds l) 0)
        rw [hh0] at oh
        have fin2 : ACalls P (F 163) [.ptr (some (tid, 0)), .int .i64 a, .int .i64 0] st3 fun v st' => v = .bool false ∧ st' = st3 := by
          have := spec163 oki TR w a 0
          rw [hon] at this
          exact this
        have fin3 : ACalls P (F 161) [.ptr (some (tid, 0)), .int .i64 a] st3 fun v st' => v = .agg (eNd (nd (nds l) 0)) ∧ st' = st3 := by
          have := spec161 oki TR w a
          rw [hin] at this
          exact this
        by_cases hneg : a < 0
        · simp [hneg]
          refine fin2.mono ?_
          rintro v st3 ⟨rfl, rfl⟩
          simp
          refine fin3.mono ?_
          rintro v st3 ⟨rfl, rfl⟩
          simp [fldV_agg, oh, fin]
        · have hge : (l.length : Int) ≤ a := by omega
          simp [hneg, hlen, hge]
          refine fin2.mono ?_
          rintro v st3 ⟨rfl, rfl⟩
          simp
          refine fin3.mono ?_
          rintro v st3 ⟨rfl, rfl⟩
          simp [fldV_agg, oh, fin]
      · obtain ⟨i, rfl⟩ : ∃ i : Nat, a = i := ⟨a.toNat, by omega⟩
        have hi : i < l.length := by omega
        have hin : i < (nds l).length := by simpa using hi
        have hneg : ¬ ((i : Int) < 0) := by omega
        have hge : ¬ (l.length ≤ i) := by omega
        have eh : hgt (nds l) i = l[i].1.height := by rw [hgt_at hin, nds_get hi]
        simp [hneg, hlen, hge]
        refine vc_loopJ (fun c env' st' => ∃ t, t ≤ l.length ∧ c = l.length - t ∧ env' 66 = .int .i64 (t : Nat) ∧ st' = st3) l.length
          ⟨0, by omega, by omega, by simp, rfl⟩ ?_
        rintro J hJ c env' st4 hsame ⟨t, ht, rfl, h66, rfl⟩
        have g3 := (hsame.get 3 rfl).trans (by simp : _ = V.ptr (some (i3, 0)))
        have g7 := (hsame.get 7 rfl).trans (by simp : _ = V.ptr (some (tid, 0)))
        have g8 := (hsame.get 8 rfl).trans (by simp : _ = s)
        have g10 := (hsame.get 10 rfl).trans (by simp : _ = V.int .i64 (i : Int))
        have g65 := (hsame.get 65 rfl).trans (by simp : _ = V.int .i64 (l.length : Int))
        clear hsame
        by_cases hlt : t < l.length
        · have w1 : IntKind.i64.wrap ((t : Int) + 1) = (t : Int) + 1 := wrap64 (by omega) (by omega)
          obtain ⟨r1, r2, r3, r4⟩ := rd.row eRw_len hi
          obtain ⟨f1, f2⟩ := r4 101 1 (by omega)
          rw [rwHgt, ← eh] at f2
          have hon : (ancI (nds l) t (hgt (nds l) i) == (i : Int)) = onB (nds l) i t := by
            have h0 : decide ((0 : Int) ≤ (i : Int)) = true := by simp
            have h1 : decide ((i : Int) < ((nds l).length : Int)) = true := by simp; omega
            rw [onB, h0, h1]; rfl
          simp [g7, g8, g10, g65, h66, hlt, r1, f1, f2]
          refine ⟨_, spec163 oki TR w i t, ?_⟩
          simp [f2]
          refine ⟨_, spec212 okr rd w (by omega) t (hgt (nds l) i), ?_⟩
          simp [hon, eqK, h66, w1]
          exact Round.mk (l.length - (t + 1)) _ (by omega) (sub_self _) (hJ _ _ _ ⟨t + 1, by omega, rfl, by simp, rfl⟩)
        · have : t = l.length := by omega
          subst this
          simp [g7, g8, g10, g65, h66]
          refine ⟨_, spec166 oki TR w hnl i, ?_⟩
          rw [clI_of hin]
          simp
          refine ⟨_, spec213 okr rd w (by omega) hi, ?_⟩
          simp [g7, g8, g10]
          refine ⟨_, spec167 oki TR w hnl hc hin, ?_⟩
          simp [g3, St.seg, o3, rsegAll]
          refine ⟨_, spec214 okr rd w (by omega) hc hi, ?_⟩
          simp [fin]
theorem fits_add {r : Rl} {l : List Nd} (hl : l.length ≠ 16384) (x : Hdr) (now : Int) : (addM r l x now).2.2 = 5 ∨ fitsM r l x (findI l x.prev) now = (addM r l x now).2.2 := by
  unfold addM
  cases h1 : findM l (hId x) with
  | some i => exact .inl rfl
  | none =>
    cases h2 : findM l x.prev with
    | none =>
      refine .inr ?_
      rw [findI_none h2, fitsM, if_pos (.inl (by omega))]
    | some p =>
      refine .inr ?_
      rw [findI_some h2]
      dsimp only
      by_cases h3 : fitsM r l x p now ≠ 0
      · rw [if_pos h3]
      · rw [if_neg h3, if_neg hl]
        simpa using h3
set_option maxHeartbeats 4000000 in
/-- IndexFits -/
theorem spec223 (ok : OkLaw10b P F) (st : St) (r : Rl) (k : SK) (ops : List OpM) (o : OpM) :
    ACalls P (F 223) [.agg (eRl r), .sl k (rowsOf eOp ops) ops.length, .agg (eOp o)] st fun v st' => v = .bool true := by
  have okg := ok.toOkLaw10z
  have okz := ok.toOkIndexZ
  have oki := okz.toOkIndex
  have okr := ok.toOkRef10
  refine shows_call ok.mixed ok.h223 (by simp [k223]) ?_
  simp only [k223, z68_eq]
  have fin : ∀ s : St, ∃ s', St.sub s' s := fun s => ⟨s, sub_self _⟩
  simp
  intro i3 h3
  have S := (Sep.start st).new h3 (.cells (eRl r))
  generalize st.upd i3 _ = st1 at S ⊢
  intro i5 h5
  have S := S.new h5 (.cells (eOp o))
  generalize st1.upd i5 _ = st2 at S ⊢
  refine (spec185 okg st2).mono ?_
  rintro v st2 ⟨rfl, rfl⟩
  have o3 := S.mem (i := i3) (o := .cells (eRl r)) (by simp)
  by_cases hl : (20 : Int) < ops.length
  · simp [hl, fin]
  · simp [hl, St.seg, o3, rsegAll]
    refine (spec219 ok st2 r k ops (by omega)).mono ?_
    rintro v st3 (⟨h1, rfl, h3⟩ | ⟨hc, tid, s, l, rfl, hR, hO, hll, T⟩)
    · simp [fin, eqK]
    · have w : Wf (nds l) := hR.wf (by simp; omega)
      have hne := w.neNil
      have hnl : (nds l).length ≤ 16384 := by simp; omega
      have S := (Sep.over (Sep.tail (fun _ h => h.drop) T) S)
      have rd := T.swap.rdOf
      have TR := S.treeR hne
      clear T
      have o5 := S.mem (i := i5) (o := .cells (eOp o)) (by simp)
      simp [eqK, St.seg, o5, psegAll]
      refine (spec217 ok TR w hnl hc o).mono ?_
      rintro v st3 ⟨rfl, rfl⟩
      obtain ⟨x, hx⟩ : ∃ x, x = headM r (nds l) o := ⟨_, rfl⟩
      rw [← hx]
      simp
      intro i10 h10
      have rd := rd.sub (sub_upd (o := .cells (eHdr x)) h10)
      have S := S.new h10 (.cells (eHdr hdr0))
      simp [storeH]
      have S := S.setAt (.cells (eHdr x)) 0 rfl
      simp at S
      generalize st3.upd i10 _ = st4 at S rd ⊢
      have o10 := S.get
      have xp := hsegPrev x
      simp [St.seg, o10, xp]
      refine (spec211 okr rd (by omega) x.prev).mono ?_
      rintro v st4 ⟨rfl, rfl⟩
      have S : Sep [TreeS tid r (nds l), pt i10 (.cells (eHdr x)), pt i5 (.cells (eOp o)), pt i3 (.cells (eRl r)), Was st] st4 := S.swap
      have TR := S.treeR hne
      have o5 := S.mem (i := i5) (o := .cells (eOp o)) (by simp)
      simp [St.seg, o10, hsegAll, o5, psegNow]
      refine (spec168 oki TR w hnl hc x _ o.now).mono ?_
      rintro v st4 ⟨rfl, rfl⟩
      simp [St.seg, o10, hsegAll, o5, psegNow]
      refine (tree_add oki S w hnl hc x o.now).mono ?_
      rintro v st5 ⟨rfl, -⟩
      have hfa := fits_add (r := r) (l := nds l) (by simp; omega) x o.now
      by_cases h5 : (addM r (nds l) x o.now).2.2 = 5
      · simp [h5, fin]
      · have hf := hfa.resolve_left h5
        have h5b : ((addM r (nds l) x o.now).2.2 == 5) = false := by simp [h5]
        simp [h5b, hf, fin]
end
end Go.Ab
/-
  law10: IndexWork.
-/
set_option linter.unusedSimpArgs false
set_option linter.unusedVariables false
set_option maxRecDepth 10000
namespace Go.Ab
open Go Go.RowKit
/-- How one stands behind another one. -/
structure Behind (r : Rl) (l : List Nd) (i : Nat) (x : Nd) (p : Nat) (y : Nd) : Prop where
  par : x.parent = (p : Nat)
  lt : p < i
  at_ : l[p]? = some y
  prev : x.hdr.prev = y.id
  fails : y.failed = true → x.failed = true
  id : x.id = hId x.hdr
  proved : provedN x.hdr r.limit = 0
  work : x.work = workN ((tgt x.hdr.bits).getD 0) + y.work
structure Good (r : Rl) (l : List Nd) : Prop where
  g0 : ∀ x, l[0]? = some x → x.failed = false
  all : ∀ (i : Nat) (x : Nd), 0 < i → l[i]? = some x → ∃ p y, Behind r l i x p y
theorem good_new (r : Rl) : Good r (newM r) := by
  refine ⟨fun x h => ?_, fun i x h0 h => ?_⟩
  · simp [newM] at h; rw [← h]
  · have := (List.getElem?_eq_some_iff.1 h).1
    simp [newM] at this; omega
theorem ndOf_id (l : List Nd) (h : Hdr) (p : Nat) : (ndOf l h p).id = hId h := by
  unfold ndOf
  generalize hId h = I
  rfl
theorem good_add {r : Rl} {l : List Nd} (g : Good r l) (w : Wf l) (x : Hdr) (now : Int) : Good r (addM r l x now).1 := by
  rcases addM_cases r l x now with ⟨e, _⟩ | ⟨p, h1, _, h3, _, e⟩
  · rw [e]; exact g
  · rw [e]
    have hp := findM_lt h1
    obtain ⟨y, hy, hid⟩ := findM_some h1
    have hlim : ¬ ((p : Int) < 0 ∨ (l.length : Int) ≤ (p : Int)) := by omega
    have hfp : provedN x r.limit = 0 ∧ (nd l p).failed = false := by
      unfold fitsM at h3
      rw [if_neg hlim, Int.toNat_natCast] at h3
      by_cases c1 : provedN x r.limit = 0
      · rw [if_neg (by simp [c1])] at h3
        refine ⟨c1, ?_⟩
        cases hf : (nd l p).failed with
        | false => rfl
        | true => rw [hf, if_pos rfl] at h3; cases h3
      · rw [if_pos c1] at h3; exact absurd h3 c1
    have hny : nd l p = y := by simp [nd, hy]
    refine ⟨fun z hz => ?_, fun i z h0 hz => ?_⟩
    · rw [List.getElem?_append_left w.ne] at hz
      exact g.g0 z hz
    · by_cases hl : i < l.length
      · rw [List.getElem?_append_left hl] at hz
        obtain ⟨q, u, b⟩ := g.all i z h0 hz
        have := b.lt
        exact ⟨q, u, { b with at_ := by rw [List.getElem?_append_left (by omega)]; exact b.at_ }⟩
      · have : i = l.length := by
          have := (List.getElem?_eq_some_iff.1 hz).1
          simp at this
          omega
        subst this
        rw [List.getElem?_append_right (Nat.le_refl _), Nat.sub_self] at hz
        have hz := Option.some.inj hz
        refine ⟨p, y, ?_⟩
        refine { par := ?_, lt := hp, at_ := ?_, prev := ?_, fails := ?_, id := ?_, proved := ?_, work := ?_ }
        · rw [← hz]; rfl
        · rw [List.getElem?_append_left hp]; exact hy
        · rw [← hz]; exact hid.symm
        · intro hf; rw [← hny, hfp.2] at hf; cases hf
        · rw [← hz]; exact ndOf_id l x p
        · rw [← hz]; exact hfp.1
        · rw [← hz, ndOf_work, hny]; rfl
theorem onB_child {l : List Nd} (w : Wf l) {n i : Nat} (hn : n < l.length) (h0 : 0 < i) (hi : i < l.length) (h : onB l n (par l i) = true) : onB l n i = true := by
  have hp := w.par_lt h0 hi
  have hh := w.hgt_par h0 hi
  rw [onB_nat hn (by omega)] at h
  rw [onB_nat hn hi]
  simp only [decide_eq_true_eq] at h ⊢
  refine ⟨by omega, ?_⟩
  rw [w.anc_par hi (by omega)]
  exact h.2
theorem good_setF {r : Rl} {l : List Nd} (g : Good r l) (w : Wf l) {n : Nat} (h1 : 1 ≤ n) (hn : n < l.length) : Good r (setF (fun k => onB l n (k : Nat)) l) := by
  refine ⟨fun x hx => ?_, fun i x h0 hx => ?_⟩
  · rw [setF_get?] at hx
    cases h : l[0]? with
    | none => rw [h] at hx; cases hx
    | some y =>
      rw [h] at hx
      simp only [Option.map_some, Option.some.injEq] at hx
      have := onB_lt w hn (k := 0) (by omega)
      rw [← hx, if_neg (by rw [this]; simp)]
      exact g.g0 y h
  · rw [setF_get?] at hx
    cases h : l[i]? with
    | none => rw [h] at hx; cases hx
    | some z =>
      rw [h] at hx
      simp only [Option.map_some, Option.some.injEq] at hx
      have hi := (List.getElem?_eq_some_iff.1 h).1
      obtain ⟨p, y, b⟩ := g.all i z h0 h
      have hpar : par l i = p := by
        have := b.par
        simp only [par, h, Option.map_some, Option.getD_some, this]
        omega
      refine ⟨p, if onB l n (p : Nat) = true then { y with failed := true } else y, ?_⟩
      refine { par := ?_, lt := b.lt, at_ := ?_, prev := ?_, fails := ?_, id := ?_, proved := ?_, work := ?_ }
      · rw [← hx]; split <;> exact b.par
      · rw [setF_get?, b.at_]; rfl
      · rw [← hx]; split <;> split <;> exact b.prev
      · intro hf
        rw [← hx]
        by_cases hc : onB l n (p : Nat) = true
        · rw [if_pos (onB_child w hn h0 hi (by rw [hpar]; exact hc))]
        · rw [if_neg hc] at hf
          have := b.fails hf
          split
          · rfl
          · exact this
      · rw [← hx]; split <;> exact b.id
      · rw [← hx]; split <;> exact b.proved
      · rw [← hx]; split <;> split <;> exact b.work
theorem good_fail {r : Rl} {l : List Nd} (g : Good r l) (w : Wf l) (i : Int) : Good r (failM l i).1 := by
  unfold failM
  split
  · exact g
  · rename_i h
    obtain ⟨n, rfl⟩ : ∃ n : Nat, i = n := ⟨i.toNat, by omega⟩
    exact good_setF g w (by omega) (by omega)
theorem Made.good {r : Rl} {l : List Nd} (h : Made r l) (hl : l.length ≤ 16384) : Good r l := by
  have key : ∀ {l : List Nd}, Made r l → l.length ≤ 16384 → Good r l := by
    intro l h
    induction h with
    | new => exact fun _ => good_new r
    | add h x now ih =>
      intro hl
      rename_i l0
      have hle : l0.length ≤ 16384 := by
        rcases addM_cases r l0 x now with ⟨e, _⟩ | ⟨p, _, _, _, _, e⟩
        · rw [e] at hl; exact hl
        · rw [e] at hl; simp at hl; omega
      exact good_add (ih hle) (h.wf hle) x now
    | fail h i ih =>
      intro hl
      rw [failM_len] at hl
      exact good_fail (ih hl) (h.wf hl) i
  exact key h hl
theorem work_more {t : Nat} (h0 : 0 < t) (ht : t < 2 ^ 256) (pw : Nat) (hb : bitlen (natU pw).toNat < 250) : (natU pw).toNat < (natU (workN t + pw)).toNat := by
  have hw1 : 1 ≤ workN t := by
    unfold workN
    rw [Nat.le_div_iff_mul_le (by omega)]; omega
  have hw2 : workN t ≤ 2 ^ 255 := by
    unfold workN
    have e : (2 : Nat) ^ 256 = 2 * 2 ^ 255 := by rw [← Nat.pow_succ']
    rw [e]
    refine Nat.div_le_of_le_mul ?_
    exact Nat.mul_le_mul_right _ (by omega)
  have hlt : (natU pw).toNat < 2 ^ 250 := bitlen_le.1 (by omega)
  have e1 : (natU pw).toNat = pw % 2 ^ 256 := BitVec.toNat_ofNat _ _
  have e2 : (natU (workN t + pw)).toNat = (workN t + pw) % 2 ^ 256 := BitVec.toNat_ofNat _ _
  rw [e1] at hlt ⊢
  rw [e2, Nat.add_mod]
  have e3 : workN t % 2 ^ 256 = workN t := Nat.mod_eq_of_lt (Nat.lt_of_le_of_lt hw2 (Nat.pow_lt_pow_right (by omega) (by omega)))
  have h255 : (2 : Nat) ^ 256 = 2 ^ 255 + 2 ^ 255 := by rw [← Nat.two_mul, ← Nat.pow_succ']
  have h250 : (2 : Nat) ^ 250 ≤ 2 ^ 255 := Nat.pow_le_pow_right (by omega) (by omega)
  rw [e3, Nat.mod_eq_of_lt (a := workN t + pw % 2 ^ 256) (by omega)]
  omega
theorem osegPrev (x : Nd) : segOf (eNd x) 1 32 = some (eId x.hdr.prev) := by
  refine seg_of_take ?_ (by rw [eNd_len]; omega)
  have := take_drop_take (cs := eNd x) (a := 0) (n := 68) (o := 1) (k := 32) (by omega)
  rw [Nat.zero_add] at this
  rw [this, nsegHdr, hdrop1, ← eId_len x.hdr.prev, List.take_left]
theorem oU_pack (x : U) : V.agg (eU x) = nU x := rfl
section
variable {P : Program} {F : Fn}
set_option maxHeartbeats 4000000 in
/-- IndexWork -/
theorem spec222 (ok : OkLaw10b P F) (st : St) (r : Rl) (k : SK) (ops : List OpM) :
    ACalls P (F 222) [.agg (eRl r), .sl k (rowsOf eOp ops) ops.length] st fun v st' => v = .bool true := by
  have okg := ok.toOkLaw10z
  have okz := ok.toOkIndexZ
  have oki := okz.toOkIndex
  have okh := oki.toOkHead
  have okn := okh.toOkNum
  refine shows_call ok.mixed ok.h222 (by simp [k222]) ?_
  simp only [k222, z108_eq]
  have fin : ∀ s : St, ∃ s', St.sub s' s := fun s => ⟨s, sub_self _⟩
  simp
  intro i2 h2
  have S := (Sep.start st).new h2 (.cells (eRl r))
  generalize st.upd i2 _ = st1 at S ⊢
  have o2 := S.get
  refine (spec185 okg st1).mono ?_
  rintro v st1 ⟨rfl, rfl⟩
  by_cases hl : (30 : Int) < ops.length
  · simp [hl, fin]
  · simp [hl, St.seg, o2, rsegAll]
    refine (spec219 ok st1 r k ops (by omega)).mono ?_
    rintro v st3 (⟨h1, rfl, h3⟩ | ⟨hc, tid, s, l0, rfl, hR, hO, hll, T⟩)
    · simp [fin, eqK]
    · obtain ⟨l, hl0⟩ : ∃ l, l = nds l0 := ⟨_, rfl⟩
      have hll : l.length ≤ 31 := by rw [hl0]; simp; omega
      rw [← hl0] at T hR
      have w : Wf l := hR.wf (by omega)
      have g : Good r l := hR.good (by omega)
      have hne := w.neNil
      have hnl : l.length ≤ 16384 := by omega
      have S := (Sep.over (Sep.tail (fun _ h => h.drop) T) S)
      clear T
      have S : Sep [pt i2 (.cells (eRl r)), TreeS tid r l, Was st] st3 := S.swap
      simp [eqK]
      refine vc_loopJ (fun c env' st' => ∃ i, 1 ≤ i ∧ i ≤ l.length ∧ c = l.length - i ∧ env' 8 = .int .i64 (i : Nat) ∧ Sep [pt i2 (.cells (eRl r)), TreeS tid r l, Was st] st') (l.length - 1)
        ⟨1, by omega, w.ne, by omega, by simp, S⟩ ?_
      clear S o2
      rintro J hJ c env' st4 hsame ⟨i, hi1, hi, rfl, h8, S⟩
      have g2 := (hsame.get 2 rfl).trans (by simp : _ = V.ptr (some (i2, 0)))
      have g5 := (hsame.get 5 rfl).trans (by simp : _ = V.ptr (some (tid, 0)))
      clear hsame
      have TR := S.swap.treeR hne
      simp [g5, h8]
      refine (spec159 oki TR).mono ?_
      rintro v st4 ⟨rfl, rfl⟩
      by_cases hlt : i < l.length
      · have w1 : IntKind.i64.wrap ((i : Int) + 1) = (i : Int) + 1 := wrap64 (by omega) (by omega)
        obtain ⟨x, hx⟩ : ∃ x, x = nd l i := ⟨_, rfl⟩
        have hxi : l[i]? = some x := by rw [hx, nd_at hlt]; exact List.getElem?_eq_getElem hlt
        obtain ⟨p, y, b⟩ := g.all i x (by omega) hxi
        have hpl := b.lt
        have hy : nd l p = y := by simp [nd, b.at_]
        have hini : inI l i = i := by unfold inI; rw [if_neg (by omega)]; omega
        have hinp : inI l p = p := by unfold inI; rw [if_neg (by omega)]; omega
        have hh : x.height = y.height + 1 := by
          have := (w.succ i x (by omega) hxi).2.2
          rw [b.par, Int.toNat_natCast, hgt, b.at_] at this
          exact this
        have hyh : y.height ≤ 31 := by
          have := w.hgt_le (i := p) (by omega)
          rw [hgt, b.at_] at this
          simp at this
          omega
        have hsp : ∀ x y, spliceV (eNd x) 0 (eNd y) = eNd y := fun x y => by simp [spliceV, eNd_len]
        simp [hlt, g5, h8]
        refine (spec161 oki TR w i).mono ?_
        rintro v st4 ⟨rfl, rfl⟩
        rw [hini, ← hx]
        simp
        intro i9 h9
        have S := S.new h9 (.cells (eNd nd0))
        simp [storeS, eNd_len, hsp]
        have S := S.setAt (.cells (eNd x)) 0 rfl
        simp at S
        generalize st4.upd i9 _ = st5 at S ⊢
        have o9 := S.get
        have TR := (S.pull 2 : Sep [TreeS tid r l, _, _, _] st5).treeR hne
        have oP := osegPar x
        rw [b.par] at oP
        simp [g5, St.seg, o9, oP]
        refine (spec161 oki TR w p).mono ?_
        rintro v st5 ⟨rfl, rfl⟩
        rw [hinp, hy]
        simp
        intro i10 h10
        have S := S.new h10 (.cells (eNd nd0))
        simp [storeS, eNd_len, hsp]
        have S := S.setAt (.cells (eNd y)) 0 rfl
        simp at S
        generalize st5.upd i10 _ = st6 at S ⊢
        have o10 := S.get
        have o9 := S.mem (i := i9) (o := .cells (eNd x)) (by simp)
        have o2 := S.mem (i := i2) (o := .cells (eRl r)) (by simp)
        have oh := osegHgt x
        rw [hh] at oh
        have hw : IntKind.i64.wrap ((y.height : Int) + 1) = ((y.height + 1 : Nat) : Int) := by rw [wrap64 (by omega) (by omega)]; omega
        obtain ⟨H, hH⟩ : ∃ H, H = y.height + 1 := ⟨_, rfl⟩
        rw [← hH] at oh hw
        have hpi : ¬ i ≤ p := by omega
        have hp0 : ¬ ((p : Int) < 0) := by omega
        have ePrev : eqL (eId x.hdr.prev) (eId y.id) = some true := by rw [eqL_id, b.prev]; simp
        have eId' : eqL (eId x.id) (eId (hId x.hdr)) = some true := by rw [eqL_id, b.id]; simp
        obtain ⟨I, hI⟩ : ∃ I, I = hId x.hdr := ⟨_, rfl⟩
        rw [← hI] at eId'
        have s141 : ∀ g, ACalls P (F 141) [.agg (eHdr x.hdr)] g fun v st' => v = .agg (eId I) ∧ st' = g := fun g => by rw [hI]; exact spec141 okh g x.hdr
        have s142 : ∀ g, ACalls P (F 142) [.agg (eHdr x.hdr), w32 r.limit] g fun v st' => v = .int .i64 0 ∧ st' = g := fun g => by rw [← b.proved]; exact spec142 okh g x.hdr r.limit
        have oF1 := osegFail x
        have oF2 := osegFail y
        have rest : ∀ (f : Bool) (hf : segOf (eNd y) 107 1 = some [.bool f]) (hf2 : f = true → segOf (eNd x) 107 1 = some [.bool true]), True := fun _ _ _ => trivial
        clear rest
        obtain ⟨t, ht⟩ := provedN_bits b.proved
        have htl := tgt_lt ht
        have hwk := b.work
        rw [ht] at hwk
        have hwk : x.work = workN t + y.work := hwk
        have hmore := work_more htl.1 htl.2 y.work
        rw [← hwk] at hmore
        obtain ⟨X, hX⟩ : ∃ X, X = natU x.work := ⟨_, rfl⟩
        obtain ⟨Y, hY⟩ : ∃ Y, Y = natU y.work := ⟨_, rfl⟩
        have oW1 := osegWork x
        have oW2 := osegWork y
        rw [← hX] at hmore oW1
        rw [← hY] at hmore oW2
        have hgt := gtr_cmp X Y
        have next : ∀ env : Env, env 8 = .int .i64 ((i + 1 : Nat) : Int) → Round J (l.length - i) env st6 := fun env h =>
          Round.mk (l.length - (i + 1)) _ (by omega) (sub_self _) (hJ _ _ _ ⟨i + 1, by omega, by omega, rfl, h, S.drop.drop⟩)
        have tail : ∀ {Q : Prop}, (cmpU X Y ≤ 0 → ¬ bitlen Y.toNat < 250) := fun {Q} h1 h2 => by
          have := hmore h2
          have h3 : decide (0 < cmpU X Y) = true := by rw [hgt]; simp [this]
          simp at h3
          omega
        have tail := @tail True
        cases hfy : y.failed with
        | true =>
          rw [b.fails hfy] at oF1
          rw [hfy] at oF2
          simp [g2, g5, h8, St.seg, o2, o9, o10, oP, hpi, hp0, osegPrev, osegId, eqK, eId_len, ePrev, oh, osegHgt, hw, oF1, oF2, osegHdr]
          refine ⟨_, s141 st6, ?_⟩
          simp [eqK, eId_len, eId', St.seg, o9, osegHdr, o2, g2, rsegLimit]
          refine ⟨_, s142 st6, ?_⟩
          simp [St.seg, o9, o10, oW1, oW2, oU_pack]
          refine (spec106 okn st6 X Y).mono ?_
          rintro v st6 ⟨rfl, rfl⟩
          by_cases h1 : cmpU X Y ≤ 0
          · have h2 := tail h1
            simp [h1, St.seg, o10, oW2, oU_pack]
            refine (spec114 okn st6 Y).mono ?_
            rintro v st6 ⟨rfl, rfl⟩
            have h2' : ¬ (bitlen Y.toNat : Int) < 250 := by omega
            simp [h2', h8, w1]
            exact next _ (by simp)
          · simp [h1, h8, w1]
            exact next _ (by simp)
        | false =>
          rw [hfy] at oF2
          simp [g2, g5, h8, St.seg, o2, o9, o10, oP, hpi, hp0, osegPrev, osegId, eqK, eId_len, ePrev, oh, osegHgt, hw, oF1, oF2, osegHdr]
          refine ⟨_, s141 st6, ?_⟩
          simp [eqK, eId_len, eId', St.seg, o9, osegHdr, o2, g2, rsegLimit]
          refine ⟨_, s142 st6, ?_⟩
          simp [St.seg, o9, o10, oW1, oW2, oU_pack]
          refine (spec106 okn st6 X Y).mono ?_
          rintro v st6 ⟨rfl, rfl⟩
          by_cases h1 : cmpU X Y ≤ 0
          · have h2 := tail h1
            simp [h1, St.seg, o10, oW2, oU_pack]
            refine (spec114 okn st6 Y).mono ?_
            rintro v st6 ⟨rfl, rfl⟩
            have h2' : ¬ (bitlen Y.toNat : Int) < 250 := by omega
            simp [h2', h8, w1]
            exact next _ (by simp)
          · simp [h1, h8, w1]
            exact next _ (by simp)
      · have : i = l.length := by omega
        subst this
        simp [g5]
        refine (spec161 oki TR w 0).mono ?_
        rintro v st4 ⟨rfl, rfl⟩
        have hin0 : inI l 0 = 0 := by unfold inI; split <;> rfl
        have hf := g.g0 (nd l 0) (by rw [nd_at w.ne]; exact List.getElem?_eq_getElem w.ne)
        have oF := osegFail (nd l 0)
        rw [hf] at oF
        rw [hin0]
        simp [fldV_agg, oF, fin]
end
end Go.Ab
/-
  Out of a contract: what the machine does when it is called over any heap.
-/
set_option linter.unusedSimpArgs false
set_option linter.unusedVariables false
namespace Go.Ab
open Go Go.RowKit

/-- All that lies is kept as it is. -/
def Gh.all (w : World) : Gh := { ι := fun _ => none, pm := fun b o => if b < w.heap.size then w.cell? ⟨b, o, none⟩ else none, N := 0, fresh := fun _ _ => rfl }

theorem stRel_all (w : World) : StRel w.heap.size w (Gh.all w) (fun _ => none) w := by
  refine ⟨Below.refl _ _, Nat.le_refl _, fun id b x h => (by cases h), fun b o v h => ?_, fun id ob h => (by cases h), fun id id' b x x' h => absurd rfl h⟩
  simp only [Gh.all] at h
  split at h
  · exact h
  · cases h

theorem calls_of_acalls {P : Program} {f : FuncId} {args : List V} {w : World} {xs : List Value} (h : ACalls P f args (fun _ => none) fun v _ => v = .bool true) (ha : LRel (Gh.all w) args xs) :
    Calls P f xs.toArray w fun e w' => e = .returned (.bool true) ∧ Below w.heap.size w w' := by
  refine (h (fun _ => none) (fun _ => .inl rfl) w.heap.size w (Gh.all w) w xs (by rw [St.add_none]; exact stRel_all w) ha).mono ?_
  rintro e w' ⟨v, x, G', st', rfl, h1, h2, h3, h4, rfl⟩
  cases h2
  exact ⟨rfl, h4.below⟩
end Go.Ab
/-
  The arguments of a statement, as they are handed in: read as abstract values.
-/
set_option linter.unusedSimpArgs false
set_option linter.unusedVariables false
namespace Go.Ab
open Go Go.RowKit Go.ChangeShapes Go.WideShapes Go.Deep

def ofCellV : Value → V
  | .bool b => .bool b
  | .int k n => .int k n
  | .string s => .str s
  | _ => .junk

theorem ofCellV_rel (G : Gh) (x : Value) : VRel G (ofCellV x) x := by
  cases x <;> first | exact .bool _ | exact .int _ _ | exact .str _ | exact .junk _

def plainCell : Value → Bool
  | .bool _ | .int .. | .string _ | .slice .. => true
  | _ => false

theorem plainCell_one {x : Value} (h : plainCell x = true) : x.oneCell' = true := by
  cases x <;> first | rfl | cases h

/-- How many cells a type has, all of them numbers, bools and strings, or slices that nobody looks at. -/
def plainTy (P : Program) : Nat → TypeId → Option Nat
  | 0, _ => none
  | d + 1, t =>
    match P.underlying t with
    | some (.int _) | some .bool | some .string | some (.slice _) => some 1
    | some (.struct fs) => (flatFs P (plainTy P d) fs.toList 0).bind fun n => if P.cellsOf t = n then some n else none
    | some (.array len e) => (plainTy P d e).bind fun m => if P.cellsOf e = m ∧ P.cellsOf t = len * m then some (len * m) else none
    | _ => none

/-- What the cells of such a type are. -/
inductive Shape (P : Program) : TypeId → List V → Prop
  | int {t : TypeId} {k : IntKind} (hu : P.underlying t = some (.int k)) (n : Int) (hw : (Lit.int k n).wf = true) : Shape P t [.int k n]
  | bool {t : TypeId} (hu : P.underlying t = some .bool) (b : Bool) : Shape P t [.bool b]
  | str {t : TypeId} (hu : P.underlying t = some .string) (s : ByteArray) : Shape P t [.str s]
  | hole {t e : TypeId} (hu : P.underlying t = some (.slice e)) : Shape P t [.junk]
  | struct {t : TypeId} {fs : Array Field} (hu : P.underlying t = some (.struct fs)) (vs : List V) (h : ∀ (i : Nat) (f : Field), fs[i]? = some f → Shape P f.type ((vs.drop f.offset).take (P.cellsOf f.type))) : Shape P t vs
  | array {t : TypeId} {n : Nat} {e : TypeId} (hu : P.underlying t = some (.array n e)) (vs : List V) (h : ∀ i, i < n → Shape P e ((vs.drop (i * P.cellsOf e)).take (P.cellsOf e))) : Shape P t vs

section
variable {P : Program} {t : TypeId} {vs : List V}

theorem shape_field {fs : Array Field} (hu : P.underlying t = some (.struct fs)) (h : Shape P t vs) (i : Nat) (f : Field) (hf : fs[i]? = some f) : Shape P f.type ((vs.drop f.offset).take (P.cellsOf f.type)) := by
  cases h with
  | struct hu' _ h => rw [hu] at hu'; cases hu'; exact h i f hf
  | int hu' | bool hu' | str hu' | hole hu' | array hu' => rw [hu] at hu'; cases hu'

theorem shape_elem {n : Nat} {e : TypeId} (hu : P.underlying t = some (.array n e)) (h : Shape P t vs) (i : Nat) (hi : i < n) : Shape P e ((vs.drop (i * P.cellsOf e)).take (P.cellsOf e)) := by
  cases h with
  | array hu' _ h => rw [hu] at hu'; cases hu'; exact h i hi
  | int hu' | bool hu' | str hu' | hole hu' | struct hu' => rw [hu] at hu'; cases hu'

theorem take_one {o c : Nat} {x : V} (h : (vs.drop o).take c = [x]) : vs[o]? = some x := by
  have := congrArg (fun m => m[0]?) h
  simp only [List.getElem?_take, List.getElem?_drop, List.getElem?_cons_zero, Nat.add_zero] at this
  split at this
  · exact this
  · cases this

theorem shape_int {k : IntKind} {o c : Nat} (hu : P.underlying t = some (.int k)) (h : Shape P t ((vs.drop o).take c)) : ∃ n, vs[o]? = some (.int k n) ∧ (Lit.int k n).wf = true := by
  generalize hx : (vs.drop o).take c = x at h
  cases h with
  | int hu' n hw => rw [hu] at hu'; cases hu'; exact ⟨n, take_one hx, hw⟩
  | bool hu' | str hu' | hole hu' | struct hu' | array hu' => rw [hu] at hu'; cases hu'

theorem shape_bool {o c : Nat} (hu : P.underlying t = some .bool) (h : Shape P t ((vs.drop o).take c)) : ∃ b, vs[o]? = some (.bool b) := by
  generalize hx : (vs.drop o).take c = x at h
  cases h with
  | bool hu' b => exact ⟨b, take_one hx⟩
  | int hu' | str hu' | hole hu' | struct hu' | array hu' => rw [hu] at hu'; cases hu'
end

section
variable {H : Type} {enc : TypeId × Value → H} {P : Program} {w : World} {base : Nat} {spare : Nat → Bool} {held : Bool}

theorem flatFs_cover {g : TypeId → Option Nat} {Q : Nat → Prop} : ∀ (fs : List Field) (n0 n : Nat), flatFs P g fs n0 = some n → (∀ f ∈ fs, ∀ m, g f.type = some m → P.cellsOf f.type = m → ∀ j, j < m → Q (f.offset + j)) → ∀ j, n0 ≤ j → j < n → Q j
  | [], n0, n, h, _, j, h1, h2 => by
    simp only [flatFs, Option.some.injEq] at h
    omega
  | f :: fs, n0, n, h, hq, j, h1, h2 => by
    simp only [flatFs] at h
    split at h <;> try (cases h; done)
    rename_i hc
    obtain ⟨m, hm, h⟩ := Option.bind_eq_some_iff.1 h
    split at h <;> try (cases h; done)
    rename_i hsz
    have hcm : P.cellsOf f.type = m := by
      unfold szOf at hsz
      simp only [Program.cellsOf, hsz, Option.getD_some]
    have hoff : f.offset = n0 := by
      simp at hc
      exact hc.2
    by_cases hj : j < n0 + m
    · have := hq f (by simp) m hm hcm (j - n0) (by omega)
      rwa [hoff, show n0 + (j - n0) = j by omega] at this
    · exact flatFs_cover fs (n0 + m) n h (fun f hf => hq f (by simp [hf])) j (by omega) h2

theorem trod_plain : ∀ (d : Nat) (t : TypeId) (m : Nat), plainTy P d t = some m → ∀ {fuel : Nat} {cs : List Value} {x : DataW H × List MemPlace}, DataW.trod enc P w base spare held fuel t cs = some x →
    cs.length = m ∧ (∀ j, j < m → plainCell (cs.getD j undef) = true) ∧ Shape P t (cs.map ofCellV)
  | 0, t, m, hp, fuel, cs, x, h => by cases hp
  | d + 1, t, m, hp, fuel, cs, x, h => by
    simp only [plainTy] at hp
    split at hp
    · rename_i k hu
      cases hp
      obtain ⟨n, rfl, _, hwf⟩ := DataW.trod_int hu h
      refine ⟨rfl, fun j hj => ?_, .int hu n hwf⟩
      have : j = 0 := by omega
      subst this
      rfl
    · rename_i hu
      cases hp
      obtain ⟨b, rfl, _⟩ := DataW.trod_bool hu h
      refine ⟨rfl, fun j hj => ?_, .bool hu b⟩
      have : j = 0 := by omega
      subst this
      rfl
    · rename_i hu
      cases hp
      obtain ⟨s, rfl, _⟩ := DataW.trod_string hu h
      refine ⟨rfl, fun j hj => ?_, .str hu s⟩
      have : j = 0 := by omega
      subst this
      rfl
    · rename_i e hu
      cases hp
      obtain ⟨ao, len, cap, rfl⟩ : ∃ ao len cap, cs = [.slice ao len cap] := by
        rcases open_slice hu h with ⟨h0, _⟩ | ⟨a, len', cap', m, n, D, Pl, hcs, _⟩
        · exact ⟨_, _, _, h0⟩
        · exact ⟨_, _, _, hcs⟩
      refine ⟨rfl, fun j hj => ?_, .hole hu⟩
      have : j = 0 := by omega
      subst this
      rfl
    · rename_i fs hu
      obtain ⟨n, hf, hp⟩ := Option.bind_eq_some_iff.1 hp
      split at hp <;> cases hp
      rename_i hcm
      obtain ⟨xs, n', _, _, hlen, hxl, hg⟩ := DataW.trod_struct hu h
      have sub : ∀ (i : Nat) (f : Field), fs[i]? = some f → ∃ y, DataW.trod enc P w base spare held n' f.type ((cs.drop f.offset).take (P.cellsOf f.type)) = some y := fun i f hi => by
        have hlt : i < fs.size := (Array.getElem?_eq_some_iff.1 hi).1
        exact ⟨_, (hg i f hi).trans (List.getElem?_eq_getElem (by omega))⟩
      have inf : ∀ (i : Nat) (f : Field), fs[i]? = some f → ∃ m, plainTy P d f.type = some m := by
        have key : ∀ (l : List Field) (n0 n : Nat), flatFs P (plainTy P d) l n0 = some n → ∀ f ∈ l, ∃ m, plainTy P d f.type = some m := by
          intro l
          induction l with
          | nil => intro n0 n h f hf; cases hf
          | cons g l ih =>
            intro n0 n h f hf
            simp only [flatFs] at h
            split at h <;> try (cases h; done)
            obtain ⟨m, hm, h⟩ := Option.bind_eq_some_iff.1 h
            split at h <;> try (cases h; done)
            rcases List.mem_cons.1 hf with rfl | hf
            · exact ⟨m, hm⟩
            · exact ih _ _ h f hf
        intro i f hi
        exact key _ _ _ hf f (Array.mem_toList_iff.2 (Array.mem_of_getElem? hi))
      refine ⟨hlen.trans hcm, fun j hj => ?_, .struct hu _ fun i f hi => ?_⟩
      · refine flatFs_cover (P := P) (Q := fun j => plainCell (cs.getD j undef) = true) _ _ _ hf (fun f hf' m' hm' hcm' j hj => ?_) j (Nat.zero_le _) hj
        obtain ⟨i, hi⟩ := List.getElem?_of_mem hf'
        obtain ⟨y, hy⟩ := sub i f (by simpa using hi)
        obtain ⟨h1, h2, _⟩ := trod_plain d f.type m' hm' hy
        have := h2 j hj
        rw [List.length_take, List.length_drop, hcm'] at h1
        simp only [List.getD_eq_getElem?_getD, List.getElem?_take, List.getElem?_drop, hcm', if_pos hj] at this ⊢
        exact this
      · obtain ⟨m', hm'⟩ := inf i f hi
        obtain ⟨y, hy⟩ := sub i f hi
        have := (trod_plain d f.type m' hm' hy).2.2
        rwa [List.map_take, List.map_drop] at this
    · rename_i len e hu
      obtain ⟨m', hm', hp⟩ := Option.bind_eq_some_iff.1 hp
      split at hp <;> cases hp
      rename_i hc
      obtain ⟨hc1, hc2⟩ := hc
      obtain ⟨xs, n', _, _, hlen, hxl, hg⟩ := DataW.trod_array hu h
      have sub : ∀ i, i < len → ∃ y, DataW.trod enc P w base spare held n' e ((cs.drop (i * P.cellsOf e)).take (P.cellsOf e)) = some y := fun i hi => ⟨_, (hg i hi).trans (List.getElem?_eq_getElem (by omega))⟩
      refine ⟨hlen.trans hc2, fun j hj => ?_, .array hu _ fun i hi => ?_⟩
      · have hm0 : 0 < m' := by
          rcases Nat.eq_zero_or_pos m' with h0 | h0
          · subst h0; simp at hj
          · exact h0
        have hi : j / m' < len := (Nat.div_lt_iff_lt_mul hm0).2 hj
        obtain ⟨y, hy⟩ := sub _ hi
        have := (trod_plain d e m' hm' hy).2.1 (j % m') (Nat.mod_lt _ hm0)
        simp only [List.getD_eq_getElem?_getD, List.getElem?_take, List.getElem?_drop, hc1, if_pos (Nat.mod_lt _ hm0)] at this ⊢
        rwa [show j / m' * m' + j % m' = j by rw [Nat.mul_comm]; exact Nat.div_add_mod j m'] at this
      · obtain ⟨y, hy⟩ := sub i hi
        have := (trod_plain d e m' hm' hy).2.2
        rwa [List.map_take, List.map_drop] at this
    · cases hp

theorem choose_list {α : Type} {Q : Nat → α → Prop} : ∀ n : Nat, (∀ i, i < n → ∃ r, Q i r) → ∃ l : List α, l.length = n ∧ ∀ i (hi : i < l.length), Q i l[i]
  | 0, _ => ⟨[], rfl, fun i hi => by simp at hi⟩
  | n + 1, h => by
    obtain ⟨l, h1, h2⟩ := choose_list n fun i hi => h i (by omega)
    obtain ⟨r, hr⟩ := h n (by omega)
    refine ⟨l ++ [r], by simp [h1], fun i hi => ?_⟩
    by_cases e : i < l.length
    · rw [List.getElem_append_left e]
      exact h2 i e
    · have : i = n := by simp at hi; omega
      subst this
      rw [List.getElem_append_right (by omega)]
      simpa [h1] using hr

theorem rowsOf_at {α : Type} {f : α → List V} {sz : Nat} (hf : ∀ a, (f a).length = sz) : ∀ (l : List α) (i j : Nat) (hi : i < l.length), j < sz → (rowsOf f l).getD (i * sz + j) .junk = (f l[i]).getD j .junk
  | [], i, j, hi, hj => by simp at hi
  | a :: l, 0, j, hi, hj => by
    simp only [rowsOf, List.flatMap_cons, Nat.zero_mul, Nat.zero_add, List.getElem_cons_zero, List.getD_eq_getElem?_getD]
    rw [List.getElem?_append_left (by rw [hf]; exact hj)]
  | a :: l, i + 1, j, hi, hj => by
    have ih := rowsOf_at hf l i j (by simpa using hi) hj
    have e : (i + 1) * sz + j = (f a).length + (i * sz + j) := by rw [hf, Nat.succ_mul]; omega
    simp only [rowsOf, List.flatMap_cons, List.getElem_cons_succ, List.getD_eq_getElem?_getD] at ih ⊢
    rw [e, List.getElem?_append_right (by omega), Nat.add_sub_cancel_left]
    exact ih

/-- A slice of such things, as it is handed in. -/
theorem open_rows {α : Type} (f : α → List V) {sz d : Nat} (hsz : 0 < sz) (hf : ∀ a, (f a).length = sz) {t e : TypeId} (ht : P.underlying t = some (.slice e)) (hp : plainTy P d e = some sz) (hc : P.cellsOf e = sz) (hdec : ∀ vs, vs.length = sz → Shape P e vs → ∃ a, vs = f a)
    {fuel : Nat} {ao : Option Addr} {len cap : Nat} {x : DataW H × List MemPlace} (h : DataW.trod enc P w base spare held fuel t [.slice ao len cap] = some x) (hspot : ∀ a, ao = some a → a.spot = none) :
    ∃ l : List α, l.length = len ∧ VRel (Gh.all w) (.sl .any (rowsOf f l) l.length) (.slice ao len cap) := by
  rcases open_slice ht h with ⟨h0, _⟩ | ⟨a, len', cap', m, n, D, Pl, hcs, hb, hl, hm, hmm, hx, hi⟩
  · simp only [List.cons.injEq, Value.slice.injEq, and_true] at h0
    obtain ⟨rfl, rfl, rfl⟩ := h0
    exact ⟨[], rfl, .slnil _ (.inr rfl)⟩
  · simp only [List.cons.injEq, Value.slice.injEq, and_true] at hcs
    obtain ⟨rfl, rfl, rfl⟩ := hcs
    have hs := hspot a rfl
    obtain ⟨b, o, sp⟩ := a
    simp only at hs
    subst hs
    have hlm : len ≤ m := by rw [hmm]; split <;> omega
    have row : ∀ i, i < len → ∃ r : α, ∀ j, j < sz → ∃ y, w.cell? ⟨b, o + (i * sz + j), none⟩ = some y ∧ VRel (Gh.all w) ((f r).getD j .junk) y ∧ y.oneCell' = true := fun i hil => by
      obtain ⟨cs', h1, h2⟩ := hi i (by omega)
      obtain ⟨k1, k2, k3⟩ := trod_plain d e sz hp h2
      obtain ⟨r, hr⟩ := hdec _ (by simpa using k1) k3
      obtain ⟨_, hcl, hat⟩ := World.cells?_some h1
      refine ⟨r, fun j hj => ⟨cs'.getD j undef, ?_, ?_, plainCell_one (k2 j hj)⟩⟩
      · have := hat j (by omega)
        rw [hc, add_lit, add_lit] at this
        rw [show o + (i * sz + j) = o + i * sz + j by omega]
        have hlt : j < cs'.length := by omega
        rw [List.getD_eq_getElem?_getD, List.getElem?_eq_getElem hlt]
        rw [List.getElem?_eq_getElem hlt] at this
        simpa using this
      · rw [← hr]
        have hlt : j < cs'.length := by omega
        simp only [List.getD_eq_getElem?_getD, List.getElem?_map, List.getElem?_eq_getElem hlt, Option.map_some, Option.getD_some]
        exact ofCellV_rel _ _
    obtain ⟨l, hll, hrow⟩ := choose_list len row
    have cell : ∀ i, i < (rowsOf f l).length → ∃ y, (w.cell? ⟨b, o + i, none⟩).getD undef = y ∧ w.cell? ⟨b, o + i, none⟩ = some y ∧ VRel (Gh.all w) ((rowsOf f l).getD i .junk) y ∧ y.oneCell' = true := fun i hil => by
      rw [rowsOf_length hf] at hil
      have hq : i / sz < l.length := (Nat.div_lt_iff_lt_mul hsz).2 hil
      obtain ⟨y, h1, h2, h3⟩ := hrow (i / sz) hq (i % sz) (Nat.mod_lt _ hsz)
      have e : i / sz * sz + i % sz = i := by rw [Nat.mul_comm]; exact Nat.div_add_mod i sz
      have hg := rowsOf_at hf l (i / sz) (i % sz) hq (Nat.mod_lt _ hsz)
      rw [e] at hg h1
      exact ⟨y, by rw [h1]; rfl, h1, by rw [hg]; exact h2, h3⟩
    refine ⟨l, hll, ?_⟩
    rw [hll]
    refine .sl .any _ len b o cap (by simp) hl (fun e => by cases e) (fun i => (w.cell? ⟨b, o + i, none⟩).getD undef) (fun i hil => ?_) (fun i hil => ?_) (fun i hil => ?_) <;> obtain ⟨y, q1, q2, q3, q4⟩ := cell i hil
    · rw [q1]
      simp only [Gh.all]
      rw [if_pos (block_of_cell q2), q2]
    · rw [q1]; exact q3
    · rw [q1]; exact q4

/-- A struct or an array of plain cells, by value. -/
theorem open_agg {sz d : Nat} {t : TypeId} (hp : plainTy P d t = some sz) {v : Value} (hok : ∃ cs, v = .agg cs) {dw : DataW H} {p : List MemPlace} (h : DataW.Trod enc P w base spare held t v dw p) :
    ∃ vs, vs.length = sz ∧ Shape P t vs ∧ VRel (Gh.all w) (.agg vs) v := by
  obtain ⟨cs, rfl⟩ := hok
  obtain ⟨fuel, hf⟩ := h
  rw [show (Value.agg cs).cells = cs from rfl] at hf
  obtain ⟨k1, k2, k3⟩ := trod_plain d t sz hp hf
  refine ⟨cs.toList.map ofCellV, by simpa using k1, k3, .agg _ _ (by simp) (fun i hi => ?_) (fun i hi => ?_)⟩
  · have hi' : i < cs.size := by simpa using hi
    simp only [List.getD_eq_getElem?_getD, List.getElem?_map, Array.getElem?_toList, Array.getD_eq_getD_getElem?, Array.getElem?_eq_getElem hi', Option.map_some, Option.getD_some]
    exact ofCellV_rel _ _
  · have hi' : i < cs.size := by simpa using hi
    have := plainCell_one (k2 i (by rw [← k1]; simpa using hi'))
    rw [List.getD_eq_getElem?_getD] at this
    rw [Array.getD_eq_getD_getElem?]
    rwa [Array.getElem?_toList] at this

theorem agg_of_struct {t : TypeId} {fs : Array Field} {r : Reach} {b0 : Nat} {v : Value} (hu : P.underlying t = some (.struct fs)) (h : Value.okWide P w r b0 t v) : ∃ cs, v = .agg cs := by
  simp only [Value.okWide, hu] at h
  obtain ⟨cs, h1, _⟩ := h
  exact ⟨cs, h1⟩
theorem agg_of_array {t e : TypeId} {n : Nat} {r : Reach} {b0 : Nat} {v : Value} (hu : P.underlying t = some (.array n e)) (h : Value.okWide P w r b0 t v) : ∃ cs, v = .agg cs := by
  simp only [Value.okWide, hu] at h
  obtain ⟨cs, h1, _⟩ := h
  exact ⟨cs, h1⟩

/-- A slice that came in lies at no inner spot. -/
theorem slice_spot {t e : TypeId} {r : Reach} {b0 : Nat} (ht : P.underlying t = some (.slice e)) {a : Option Addr} {len cap : Nat} (h : Value.okWide P w r b0 t (.slice a len cap)) : ∀ x, a = some x → x.spot = none := by
  rintro x rfl
  simp only [Value.okWide, ht, Cell.okWide, Cell.ok] at h
  exact h.2.2.2.1

/-- Rows of one whole number. -/
theorem shape_one {t : TypeId} (hu : P.underlying t = some (.int .i64)) (vs : List V) (hl : vs.length = 1) (h : Shape P t vs) : ∃ n, vs = e1 n := by
  cases h with
  | int hu' n hw => rw [hu] at hu'; cases hu'; exact ⟨n, rfl⟩
  | bool hu' | str hu' | hole hu' | struct hu' | array hu' => rw [hu] at hu'; cases hu'

/-- Bytes. -/
theorem shape_byte {t : TypeId} (hu : P.underlying t = some (.int .u8)) (vs : List V) (hl : vs.length = 1) (h : Shape P t vs) : ∃ b : UInt8, vs = e8 b := by
  cases h with
  | int hu' n hw =>
    rw [hu] at hu'; cases hu'
    have hb : 0 ≤ n ∧ n ≤ 255 := by
      simp [Lit.wf] at hw
      exact hw
    refine ⟨UInt8.ofNat n.toNat, ?_⟩
    have : n.toNat % 256 = n.toNat := Nat.mod_eq_of_lt (by omega)
    simp [e8, this]
    omega
  | bool hu' | str hu' | hole hu' | struct hu' | array hu' => rw [hu] at hu'; cases hu'

theorem shape_pair {t e : TypeId} (hu : P.underlying t = some (.array 2 e)) (he : P.underlying e = some (.int .i64)) (hc : P.cellsOf e = 1) (vs : List V) (hl : vs.length = 2) (h : Shape P t vs) : ∃ a b, vs = [.int .i64 a, .int .i64 b] := by
  obtain ⟨a, e0, _⟩ := shape_int he (shape_elem hu h 0 (by omega))
  obtain ⟨b, e1, _⟩ := shape_int he (shape_elem hu h 1 (by omega))
  rw [hc] at e1
  match vs, hl with
  | [x, y], _ =>
    simp at e0 e1
    exact ⟨a, b, by simp [e0, e1]⟩
end
end Go.Ab
/-
  Arguments with slices in slices.
-/
set_option linter.unusedSimpArgs false
set_option linter.unusedVariables false
namespace Go.Ab
open Go Go.RowKit Go.ChangeShapes Go.WideShapes Go.Deep
section
variable {H : Type} {enc : TypeId × Value → H} {P : Program} {w : World} {base : Nat} {spare : Nat → Bool} {held : Bool}

/-- What a type's cells are, as they are handed in. -/
def Opens (enc : TypeId × Value → H) (P : Program) (w : World) (base : Nat) (spare : Nat → Bool) (held : Bool) {α : Type} (f : α → List V) (sz : Nat) (t : TypeId) : Prop :=
  ∀ (fuel : Nat) (cs : List Value) (x : DataW H × List MemPlace), DataW.trod enc P w base spare held fuel t cs = some x → ∃ r : α, cs.length = sz ∧ ∀ j, j < sz → VRel (Gh.all w) ((f r).getD j .junk) (cs.getD j undef) ∧ (cs.getD j undef).oneCell' = true

theorem opens_byte {t : TypeId} (hu : P.underlying t = some (.int .u8)) : Opens enc P w base spare held e8 1 t := by
  intro fuel cs x h
  obtain ⟨n, rfl, _, hwf⟩ := DataW.trod_int hu h
  obtain ⟨b, hb⟩ := shape_byte (P := P) hu [.int .u8 n] rfl (.int hu n hwf)
  refine ⟨b, rfl, fun j hj => ?_⟩
  obtain rfl : j = 0 := by omega
  rw [← hb]
  exact ⟨.int _ _, rfl⟩
theorem opens_int {t : TypeId} (hu : P.underlying t = some (.int .i64)) : Opens enc P w base spare held e1 1 t := by
  intro fuel cs x h
  obtain ⟨n, rfl, _, hwf⟩ := DataW.trod_int hu h
  refine ⟨n, rfl, fun j hj => ?_⟩
  obtain rfl : j = 0 := by omega
  exact ⟨.int _ _, rfl⟩

/-- A slice, in whatever it lies. -/
theorem open_rows2 {α : Type} (f : α → List V) {sz : Nat} (hsz : 0 < sz) (hf : ∀ a, (f a).length = sz) {t e : TypeId} (ht : P.underlying t = some (.slice e)) (hc : P.cellsOf e = sz) (hsp : ∀ b, spare b = true) (ho : Opens enc P w base spare held f sz e)
    {fuel : Nat} {ao : Option Addr} {len cap : Nat} {x : DataW H × List MemPlace} (h : DataW.trod enc P w base spare held fuel t [.slice ao len cap] = some x) :
    ∃ l : List α, l.length = len ∧ VRel (Gh.all w) (.sl .any (rowsOf f l) l.length) (.slice ao len cap) := by
  rcases open_slice ht h with ⟨h0, _⟩ | ⟨a, len', cap', m, n, D, Pl, hcs, hb, hl, hm, hmm, hx, hi⟩
  · simp only [List.cons.injEq, Value.slice.injEq, and_true] at h0
    obtain ⟨rfl, rfl, rfl⟩ := h0
    exact ⟨[], rfl, .slnil _ (.inr rfl)⟩
  · simp only [List.cons.injEq, Value.slice.injEq, and_true] at hcs
    obtain ⟨rfl, rfl, rfl⟩ := hcs
    rw [hsp, if_pos rfl] at hmm
    subst hmm
    by_cases h0 : m = 0
    · subst h0
      obtain rfl : len = 0 := by omega
      exact ⟨[], rfl, .slz a⟩
    have hs : a.spot = none := by
      obtain ⟨cs', h1, h2⟩ := hi 0 (by omega)
      obtain ⟨_, k1, _⟩ := ho _ _ _ h2
      obtain ⟨_, hcl, hat⟩ := World.cells?_some h1
      have := hat 0 (by omega)
      have hlt : 0 < cs'.length := by omega
      rw [List.getElem?_eq_getElem hlt] at this
      have hq := World.cell?_spot this
      simpa [Addr.add] using hq
    obtain ⟨b, o, sp⟩ := a
    simp only at hs
    subst hs
    have row : ∀ i, i < len → ∃ r : α, ∀ j, j < sz → ∃ y, w.cell? ⟨b, o + (i * sz + j), none⟩ = some y ∧ VRel (Gh.all w) ((f r).getD j .junk) y ∧ y.oneCell' = true := fun i hil => by
      obtain ⟨cs', h1, h2⟩ := hi i (by omega)
      obtain ⟨r, k1, k2⟩ := ho _ _ _ h2
      obtain ⟨_, hcl, hat⟩ := World.cells?_some h1
      refine ⟨r, fun j hj => ⟨cs'.getD j undef, ?_, (k2 j hj).1, (k2 j hj).2⟩⟩
      have := hat j (by omega)
      rw [hc, add_lit, add_lit] at this
      rw [show o + (i * sz + j) = o + i * sz + j by omega]
      have hlt : j < cs'.length := by omega
      rw [List.getD_eq_getElem?_getD, List.getElem?_eq_getElem hlt]
      rw [List.getElem?_eq_getElem hlt] at this
      simpa using this
    obtain ⟨l, hll, hrow⟩ := choose_list len row
    have cell : ∀ i, i < (rowsOf f l).length → ∃ y, (w.cell? ⟨b, o + i, none⟩).getD undef = y ∧ w.cell? ⟨b, o + i, none⟩ = some y ∧ VRel (Gh.all w) ((rowsOf f l).getD i .junk) y ∧ y.oneCell' = true := fun i hil => by
      rw [rowsOf_length hf] at hil
      have hq : i / sz < l.length := (Nat.div_lt_iff_lt_mul hsz).2 hil
      obtain ⟨y, h1, h2, h3⟩ := hrow (i / sz) hq (i % sz) (Nat.mod_lt _ hsz)
      have e : i / sz * sz + i % sz = i := by rw [Nat.mul_comm]; exact Nat.div_add_mod i sz
      have hg := rowsOf_at hf l (i / sz) (i % sz) hq (Nat.mod_lt _ hsz)
      rw [e] at hg h1
      exact ⟨y, by rw [h1]; rfl, h1, by rw [hg]; exact h2, h3⟩
    refine ⟨l, hll, ?_⟩
    rw [hll]
    refine .sl .any _ len b o m (by simp) hl (fun e => by cases e) (fun i => (w.cell? ⟨b, o + i, none⟩).getD undef) (fun i hil => ?_) (fun i hil => ?_) (fun i hil => ?_) <;> obtain ⟨y, q1, q2, q3, q4⟩ := cell i hil
    · rw [q1]
      simp only [Gh.all]
      rw [if_pos (block_of_cell q2), q2]
    · rw [q1]; exact q3
    · rw [q1]; exact q4

/-- A cell that is a slice. -/
def eSl {α : Type} (f : α → List V) (l : List α) : List V := [.sl .any (rowsOf f l) l.length]
theorem opens_slice {α : Type} (f : α → List V) {sz : Nat} (hsz : 0 < sz) (hf : ∀ a, (f a).length = sz) {t e : TypeId} (ht : P.underlying t = some (.slice e)) (hc : P.cellsOf e = sz) (hsp : ∀ b, spare b = true) (ho : Opens enc P w base spare held f sz e) : Opens enc P w base spare held (eSl f) 1 t := by
  intro fuel cs x h
  have hcs : ∃ ao len cap, cs = [.slice ao len cap] := by
    rcases open_slice ht h with ⟨h0, _⟩ | ⟨a, len', cap', m, n, D, Pl, hcs, _⟩
    · exact ⟨_, _, _, h0⟩
    · exact ⟨_, _, _, hcs⟩
  obtain ⟨ao, len, cap, rfl⟩ := hcs
  obtain ⟨l, hl, hv⟩ := open_rows2 f hsz hf ht hc hsp ho h
  refine ⟨l, rfl, fun j hj => ?_⟩
  obtain rfl : j = 0 := by omega
  exact ⟨hv, rfl⟩

/-- A struct's fields, each opened. -/
theorem opens_fields {t : TypeId} {fs : Array Field} (hu : P.underlying t = some (.struct fs)) {fuel : Nat} {cs : List Value} {x : DataW H × List MemPlace} (h : DataW.trod enc P w base spare held fuel t cs = some x) :
    cs.length = P.cellsOf t ∧ ∀ (i : Nat) (fd : Field), fs[i]? = some fd → ∀ {α : Type} (f : α → List V) (sz : Nat), Opens enc P w base spare held f sz fd.type → P.cellsOf fd.type = sz → ∃ r : α, ∀ j, j < sz → VRel (Gh.all w) ((f r).getD j .junk) (cs.getD (fd.offset + j) undef) ∧ (cs.getD (fd.offset + j) undef).oneCell' = true := by
  obtain ⟨xs, n', _, _, hlen, hxl, hg⟩ := DataW.trod_struct hu h
  refine ⟨hlen, fun i fd hi α f sz ho hc => ?_⟩
  have hlt : i < fs.size := (Array.getElem?_eq_some_iff.1 hi).1
  obtain ⟨r, k1, k2⟩ := ho _ _ _ ((hg i fd hi).trans (List.getElem?_eq_getElem (by omega)))
  refine ⟨r, fun j hj => ?_⟩
  have := k2 j hj
  rw [hc] at this
  simp only [List.getD_eq_getElem?_getD, List.getElem?_take, List.getElem?_drop, if_pos hj] at this ⊢
  exact this
end
end Go.Ab
/-
  Arguments: names, headers, rules, operations.
-/
set_option linter.unusedSimpArgs false
set_option linter.unusedVariables false
namespace Go.Ab
open Go Go.RowKit Go.ChangeShapes Go.WideShapes Go.Deep
section
variable {P : Program} {t : TypeId} {vs : List V}
/-- A field: where it begins, and its type. -/
def fldAt (fs : Array Field) (i : Nat) : Option (Nat × TypeId) := (fs[i]?).map fun f => (f.offset, f.type)
theorem shape_at {fs : Array Field} (hu : P.underlying t = some (.struct fs)) (h : Shape P t vs) {i o : Nat} {ty : TypeId} (e : fldAt fs i = some (o, ty)) : Shape P ty ((vs.drop o).take (P.cellsOf ty)) := by
  unfold fldAt at e
  cases hf : fs[i]? with
  | none => rw [hf] at e; cases e
  | some f =>
    rw [hf] at e
    have e := Option.some.inj e
    have h1 : f.offset = o := congrArg Prod.fst e
    have h2 : f.type = ty := congrArg Prod.snd e
    have := shape_field hu h i f hf
    rw [h1, h2] at this
    exact this
theorem shape_u32 (hu : P.underlying t = some (.int .u32)) (h : Shape P t vs) : ∃ x : W32, vs = [w32 x] := by
  cases h with
  | int hu' n hw =>
    rw [hu] at hu'; cases hu'
    have hb : 0 ≤ n ∧ n ≤ 4294967295 := by
      simp [Lit.wf] at hw
      exact hw
    refine ⟨BitVec.ofNat 32 n.toNat, ?_⟩
    have : (BitVec.ofNat 32 n.toNat).toNat = n.toNat := by rw [BitVec.toNat_ofNat]; exact Nat.mod_eq_of_lt (by omega)
    rw [w32, this]
    congr 2
    omega
  | bool hu' | str hu' | hole hu' | struct hu' | array hu' => rw [hu] at hu'; cases hu'
theorem shape_i64 (hu : P.underlying t = some (.int .i64)) (h : Shape P t vs) : ∃ x : Int, vs = [.int .i64 x] := by
  cases h with
  | int hu' n hw => rw [hu] at hu'; cases hu'; exact ⟨n, rfl⟩
  | bool hu' | str hu' | hole hu' | struct hu' | array hu' => rw [hu] at hu'; cases hu'
theorem shape_b (hu : P.underlying t = some .bool) (h : Shape P t vs) : ∃ x : Bool, vs = [.bool x] := by
  cases h with
  | bool hu' b => exact ⟨b, rfl⟩
  | int hu' | str hu' | hole hu' | struct hu' | array hu' => rw [hu] at hu'; cases hu'
theorem shape_hole {e : TypeId} (hu : P.underlying t = some (.slice e)) (h : Shape P t vs) : vs = [.junk] := by
  cases h with
  | hole hu' => rfl
  | int hu' | str hu' | bool hu' | struct hu' | array hu' => rw [hu] at hu'; cases hu'
theorem shape_id {tb : TypeId} (hu : P.underlying t = some (.array 32 tb)) (hb : P.underlying tb = some (.int .u8)) (cb : P.cellsOf tb = 1) (hl : vs.length = 32) (h : Shape P t vs) : ∃ x : Id, vs = eId x := by
  have row : ∀ i, i < 32 → ∃ b : UInt8, (vs.drop i).take 1 = e8 b := fun i hi => by
    have := shape_elem hu h i hi
    rw [cb, Nat.mul_one] at this
    exact shape_byte hb _ (by simp; omega) this
  obtain ⟨l, hll, hr⟩ := choose_list 32 row
  refine ⟨⟨⟨l⟩, hll⟩, ?_⟩
  have e : eId ⟨⟨l⟩, hll⟩ = l.map w8 := by rw [eId_rows, rows_e8]; rfl
  rw [e]
  apply List.ext_getElem
  · simp [hl, hll]
  · intro i h1 h2
    have hi : i < l.length := by simpa using h2
    have := hr i hi
    rw [List.drop_eq_getElem_cons h1] at this
    simp only [List.take_succ_cons, List.take_zero, e8] at this
    rw [List.getElem_map]
    exact (List.cons.inj this).1
theorem cut1 (vs : List V) (n : Nat) : vs = vs.take n ++ vs.drop n := (List.take_append_drop n vs).symm
structure HdrTy (P : Program) (t tw ti tb : TypeId) : Prop where
  flds : ∃ fs, P.underlying t = some (.struct fs) ∧ fldAt fs 0 = some (0, tw) ∧ fldAt fs 1 = some (1, ti) ∧ fldAt fs 2 = some (33, ti) ∧ fldAt fs 3 = some (65, tw) ∧ fldAt fs 4 = some (66, tw) ∧ fldAt fs 5 = some (67, tw)
  uw : P.underlying tw = some (.int .u32)
  ui : P.underlying ti = some (.array 32 tb)
  ub : P.underlying tb = some (.int .u8)
  cw : P.cellsOf tw = 1
  ci : P.cellsOf ti = 32
  cb : P.cellsOf tb = 1
theorem shape_hdr {tw ti tb : TypeId} (T : HdrTy P t tw ti tb) (hl : vs.length = 68) (h : Shape P t vs) : ∃ x : Hdr, vs = eHdr x := by
  obtain ⟨fs, hu, e0, e1, e2, e3, e4, e5⟩ := T.flds
  have s0 := shape_at hu h e0
  have s1 := shape_at hu h e1
  have s2 := shape_at hu h e2
  have s3 := shape_at hu h e3
  have s4 := shape_at hu h e4
  have s5 := shape_at hu h e5
  rw [T.cw] at s0 s3 s4 s5
  rw [T.ci] at s1 s2
  obtain ⟨v, h0⟩ := shape_u32 T.uw s0
  obtain ⟨p, h1⟩ := shape_id T.ui T.ub T.cb (by simp; omega) s1
  obtain ⟨q, h2⟩ := shape_id T.ui T.ub T.cb (by simp; omega) s2
  obtain ⟨a, h3⟩ := shape_u32 T.uw s3
  obtain ⟨b, h4⟩ := shape_u32 T.uw s4
  obtain ⟨c, h5⟩ := shape_u32 T.uw s5
  refine ⟨⟨v, p, q, a, b, c⟩, ?_⟩
  have d5 : vs.drop 67 = [w32 c] := by rw [← h5, List.take_of_length_le (by simp; omega)]
  have d4 : vs.drop 66 = w32 b :: [w32 c] := by rw [cut1 (vs.drop 66) 1, h4, List.drop_drop, d5]; rfl
  have d3 : vs.drop 65 = w32 a :: [w32 b, w32 c] := by rw [cut1 (vs.drop 65) 1, h3, List.drop_drop, d4]; rfl
  have d2 : vs.drop 33 = eId q ++ [w32 a, w32 b, w32 c] := by rw [cut1 (vs.drop 33) 32, h2, List.drop_drop, d3]
  have d1 : vs.drop 1 = eId p ++ (eId q ++ [w32 a, w32 b, w32 c]) := by rw [cut1 (vs.drop 1) 32, h1, List.drop_drop, d2]
  rw [cut1 vs 1, d1]
  rw [List.drop_zero] at h0
  rw [h0]
  rfl
structure RlTy (P : Program) (t tw ti tl tg th tx te : TypeId) : Prop where
  flds : ∃ fs, P.underlying t = some (.struct fs) ∧ fldAt fs 0 = some (0, tw) ∧ fldAt fs 1 = some (1, ti) ∧ fldAt fs 2 = some (2, ti) ∧ fldAt fs 3 = some (3, tl) ∧ fldAt fs 4 = some (4, ti) ∧ fldAt fs 5 = some (5, tg)
  gens : ∃ fs, P.underlying tg = some (.struct fs) ∧ fldAt fs 0 = some (0, th) ∧ fldAt fs 1 = some (68, tx)
  uw : P.underlying tw = some (.int .u32)
  ui : P.underlying ti = some (.int .i64)
  ul : P.underlying tl = some (.int .i64)
  ux : P.underlying tx = some (.slice te)
  cw : P.cellsOf tw = 1
  ci : P.cellsOf ti = 1
  cl : P.cellsOf tl = 1
  cg : P.cellsOf tg = 69
  ch : P.cellsOf th = 68
  cx : P.cellsOf tx = 1
theorem shape_rl {tw ti tl tg th tx te ta tb : TypeId} (T : RlTy P t tw ti tl tg th tx te) (H : HdrTy P th tw ta tb) (hl : vs.length = 74) (h : Shape P t vs) : ∃ r : Rl, vs = eRl r := by
  obtain ⟨fs, hu, e0, e1, e2, e3, e4, e5⟩ := T.flds
  obtain ⟨gs, gu, g0, g1⟩ := T.gens
  have s0 := shape_at hu h e0
  have s1 := shape_at hu h e1
  have s2 := shape_at hu h e2
  have s3 := shape_at hu h e3
  have s4 := shape_at hu h e4
  have s5 := shape_at hu h e5
  rw [T.cw] at s0
  rw [T.ci] at s1 s2 s4
  rw [T.cl] at s3
  rw [T.cg] at s5
  have u0 := shape_at gu s5 g0
  have u1 := shape_at gu s5 g1
  rw [T.ch] at u0
  rw [T.cx] at u1
  obtain ⟨a0, h0⟩ := shape_u32 T.uw s0
  obtain ⟨a1, h1⟩ := shape_i64 T.ui s1
  obtain ⟨a2, h2⟩ := shape_i64 T.ui s2
  obtain ⟨a3, h3⟩ := shape_i64 T.ul s3
  obtain ⟨a4, h4⟩ := shape_i64 T.ui s4
  obtain ⟨g, h5⟩ := shape_hdr H (by simp; omega) u0
  have h6 := shape_hole T.ux u1
  refine ⟨⟨a0, a1, a2, a3, a4, g, .junk⟩, ?_⟩
  have d5 : vs.drop 5 = eHdr g ++ [.junk] := by
    have e : (vs.drop 5).take 69 = vs.drop 5 := List.take_of_length_le (by simp; omega)
    rw [e] at h5 h6
    rw [List.drop_zero] at h5
    rw [cut1 (vs.drop 5) 68, h5]
    congr 1
    rw [← h6, List.take_of_length_le (by simp; omega)]
  have d4 : vs.drop 4 = .int .i64 a4 :: (eHdr g ++ [.junk]) := by rw [cut1 (vs.drop 4) 1, h4, List.drop_drop, d5]; rfl
  have d3 : vs.drop 3 = .int .i64 a3 :: .int .i64 a4 :: (eHdr g ++ [.junk]) := by rw [cut1 (vs.drop 3) 1, h3, List.drop_drop, d4]; rfl
  have d2 : vs.drop 2 = .int .i64 a2 :: .int .i64 a3 :: .int .i64 a4 :: (eHdr g ++ [.junk]) := by rw [cut1 (vs.drop 2) 1, h2, List.drop_drop, d3]; rfl
  have d1 : vs.drop 1 = .int .i64 a1 :: .int .i64 a2 :: .int .i64 a3 :: .int .i64 a4 :: (eHdr g ++ [.junk]) := by rw [cut1 (vs.drop 1) 1, h1, List.drop_drop, d2]; rfl
  rw [cut1 vs 1, d1]
  rw [List.drop_zero] at h0
  rw [h0]
  rfl
structure OpTy (P : Program) (t ti tl tw tb th : TypeId) : Prop where
  flds : ∃ fs, P.underlying t = some (.struct fs) ∧ fldAt fs 0 = some (0, ti) ∧ fldAt fs 1 = some (1, ti) ∧ fldAt fs 2 = some (2, ti) ∧ fldAt fs 3 = some (3, ti) ∧ fldAt fs 4 = some (4, tl) ∧ fldAt fs 5 = some (5, tw) ∧ fldAt fs 6 = some (6, tb) ∧ fldAt fs 7 = some (7, th)
  ui : P.underlying ti = some (.int .i64)
  ul : P.underlying tl = some (.int .i64)
  uw : P.underlying tw = some (.int .u32)
  ub : P.underlying tb = some .bool
  ci : P.cellsOf ti = 1
  cl : P.cellsOf tl = 1
  cw : P.cellsOf tw = 1
  cb : P.cellsOf tb = 1
  ch : P.cellsOf th = 68
theorem shape_op {ti tl tw tb th ta tu : TypeId} (T : OpTy P t ti tl tw tb th) (H : HdrTy P th tw ta tu) (vs : List V) (hl : vs.length = 75) (h : Shape P t vs) : ∃ o : OpM, vs = eOp o := by
  obtain ⟨fs, hu, e0, e1, e2, e3, e4, e5, e6, e7⟩ := T.flds
  have s0 := shape_at hu h e0
  have s1 := shape_at hu h e1
  have s2 := shape_at hu h e2
  have s3 := shape_at hu h e3
  have s4 := shape_at hu h e4
  have s5 := shape_at hu h e5
  have s6 := shape_at hu h e6
  have s7 := shape_at hu h e7
  rw [T.ci] at s0 s1 s2 s3
  rw [T.cl] at s4
  rw [T.cw] at s5
  rw [T.cb] at s6
  rw [T.ch] at s7
  obtain ⟨a0, h0⟩ := shape_i64 T.ui s0
  obtain ⟨a1, h1⟩ := shape_i64 T.ui s1
  obtain ⟨a2, h2⟩ := shape_i64 T.ui s2
  obtain ⟨a3, h3⟩ := shape_i64 T.ui s3
  obtain ⟨a4, h4⟩ := shape_i64 T.ul s4
  obtain ⟨a5, h5⟩ := shape_u32 T.uw s5
  obtain ⟨a6, h6⟩ := shape_b T.ub s6
  obtain ⟨g, h7⟩ := shape_hdr H (by simp; omega) s7
  refine ⟨⟨a0, a1, a2, a3, a4, a5, a6, g⟩, ?_⟩
  have d7 : vs.drop 7 = eHdr g := by rw [← h7, List.take_of_length_le (by simp; omega)]
  have d6 : vs.drop 6 = .bool a6 :: eHdr g := by rw [cut1 (vs.drop 6) 1, h6, List.drop_drop, d7]; rfl
  have d5 : vs.drop 5 = w32 a5 :: .bool a6 :: eHdr g := by rw [cut1 (vs.drop 5) 1, h5, List.drop_drop, d6]; rfl
  have d4 : vs.drop 4 = .int .i64 a4 :: w32 a5 :: .bool a6 :: eHdr g := by rw [cut1 (vs.drop 4) 1, h4, List.drop_drop, d5]; rfl
  have d3 : vs.drop 3 = .int .i64 a3 :: .int .i64 a4 :: w32 a5 :: .bool a6 :: eHdr g := by rw [cut1 (vs.drop 3) 1, h3, List.drop_drop, d4]; rfl
  have d2 : vs.drop 2 = .int .i64 a2 :: .int .i64 a3 :: .int .i64 a4 :: w32 a5 :: .bool a6 :: eHdr g := by rw [cut1 (vs.drop 2) 1, h2, List.drop_drop, d3]; rfl
  have d1 : vs.drop 1 = .int .i64 a1 :: .int .i64 a2 :: .int .i64 a3 :: .int .i64 a4 :: w32 a5 :: .bool a6 :: eHdr g := by rw [cut1 (vs.drop 1) 1, h1, List.drop_drop, d2]; rfl
  rw [cut1 vs 1, d1]
  rw [List.drop_zero] at h0
  rw [h0]
  rfl
end
end Go.Ab

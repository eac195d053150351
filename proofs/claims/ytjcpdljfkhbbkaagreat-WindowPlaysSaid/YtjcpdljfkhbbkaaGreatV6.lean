import Derived.Test.YtjcpdljfkhbbkaaGreatV5
import Derived.Test.YtjcpdljfkhbbkaaGreatV4
set_option linter.unusedVariables false
namespace Go.Ab
open Go
def k154 (F : Fn) : PF := PF.mk 60 1 [(.t 2)] (.seq (.ops [(PO.mk (some 1) (.box (.t 0)) none), (PO.mk (some 2) (.mv (.k (.int .i64 0))) none)]) (.seq (.seq (.ops [(PO.mk (some 6) (.fldA 0 (.t 1)) none), (PO.mk (some 7) (.load false 1 (.t 6)) none), (PO.mk (some 8) (.call (F 135) [(.t 7)]) none), (PO.mk (some 5) (.mv (.t 8)) none), (PO.mk (some 9) (.ext 0 (.t 5)) none), (PO.mk (some 10) (.ext 1 (.t 5)) none), (PO.mk (some 3) (.alloc [(w64 0), (w64 0), (w64 0), (w64 0)]) none), (PO.mk none (.store 4 (.t 3) (.t 9)) none), (PO.mk (some 4) (.mv (.t 10)) none)]) (.seq (.ops [(PO.mk (some 11) (.mv (.t 4)) none), (PO.mk (some 12) (.not (.t 11)) none), (PO.mk (some 13) (.mv (.t 12)) none), (PO.mk (some 14) (.fldA 5 (.t 1)) (some (13, false))), (PO.mk (some 15) (.fldA 0 (.t 14)) (some (13, false))), (PO.mk (some 16) (.fldA 66 (.t 15)) (some (13, false))), (PO.mk (some 17) (.load false 1 (.t 16)) (some (13, false))), (PO.mk (some 18) (.fldA 0 (.t 1)) (some (13, false))), (PO.mk (some 19) (.load false 1 (.t 18)) (some (13, false))), (PO.mk (some 20) (.bin .neq (.t 17) (.t 19)) (some (13, false))), (PO.mk (some 21) (.pick (.t 13) (.k (.bool true)) (.t 20)) none)]) (.cond (.t 21) (.seq (.ops [(PO.mk (some 2) (.mv (.k (.int .i64 30))) none)]) .ret) .skip))) (.seq (.seq (.ops [(PO.mk (some 22) (.fldA 1 (.t 1)) none), (PO.mk (some 23) (.load false 1 (.t 22)) none), (PO.mk (some 24) (.bin .lss (.t 23) (.k (.int .i64 0))) none), (PO.mk (some 25) (.mv (.t 24)) none), (PO.mk (some 26) (.fldA 1 (.t 1)) (some (25, false))), (PO.mk (some 27) (.load false 1 (.t 26)) (some (25, false))), (PO.mk (some 28) (.bin .gtr (.t 27) (.k (.int .i64 1000))) (some (25, false))), (PO.mk (some 29) (.pick (.t 25) (.k (.bool true)) (.t 28)) none), (PO.mk (some 30) (.mv (.t 29)) none), (PO.mk (some 31) (.fldA 2 (.t 1)) (some (30, false))), (PO.mk (some 32) (.load false 1 (.t 31)) (some (30, false))), (PO.mk (some 33) (.bin .lss (.t 32) (.k (.int .i64 1))) (some (30, false))), (PO.mk (some 34) (.pick (.t 30) (.k (.bool true)) (.t 33)) none), (PO.mk (some 35) (.mv (.t 34)) none), (PO.mk (some 36) (.fldA 2 (.t 1)) (some (35, false))), (PO.mk (some 37) (.load false 1 (.t 36)) (some (35, false))), (PO.mk (some 38) (.bin .gtr (.t 37) (.k (.int .i64 1048576))) (some (35, false))), (PO.mk (some 39) (.pick (.t 35) (.k (.bool true)) (.t 38)) none), (PO.mk (some 40) (.mv (.t 39)) none), (PO.mk (some 41) (.fldA 3 (.t 1)) (some (40, false))), (PO.mk (some 42) (.load false 1 (.t 41)) (some (40, false))), (PO.mk (some 43) (.bin .lss (.t 42) (.k (.int .i64 0))) (some (40, false))), (PO.mk (some 44) (.pick (.t 40) (.k (.bool true)) (.t 43)) none), (PO.mk (some 45) (.mv (.t 44)) none), (PO.mk (some 46) (.fldA 3 (.t 1)) (some (45, false))), (PO.mk (some 47) (.load false 1 (.t 46)) (some (45, false))), (PO.mk (some 48) (.bin .gtr (.t 47) (.k (.int .i64 1125899906842624))) (some (45, false))), (PO.mk (some 49) (.pick (.t 45) (.k (.bool true)) (.t 48)) none), (PO.mk (some 50) (.mv (.t 49)) none), (PO.mk (some 51) (.fldA 4 (.t 1)) (some (50, false))), (PO.mk (some 52) (.load false 1 (.t 51)) (some (50, false))), (PO.mk (some 53) (.bin .lss (.t 52) (.k (.int .i64 0))) (some (50, false))), (PO.mk (some 54) (.pick (.t 50) (.k (.bool true)) (.t 53)) none), (PO.mk (some 55) (.mv (.t 54)) none), (PO.mk (some 56) (.fldA 4 (.t 1)) (some (55, false))), (PO.mk (some 57) (.load false 1 (.t 56)) (some (55, false))), (PO.mk (some 58) (.bin .gtr (.t 57) (.k (.int .i64 1000))) (some (55, false))), (PO.mk (some 59) (.pick (.t 55) (.k (.bool true)) (.t 58)) none)]) (.cond (.t 59) (.seq (.ops [(PO.mk (some 2) (.mv (.k (.int .i64 1))) none)]) .ret) .skip)) (.seq (.ops [(PO.mk (some 2) (.mv (.k (.int .i64 0))) none)]) .ret))))
def k155 (F : Fn) : PF := PF.mk 21 1 [(.t 2), (.t 3)] (.seq (.ops [(PO.mk (some 1) (.box (.t 0)) none), (PO.mk (some 2) (.mv (.k (.ptr none))) none), (PO.mk (some 3) (.mv (.k (.int .i64 0))) none)]) (.seq (.seq (.ops [(PO.mk (some 6) (.load true 74 (.t 1)) none), (PO.mk (some 7) (.call (F 154) [(.t 6)]) none), (PO.mk (some 4) (.mv (.t 7)) none)]) (.seq (.ops [(PO.mk (some 8) (.mv (.t 4)) none), (PO.mk (some 9) (.bin .neq (.t 8) (.k (.int .i64 0))) none)]) (.cond (.t 9) (.seq (.ops [(PO.mk (some 10) (.mv (.t 4)) none), (PO.mk (some 2) (.mv (.k (.ptr none))) none), (PO.mk (some 3) (.mv (.t 10)) none)]) .ret) .skip))) (.seq (.ops [(PO.mk (some 11) (.load true 74 (.t 1)) none), (PO.mk (some 12) POp.mkmap none), (PO.mk (some 13) (.build z76_2d2c [(0, (74, (.t 11))), (75, (1, (.t 12)))]) none), (PO.mk (some 14) (.box (.t 13)) none), (PO.mk (some 5) (.mv (.t 14)) none)]) (.seq (.ops [(PO.mk (some 15) (.mv (.t 5)) none), (PO.mk (some 16) (.fldA 5 (.t 1)) none), (PO.mk (some 17) (.fldA 0 (.t 16)) none), (PO.mk (some 18) (.load true 68 (.t 17)) none), (PO.mk (some 19) (.call (F 156) [(.t 15), (.t 18), (.k (.int .i64 (-1)))]) none)]) (.seq (.ops [(PO.mk (some 20) (.mv (.t 5)) none), (PO.mk (some 2) (.mv (.t 20)) none), (PO.mk (some 3) (.mv (.k (.int .i64 0))) none)]) .ret)))))
def k156 (F : Fn) : PF := PF.mk 79 3 [(.t 6)] (.seq (.ops [(PO.mk (some 4) (.box (.t 1)) none), (PO.mk (some 6) (.mv (.k (.int .i64 0))) none)]) (.seq (.draw [(.e, (PO.mk (some 15) (.mv (.t 2)) none)), (.s, (PO.mk (some 12) (.load true 68 (.t 4)) none)), (.s, (PO.mk (some 13) (.load true 68 (.t 4)) none)), (.s, (PO.mk (some 14) (.call (F 141) [(.t 13)]) none)), (.e, (PO.mk (some 16) (.build z108_9b14 [(0, (68, (.t 12))), (68, (32, (.t 14))), (100, (1, (.t 15)))]) none)), (.a, (PO.mk (some 7) (.alloc z108_9b14) none)), (.x, (PO.mk none (.store 108 (.t 7) (.t 16)) none))]) (.seq (.ops [(PO.mk (some 18) (.fldA 66 (.t 4)) none), (PO.mk (some 19) (.load false 1 (.t 18)) none), (PO.mk (some 20) (.call (F 135) [(.t 19)]) none), (PO.mk (some 17) (.mv (.t 20)) none), (PO.mk (some 21) (.ext 0 (.t 17)) none), (PO.mk (some 22) (.ext 1 (.t 17)) none), (PO.mk (some 8) (.alloc [(w64 0), (w64 0), (w64 0), (w64 0)]) none), (PO.mk none (.store 4 (.t 8) (.t 21)) none), (PO.mk (some 9) (.mv (.t 22)) none)]) (.seq (.ops [(PO.mk (some 23) (.load true 4 (.t 8)) none), (PO.mk (some 24) (.call (F 137) [(.t 23)]) none), (PO.mk (some 25) (.fldA 103 (.t 7)) none), (PO.mk none (.store 4 (.t 25) (.t 24)) none)]) (.seq (.seq (.ops [(PO.mk (some 26) (.mv (.t 2)) none), (PO.mk (some 27) (.bin .geq (.t 26) (.k (.int .i64 0))) none)]) (.cond (.t 27) (.seq (.ops [(PO.mk (some 28) (.mv (.t 0)) none), (PO.mk (some 29) (.nilck (.t 28)) none), (PO.mk (some 30) (.fldA 74 (.t 29)) none), (PO.mk (some 31) (.load false 1 (.t 30)) none), (PO.mk (some 32) (.mv (.t 2)) none), (PO.mk (some 33) (.idxSl 108 (.t 31) (.t 32)) none), (PO.mk (some 34) (.load true 108 (.t 33)) none), (PO.mk (some 10) (.alloc z108_9b14) none), (PO.mk none (.store 108 (.t 10) (.t 34)) none)]) (.seq (.ops [(PO.mk (some 35) (.fldA 102 (.t 10)) none), (PO.mk (some 36) (.load false 1 (.t 35)) none), (PO.mk (some 37) (.bin .add (.t 36) (.k (.int .i64 1))) none), (PO.mk (some 38) (.fldA 102 (.t 7)) none), (PO.mk none (.store 1 (.t 38) (.t 37)) none)]) (.seq (.ops [(PO.mk (some 40) (.fldA 103 (.t 7)) none), (PO.mk (some 41) (.load true 4 (.t 40)) none), (PO.mk (some 42) (.fldA 103 (.t 10)) none), (PO.mk (some 43) (.load true 4 (.t 42)) none), (PO.mk (some 44) (.bsl false 4 2 [(w64 0), (w64 0), (w64 0), (w64 0)] [(0, (4, (.t 41))), (4, (4, (.t 43)))]) none), (PO.mk (some 45) (.call (F 108) [(.t 44)]) none), (PO.mk (some 39) (.mv (.t 45)) none), (PO.mk (some 46) (.ext 0 (.t 39)) none), (PO.mk (some 47) (.ext 1 (.t 39)) none), (PO.mk (some 48) (.fldA 103 (.t 7)) none), (PO.mk none (.store 4 (.t 48) (.t 46)) none)]) (.ops [(PO.mk (some 49) (.mv (.t 0)) none), (PO.mk (some 50) (.mv (.t 2)) none), (PO.mk (some 51) (.fldA 102 (.t 7)) none), (PO.mk (some 52) (.load false 1 (.t 51)) none), (PO.mk (some 53) (.call (F 157) [(.t 52)]) none), (PO.mk (some 54) (.call (F 158) [(.t 49), (.t 50), (.t 53)]) none), (PO.mk (some 55) (.fldA 101 (.t 7)) none), (PO.mk none (.store 1 (.t 55) (.t 54)) none)])))) .skip)) (.seq (.ops [(PO.mk (some 56) (.mv (.t 0)) none), (PO.mk (some 57) (.nilck (.t 56)) none), (PO.mk (some 58) (.fldA 74 (.t 57)) none), (PO.mk (some 59) (.load false 1 (.t 58)) none), (PO.mk (some 60) (.lenSl (.t 59)) none), (PO.mk (some 11) (.mv (.t 60)) none)]) (.seq (.draw [(.e, (PO.mk (some 61) (.mv (.t 0)) none)), (.e, (PO.mk (some 62) (.mv (.t 0)) none)), (.e, (PO.mk (some 63) (.nilck (.t 62)) none)), (.e, (PO.mk (some 64) (.fldA 74 (.t 63)) none)), (.s, (PO.mk (some 65) (.load false 1 (.t 64)) none)), (.s, (PO.mk (some 66) (.load true 108 (.t 7)) none)), (.e, (PO.mk (some 67) (.bsl false 108 1 z108_9b14 [(0, (108, (.t 66)))]) none)), (.x, (PO.mk (some 68) (.app 108 176 (.t 65) (.t 67)) none)), (.e, (PO.mk (some 69) (.nilck (.t 61)) none)), (.e, (PO.mk (some 70) (.fldA 74 (.t 69)) none)), (.x, (PO.mk none (.store 1 (.t 70) (.t 68)) none))]) (.seq (.draw [(.e, (PO.mk (some 71) (.mv (.t 0)) none)), (.e, (PO.mk (some 72) (.nilck (.t 71)) none)), (.e, (PO.mk (some 73) (.fldA 75 (.t 72)) none)), (.e, (PO.mk (some 75) (.fldA 68 (.t 7)) none)), (.e, (PO.mk (some 77) (.mv (.t 11)) none)), (.s, (PO.mk (some 74) (.load false 1 (.t 73)) none)), (.s, (PO.mk (some 76) (.load true 32 (.t 75)) none)), (.x, (PO.mk none (.mset (.agg 32) (.t 74) (.t 76) (.t 77)) none))]) (.seq (.ops [(PO.mk (some 78) (.mv (.t 11)) none), (PO.mk (some 6) (.mv (.t 78)) none)]) .ret)))))))))
def k157 (F : Fn) : PF := PF.mk 20 1 [(.t 2)] (.seq (.ops [(PO.mk (some 2) (.mv (.k (.int .i64 0))) none)]) (.seq (.block 0 (.seq (.ops [(PO.mk (some 4) (.mv (.t 0)) none), (PO.mk (some 5) (.bin .lss (.t 4) (.k (.int .i64 2))) none), (PO.mk (some 3) (.mv (.t 5)) none)]) (.cond (.t 3) (.seq (.ops [(PO.mk (some 2) (.mv (.k (.int .i64 0))) none)]) .ret) (.seq (.ops [(PO.mk (some 7) (.mv (.t 0)) none), (PO.mk (some 8) (.bin .rem (.t 7) (.k (.int .i64 2))) none), (PO.mk (some 9) (.bin .eql (.t 8) (.k (.int .i64 1))) none), (PO.mk (some 6) (.mv (.t 9)) none)]) (.cond (.t 6) (.seq (.ops [(PO.mk (some 10) (.mv (.t 0)) none), (PO.mk (some 11) (.bin .sub (.t 10) (.k (.int .i64 1))) none), (PO.mk (some 12) (.mv (.t 0)) none), (PO.mk (some 13) (.bin .sub (.t 12) (.k (.int .i64 2))) none), (PO.mk (some 14) (.bin .and (.t 11) (.t 13)) none), (PO.mk (some 15) (.bin .add (.t 14) (.k (.int .i64 1))) none), (PO.mk (some 2) (.mv (.t 15)) none)]) .ret) .skip))))) (.seq (.ops [(PO.mk (some 16) (.mv (.t 0)) none), (PO.mk (some 17) (.mv (.t 0)) none), (PO.mk (some 18) (.bin .sub (.t 17) (.k (.int .i64 1))) none), (PO.mk (some 19) (.bin .and (.t 16) (.t 18)) none), (PO.mk (some 2) (.mv (.t 19)) none)]) .ret)))
def k159 (F : Fn) : PF := PF.mk 8 1 [(.t 2)] (.seq (.ops [(PO.mk (some 2) (.mv (.k (.int .i64 0))) none)]) (.seq (.ops [(PO.mk (some 3) (.mv (.t 0)) none), (PO.mk (some 4) (.nilck (.t 3)) none), (PO.mk (some 5) (.fldA 74 (.t 4)) none), (PO.mk (some 6) (.load false 1 (.t 5)) none), (PO.mk (some 7) (.lenSl (.t 6)) none), (PO.mk (some 2) (.mv (.t 7)) none)]) .ret))
def k161 (F : Fn) : PF := PF.mk 23 2 [(PR.cell 4 true 108)] (.seq (.ops [(PO.mk (some 4) (.alloc z108_9b14) none)]) (.seq (.seq (.ops [(PO.mk (some 5) (.mv (.t 1)) none), (PO.mk (some 6) (.bin .lss (.t 5) (.k (.int .i64 0))) none), (PO.mk (some 7) (.mv (.t 6)) none), (PO.mk (some 8) (.mv (.t 1)) (some (7, false))), (PO.mk (some 9) (.mv (.t 0)) (some (7, false))), (PO.mk (some 10) (.nilck (.t 9)) (some (7, false))), (PO.mk (some 11) (.fldA 74 (.t 10)) (some (7, false))), (PO.mk (some 12) (.load false 1 (.t 11)) (some (7, false))), (PO.mk (some 13) (.lenSl (.t 12)) (some (7, false))), (PO.mk (some 14) (.bin .geq (.t 8) (.t 13)) (some (7, false))), (PO.mk (some 15) (.pick (.t 7) (.k (.bool true)) (.t 14)) none)]) (.cond (.t 15) (.ops [(PO.mk (some 1) (.mv (.k (.int .i64 0))) none)]) .skip)) (.seq (.ops [(PO.mk (some 16) (.mv (.t 0)) none), (PO.mk (some 17) (.nilck (.t 16)) none), (PO.mk (some 18) (.fldA 74 (.t 17)) none), (PO.mk (some 19) (.load false 1 (.t 18)) none), (PO.mk (some 20) (.mv (.t 1)) none), (PO.mk (some 21) (.idxSl 108 (.t 19) (.t 20)) none), (PO.mk (some 22) (.load true 108 (.t 21)) none), (PO.mk none (.store 108 (.t 4) (.t 22)) none)]) .ret)))
def k158 (F : Fn) : PF := PF.mk 73 3 [(.t 6)] (.seq (.ops [(PO.mk (some 6) (.mv (.k (.int .i64 0))) none)]) (.seq (.seq (.ops [(PO.mk (some 8) (.mv (.t 1)) none), (PO.mk (some 9) (.bin .lss (.t 8) (.k (.int .i64 0))) none), (PO.mk (some 10) (.mv (.t 9)) none), (PO.mk (some 11) (.mv (.t 1)) (some (10, false))), (PO.mk (some 12) (.mv (.t 0)) (some (10, false))), (PO.mk (some 13) (.nilck (.t 12)) (some (10, false))), (PO.mk (some 14) (.fldA 74 (.t 13)) (some (10, false))), (PO.mk (some 15) (.load false 1 (.t 14)) (some (10, false))), (PO.mk (some 16) (.lenSl (.t 15)) (some (10, false))), (PO.mk (some 17) (.bin .geq (.t 11) (.t 16)) (some (10, false))), (PO.mk (some 18) (.pick (.t 10) (.k (.bool true)) (.t 17)) none), (PO.mk (some 19) (.mv (.t 18)) none), (PO.mk (some 20) (.mv (.t 2)) (some (19, false))), (PO.mk (some 21) (.bin .lss (.t 20) (.k (.int .i64 0))) (some (19, false))), (PO.mk (some 22) (.pick (.t 19) (.k (.bool true)) (.t 21)) none), (PO.mk (some 23) (.mv (.t 22)) none), (PO.mk (some 24) (.mv (.t 2)) (some (23, false))), (PO.mk (some 25) (.mv (.t 0)) (some (23, false))), (PO.mk (some 26) (.nilck (.t 25)) (some (23, false))), (PO.mk (some 27) (.fldA 74 (.t 26)) (some (23, false))), (PO.mk (some 28) (.load false 1 (.t 27)) (some (23, false))), (PO.mk (some 29) (.mv (.t 1)) (some (23, false))), (PO.mk (some 30) (.idxSl 108 (.t 28) (.t 29)) (some (23, false))), (PO.mk (some 31) (.fldA 102 (.t 30)) (some (23, false))), (PO.mk (some 32) (.load false 1 (.t 31)) (some (23, false))), (PO.mk (some 33) (.bin .gtr (.t 24) (.t 32)) (some (23, false))), (PO.mk (some 34) (.pick (.t 23) (.k (.bool true)) (.t 33)) none)]) (.cond (.t 34) (.seq (.ops [(PO.mk (some 6) (.mv (.k (.int .i64 (-1)))) none)]) .ret) .skip)) (.seq (.block 0 (.loop (.seq (.seq (.ops [(PO.mk (some 35) (.mv (.t 0)) none), (PO.mk (some 36) (.nilck (.t 35)) none), (PO.mk (some 37) (.fldA 74 (.t 36)) none), (PO.mk (some 38) (.load false 1 (.t 37)) none), (PO.mk (some 39) (.mv (.t 1)) none), (PO.mk (some 40) (.idxSl 108 (.t 38) (.t 39)) none), (PO.mk (some 41) (.fldA 102 (.t 40)) none), (PO.mk (some 42) (.load false 1 (.t 41)) none), (PO.mk (some 43) (.mv (.t 2)) none), (PO.mk (some 44) (.bin .gtr (.t 42) (.t 43)) none)]) (.cond (.t 44) .skip (.exit 0))) (.block 1 (.seq (.ops [(PO.mk (some 45) (.mv (.t 0)) none), (PO.mk (some 46) (.nilck (.t 45)) none), (PO.mk (some 47) (.fldA 74 (.t 46)) none), (PO.mk (some 48) (.load false 1 (.t 47)) none), (PO.mk (some 49) (.mv (.t 1)) none), (PO.mk (some 50) (.idxSl 108 (.t 48) (.t 49)) none), (PO.mk (some 51) (.fldA 101 (.t 50)) none), (PO.mk (some 52) (.load false 1 (.t 51)) none), (PO.mk (some 7) (.mv (.t 52)) none)]) (.seq (.ops [(PO.mk (some 53) (.mv (.t 0)) none), (PO.mk (some 54) (.nilck (.t 53)) none), (PO.mk (some 55) (.fldA 74 (.t 54)) none), (PO.mk (some 56) (.load false 1 (.t 55)) none), (PO.mk (some 57) (.mv (.t 7)) none), (PO.mk (some 58) (.idxSl 108 (.t 56) (.t 57)) none), (PO.mk (some 59) (.fldA 102 (.t 58)) none), (PO.mk (some 60) (.load false 1 (.t 59)) none), (PO.mk (some 61) (.mv (.t 2)) none), (PO.mk (some 62) (.bin .geq (.t 60) (.t 61)) none)]) (.cond (.t 62) (.ops [(PO.mk (some 63) (.mv (.t 7)) none), (PO.mk (some 1) (.mv (.t 63)) none)]) (.ops [(PO.mk (some 64) (.mv (.t 0)) none), (PO.mk (some 65) (.nilck (.t 64)) none), (PO.mk (some 66) (.fldA 74 (.t 65)) none), (PO.mk (some 67) (.load false 1 (.t 66)) none), (PO.mk (some 68) (.mv (.t 1)) none), (PO.mk (some 69) (.idxSl 108 (.t 67) (.t 68)) none), (PO.mk (some 70) (.fldA 100 (.t 69)) none), (PO.mk (some 71) (.load false 1 (.t 70)) none), (PO.mk (some 1) (.mv (.t 71)) none)])))))))) (.seq (.ops [(PO.mk (some 72) (.mv (.t 1)) none), (PO.mk (some 6) (.mv (.t 72)) none)]) .ret))))
def k163 (F : Fn) : PF := PF.mk 33 3 [(.t 6)] (.seq (.ops [(PO.mk (some 6) (.mv (.k (.bool false))) none)]) (.seq (.ops [(PO.mk (some 7) (.mv (.t 1)) none), (PO.mk (some 8) (.bin .geq (.t 7) (.k (.int .i64 0))) none), (PO.mk (some 9) (.mv (.t 8)) none), (PO.mk (some 10) (.mv (.t 1)) (some (9, true))), (PO.mk (some 11) (.mv (.t 0)) (some (9, true))), (PO.mk (some 12) (.nilck (.t 11)) (some (9, true))), (PO.mk (some 13) (.fldA 74 (.t 12)) (some (9, true))), (PO.mk (some 14) (.load false 1 (.t 13)) (some (9, true))), (PO.mk (some 15) (.lenSl (.t 14)) (some (9, true))), (PO.mk (some 16) (.bin .lss (.t 10) (.t 15)) (some (9, true))), (PO.mk (some 17) (.pick (.t 9) (.t 16) (.k (.bool false))) none), (PO.mk (some 18) (.mv (.t 17)) none), (PO.mk (some 19) (.mv (.t 0)) (some (18, true))), (PO.mk (some 20) (.mv (.t 2)) (some (18, true))), (PO.mk (some 21) (.mv (.t 0)) (some (18, true))), (PO.mk (some 22) (.nilck (.t 21)) (some (18, true))), (PO.mk (some 23) (.fldA 74 (.t 22)) (some (18, true))), (PO.mk (some 24) (.load false 1 (.t 23)) (some (18, true))), (PO.mk (some 25) (.mv (.t 1)) (some (18, true))), (PO.mk (some 26) (.idxSl 108 (.t 24) (.t 25)) (some (18, true))), (PO.mk (some 27) (.fldA 102 (.t 26)) (some (18, true))), (PO.mk (some 28) (.load false 1 (.t 27)) (some (18, true))), (PO.mk (some 29) (.call (F 158) [(.t 19), (.t 20), (.t 28)]) (some (18, true))), (PO.mk (some 30) (.mv (.t 1)) (some (18, true))), (PO.mk (some 31) (.bin .eql (.t 29) (.t 30)) (some (18, true))), (PO.mk (some 32) (.pick (.t 18) (.t 31) (.k (.bool false))) none), (PO.mk (some 6) (.mv (.t 32)) none)]) .ret))
def k164 (F : Fn) : PF := PF.mk 11 1 [(.t 2)] (.seq (.ops [(PO.mk (some 2) (.mv (.k (w32 0))) none)]) (.seq (.ops [(PO.mk (some 3) (.mv (.t 0)) none), (PO.mk (some 4) (.call (F 165) [(.t 3)]) none)]) (.seq (.ops [(PO.mk (some 5) (.mv (.t 0)) none), (PO.mk (some 6) (.mv (.t 0)) none), (PO.mk (some 7) (.lenSl (.t 6)) none), (PO.mk (some 8) (.bin .quo (.t 7) (.k (.int .i64 2))) none), (PO.mk (some 9) (.idxSl 1 (.t 5) (.t 8)) none), (PO.mk (some 10) (.load false 1 (.t 9)) none), (PO.mk (some 2) (.mv (.t 10)) none)]) .ret)))
def k166 (F : Fn) : PF := PF.mk 44 2 [(.t 4)] (.seq (.ops [(PO.mk (some 4) (.mv (.k (w32 0))) none)]) (.seq (.ops [(PO.mk (some 5) (.mv (.k (.sl .nil [] 0))) none)]) (.seq (.seq (.ops [(PO.mk (some 6) (.mv (.t 1)) none), (PO.mk (some 7) (.mv (.t 0)) none), (PO.mk (some 8) (.nilck (.t 7)) none), (PO.mk (some 9) (.fldA 74 (.t 8)) none), (PO.mk (some 10) (.load false 1 (.t 9)) none), (PO.mk (some 11) (.lenSl (.t 10)) none), (PO.mk (some 12) (.bin .sub (.t 11) (.k (.int .i64 1))) none), (PO.mk (some 13) (.min [(.t 6), (.t 12)]) none), (PO.mk (some 14) (.max [(.k (.int .i64 0)), (.t 13)]) none), (PO.mk (some 1) (.mv (.t 14)) none)]) (.block 0 (.loop (.seq (.seq (.ops [(PO.mk (some 15) (.mv (.t 1)) none), (PO.mk (some 16) (.bin .geq (.t 15) (.k (.int .i64 0))) none), (PO.mk (some 17) (.mv (.t 16)) none), (PO.mk (some 18) (.mv (.t 5)) (some (17, true))), (PO.mk (some 19) (.lenSl (.t 18)) (some (17, true))), (PO.mk (some 20) (.bin .lss (.t 19) (.k (.int .i64 11))) (some (17, true))), (PO.mk (some 21) (.pick (.t 17) (.t 20) (.k (.bool false))) none)]) (.cond (.t 21) .skip (.exit 0))) (.seq (.block 1 (.ops [(PO.mk (some 30) (.mv (.t 5)) none), (PO.mk (some 31) (.mv (.t 0)) none), (PO.mk (some 32) (.nilck (.t 31)) none), (PO.mk (some 33) (.fldA 74 (.t 32)) none), (PO.mk (some 34) (.load false 1 (.t 33)) none), (PO.mk (some 35) (.mv (.t 1)) none), (PO.mk (some 36) (.idxSl 108 (.t 34) (.t 35)) none), (PO.mk (some 37) (.fldA 0 (.t 36)) none), (PO.mk (some 38) (.fldA 65 (.t 37)) none), (PO.mk (some 39) (.load false 1 (.t 38)) none), (PO.mk (some 40) (.bsl false 1 1 [(w32 0)] [(0, (1, (.t 39)))]) none), (PO.mk (some 41) (.app 1 4 (.t 30) (.t 40)) none), (PO.mk (some 5) (.mv (.t 41)) none)])) (.ops [(PO.mk (some 22) (.mv (.t 0)) none), (PO.mk (some 23) (.nilck (.t 22)) none), (PO.mk (some 24) (.fldA 74 (.t 23)) none), (PO.mk (some 25) (.load false 1 (.t 24)) none), (PO.mk (some 26) (.mv (.t 1)) none), (PO.mk (some 27) (.idxSl 108 (.t 25) (.t 26)) none), (PO.mk (some 28) (.fldA 100 (.t 27)) none), (PO.mk (some 29) (.load false 1 (.t 28)) none), (PO.mk (some 1) (.mv (.t 29)) none)])))))) (.seq (.ops [(PO.mk (some 42) (.mv (.t 5)) none), (PO.mk (some 43) (.call (F 164) [(.t 42)]) none), (PO.mk (some 4) (.mv (.t 43)) none)]) .ret))))
def k167 (F : Fn) : PF := PF.mk 100 2 [(.t 4)] (.seq (.ops [(PO.mk (some 4) (.mv (.k (w32 0))) none)]) (.seq (.ops [(PO.mk (some 11) (.mv (.t 0)) none), (PO.mk (some 12) (.mv (.t 1)) none), (PO.mk (some 13) (.call (F 161) [(.t 11), (.t 12)]) none), (PO.mk (some 5) (.alloc z108_9b14) none), (PO.mk none (.store 108 (.t 5) (.t 13)) none)]) (.seq (.seq (.draw [(.e, (PO.mk (some 14) (.mv (.t 0)) none)), (.e, (PO.mk (some 15) (.nilck (.t 14)) none)), (.e, (PO.mk (some 16) (.fldA 0 (.t 15)) none)), (.e, (PO.mk (some 17) (.fldA 1 (.t 16)) none)), (.s, (PO.mk (some 18) (.load false 1 (.t 17)) none)), (.e, (PO.mk (some 19) (.bin .eql (.t 18) (.k (.int .i64 0))) none)), (.e, (PO.mk (some 20) (.mv (.t 19)) none)), (.e, (PO.mk (some 21) (.fldA 102 (.t 5)) (some (20, false)))), (.e, (PO.mk (some 24) (.mv (.t 0)) (some (20, false)))), (.e, (PO.mk (some 25) (.nilck (.t 24)) (some (20, false)))), (.e, (PO.mk (some 26) (.fldA 0 (.t 25)) (some (20, false)))), (.e, (PO.mk (some 27) (.fldA 1 (.t 26)) (some (20, false)))), (.s, (PO.mk (some 22) (.load false 1 (.t 21)) (some (20, false)))), (.e, (PO.mk (some 23) (.bin .add (.t 22) (.k (.int .i64 1))) (some (20, false)))), (.s, (PO.mk (some 28) (.load false 1 (.t 27)) (some (20, false)))), (.e, (PO.mk (some 29) (.bin .rem (.t 23) (.t 28)) (some (20, false)))), (.e, (PO.mk (some 30) (.bin .neq (.t 29) (.k (.int .i64 0))) (some (20, false)))), (.e, (PO.mk (some 31) (.pick (.t 20) (.k (.bool true)) (.t 30)) none))]) (.cond (.t 31) (.seq (.ops [(PO.mk (some 32) (.fldA 0 (.t 5)) none), (PO.mk (some 33) (.fldA 66 (.t 32)) none), (PO.mk (some 34) (.load false 1 (.t 33)) none), (PO.mk (some 4) (.mv (.t 34)) none)]) .ret) .skip)) (.seq (.draw [(.e, (PO.mk (some 35) (.mv (.t 0)) none)), (.e, (PO.mk (some 36) (.nilck (.t 35)) none)), (.e, (PO.mk (some 37) (.fldA 74 (.t 36)) none)), (.e, (PO.mk (some 39) (.mv (.t 0)) none)), (.e, (PO.mk (some 40) (.mv (.t 1)) none)), (.e, (PO.mk (some 41) (.mv (.t 0)) none)), (.e, (PO.mk (some 42) (.nilck (.t 41)) none)), (.e, (PO.mk (some 43) (.fldA 74 (.t 42)) none)), (.e, (PO.mk (some 49) (.fldA 102 (.t 5)) none)), (.e, (PO.mk (some 52) (.mv (.t 0)) none)), (.e, (PO.mk (some 53) (.nilck (.t 52)) none)), (.e, (PO.mk (some 54) (.fldA 0 (.t 53)) none)), (.e, (PO.mk (some 55) (.fldA 1 (.t 54)) none)), (.s, (PO.mk (some 38) (.load false 1 (.t 37)) none)), (.s, (PO.mk (some 44) (.load false 1 (.t 43)) none)), (.e, (PO.mk (some 45) (.lenSl (.t 44)) none)), (.e, (PO.mk (some 46) (.bin .sub (.t 45) (.k (.int .i64 1))) none)), (.e, (PO.mk (some 47) (.min [(.t 40), (.t 46)]) none)), (.e, (PO.mk (some 48) (.max [(.k (.int .i64 0)), (.t 47)]) none)), (.s, (PO.mk (some 50) (.load false 1 (.t 49)) none)), (.e, (PO.mk (some 51) (.bin .add (.t 50) (.k (.int .i64 1))) none)), (.s, (PO.mk (some 56) (.load false 1 (.t 55)) none)), (.e, (PO.mk (some 57) (.bin .sub (.t 51) (.t 56)) none)), (.e, (PO.mk (some 58) (.max [(.k (.int .i64 0)), (.t 57)]) none)), (.s, (PO.mk (some 59) (.call (F 158) [(.t 39), (.t 48), (.t 58)]) none)), (.e, (PO.mk (some 60) (.idxSl 108 (.t 38) (.t 59)) none)), (.s, (PO.mk (some 61) (.load true 108 (.t 60)) none)), (.a, (PO.mk (some 6) (.alloc z108_9b14) none)), (.x, (PO.mk none (.store 108 (.t 6) (.t 61)) none))]) (.seq (.ops [(PO.mk (some 63) (.mv (.t 0)) none), (PO.mk (some 64) (.nilck (.t 63)) none), (PO.mk (some 65) (.fldA 0 (.t 64)) none), (PO.mk (some 66) (.fldA 0 (.t 65)) none), (PO.mk (some 67) (.load false 1 (.t 66)) none), (PO.mk (some 68) (.call (F 135) [(.t 67)]) none), (PO.mk (some 62) (.mv (.t 68)) none), (PO.mk (some 69) (.ext 0 (.t 62)) none), (PO.mk (some 70) (.ext 1 (.t 62)) none), (PO.mk (some 7) (.alloc [(w64 0), (w64 0), (w64 0), (w64 0)]) none), (PO.mk none (.store 4 (.t 7) (.t 69)) none), (PO.mk (some 8) (.mv (.t 70)) none)]) (.seq (.draw [(.e, (PO.mk (some 72) (.fldA 0 (.t 5)) none)), (.e, (PO.mk (some 73) (.fldA 66 (.t 72)) none)), (.e, (PO.mk (some 75) (.fldA 0 (.t 5)) none)), (.e, (PO.mk (some 76) (.fldA 65 (.t 75)) none)), (.e, (PO.mk (some 79) (.fldA 0 (.t 6)) none)), (.e, (PO.mk (some 80) (.fldA 65 (.t 79)) none)), (.e, (PO.mk (some 84) (.mv (.t 0)) none)), (.e, (PO.mk (some 85) (.nilck (.t 84)) none)), (.e, (PO.mk (some 86) (.fldA 0 (.t 85)) none)), (.e, (PO.mk (some 87) (.fldA 1 (.t 86)) none)), (.e, (PO.mk (some 89) (.mv (.t 0)) none)), (.e, (PO.mk (some 90) (.nilck (.t 89)) none)), (.e, (PO.mk (some 91) (.fldA 0 (.t 90)) none)), (.e, (PO.mk (some 92) (.fldA 2 (.t 91)) none)), (.s, (PO.mk (some 74) (.load false 1 (.t 73)) none)), (.s, (PO.mk (some 77) (.load false 1 (.t 76)) none)), (.e, (PO.mk (some 78) (.conv .i64 (.t 77)) none)), (.s, (PO.mk (some 81) (.load false 1 (.t 80)) none)), (.e, (PO.mk (some 82) (.conv .i64 (.t 81)) none)), (.e, (PO.mk (some 83) (.bin .sub (.t 78) (.t 82)) none)), (.s, (PO.mk (some 88) (.load false 1 (.t 87)) none)), (.s, (PO.mk (some 93) (.load false 1 (.t 92)) none)), (.e, (PO.mk (some 94) (.bin .mul (.t 88) (.t 93)) none)), (.s, (PO.mk (some 95) (.load true 4 (.t 7)) none)), (.x, (PO.mk (some 96) (.call (F 138) [(.t 74), (.t 83), (.t 94), (.t 95)]) none)), (.e, (PO.mk (some 71) (.mv (.t 96)) none)), (.e, (PO.mk (some 97) (.ext 0 (.t 71)) none)), (.e, (PO.mk (some 98) (.ext 1 (.t 71)) none)), (.e, (PO.mk (some 9) (.mv (.t 97)) none)), (.e, (PO.mk (some 10) (.mv (.t 98)) none))]) (.seq (.ops [(PO.mk (some 99) (.mv (.t 9)) none), (PO.mk (some 4) (.mv (.t 99)) none)]) .ret)))))))
def k168 (F : Fn) : PF := PF.mk 61 4 [(.t 8)] (.seq (.ops [(PO.mk (some 5) (.box (.t 1)) none), (PO.mk (some 8) (.mv (.k (.int .i64 0))) none)]) (.seq (.seq (.ops [(PO.mk (some 10) (.mv (.t 2)) none), (PO.mk (some 11) (.bin .lss (.t 10) (.k (.int .i64 0))) none), (PO.mk (some 12) (.mv (.t 11)) none), (PO.mk (some 13) (.mv (.t 2)) (some (12, false))), (PO.mk (some 14) (.mv (.t 0)) (some (12, false))), (PO.mk (some 15) (.nilck (.t 14)) (some (12, false))), (PO.mk (some 16) (.fldA 74 (.t 15)) (some (12, false))), (PO.mk (some 17) (.load false 1 (.t 16)) (some (12, false))), (PO.mk (some 18) (.lenSl (.t 17)) (some (12, false))), (PO.mk (some 19) (.bin .geq (.t 13) (.t 18)) (some (12, false))), (PO.mk (some 20) (.pick (.t 12) (.k (.bool true)) (.t 19)) none)]) (.cond (.t 20) (.seq (.ops [(PO.mk (some 8) (.mv (.k (.int .i64 100))) none)]) .ret) .skip)) (.seq (.seq (.draw [(.e, (PO.mk (some 22) (.mv (.t 0)) none)), (.e, (PO.mk (some 23) (.nilck (.t 22)) none)), (.e, (PO.mk (some 24) (.fldA 0 (.t 23)) none)), (.e, (PO.mk (some 25) (.fldA 0 (.t 24)) none)), (.s, (PO.mk (some 21) (.load true 68 (.t 5)) none)), (.s, (PO.mk (some 26) (.load false 1 (.t 25)) none)), (.x, (PO.mk (some 27) (.call (F 142) [(.t 21), (.t 26)]) none)), (.e, (PO.mk (some 9) (.mv (.t 27)) none))]) (.seq (.ops [(PO.mk (some 28) (.mv (.t 9)) none), (PO.mk (some 29) (.bin .neq (.t 28) (.k (.int .i64 0))) none)]) (.cond (.t 29) (.seq (.ops [(PO.mk (some 30) (.mv (.t 9)) none), (PO.mk (some 8) (.mv (.t 30)) none)]) .ret) .skip))) (.seq (.block 0 (.seq (.ops [(PO.mk (some 32) (.mv (.t 0)) none), (PO.mk (some 33) (.nilck (.t 32)) none), (PO.mk (some 34) (.fldA 74 (.t 33)) none), (PO.mk (some 35) (.load false 1 (.t 34)) none), (PO.mk (some 36) (.mv (.t 2)) none), (PO.mk (some 37) (.idxSl 108 (.t 35) (.t 36)) none), (PO.mk (some 38) (.fldA 107 (.t 37)) none), (PO.mk (some 39) (.load false 1 (.t 38)) none), (PO.mk (some 31) (.mv (.t 39)) none)]) (.cond (.t 31) (.seq (.ops [(PO.mk (some 8) (.mv (.k (.int .i64 101))) none)]) .ret) (.seq (.draw [(.e, (PO.mk (some 41) (.fldA 66 (.t 5)) none)), (.e, (PO.mk (some 43) (.mv (.t 0)) none)), (.e, (PO.mk (some 44) (.mv (.t 2)) none)), (.s, (PO.mk (some 42) (.load false 1 (.t 41)) none)), (.s, (PO.mk (some 45) (.call (F 167) [(.t 43), (.t 44)]) none)), (.e, (PO.mk (some 46) (.bin .neq (.t 42) (.t 45)) none)), (.e, (PO.mk (some 40) (.mv (.t 46)) none))]) (.cond (.t 40) (.seq (.ops [(PO.mk (some 8) (.mv (.k (.int .i64 30))) none)]) .ret) (.seq (.draw [(.e, (PO.mk (some 48) (.fldA 65 (.t 5)) none)), (.e, (PO.mk (some 50) (.mv (.t 0)) none)), (.e, (PO.mk (some 51) (.mv (.t 2)) none)), (.s, (PO.mk (some 49) (.load false 1 (.t 48)) none)), (.s, (PO.mk (some 52) (.call (F 166) [(.t 50), (.t 51)]) none)), (.e, (PO.mk (some 53) (.bin .leq (.t 49) (.t 52)) none)), (.e, (PO.mk (some 47) (.mv (.t 53)) none))]) (.cond (.t 47) (.seq (.ops [(PO.mk (some 8) (.mv (.k (.int .i64 102))) none)]) .ret) (.seq (.ops [(PO.mk (some 55) (.fldA 65 (.t 5)) none), (PO.mk (some 56) (.load false 1 (.t 55)) none), (PO.mk (some 57) (.conv .i64 (.t 56)) none), (PO.mk (some 58) (.bin .sub (.t 57) (.k (.int .i64 7200))) none), (PO.mk (some 59) (.mv (.t 3)) none), (PO.mk (some 60) (.bin .gtr (.t 58) (.t 59)) none), (PO.mk (some 54) (.mv (.t 60)) none)]) (.cond (.t 54) (.seq (.ops [(PO.mk (some 8) (.mv (.k (.int .i64 103))) none)]) .ret) .skip))))))))) (.seq (.ops [(PO.mk (some 8) (.mv (.k (.int .i64 0))) none)]) .ret)))))
def k169 (F : Fn) : PF := PF.mk 55 3 [(.t 6), (.t 7)] (.seq (.ops [(PO.mk (some 4) (.box (.t 1)) none), (PO.mk (some 6) (.mv (.k (.int .i64 0))) none), (PO.mk (some 7) (.mv (.k (.int .i64 0))) none)]) (.seq (.seq (.draw [(.e, (PO.mk (some 14) (.mv (.t 0)) none)), (.e, (PO.mk (some 15) (.nilck (.t 14)) none)), (.e, (PO.mk (some 16) (.fldA 75 (.t 15)) none)), (.s, (PO.mk (some 17) (.load false 1 (.t 16)) none)), (.s, (PO.mk (some 18) (.load true 68 (.t 4)) none)), (.s, (PO.mk (some 19) (.call (F 141) [(.t 18)]) none)), (.s, (PO.mk (some 20) (.lookup (.agg 32) (.int .i64 0) true (.t 17) (.t 19)) none)), (.e, (PO.mk (some 13) (.mv (.t 20)) none)), (.e, (PO.mk (some 21) (.ext 0 (.t 13)) none)), (.e, (PO.mk (some 22) (.ext 1 (.t 13)) none)), (.e, (PO.mk (some 8) (.mv (.t 21)) none)), (.e, (PO.mk (some 9) (.mv (.t 22)) none))]) (.seq (.ops [(PO.mk (some 23) (.mv (.t 9)) none)]) (.cond (.t 23) (.seq (.ops [(PO.mk (some 24) (.mv (.t 8)) none), (PO.mk (some 6) (.mv (.t 24)) none), (PO.mk (some 7) (.mv (.k (.int .i64 5))) none)]) .ret) .skip))) (.seq (.draw [(.e, (PO.mk (some 26) (.mv (.t 0)) none)), (.e, (PO.mk (some 27) (.nilck (.t 26)) none)), (.e, (PO.mk (some 28) (.fldA 75 (.t 27)) none)), (.e, (PO.mk (some 30) (.fldA 1 (.t 4)) none)), (.s, (PO.mk (some 29) (.load false 1 (.t 28)) none)), (.s, (PO.mk (some 31) (.load true 32 (.t 30)) none)), (.s, (PO.mk (some 32) (.lookup (.agg 32) (.int .i64 0) true (.t 29) (.t 31)) none)), (.e, (PO.mk (some 25) (.mv (.t 32)) none)), (.e, (PO.mk (some 33) (.ext 0 (.t 25)) none)), (.e, (PO.mk (some 34) (.ext 1 (.t 25)) none)), (.e, (PO.mk (some 10) (.mv (.t 33)) none)), (.e, (PO.mk (some 11) (.mv (.t 34)) none))]) (.seq (.seq (.ops [(PO.mk (some 35) (.mv (.t 11)) none), (PO.mk (some 36) (.not (.t 35)) none)]) (.cond (.t 36) (.seq (.ops [(PO.mk (some 6) (.mv (.k (.int .i64 (-1)))) none), (PO.mk (some 7) (.mv (.k (.int .i64 100))) none)]) .ret) .skip)) (.seq (.seq (.ops [(PO.mk (some 37) (.mv (.t 0)) none), (PO.mk (some 38) (.load true 68 (.t 4)) none), (PO.mk (some 39) (.mv (.t 10)) none), (PO.mk (some 40) (.mv (.t 2)) none), (PO.mk (some 41) (.call (F 168) [(.t 37), (.t 38), (.t 39), (.t 40)]) none), (PO.mk (some 12) (.mv (.t 41)) none)]) (.seq (.ops [(PO.mk (some 42) (.mv (.t 12)) none), (PO.mk (some 43) (.bin .neq (.t 42) (.k (.int .i64 0))) none)]) (.cond (.t 43) (.seq (.ops [(PO.mk (some 44) (.mv (.t 12)) none), (PO.mk (some 6) (.mv (.k (.int .i64 (-1)))) none), (PO.mk (some 7) (.mv (.t 44)) none)]) .ret) .skip))) (.seq (.seq (.ops [(PO.mk (some 45) (.mv (.t 0)) none), (PO.mk (some 46) (.nilck (.t 45)) none), (PO.mk (some 47) (.fldA 74 (.t 46)) none), (PO.mk (some 48) (.load false 1 (.t 47)) none), (PO.mk (some 49) (.lenSl (.t 48)) none), (PO.mk (some 50) (.bin .eql (.t 49) (.k (.int .i64 16384))) none)]) (.cond (.t 50) (.seq (.ops [(PO.mk (some 6) (.mv (.k (.int .i64 (-1)))) none), (PO.mk (some 7) (.mv (.k (.int .i64 3))) none)]) .ret) .skip)) (.seq (.ops [(PO.mk (some 51) (.mv (.t 0)) none), (PO.mk (some 52) (.load true 68 (.t 4)) none), (PO.mk (some 53) (.mv (.t 10)) none), (PO.mk (some 54) (.call (F 156) [(.t 51), (.t 52), (.t 53)]) none), (PO.mk (some 6) (.mv (.t 54)) none), (PO.mk (some 7) (.mv (.k (.int .i64 0))) none)]) .ret)))))))
def k165 (F : Fn) : PF := PF.mk 11 1 [] (.seq (.ops [(PO.mk (some 3) (.mv (.t 0)) none), (PO.mk (some 4) (.lenSl (.t 3)) none), (PO.mk (some 2) (.mv (.t 4)) none)]) (.ops [(PO.mk (some 5) (.mv (.t 0)) none), (PO.mk (some 6) (.mv (.t 2)) none), (PO.mk (some 7) (.mv (.t 2)) none), (PO.mk (some 8) (.conv .u64 (.t 7)) none), (PO.mk (some 9) (.call (F 171) [(.t 8)]) none), (PO.mk (some 10) (.call (F 172) [(.t 5), (.k (.int .i64 0)), (.t 6), (.t 9)]) none)]))
def k172 (F : Fn) : PF := PF.mk 134 4 [] (.seq (.ops [(PO.mk (some 8) (.mv (.k (.bool true))) none)]) (.seq (.ops [(PO.mk (some 9) (.mv (.k (.bool true))) none)]) (.block 0 (.loop (.block 1 (.seq (.ops [(PO.mk (some 19) (.mv (.t 2)) none), (PO.mk (some 20) (.mv (.t 1)) none), (PO.mk (some 21) (.bin .sub (.t 19) (.t 20)) none), (PO.mk (some 10) (.mv (.t 21)) none)]) (.seq (.seq (.ops [(PO.mk (some 22) (.mv (.t 10)) none), (PO.mk (some 23) (.bin .leq (.t 22) (.k (.int .i64 12))) none)]) (.cond (.t 23) (.seq (.ops [(PO.mk (some 24) (.mv (.t 0)) none), (PO.mk (some 25) (.mv (.t 1)) none), (PO.mk (some 26) (.mv (.t 2)) none), (PO.mk (some 27) (.call (F 173) [(.t 24), (.t 25), (.t 26)]) none)]) .ret) .skip)) (.seq (.seq (.ops [(PO.mk (some 28) (.mv (.t 3)) none), (PO.mk (some 29) (.bin .eql (.t 28) (.k (.int .i64 0))) none)]) (.cond (.t 29) (.seq (.ops [(PO.mk (some 30) (.mv (.t 0)) none), (PO.mk (some 31) (.mv (.t 1)) none), (PO.mk (some 32) (.mv (.t 2)) none), (PO.mk (some 33) (.call (F 174) [(.t 30), (.t 31), (.t 32)]) none)]) .ret) .skip)) (.seq (.seq (.ops [(PO.mk (some 34) (.mv (.t 8)) none), (PO.mk (some 35) (.not (.t 34)) none)]) (.cond (.t 35) (.seq (.ops [(PO.mk (some 36) (.mv (.t 0)) none), (PO.mk (some 37) (.mv (.t 1)) none), (PO.mk (some 38) (.mv (.t 2)) none), (PO.mk (some 39) (.call (F 175) [(.t 36), (.t 37), (.t 38)]) none)]) (.ops [(PO.mk (some 40) (.mv (.t 3)) none), (PO.mk (some 41) (.bin .sub (.t 40) (.k (.int .i64 1))) none), (PO.mk (some 3) (.mv (.t 41)) none)])) .skip)) (.seq (.ops [(PO.mk (some 43) (.mv (.t 0)) none), (PO.mk (some 44) (.mv (.t 1)) none), (PO.mk (some 45) (.mv (.t 2)) none), (PO.mk (some 46) (.call (F 176) [(.t 43), (.t 44), (.t 45)]) none), (PO.mk (some 42) (.mv (.t 46)) none), (PO.mk (some 47) (.ext 0 (.t 42)) none), (PO.mk (some 48) (.ext 1 (.t 42)) none), (PO.mk (some 11) (.mv (.t 47)) none), (PO.mk (some 12) (.mv (.t 48)) none)]) (.seq (.seq (.ops [(PO.mk (some 49) (.mv (.t 12)) none), (PO.mk (some 50) (.bin .eql (.t 49) (.k (.int .i64 2))) none)]) (.cond (.t 50) (.seq (.ops [(PO.mk (some 51) (.mv (.t 0)) none), (PO.mk (some 52) (.mv (.t 1)) none), (PO.mk (some 53) (.mv (.t 2)) none), (PO.mk (some 54) (.call (F 177) [(.t 51), (.t 52), (.t 53)]) none)]) (.seq (.ops [(PO.mk (some 55) (.mv (.t 2)) none), (PO.mk (some 56) (.bin .sub (.t 55) (.k (.int .i64 1))) none), (PO.mk (some 57) (.mv (.t 11)) none), (PO.mk (some 58) (.mv (.t 1)) none), (PO.mk (some 59) (.bin .sub (.t 57) (.t 58)) none), (PO.mk (some 60) (.bin .sub (.t 56) (.t 59)) none), (PO.mk (some 11) (.mv (.t 60)) none)]) (.ops [(PO.mk (some 12) (.mv (.k (.int .i64 1))) none)]))) .skip)) (.seq (.seq (.ops [(PO.mk (some 61) (.mv (.t 8)) none), (PO.mk (some 62) (.mv (.t 61)) none), (PO.mk (some 63) (.mv (.t 9)) (some (62, true))), (PO.mk (some 64) (.pick (.t 62) (.t 63) (.k (.bool false))) none), (PO.mk (some 65) (.mv (.t 64)) none), (PO.mk (some 66) (.mv (.t 12)) (some (65, true))), (PO.mk (some 67) (.bin .eql (.t 66) (.k (.int .i64 1))) (some (65, true))), (PO.mk (some 68) (.pick (.t 65) (.t 67) (.k (.bool false))) none)]) (.cond (.t 68) (.seq (.ops [(PO.mk (some 69) (.mv (.t 0)) none), (PO.mk (some 70) (.mv (.t 1)) none), (PO.mk (some 71) (.mv (.t 2)) none), (PO.mk (some 72) (.call (F 178) [(.t 69), (.t 70), (.t 71)]) none)]) (.cond (.t 72) .ret .skip)) .skip)) (.seq (.seq (.draw [(.e, (PO.mk (some 73) (.mv (.t 1)) none)), (.e, (PO.mk (some 74) (.bin .gtr (.t 73) (.k (.int .i64 0))) none)), (.e, (PO.mk (some 75) (.mv (.t 74)) none)), (.e, (PO.mk (some 76) (.mv (.t 0)) (some (75, true)))), (.e, (PO.mk (some 77) (.mv (.t 1)) (some (75, true)))), (.e, (PO.mk (some 78) (.bin .sub (.t 77) (.k (.int .i64 1))) (some (75, true)))), (.e, (PO.mk (some 79) (.idxSl 1 (.t 76) (.t 78)) (some (75, true)))), (.e, (PO.mk (some 81) (.mv (.t 0)) (some (75, true)))), (.e, (PO.mk (some 82) (.mv (.t 11)) (some (75, true)))), (.e, (PO.mk (some 83) (.idxSl 1 (.t 81) (.t 82)) (some (75, true)))), (.s, (PO.mk (some 80) (.load false 1 (.t 79)) (some (75, true)))), (.s, (PO.mk (some 84) (.load false 1 (.t 83)) (some (75, true)))), (.x, (PO.mk (some 85) (.call (F 179) [(.t 80), (.t 84)]) (some (75, true)))), (.e, (PO.mk (some 86) (.not (.t 85)) (some (75, true)))), (.e, (PO.mk (some 87) (.pick (.t 75) (.t 86) (.k (.bool false))) none))]) (.cond (.t 87) (.seq (.ops [(PO.mk (some 88) (.mv (.t 0)) none), (PO.mk (some 89) (.mv (.t 1)) none), (PO.mk (some 90) (.mv (.t 2)) none), (PO.mk (some 91) (.mv (.t 11)) none), (PO.mk (some 92) (.call (F 180) [(.t 88), (.t 89), (.t 90), (.t 91)]) none), (PO.mk (some 13) (.mv (.t 92)) none)]) (.seq (.ops [(PO.mk (some 93) (.mv (.t 13)) none), (PO.mk (some 1) (.mv (.t 93)) none)]) (.exit 1))) .skip)) (.seq (.ops [(PO.mk (some 95) (.mv (.t 0)) none), (PO.mk (some 96) (.mv (.t 1)) none), (PO.mk (some 97) (.mv (.t 2)) none), (PO.mk (some 98) (.mv (.t 11)) none), (PO.mk (some 99) (.call (F 181) [(.t 95), (.t 96), (.t 97), (.t 98)]) none), (PO.mk (some 94) (.mv (.t 99)) none), (PO.mk (some 100) (.ext 0 (.t 94)) none), (PO.mk (some 101) (.ext 1 (.t 94)) none), (PO.mk (some 14) (.mv (.t 100)) none), (PO.mk (some 15) (.mv (.t 101)) none)]) (.seq (.ops [(PO.mk (some 102) (.mv (.t 15)) none), (PO.mk (some 9) (.mv (.t 102)) none)]) (.seq (.ops [(PO.mk (some 103) (.mv (.t 14)) none), (PO.mk (some 104) (.mv (.t 1)) none), (PO.mk (some 105) (.bin .sub (.t 103) (.t 104)) none), (PO.mk (some 106) (.mv (.t 2)) none), (PO.mk (some 107) (.mv (.t 14)) none), (PO.mk (some 108) (.bin .sub (.t 106) (.t 107)) none), (PO.mk (some 16) (.mv (.t 105)) none), (PO.mk (some 17) (.mv (.t 108)) none)]) (.seq (.ops [(PO.mk (some 109) (.mv (.t 10)) none), (PO.mk (some 110) (.bin .quo (.t 109) (.k (.int .i64 8))) none), (PO.mk (some 18) (.mv (.t 110)) none)]) (.seq (.ops [(PO.mk (some 111) (.mv (.t 16)) none), (PO.mk (some 112) (.mv (.t 17)) none), (PO.mk (some 113) (.bin .lss (.t 111) (.t 112)) none)]) (.cond (.t 113) (.seq (.ops [(PO.mk (some 114) (.mv (.t 16)) none), (PO.mk (some 115) (.mv (.t 18)) none), (PO.mk (some 116) (.bin .geq (.t 114) (.t 115)) none), (PO.mk (some 8) (.mv (.t 116)) none)]) (.seq (.ops [(PO.mk (some 117) (.mv (.t 0)) none), (PO.mk (some 118) (.mv (.t 1)) none), (PO.mk (some 119) (.mv (.t 14)) none), (PO.mk (some 120) (.mv (.t 3)) none), (PO.mk (some 121) (.call (F 172) [(.t 117), (.t 118), (.t 119), (.t 120)]) none)]) (.ops [(PO.mk (some 122) (.mv (.t 14)) none), (PO.mk (some 123) (.bin .add (.t 122) (.k (.int .i64 1))) none), (PO.mk (some 1) (.mv (.t 123)) none)]))) (.seq (.ops [(PO.mk (some 124) (.mv (.t 17)) none), (PO.mk (some 125) (.mv (.t 18)) none), (PO.mk (some 126) (.bin .geq (.t 124) (.t 125)) none), (PO.mk (some 8) (.mv (.t 126)) none)]) (.seq (.ops [(PO.mk (some 127) (.mv (.t 0)) none), (PO.mk (some 128) (.mv (.t 14)) none), (PO.mk (some 129) (.bin .add (.t 128) (.k (.int .i64 1))) none), (PO.mk (some 130) (.mv (.t 2)) none), (PO.mk (some 131) (.mv (.t 3)) none), (PO.mk (some 132) (.call (F 172) [(.t 127), (.t 129), (.t 130), (.t 131)]) none)]) (.ops [(PO.mk (some 133) (.mv (.t 14)) none), (PO.mk (some 2) (.mv (.t 133)) none)]))))))))))))))))))))))
def k173 (F : Fn) : PF := PF.mk 49 3 [] (.seq (.ops [(PO.mk (some 8) (.mv (.t 1)) none), (PO.mk (some 9) (.bin .add (.t 8) (.k (.int .i64 1))) none), (PO.mk (some 6) (.mv (.t 9)) none)]) (.block 0 (.loop (.seq (.seq (.ops [(PO.mk (some 10) (.mv (.t 6)) none), (PO.mk (some 11) (.mv (.t 2)) none), (PO.mk (some 12) (.bin .lss (.t 10) (.t 11)) none)]) (.cond (.t 12) .skip (.exit 0))) (.seq (.block 1 (.seq (.ops [(PO.mk (some 15) (.mv (.t 6)) none), (PO.mk (some 7) (.mv (.t 15)) none)]) (.block 2 (.loop (.seq (.seq (.draw [(.e, (PO.mk (some 16) (.mv (.t 7)) none)), (.e, (PO.mk (some 17) (.mv (.t 1)) none)), (.e, (PO.mk (some 18) (.bin .gtr (.t 16) (.t 17)) none)), (.e, (PO.mk (some 19) (.mv (.t 18)) none)), (.e, (PO.mk (some 20) (.mv (.t 0)) (some (19, true)))), (.e, (PO.mk (some 21) (.mv (.t 7)) (some (19, true)))), (.e, (PO.mk (some 22) (.idxSl 1 (.t 20) (.t 21)) (some (19, true)))), (.e, (PO.mk (some 24) (.mv (.t 0)) (some (19, true)))), (.e, (PO.mk (some 25) (.mv (.t 7)) (some (19, true)))), (.e, (PO.mk (some 26) (.bin .sub (.t 25) (.k (.int .i64 1))) (some (19, true)))), (.e, (PO.mk (some 27) (.idxSl 1 (.t 24) (.t 26)) (some (19, true)))), (.s, (PO.mk (some 23) (.load false 1 (.t 22)) (some (19, true)))), (.s, (PO.mk (some 28) (.load false 1 (.t 27)) (some (19, true)))), (.x, (PO.mk (some 29) (.call (F 179) [(.t 23), (.t 28)]) (some (19, true)))), (.e, (PO.mk (some 30) (.pick (.t 19) (.t 29) (.k (.bool false))) none))]) (.cond (.t 30) .skip (.exit 2))) (.seq (.block 3 (.draw [(.e, (PO.mk (some 33) (.mv (.t 0)) none)), (.e, (PO.mk (some 34) (.mv (.t 7)) none)), (.e, (PO.mk (some 35) (.mv (.t 0)) none)), (.e, (PO.mk (some 36) (.mv (.t 7)) none)), (.e, (PO.mk (some 37) (.bin .sub (.t 36) (.k (.int .i64 1))) none)), (.e, (PO.mk (some 38) (.mv (.t 0)) none)), (.e, (PO.mk (some 39) (.mv (.t 7)) none)), (.e, (PO.mk (some 40) (.bin .sub (.t 39) (.k (.int .i64 1))) none)), (.e, (PO.mk (some 41) (.idxSl 1 (.t 38) (.t 40)) none)), (.e, (PO.mk (some 43) (.mv (.t 0)) none)), (.e, (PO.mk (some 44) (.mv (.t 7)) none)), (.e, (PO.mk (some 45) (.idxSl 1 (.t 43) (.t 44)) none)), (.s, (PO.mk (some 42) (.load false 1 (.t 41)) none)), (.s, (PO.mk (some 46) (.load false 1 (.t 45)) none)), (.e, (PO.mk (some 47) (.idxSl 1 (.t 33) (.t 34)) none)), (.x, (PO.mk none (.store 1 (.t 47) (.t 42)) none)), (.e, (PO.mk (some 48) (.idxSl 1 (.t 35) (.t 37)) none)), (.x, (PO.mk none (.store 1 (.t 48) (.t 46)) none))])) (.ops [(PO.mk (some 31) (.mv (.t 7)) none), (PO.mk (some 32) (.bin .sub (.t 31) (.k (.int .i64 1))) none), (PO.mk (some 7) (.mv (.t 32)) none)]))))))) (.ops [(PO.mk (some 13) (.mv (.t 6)) none), (PO.mk (some 14) (.bin .add (.t 13) (.k (.int .i64 1))) none), (PO.mk (some 6) (.mv (.t 14)) none)]))))))
def k179 (F : Fn) : PF := PF.mk 17 2 [(.t 4)] (.seq (.ops [(PO.mk (some 4) (.mv (.k (.bool false))) none)]) (.seq (.ops [(PO.mk (some 5) (.mv (.t 0)) none), (PO.mk (some 6) (.call (F 182) [(.t 5)]) none), (PO.mk (some 7) (.mv (.t 6)) none), (PO.mk (some 8) (.mv (.t 1)) (some (7, true))), (PO.mk (some 9) (.call (F 182) [(.t 8)]) (some (7, true))), (PO.mk (some 10) (.not (.t 9)) (some (7, true))), (PO.mk (some 11) (.pick (.t 7) (.t 10) (.k (.bool false))) none), (PO.mk (some 12) (.mv (.t 11)) none), (PO.mk (some 13) (.mv (.t 0)) (some (12, false))), (PO.mk (some 14) (.mv (.t 1)) (some (12, false))), (PO.mk (some 15) (.bin .lss (.t 13) (.t 14)) (some (12, false))), (PO.mk (some 16) (.pick (.t 12) (.k (.bool true)) (.t 15)) none), (PO.mk (some 4) (.mv (.t 16)) none)]) .ret))
def k182 (F : Fn) : PF := PF.mk 6 1 [(.t 2)] (.seq (.ops [(PO.mk (some 2) (.mv (.k (.bool false))) none)]) (.seq (.ops [(PO.mk (some 3) (.mv (.t 0)) none), (PO.mk (some 4) (.mv (.t 0)) none), (PO.mk (some 5) (.bin .neq (.t 3) (.t 4)) none), (PO.mk (some 2) (.mv (.t 5)) none)]) .ret))
def k171 (F : Fn) : PF := PF.mk 8 1 [(.t 2)] (.seq (.ops [(PO.mk (some 2) (.mv (.k (.int .i64 0))) none)]) (.seq (.cond (.k (.bool false)) (.seq (.ops [(PO.mk (some 3) (.mv (.t 0)) none), (PO.mk (some 4) (.conv .u32 (.t 3)) none), (PO.mk (some 5) (.call (F 183) [(.t 4)]) none), (PO.mk (some 2) (.mv (.t 5)) none)]) .ret) .skip) (.seq (.ops [(PO.mk (some 6) (.mv (.t 0)) none), (PO.mk (some 7) (.call (F 115) [(.t 6)]) none), (PO.mk (some 2) (.mv (.t 7)) none)]) .ret)))
structure OkIndex (P : Program) (F : Fn) : Prop where
  mixed : P.follows .mixedOrders = true
  toOkHead : OkHead P F
  h154 : compFn P ⟨[], [], [], [], []⟩ (F 154) = some (k154 F)
  h155 : compFn P ⟨[], [], [], [], []⟩ (F 155) = some (k155 F)
  h156 : compFn P ⟨[], [], [], [], []⟩ (F 156) = some (k156 F)
  h157 : compFn P ⟨[], [], [], [], []⟩ (F 157) = some (k157 F)
  h159 : compFn P ⟨[], [], [], [], []⟩ (F 159) = some (k159 F)
  h161 : compFn P ⟨[], [], [], [], []⟩ (F 161) = some (k161 F)
  h158 : compFn P ⟨[], [], [], [], []⟩ (F 158) = some (k158 F)
  h163 : compFn P ⟨[], [], [], [], []⟩ (F 163) = some (k163 F)
  h164 : compFn P ⟨[], [], [], [], []⟩ (F 164) = some (k164 F)
  h166 : compFn P ⟨[], [], [], [], []⟩ (F 166) = some (k166 F)
  h167 : compFn P ⟨[], [], [], [], []⟩ (F 167) = some (k167 F)
  h168 : compFn P ⟨[], [], [], [], []⟩ (F 168) = some (k168 F)
  h169 : compFn P ⟨[], [], [], [], []⟩ (F 169) = some (k169 F)
  h165 : compFn P ⟨[], [], [], [], []⟩ (F 165) = some (k165 F)
  h172 : compFn P ⟨[], [], [], [], []⟩ (F 172) = some (k172 F)
  h173 : compFn P ⟨[], [], [], [], []⟩ (F 173) = some (k173 F)
  h179 : compFn P ⟨[], [], [], [], []⟩ (F 179) = some (k179 F)
  h182 : compFn P ⟨[], [], [], [], []⟩ (F 182) = some (k182 F)
  h171 : compFn P ⟨[], [], [], [], []⟩ (F 171) = some (k171 F)
end Go.Ab
set_option linter.unusedVariables false
namespace Go.Ab
open Go
structure OkIndexZ (P : Program) (F : Fn) : Prop where
  mixed : P.follows .mixedOrders = true
  toOkIndex : OkIndex P F
end Go.Ab
set_option linter.unusedVariables false
namespace Go.Ab
open Go
def k228 (F : Fn) : PF := PF.mk 49 3 [(.t 6)] (.seq (.ops [(PO.mk (some 6) (.mv (.k (.int .i64 0))) none)]) (.seq (.ops [(PO.mk (some 8) (.mv (.t 1)) none), (PO.mk (some 9) (.mv (.t 0)) none), (PO.mk (some 10) (.call (F 159) [(.t 9)]) none), (PO.mk (some 11) (.bin .sub (.t 10) (.k (.int .i64 1))) none), (PO.mk (some 12) (.min [(.t 8), (.t 11)]) none), (PO.mk (some 13) (.max [(.k (.int .i64 0)), (.t 12)]) none), (PO.mk (some 14) (.mv (.t 2)) none), (PO.mk (some 15) (.mv (.t 0)) none), (PO.mk (some 16) (.call (F 159) [(.t 15)]) none), (PO.mk (some 17) (.bin .sub (.t 16) (.k (.int .i64 1))) none), (PO.mk (some 18) (.min [(.t 14), (.t 17)]) none), (PO.mk (some 19) (.max [(.k (.int .i64 0)), (.t 18)]) none), (PO.mk (some 1) (.mv (.t 13)) none), (PO.mk (some 2) (.mv (.t 19)) none)]) (.seq (.ops [(PO.mk (some 20) (.mv (.t 0)) none), (PO.mk (some 21) (.mv (.t 1)) none), (PO.mk (some 22) (.call (F 161) [(.t 20), (.t 21)]) none), (PO.mk (some 23) (.fld false 102 1 (.t 22)) none), (PO.mk (some 24) (.mv (.t 0)) none), (PO.mk (some 25) (.mv (.t 2)) none), (PO.mk (some 26) (.call (F 161) [(.t 24), (.t 25)]) none), (PO.mk (some 27) (.fld false 102 1 (.t 26)) none), (PO.mk (some 28) (.min [(.t 23), (.t 27)]) none), (PO.mk (some 7) (.mv (.t 28)) none)]) (.seq (.ops [(PO.mk (some 29) (.mv (.t 0)) none), (PO.mk (some 30) (.mv (.t 1)) none), (PO.mk (some 31) (.mv (.t 7)) none), (PO.mk (some 32) (.call (F 158) [(.t 29), (.t 30), (.t 31)]) none), (PO.mk (some 33) (.mv (.t 0)) none), (PO.mk (some 34) (.mv (.t 2)) none), (PO.mk (some 35) (.mv (.t 7)) none), (PO.mk (some 36) (.call (F 158) [(.t 33), (.t 34), (.t 35)]) none), (PO.mk (some 1) (.mv (.t 32)) none), (PO.mk (some 2) (.mv (.t 36)) none)]) (.seq (.block 0 (.loop (.seq (.seq (.ops [(PO.mk (some 37) (.mv (.t 1)) none), (PO.mk (some 38) (.mv (.t 2)) none), (PO.mk (some 39) (.bin .neq (.t 37) (.t 38)) none)]) (.cond (.t 39) .skip (.exit 0))) (.block 1 (.ops [(PO.mk (some 40) (.mv (.t 0)) none), (PO.mk (some 41) (.mv (.t 1)) none), (PO.mk (some 42) (.call (F 161) [(.t 40), (.t 41)]) none), (PO.mk (some 43) (.fld false 100 1 (.t 42)) none), (PO.mk (some 44) (.mv (.t 0)) none), (PO.mk (some 45) (.mv (.t 2)) none), (PO.mk (some 46) (.call (F 161) [(.t 44), (.t 45)]) none), (PO.mk (some 47) (.fld false 100 1 (.t 46)) none), (PO.mk (some 1) (.mv (.t 43)) none), (PO.mk (some 2) (.mv (.t 47)) none)]))))) (.seq (.ops [(PO.mk (some 48) (.mv (.t 1)) none), (PO.mk (some 6) (.mv (.t 48)) none)]) .ret))))))
def k229 (F : Fn) : PF := PF.mk 39 3 [(.t 6)] (.seq (.ops [(PO.mk (some 6) (.mv (.k (.sl .nil [] 0))) none)]) (.seq (.seq (.ops [(PO.mk (some 9) (.mv (.t 2)) none), (PO.mk (some 10) (.bin .lss (.t 9) (.k (.int .i64 0))) none), (PO.mk (some 11) (.mv (.t 10)) none), (PO.mk (some 12) (.mv (.t 2)) (some (11, false))), (PO.mk (some 13) (.mv (.t 0)) (some (11, false))), (PO.mk (some 14) (.call (F 159) [(.t 13)]) (some (11, false))), (PO.mk (some 15) (.bin .geq (.t 12) (.t 14)) (some (11, false))), (PO.mk (some 16) (.pick (.t 11) (.k (.bool true)) (.t 15)) none), (PO.mk (some 17) (.mv (.t 16)) none), (PO.mk (some 18) (.mv (.t 0)) (some (17, false))), (PO.mk (some 19) (.mv (.t 1)) (some (17, false))), (PO.mk (some 20) (.mv (.t 2)) (some (17, false))), (PO.mk (some 21) (.call (F 163) [(.t 18), (.t 19), (.t 20)]) (some (17, false))), (PO.mk (some 22) (.not (.t 21)) (some (17, false))), (PO.mk (some 23) (.pick (.t 17) (.k (.bool true)) (.t 22)) none)]) (.cond (.t 23) (.seq (.ops [(PO.mk (some 6) (.mv (.k (.sl .nil [] 0))) none)]) .ret) .skip)) (.seq (.ops [(PO.mk (some 7) (.mv (.k (.sl .nil [] 0))) none)]) (.seq (.seq (.ops [(PO.mk (some 24) (.mv (.t 2)) none), (PO.mk (some 8) (.mv (.t 24)) none)]) (.block 0 (.loop (.seq (.seq (.ops [(PO.mk (some 25) (.mv (.t 8)) none), (PO.mk (some 26) (.mv (.t 1)) none), (PO.mk (some 27) (.bin .neq (.t 25) (.t 26)) none)]) (.cond (.t 27) .skip (.exit 0))) (.seq (.block 1 (.ops [(PO.mk (some 32) (.mv (.t 7)) none), (PO.mk (some 33) (.mv (.t 8)) none), (PO.mk (some 34) (.bsl false 1 1 [(.int .i64 0)] [(0, (1, (.t 33)))]) none), (PO.mk (some 35) (.app 1 8 (.t 32) (.t 34)) none), (PO.mk (some 7) (.mv (.t 35)) none)])) (.ops [(PO.mk (some 28) (.mv (.t 0)) none), (PO.mk (some 29) (.mv (.t 8)) none), (PO.mk (some 30) (.call (F 161) [(.t 28), (.t 29)]) none), (PO.mk (some 31) (.fld false 100 1 (.t 30)) none), (PO.mk (some 8) (.mv (.t 31)) none)])))))) (.seq (.ops [(PO.mk (some 36) (.mv (.t 7)) none), (PO.mk (some 37) (.call (F 230) [(.t 36)]) none)]) (.seq (.ops [(PO.mk (some 38) (.mv (.t 7)) none), (PO.mk (some 6) (.mv (.t 38)) none)]) .ret))))))
def k230 (F : Fn) : PF := PF.mk 28 1 [] (.seq (.ops [(PO.mk (some 4) (.mv (.t 0)) none), (PO.mk (some 5) (.lenSl (.t 4)) none), (PO.mk (some 6) (.bin .sub (.t 5) (.k (.int .i64 1))) none), (PO.mk (some 2) (.mv (.k (.int .i64 0))) none), (PO.mk (some 3) (.mv (.t 6)) none)]) (.block 0 (.loop (.seq (.seq (.ops [(PO.mk (some 7) (.mv (.t 2)) none), (PO.mk (some 8) (.mv (.t 3)) none), (PO.mk (some 9) (.bin .lss (.t 7) (.t 8)) none)]) (.cond (.t 9) .skip (.exit 0))) (.seq (.block 1 (.draw [(.e, (PO.mk (some 14) (.mv (.t 0)) none)), (.e, (PO.mk (some 15) (.mv (.t 2)) none)), (.e, (PO.mk (some 16) (.mv (.t 0)) none)), (.e, (PO.mk (some 17) (.mv (.t 3)) none)), (.e, (PO.mk (some 18) (.mv (.t 0)) none)), (.e, (PO.mk (some 19) (.mv (.t 3)) none)), (.e, (PO.mk (some 20) (.idxSl 1 (.t 18) (.t 19)) none)), (.e, (PO.mk (some 22) (.mv (.t 0)) none)), (.e, (PO.mk (some 23) (.mv (.t 2)) none)), (.e, (PO.mk (some 24) (.idxSl 1 (.t 22) (.t 23)) none)), (.s, (PO.mk (some 21) (.load false 1 (.t 20)) none)), (.s, (PO.mk (some 25) (.load false 1 (.t 24)) none)), (.e, (PO.mk (some 26) (.idxSl 1 (.t 14) (.t 15)) none)), (.x, (PO.mk none (.store 1 (.t 26) (.t 21)) none)), (.e, (PO.mk (some 27) (.idxSl 1 (.t 16) (.t 17)) none)), (.x, (PO.mk none (.store 1 (.t 27) (.t 25)) none))])) (.ops [(PO.mk (some 10) (.mv (.t 2)) none), (PO.mk (some 11) (.bin .add (.t 10) (.k (.int .i64 1))) none), (PO.mk (some 12) (.mv (.t 3)) none), (PO.mk (some 13) (.bin .sub (.t 12) (.k (.int .i64 1))) none), (PO.mk (some 2) (.mv (.t 11)) none), (PO.mk (some 3) (.mv (.t 13)) none)]))))))
structure OkLocate (P : Program) (F : Fn) : Prop where
  mixed : P.follows .mixedOrders = true
  toOkIndexZ : OkIndexZ P F
  h228 : compFn P ⟨[], [], [], [], []⟩ (F 228) = some (k228 F)
  h229 : compFn P ⟨[], [], [], [], []⟩ (F 229) = some (k229 F)
  h230 : compFn P ⟨[], [], [], [], []⟩ (F 230) = some (k230 F)
end Go.Ab
set_option linter.unusedVariables false
namespace Go.Ab
open Go
def k265 (F : Fn) : PF := PF.mk 47 1 [(.t 2), (.t 3)] (.seq (.ops [(PO.mk (some 1) (.box (.t 0)) none), (PO.mk (some 2) (.mv (.k (.ptr none))) none), (PO.mk (some 3) (.mv (.k (.int .i64 0))) none)]) (.seq (.ops [(PO.mk (some 11) (.load true 74 (.t 1)) none), (PO.mk (some 12) (.call (F 155) [(.t 11)]) none), (PO.mk (some 10) (.mv (.t 12)) none), (PO.mk (some 13) (.ext 0 (.t 10)) none), (PO.mk (some 14) (.ext 1 (.t 10)) none), (PO.mk (some 4) (.mv (.t 13)) none), (PO.mk (some 5) (.mv (.t 14)) none)]) (.seq (.seq (.ops [(PO.mk (some 15) (.mv (.t 5)) none), (PO.mk (some 16) (.bin .neq (.t 15) (.k (.int .i64 0))) none)]) (.cond (.t 16) (.seq (.ops [(PO.mk (some 17) (.mv (.t 5)) none), (PO.mk (some 2) (.mv (.k (.ptr none))) none), (PO.mk (some 3) (.mv (.t 17)) none)]) .ret) .skip)) (.seq (.seq (.ops [(PO.mk (some 18) (.fldA 5 (.t 1)) none), (PO.mk (some 19) (.load true 69 (.t 18)) none), (PO.mk (some 20) (.call (F 253) [(.t 19)]) none), (PO.mk (some 6) (.mv (.t 20)) none)]) (.seq (.ops [(PO.mk (some 21) (.mv (.t 6)) none), (PO.mk (some 22) (.bin .neq (.t 21) (.k (.int .i64 0))) none)]) (.cond (.t 22) (.seq (.ops [(PO.mk (some 23) (.mv (.t 6)) none), (PO.mk (some 2) (.mv (.k (.ptr none))) none), (PO.mk (some 3) (.mv (.t 23)) none)]) .ret) .skip))) (.seq (.ops [(PO.mk (some 24) (.mv (.t 4)) none), (PO.mk (some 25) POp.mkmap none), (PO.mk (some 26) (.fldA 5 (.t 1)) none), (PO.mk (some 27) (.load true 69 (.t 26)) none), (PO.mk none (.mset .int (.t 25) (.k (.int .i64 0)) (.t 27)) none), (PO.mk (some 28) (.mv (.t 25)) none), (PO.mk (some 29) POp.mkmap none), (PO.mk (some 30) (.build [(.ptr none), (.map none), (.map none), (.map none), (.int .i64 0)] [(0, (1, (.t 24))), (2, (1, (.t 28))), (3, (1, (.t 29)))]) none), (PO.mk (some 31) (.box (.t 30)) none), (PO.mk (some 7) (.mv (.t 31)) none)]) (.seq (.seq (.draw [(.e, (PO.mk (some 33) (.mv (.t 7)) none)), (.e, (PO.mk (some 34) (.nilck (.t 33)) none)), (.e, (PO.mk (some 35) (.fldA 1 (.t 34)) none)), (.e, (PO.mk (some 36) (.fldA 5 (.t 1)) none)), (.e, (PO.mk (some 38) (.fldA 3 (.t 1)) none)), (.s, (PO.mk (some 37) (.load true 69 (.t 36)) none)), (.s, (PO.mk (some 39) (.load false 1 (.t 38)) none)), (.x, (PO.mk (some 40) (.call (F 260) [(.t 35), (.t 37), (.k (.int .i64 0)), (.t 39)]) none)), (.e, (PO.mk (some 32) (.mv (.t 40)) none)), (.e, (PO.mk (some 41) (.ext 0 (.t 32)) none)), (.e, (PO.mk (some 42) (.ext 1 (.t 32)) none)), (.a, (PO.mk (some 8) (.alloc [(.sl .nil [] 0), (.sl .nil [] 0)]) none)), (.x, (PO.mk none (.store 2 (.t 8) (.t 41)) none)), (.e, (PO.mk (some 9) (.mv (.t 42)) none))]) (.seq (.ops [(PO.mk (some 43) (.mv (.t 9)) none), (PO.mk (some 44) (.bin .neq (.t 43) (.k (.int .i64 0))) none)]) (.cond (.t 44) (.seq (.ops [(PO.mk (some 45) (.mv (.t 9)) none), (PO.mk (some 2) (.mv (.k (.ptr none))) none), (PO.mk (some 3) (.mv (.t 45)) none)]) .ret) .skip))) (.seq (.ops [(PO.mk (some 46) (.mv (.t 7)) none), (PO.mk (some 2) (.mv (.t 46)) none), (PO.mk (some 3) (.mv (.k (.int .i64 0))) none)]) .ret)))))))
def k266 (F : Fn) : PF := PF.mk 7 1 [(.t 2)] (.seq (.ops [(PO.mk (some 2) (.mv (.k (.int .i64 0))) none)]) (.seq (.ops [(PO.mk (some 3) (.mv (.t 0)) none), (PO.mk (some 4) (.nilck (.t 3)) none), (PO.mk (some 5) (.fldA 4 (.t 4)) none), (PO.mk (some 6) (.load false 1 (.t 5)) none), (PO.mk (some 2) (.mv (.t 6)) none)]) .ret))
def k268 (F : Fn) : PF := PF.mk 17 2 [(.t 4)] (.seq (.ops [(PO.mk (some 4) (.mv (.k (.bool false))) none)]) (.seq (.ops [(PO.mk (some 8) (.mv (.t 0)) none), (PO.mk (some 9) (.nilck (.t 8)) none), (PO.mk (some 10) (.fldA 2 (.t 9)) none), (PO.mk (some 11) (.load false 1 (.t 10)) none), (PO.mk (some 12) (.mv (.t 1)) none), (PO.mk (some 13) (.lookup .int (.agg z69_adc1) true (.t 11) (.t 12)) none), (PO.mk (some 7) (.mv (.t 13)) none), (PO.mk (some 14) (.ext 0 (.t 7)) none), (PO.mk (some 15) (.ext 1 (.t 7)) none), (PO.mk (some 5) (.alloc z69_adc1) none), (PO.mk none (.store 69 (.t 5) (.t 14)) none), (PO.mk (some 6) (.mv (.t 15)) none)]) (.seq (.ops [(PO.mk (some 16) (.mv (.t 6)) none), (PO.mk (some 4) (.mv (.t 16)) none)]) .ret)))
structure OkChain (P : Program) (F : Fn) : Prop where
  mixed : P.follows .mixedOrders = true
  toOkCoins : OkCoins P F
  toOkLocate : OkLocate P F
  h265 : compFn P ⟨[], [], [], [], []⟩ (F 265) = some (k265 F)
  h266 : compFn P ⟨[], [], [], [], []⟩ (F 266) = some (k266 F)
  h268 : compFn P ⟨[], [], [], [], []⟩ (F 268) = some (k268 F)
end Go.Ab
set_option linter.unusedVariables false
namespace Go.Ab
open Go
def k279 (F : Fn) : PF := PF.mk 9 1 [(.t 2)] (.seq (.ops [(PO.mk (some 2) (.mv (.k (.int .i64 0))) none)]) (.seq (.ops [(PO.mk (some 3) (.mv (.t 0)) none), (PO.mk (some 4) (.nilck (.t 3)) none), (PO.mk (some 5) (.fldA 1 (.t 4)) none), (PO.mk (some 6) (.load false 1 (.t 5)) none), (PO.mk (some 7) (.bin .shl (.k (.int .i64 20)) (.t 6)) none), (PO.mk (some 8) (.min [(.k (.int .i64 160)), (.t 7)]) none), (PO.mk (some 2) (.mv (.t 8)) none)]) .ret))
def k280 (F : Fn) : PF := PF.mk 8 1 [(.t 2)] (.seq (.ops [(PO.mk (some 2) (.mv (.k (.int .i64 0))) none)]) (.seq (.ops [(PO.mk (some 3) (.mv (.t 0)) none), (PO.mk (some 4) (.nilck (.t 3)) none), (PO.mk (some 5) (.fldA 0 (.t 4)) none), (PO.mk (some 6) (.load false 1 (.t 5)) none), (PO.mk (some 7) (.lenMap (.t 6)) none), (PO.mk (some 2) (.mv (.t 7)) none)]) .ret))
def k281 (F : Fn) : PF := PF.mk 24 2 [(.t 4)] (.seq (.ops [(PO.mk (some 4) (.mv (.k (.int .i64 0))) none)]) (.seq (.ops [(PO.mk (some 5) (.mv (.k (.int .i64 0))) none)]) (.seq (.seq (.ops [(PO.mk (some 8) (.mv (.t 0)) none), (PO.mk (some 9) (.nilck (.t 8)) none), (PO.mk (some 10) (.fldA 0 (.t 9)) none), (PO.mk (some 11) (.load false 1 (.t 10)) none), (PO.mk (some 12) (.rngMap (.t 11)) none)]) (.block 0 (.loop (.seq (.ops [(PO.mk (some 13) (.nextMap (.t 12)) none), (PO.mk (some 14) (.ext 0 (.t 13)) none)]) (.seq (.cond (.t 14) .skip (.exit 0)) (.block 1 (.seq (.ops [(PO.mk (some 15) (.entry (.t 12)) none), (PO.mk (some 16) (.ext 1 (.t 15)) none), (PO.mk (some 7) (.alloc [(.int .i64 0), (.int .i64 0)]) none), (PO.mk none (.store 2 (.t 7) (.t 16)) none)]) (.seq (.ops [(PO.mk (some 17) (.fldA 0 (.t 7)) none), (PO.mk (some 18) (.load false 1 (.t 17)) none), (PO.mk (some 19) (.mv (.t 1)) none), (PO.mk (some 20) (.bin .eql (.t 18) (.t 19)) none)]) (.cond (.t 20) (.ops [(PO.mk (some 21) (.mv (.t 5)) none), (PO.mk (some 22) (.bin .add (.t 21) (.k (.int .i64 1))) none), (PO.mk (some 5) (.mv (.t 22)) none)]) .skip))))))))) (.seq (.seq (.frz [11]) (.ops [(PO.mk (some 23) (.mv (.t 5)) none), (PO.mk (some 4) (.mv (.t 23)) none)])) .ret))))
def k282 (F : Fn) : PF := PF.mk 20 2 [(.t 4), (.t 5)] (.seq (.ops [(PO.mk (some 4) (.mv (.k (.int .i64 0))) none), (PO.mk (some 5) (.mv (.k (.bool false))) none)]) (.seq (.ops [(PO.mk (some 9) (.mv (.t 0)) none), (PO.mk (some 10) (.nilck (.t 9)) none), (PO.mk (some 11) (.fldA 0 (.t 10)) none), (PO.mk (some 12) (.load false 1 (.t 11)) none), (PO.mk (some 13) (.mv (.t 1)) none), (PO.mk (some 14) (.lookup .int (.agg [(.int .i64 0), (.int .i64 0)]) true (.t 12) (.t 13)) none), (PO.mk (some 8) (.mv (.t 14)) none), (PO.mk (some 15) (.ext 0 (.t 8)) none), (PO.mk (some 16) (.ext 1 (.t 8)) none), (PO.mk (some 6) (.alloc [(.int .i64 0), (.int .i64 0)]) none), (PO.mk none (.store 2 (.t 6) (.t 15)) none), (PO.mk (some 7) (.mv (.t 16)) none)]) (.seq (.ops [(PO.mk (some 17) (.fldA 0 (.t 6)) none), (PO.mk (some 18) (.load false 1 (.t 17)) none), (PO.mk (some 19) (.mv (.t 7)) none), (PO.mk (some 4) (.mv (.t 18)) none), (PO.mk (some 5) (.mv (.t 19)) none)]) .ret)))
def k283 (F : Fn) : PF := PF.mk 42 4 [(.t 8)] (.seq (.ops [(PO.mk (some 8) (.mv (.k (.int .i64 0))) none)]) (.seq (.seq (.ops [(PO.mk (some 12) (.mv (.t 0)) none), (PO.mk (some 13) (.nilck (.t 12)) none), (PO.mk (some 14) (.fldA 0 (.t 13)) none), (PO.mk (some 15) (.load false 1 (.t 14)) none), (PO.mk (some 16) (.mv (.t 1)) none), (PO.mk (some 17) (.lookup .int (.agg [(.int .i64 0), (.int .i64 0)]) true (.t 15) (.t 16)) none), (PO.mk (some 11) (.mv (.t 17)) none), (PO.mk (some 18) (.ext 0 (.t 11)) none), (PO.mk (some 19) (.ext 1 (.t 11)) none), (PO.mk (some 9) (.alloc [(.int .i64 0), (.int .i64 0)]) none), (PO.mk none (.store 2 (.t 9) (.t 18)) none), (PO.mk (some 10) (.mv (.t 19)) none)]) (.seq (.ops [(PO.mk (some 20) (.mv (.t 10)) none)]) (.cond (.t 20) (.seq (.ops [(PO.mk (some 8) (.mv (.k (.int .i64 5))) none)]) .ret) .skip))) (.seq (.seq (.ops [(PO.mk (some 21) (.mv (.t 0)) none), (PO.mk (some 22) (.mv (.t 2)) none), (PO.mk (some 23) (.call (F 281) [(.t 21), (.t 22)]) none), (PO.mk (some 24) (.bin .geq (.t 23) (.k (.int .i64 16))) none)]) (.cond (.t 24) (.seq (.ops [(PO.mk (some 8) (.mv (.k (.int .i64 3))) none)]) .ret) .skip)) (.seq (.seq (.ops [(PO.mk (some 25) (.mv (.t 0)) none), (PO.mk (some 26) (.nilck (.t 25)) none), (PO.mk (some 27) (.fldA 0 (.t 26)) none), (PO.mk (some 28) (.load false 1 (.t 27)) none), (PO.mk (some 29) (.eqa .map false (.t 28) (.k (.map none))) none)]) (.cond (.t 29) (.ops [(PO.mk (some 30) (.mv (.t 0)) none), (PO.mk (some 31) POp.mkmap none), (PO.mk (some 32) (.nilck (.t 30)) none), (PO.mk (some 33) (.fldA 0 (.t 32)) none), (PO.mk none (.store 1 (.t 33) (.t 31)) none)]) .skip)) (.seq (.ops [(PO.mk (some 34) (.mv (.t 0)) none), (PO.mk (some 35) (.nilck (.t 34)) none), (PO.mk (some 36) (.fldA 0 (.t 35)) none), (PO.mk (some 37) (.load false 1 (.t 36)) none), (PO.mk (some 38) (.mv (.t 1)) none), (PO.mk (some 39) (.mv (.t 2)) none), (PO.mk (some 40) (.mv (.t 3)) none), (PO.mk (some 41) (.build [(.int .i64 0), (.int .i64 0)] [(0, (1, (.t 39))), (1, (1, (.t 40)))]) none), (PO.mk none (.mset .int (.t 37) (.t 38) (.t 41)) none)]) (.seq (.ops [(PO.mk (some 8) (.mv (.k (.int .i64 0))) none)]) .ret))))))
def k284 (F : Fn) : PF := PF.mk 30 2 [] (.seq (.ops [(PO.mk (some 7) (.mv (.t 0)) none), (PO.mk (some 8) (.nilck (.t 7)) none), (PO.mk (some 9) (.fldA 0 (.t 8)) none), (PO.mk (some 10) (.load false 1 (.t 9)) none), (PO.mk (some 11) (.mv (.t 1)) none), (PO.mk (some 12) (.lookup .int (.agg [(.int .i64 0), (.int .i64 0)]) true (.t 10) (.t 11)) none), (PO.mk (some 6) (.mv (.t 12)) none), (PO.mk (some 13) (.ext 0 (.t 6)) none), (PO.mk (some 14) (.ext 1 (.t 6)) none), (PO.mk (some 4) (.alloc [(.int .i64 0), (.int .i64 0)]) none), (PO.mk none (.store 2 (.t 4) (.t 13)) none), (PO.mk (some 5) (.mv (.t 14)) none)]) (.seq (.ops [(PO.mk (some 15) (.mv (.t 5)) none)]) (.cond (.t 15) (.seq (.ops [(PO.mk (some 16) (.mv (.t 0)) none), (PO.mk (some 17) (.nilck (.t 16)) none), (PO.mk (some 18) (.fldA 0 (.t 17)) none), (PO.mk (some 19) (.load false 1 (.t 18)) none), (PO.mk (some 20) (.mv (.t 1)) none), (PO.mk none (.mdel .int (.t 19) (.t 20)) none)]) (.ops [(PO.mk (some 21) (.mv (.t 0)) none), (PO.mk (some 22) (.mv (.t 0)) none), (PO.mk (some 23) (.nilck (.t 22)) none), (PO.mk (some 24) (.fldA 1 (.t 23)) none), (PO.mk (some 25) (.load false 1 (.t 24)) none), (PO.mk (some 26) (.bin .sub (.t 25) (.k (.int .i64 1))) none), (PO.mk (some 27) (.max [(.k (.int .i64 0)), (.t 26)]) none), (PO.mk (some 28) (.nilck (.t 21)) none), (PO.mk (some 29) (.fldA 1 (.t 28)) none), (PO.mk none (.store 1 (.t 29) (.t 27)) none)])) .skip)))
def k285 (F : Fn) : PF := PF.mk 34 2 [(.t 4)] (.seq (.ops [(PO.mk (some 4) (.mv (.k (.sl .nil [] 0))) none)]) (.seq (.ops [(PO.mk (some 5) (.mv (.k (.sl .nil [] 0))) none)]) (.seq (.seq (.ops [(PO.mk (some 8) (.mv (.t 0)) none), (PO.mk (some 9) (.nilck (.t 8)) none), (PO.mk (some 10) (.fldA 0 (.t 9)) none), (PO.mk (some 11) (.load false 1 (.t 10)) none), (PO.mk (some 12) (.rngMap (.t 11)) none)]) (.block 0 (.loop (.seq (.ops [(PO.mk (some 13) (.nextMap (.t 12)) none), (PO.mk (some 14) (.ext 0 (.t 13)) none)]) (.seq (.cond (.t 14) .skip (.exit 0)) (.block 1 (.seq (.ops [(PO.mk (some 15) (.entry (.t 12)) none), (PO.mk (some 16) (.ext 0 (.t 15)) none), (PO.mk (some 17) (.ext 1 (.t 15)) none), (PO.mk (some 7) (.alloc [(.int .i64 0), (.int .i64 0)]) none), (PO.mk (some 6) (.mv (.t 16)) none), (PO.mk none (.store 2 (.t 7) (.t 17)) none)]) (.seq (.ops [(PO.mk (some 18) (.fldA 0 (.t 7)) none), (PO.mk (some 19) (.load false 1 (.t 18)) none), (PO.mk (some 20) (.mv (.t 1)) none), (PO.mk (some 21) (.bin .eql (.t 19) (.t 20)) none)]) (.cond (.t 21) (.seq (.ops [(PO.mk (some 22) (.mv (.t 5)) none), (PO.mk (some 23) (.mv (.t 6)) none), (PO.mk (some 24) (.bsl false 1 1 [(.int .i64 0)] [(0, (1, (.t 23)))]) none), (PO.mk (some 25) (.app 1 8 (.t 22) (.t 24)) none), (PO.mk (some 5) (.mv (.t 25)) none)]) (.ops [(PO.mk (some 26) (.mv (.t 0)) none), (PO.mk (some 27) (.nilck (.t 26)) none), (PO.mk (some 28) (.fldA 0 (.t 27)) none), (PO.mk (some 29) (.load false 1 (.t 28)) none), (PO.mk (some 30) (.mv (.t 6)) none), (PO.mk none (.mdel .int (.t 29) (.t 30)) none)])) .skip))))))))) (.seq (.seq (.frz [11]) (.ops [(PO.mk (some 31) (.mv (.t 5)) none), (PO.mk (some 32) (.call (F 286) [(.t 31)]) none)])) (.seq (.ops [(PO.mk (some 33) (.mv (.t 5)) none), (PO.mk (some 4) (.mv (.t 33)) none)]) .ret)))))
def k287 (F : Fn) : PF := PF.mk 9 2 [] (.ops [(PO.mk (some 4) (.mv (.t 0)) none), (PO.mk (some 5) (.nilck (.t 4)) none), (PO.mk (some 6) (.fldA 0 (.t 5)) none), (PO.mk (some 7) (.load false 1 (.t 6)) none), (PO.mk (some 8) (.mv (.t 1)) none), (PO.mk none (.mdel .int (.t 7) (.t 8)) none)])
def k288 (F : Fn) : PF := PF.mk 50 2 [(.t 4), (.t 5)] (.seq (.ops [(PO.mk (some 4) (.mv (.k (.int .i64 0))) none), (PO.mk (some 5) (.mv (.k (.bool false))) none)]) (.seq (.ops [(PO.mk (some 6) (.mv (.k (.int .i64 0))) none), (PO.mk (some 7) (.mv (.k (.bool false))) none)]) (.seq (.seq (.ops [(PO.mk (some 10) (.mv (.t 0)) none), (PO.mk (some 11) (.nilck (.t 10)) none), (PO.mk (some 12) (.fldA 0 (.t 11)) none), (PO.mk (some 13) (.load false 1 (.t 12)) none), (PO.mk (some 14) (.rngMap (.t 13)) none)]) (.block 0 (.loop (.seq (.ops [(PO.mk (some 15) (.nextMap (.t 14)) none), (PO.mk (some 16) (.ext 0 (.t 15)) none)]) (.seq (.cond (.t 16) .skip (.exit 0)) (.block 1 (.seq (.ops [(PO.mk (some 17) (.entry (.t 14)) none), (PO.mk (some 18) (.ext 1 (.t 17)) none), (PO.mk (some 9) (.alloc [(.int .i64 0), (.int .i64 0)]) none), (PO.mk none (.store 2 (.t 9) (.t 18)) none)]) (.seq (.draw [(.e, (PO.mk (some 19) (.mv (.t 1)) none)), (.e, (PO.mk (some 20) (.fldA 1 (.t 9)) none)), (.e, (PO.mk (some 23) (.mv (.t 0)) none)), (.s, (PO.mk (some 21) (.load false 1 (.t 20)) none)), (.e, (PO.mk (some 22) (.bin .sub (.t 19) (.t 21)) none)), (.s, (PO.mk (some 24) (.call (F 279) [(.t 23)]) none)), (.e, (PO.mk (some 25) (.bin .geq (.t 22) (.t 24)) none)), (.e, (PO.mk (some 26) (.mv (.t 25)) none)), (.e, (PO.mk (some 27) (.mv (.t 7)) (some (26, true)))), (.e, (PO.mk (some 28) (.not (.t 27)) (some (26, true)))), (.e, (PO.mk (some 29) (.mv (.t 28)) (some (26, true)))), (.e, (PO.mk (some 30) (.fldA 0 (.t 9)) (some (29, false)))), (.e, (PO.mk (some 32) (.mv (.t 6)) (some (29, false)))), (.s, (PO.mk (some 31) (.load false 1 (.t 30)) (some (29, false)))), (.e, (PO.mk (some 33) (.bin .lss (.t 31) (.t 32)) (some (29, false)))), (.e, (PO.mk (some 34) (.pick (.t 29) (.k (.bool true)) (.t 33)) (some (26, true)))), (.e, (PO.mk (some 35) (.pick (.t 26) (.t 34) (.k (.bool false))) none))]) (.cond (.t 35) (.ops [(PO.mk (some 36) (.fldA 0 (.t 9)) none), (PO.mk (some 37) (.load false 1 (.t 36)) none), (PO.mk (some 6) (.mv (.t 37)) none), (PO.mk (some 7) (.mv (.k (.bool true))) none)]) .skip))))))))) (.seq (.seq (.seq (.frz [13]) (.ops [(PO.mk (some 38) (.mv (.t 7)) none)])) (.cond (.t 38) (.ops [(PO.mk (some 39) (.mv (.t 0)) none), (PO.mk (some 40) (.mv (.t 0)) none), (PO.mk (some 41) (.nilck (.t 40)) none), (PO.mk (some 42) (.fldA 1 (.t 41)) none), (PO.mk (some 43) (.load false 1 (.t 42)) none), (PO.mk (some 44) (.bin .add (.t 43) (.k (.int .i64 1))) none), (PO.mk (some 45) (.min [(.t 44), (.k (.int .i64 3))]) none), (PO.mk (some 46) (.nilck (.t 39)) none), (PO.mk (some 47) (.fldA 1 (.t 46)) none), (PO.mk none (.store 1 (.t 47) (.t 45)) none)]) .skip)) (.seq (.ops [(PO.mk (some 48) (.mv (.t 6)) none), (PO.mk (some 49) (.mv (.t 7)) none), (PO.mk (some 4) (.mv (.t 48)) none), (PO.mk (some 5) (.mv (.t 49)) none)]) .ret)))))
def k289 (F : Fn) : PF := PF.mk 110 4 [(.t 8)] (.seq (.ops [(PO.mk (some 8) (.mv (.k (.sl .nil [] 0))) none)]) (.seq (.seq (.ops [(PO.mk (some 17) (.mv (.t 3)) none), (PO.mk (some 18) (.bin .lss (.t 17) (.k (.int .i64 0))) none), (PO.mk (some 19) (.mv (.t 18)) none), (PO.mk (some 20) (.mv (.t 3)) (some (19, false))), (PO.mk (some 21) (.mv (.t 1)) (some (19, false))), (PO.mk (some 22) (.nilck (.t 21)) (some (19, false))), (PO.mk (some 23) (.fldA 0 (.t 22)) (some (19, false))), (PO.mk (some 24) (.load false 1 (.t 23)) (some (19, false))), (PO.mk (some 25) (.call (F 159) [(.t 24)]) (some (19, false))), (PO.mk (some 26) (.bin .geq (.t 20) (.t 25)) (some (19, false))), (PO.mk (some 27) (.pick (.t 19) (.k (.bool true)) (.t 26)) none), (PO.mk (some 28) (.mv (.t 27)) none), (PO.mk (some 29) (.mv (.t 1)) (some (28, false))), (PO.mk (some 30) (.nilck (.t 29)) (some (28, false))), (PO.mk (some 31) (.fldA 0 (.t 30)) (some (28, false))), (PO.mk (some 32) (.load false 1 (.t 31)) (some (28, false))), (PO.mk (some 33) (.mv (.t 3)) (some (28, false))), (PO.mk (some 34) (.call (F 161) [(.t 32), (.t 33)]) (some (28, false))), (PO.mk (some 35) (.fld false 107 1 (.t 34)) (some (28, false))), (PO.mk (some 36) (.pick (.t 28) (.k (.bool true)) (.t 35)) none)]) (.cond (.t 36) (.seq (.ops [(PO.mk (some 8) (.mv (.k (.sl .nil [] 0))) none)]) .ret) .skip)) (.seq (.draw [(.e, (PO.mk (some 37) (.mv (.t 1)) none)), (.e, (PO.mk (some 38) (.nilck (.t 37)) none)), (.e, (PO.mk (some 39) (.fldA 0 (.t 38)) none)), (.e, (PO.mk (some 41) (.mv (.t 1)) none)), (.s, (PO.mk (some 40) (.load false 1 (.t 39)) none)), (.s, (PO.mk (some 42) (.call (F 266) [(.t 41)]) none)), (.s, (PO.mk (some 43) (.call (F 161) [(.t 40), (.t 42)]) none)), (.e, (PO.mk (some 44) (.fld false 102 1 (.t 43)) none)), (.e, (PO.mk (some 45) (.bin .add (.t 44) (.k (.int .i64 1024))) none)), (.e, (PO.mk (some 9) (.mv (.t 45)) none))]) (.seq (.draw [(.e, (PO.mk (some 46) (.mv (.t 1)) none)), (.e, (PO.mk (some 47) (.nilck (.t 46)) none)), (.e, (PO.mk (some 48) (.fldA 0 (.t 47)) none)), (.e, (PO.mk (some 50) (.mv (.t 1)) none)), (.e, (PO.mk (some 52) (.mv (.t 3)) none)), (.s, (PO.mk (some 49) (.load false 1 (.t 48)) none)), (.s, (PO.mk (some 51) (.call (F 266) [(.t 50)]) none)), (.s, (PO.mk (some 53) (.call (F 228) [(.t 49), (.t 51), (.t 52)]) none)), (.e, (PO.mk (some 10) (.mv (.t 53)) none))]) (.seq (.ops [(PO.mk (some 54) (.mv (.t 0)) none), (PO.mk (some 55) (.mv (.t 2)) none), (PO.mk (some 56) (.call (F 281) [(.t 54), (.t 55)]) none), (PO.mk (some 57) (.bin .sub (.k (.int .i64 16)) (.t 56)) none), (PO.mk (some 11) (.mv (.t 57)) none)]) (.seq (.ops [(PO.mk (some 12) (.mv (.k (.sl .nil [] 0))) none)]) (.seq .skip (.seq (.seq (.ops [(PO.mk (some 58) (.mv (.t 1)) none), (PO.mk (some 59) (.nilck (.t 58)) none), (PO.mk (some 60) (.fldA 0 (.t 59)) none), (PO.mk (some 61) (.load false 1 (.t 60)) none), (PO.mk (some 62) (.mv (.t 10)) none), (PO.mk (some 63) (.mv (.t 3)) none), (PO.mk (some 64) (.call (F 229) [(.t 61), (.t 62), (.t 63)]) none), (PO.mk (some 65) (.lenSl (.t 64)) none), (PO.mk (some 66) (.mv (.k (.int .i64 0))) none)]) (.block 0 (.loop (.seq (.ops [(PO.mk (some 67) (.bin .lss (.t 66) (.t 65)) none)]) (.seq (.cond (.t 67) .skip (.exit 0)) (.seq (.block 1 (.seq (.ops [(PO.mk (some 68) (.idxSl 1 (.t 64) (.t 66)) none), (PO.mk (some 69) (.load false 1 (.t 68)) none), (PO.mk (some 14) (.mv (.t 69)) none)]) (.seq (.ops [(PO.mk (some 71) (.mv (.t 0)) none), (PO.mk (some 72) (.nilck (.t 71)) none), (PO.mk (some 73) (.fldA 0 (.t 72)) none), (PO.mk (some 74) (.load false 1 (.t 73)) none), (PO.mk (some 75) (.mv (.t 14)) none), (PO.mk (some 76) (.lookup .int (.agg [(.int .i64 0), (.int .i64 0)]) true (.t 74) (.t 75)) none), (PO.mk (some 70) (.mv (.t 76)) none), (PO.mk (some 77) (.ext 0 (.t 70)) none), (PO.mk (some 78) (.ext 1 (.t 70)) none), (PO.mk (some 15) (.alloc [(.int .i64 0), (.int .i64 0)]) none), (PO.mk none (.store 2 (.t 15) (.t 77)) none), (PO.mk (some 16) (.mv (.t 78)) none)]) (.block 2 (.seq (.ops [(PO.mk (some 80) (.mv (.t 12)) none), (PO.mk (some 81) (.lenSl (.t 80)) none), (PO.mk (some 82) (.mv (.t 11)) none), (PO.mk (some 83) (.bin .geq (.t 81) (.t 82)) none), (PO.mk (some 84) (.mv (.t 83)) none), (PO.mk (some 85) (.mv (.t 1)) (some (84, false))), (PO.mk (some 86) (.nilck (.t 85)) (some (84, false))), (PO.mk (some 87) (.fldA 0 (.t 86)) (some (84, false))), (PO.mk (some 88) (.load false 1 (.t 87)) (some (84, false))), (PO.mk (some 89) (.mv (.t 14)) (some (84, false))), (PO.mk (some 90) (.call (F 161) [(.t 88), (.t 89)]) (some (84, false))), (PO.mk (some 91) (.fld false 102 1 (.t 90)) (some (84, false))), (PO.mk (some 92) (.mv (.t 9)) (some (84, false))), (PO.mk (some 93) (.bin .gtr (.t 91) (.t 92)) (some (84, false))), (PO.mk (some 94) (.pick (.t 84) (.k (.bool true)) (.t 93)) none), (PO.mk (some 79) (.mv (.t 94)) none)]) (.cond (.t 79) (.exit 0) (.seq (.ops [(PO.mk (some 96) (.mv (.t 16)) none), (PO.mk (some 97) (.not (.t 96)) none), (PO.mk (some 98) (.mv (.t 97)) none), (PO.mk (some 99) (.mv (.t 1)) (some (98, true))), (PO.mk (some 100) (.mv (.t 14)) (some (98, true))), (PO.mk (some 101) (.call (F 268) [(.t 99), (.t 100)]) (some (98, true))), (PO.mk (some 102) (.not (.t 101)) (some (98, true))), (PO.mk (some 103) (.pick (.t 98) (.t 102) (.k (.bool false))) none), (PO.mk (some 95) (.mv (.t 103)) none)]) (.cond (.t 95) (.ops [(PO.mk (some 104) (.mv (.t 12)) none), (PO.mk (some 105) (.mv (.t 14)) none), (PO.mk (some 106) (.bsl false 1 1 [(.int .i64 0)] [(0, (1, (.t 105)))]) none), (PO.mk (some 107) (.app 1 8 (.t 104) (.t 106)) none), (PO.mk (some 12) (.mv (.t 107)) none)]) .skip)))))))) (.ops [(PO.mk (some 108) (.bin .add (.t 66) (.k (.int .i64 1))) none), (PO.mk (some 66) (.mv (.t 108)) none)]))))))) (.seq (.ops [(PO.mk (some 109) (.mv (.t 12)) none), (PO.mk (some 8) (.mv (.t 109)) none)]) .ret)))))))))
structure OkWindow (P : Program) (F : Fn) : Prop where
  mixed : P.follows .mixedOrders = true
  toOkChain : OkChain P F
  h279 : compFn P ⟨[], [], [], [], []⟩ (F 279) = some (k279 F)
  h280 : compFn P ⟨[], [], [], [], []⟩ (F 280) = some (k280 F)
  h281 : compFn P ⟨[], [], [(7, [11])], [], []⟩ (F 281) = some (k281 F)
  h282 : compFn P ⟨[], [], [], [], []⟩ (F 282) = some (k282 F)
  h283 : compFn P ⟨[], [], [], [], []⟩ (F 283) = some (k283 F)
  h284 : compFn P ⟨[], [], [], [], []⟩ (F 284) = some (k284 F)
  h285 : compFn P ⟨[], [], [(8, [11])], [], []⟩ (F 285) = some (k285 F)
  h287 : compFn P ⟨[], [], [], [], []⟩ (F 287) = some (k287 F)
  h288 : compFn P ⟨[], [], [(7, [13])], [], []⟩ (F 288) = some (k288 F)
  h289 : compFn P ⟨[], [], [], [], []⟩ (F 289) = some (k289 F)
end Go.Ab
set_option linter.unusedVariables false
namespace Go.Ab
open Go
def k290 (F : Fn) : PF := PF.mk 11 1 [(PR.cell 2 true 2)] (.seq (.ops [(PO.mk (some 2) (.alloc [(.sl .nil [] 0), (.sl .nil [] 0)]) none)]) (.seq (.ops [(PO.mk (some 3) (.call (F 197) []) none), (PO.mk (some 4) (.mv (.t 0)) none), (PO.mk (some 5) (.bsl false 1 1 [(w8 0)] [(0, (1, (.t 4)))]) none), (PO.mk (some 6) (.build z34_1838 [(0, (33, (.t 3))), (33, (1, (.t 5)))]) none), (PO.mk (some 7) (.bsl false 34 1 z34_1838 [(0, (34, (.t 6)))]) none), (PO.mk (some 8) (.build z33_0be4 [(0, (1, (.k (.int .i64 50))))]) none), (PO.mk (some 9) (.bsl false 33 1 z33_0be4 [(0, (33, (.t 8)))]) none), (PO.mk (some 10) (.build [(.sl .nil [] 0), (.sl .nil [] 0)] [(0, (1, (.t 7))), (1, (1, (.t 9)))]) none), (PO.mk none (.store 2 (.t 2) (.t 10)) none)]) .ret))
def k291 (F : Fn) : PF := PF.mk 113 1 [(.t 2), (.t 3)] (.seq (.ops [(PO.mk (some 2) (.mv (.k (.ptr none))) none), (PO.mk (some 3) (.mv (.k (.sl .nil [] 0))) none)]) (.seq (.ops [(PO.mk (some 13) (.build z68_39b1 [(66, (1, (.k (w32 545259519))))]) none), (PO.mk (some 14) (.call (F 290) [(.k (w8 0))]) none), (PO.mk (some 15) (.bsl false 2 1 [(.sl .nil [] 0), (.sl .nil [] 0)] [(0, (2, (.t 14)))]) none), (PO.mk (some 16) (.build z69_adc1 [(0, (68, (.t 13))), (68, (1, (.t 15)))]) none), (PO.mk (some 4) (.alloc z69_adc1) none), (PO.mk none (.store 69 (.t 4) (.t 16)) none)]) (.seq (.ops [(PO.mk (some 18) (.fldA 68 (.t 4)) none), (PO.mk (some 19) (.load false 1 (.t 18)) none), (PO.mk (some 20) (.call (F 192) [(.t 19)]) none), (PO.mk (some 17) (.mv (.t 20)) none), (PO.mk (some 21) (.ext 0 (.t 17)) none), (PO.mk (some 22) (.ext 1 (.t 17)) none), (PO.mk (some 23) (.fldA 0 (.t 4)) none), (PO.mk (some 24) (.fldA 33 (.t 23)) none), (PO.mk none (.store 32 (.t 24) (.t 21)) none)]) (.seq (.ops [(PO.mk (some 26) (.load true 69 (.t 4)) none), (PO.mk (some 27) (.build z74_2f53 [(0, (1, (.k (w32 545259519)))), (2, (1, (.k (.int .i64 10)))), (3, (1, (.k (.int .i64 50)))), (5, (69, (.t 26)))]) none), (PO.mk (some 28) (.call (F 265) [(.t 27)]) none), (PO.mk (some 25) (.mv (.t 28)) none), (PO.mk (some 29) (.ext 0 (.t 25)) none), (PO.mk (some 30) (.ext 1 (.t 25)) none), (PO.mk (some 5) (.mv (.t 29)) none), (PO.mk (some 6) (.mv (.t 30)) none)]) (.seq (.seq (.ops [(PO.mk (some 31) (.mv (.t 5)) none), (PO.mk (some 32) (.eqa .ptr false (.t 31) (.k (.ptr none))) none), (PO.mk (some 33) (.mv (.t 32)) none), (PO.mk (some 34) (.mv (.t 6)) (some (33, false))), (PO.mk (some 35) (.bin .neq (.t 34) (.k (.int .i64 0))) (some (33, false))), (PO.mk (some 36) (.pick (.t 33) (.k (.bool true)) (.t 35)) none)]) (.cond (.t 36) (.seq (.ops [(PO.mk (some 2) (.mv (.k (.ptr none))) none), (PO.mk (some 3) (.mv (.k (.sl .nil [] 0))) none)]) .ret) .skip)) (.seq (.ops [(PO.mk (some 37) (.load true 69 (.t 4)) none), (PO.mk (some 38) (.bsl false 69 1 z69_adc1 [(0, (69, (.t 37)))]) none), (PO.mk (some 7) (.mv (.t 38)) none)]) (.seq (.seq (.ops [(PO.mk (some 39) (.mv (.t 0)) none), (PO.mk (some 40) (.lenSl (.t 39)) none), (PO.mk (some 41) (.mv (.k (.int .i64 0))) none)]) (.block 0 (.loop (.seq (.ops [(PO.mk (some 42) (.bin .lss (.t 41) (.t 40)) none)]) (.seq (.cond (.t 42) .skip (.exit 0)) (.seq (.block 1 (.seq (.ops [(PO.mk (some 43) (.mv (.t 41)) none), (PO.mk (some 44) (.idxSl 1 (.t 39) (.t 41)) none), (PO.mk (some 45) (.load false 1 (.t 44)) none), (PO.mk (some 8) (.mv (.t 43)) none), (PO.mk (some 9) (.mv (.t 45)) none)]) (.seq (.ops [(PO.mk (some 46) (.mv (.t 9)) none), (PO.mk (some 47) (.mv (.t 5)) none), (PO.mk (some 48) (.nilck (.t 47)) none), (PO.mk (some 49) (.fldA 0 (.t 48)) none), (PO.mk (some 50) (.load false 1 (.t 49)) none), (PO.mk (some 51) (.call (F 159) [(.t 50)]) none), (PO.mk (some 52) (.bin .sub (.t 51) (.k (.int .i64 1))) none), (PO.mk (some 53) (.min [(.t 46), (.t 52)]) none), (PO.mk (some 54) (.max [(.k (.int .i64 0)), (.t 53)]) none), (PO.mk (some 9) (.mv (.t 54)) none)]) (.seq (.ops [(PO.mk (some 55) (.mv (.t 8)) none), (PO.mk (some 56) (.bin .add (.t 55) (.k (.int .i64 1))) none), (PO.mk (some 57) (.conv .u8 (.t 56)) none), (PO.mk (some 58) (.call (F 290) [(.t 57)]) none), (PO.mk (some 59) (.bsl false 2 1 [(.sl .nil [] 0), (.sl .nil [] 0)] [(0, (2, (.t 58)))]) none), (PO.mk (some 60) (.build z69_adc1 [(68, (1, (.t 59)))]) none), (PO.mk (some 10) (.alloc z69_adc1) none), (PO.mk none (.store 69 (.t 10) (.t 60)) none)]) (.seq (.draw [(.e, (PO.mk (some 61) (.mv (.t 5)) none)), (.e, (PO.mk (some 62) (.nilck (.t 61)) none)), (.e, (PO.mk (some 63) (.fldA 0 (.t 62)) none)), (.e, (PO.mk (some 65) (.mv (.t 9)) none)), (.e, (PO.mk (some 68) (.mv (.t 5)) none)), (.e, (PO.mk (some 69) (.nilck (.t 68)) none)), (.e, (PO.mk (some 70) (.fldA 0 (.t 69)) none)), (.e, (PO.mk (some 72) (.mv (.t 9)) none)), (.s, (PO.mk (some 64) (.load false 1 (.t 63)) none)), (.s, (PO.mk (some 66) (.call (F 161) [(.t 64), (.t 65)]) none)), (.e, (PO.mk (some 67) (.fld true 68 32 (.t 66)) none)), (.s, (PO.mk (some 71) (.load false 1 (.t 70)) none)), (.s, (PO.mk (some 73) (.call (F 161) [(.t 71), (.t 72)]) none)), (.e, (PO.mk (some 74) (.fld true 0 68 (.t 73)) none)), (.e, (PO.mk (some 75) (.fld false 65 1 (.t 74)) none)), (.e, (PO.mk (some 76) (.bin .add (.t 75) (.k (w32 1))) none)), (.e, (PO.mk (some 77) (.build z68_39b1 [(1, (32, (.t 67))), (65, (1, (.t 76))), (66, (1, (.k (w32 545259519))))]) none)), (.e, (PO.mk (some 78) (.fldA 0 (.t 10)) none)), (.x, (PO.mk none (.store 68 (.t 78) (.t 77)) none))]) (.seq (.ops [(PO.mk (some 80) (.fldA 68 (.t 10)) none), (PO.mk (some 81) (.load false 1 (.t 80)) none), (PO.mk (some 82) (.call (F 192) [(.t 81)]) none), (PO.mk (some 79) (.mv (.t 82)) none), (PO.mk (some 83) (.ext 0 (.t 79)) none), (PO.mk (some 84) (.ext 1 (.t 79)) none), (PO.mk (some 85) (.fldA 0 (.t 10)) none), (PO.mk (some 86) (.fldA 33 (.t 85)) none), (PO.mk none (.store 32 (.t 86) (.t 83)) none)]) (.seq (.ops [(PO.mk (some 88) (.fldA 0 (.t 10)) none), (PO.mk (some 89) (.load true 68 (.t 88)) none), (PO.mk (some 90) (.call (F 143) [(.t 89), (.k (w32 545259519)), (.k (.int .i64 1000))]) none), (PO.mk (some 87) (.mv (.t 90)) none), (PO.mk (some 91) (.ext 0 (.t 87)) none), (PO.mk (some 92) (.ext 1 (.t 87)) none), (PO.mk (some 93) (.fldA 0 (.t 10)) none), (PO.mk none (.store 68 (.t 93) (.t 91)) none)]) (.seq (.draw [(.e, (PO.mk (some 95) (.mv (.t 5)) none)), (.e, (PO.mk (some 96) (.nilck (.t 95)) none)), (.e, (PO.mk (some 97) (.fldA 0 (.t 96)) none)), (.e, (PO.mk (some 99) (.fldA 0 (.t 10)) none)), (.s, (PO.mk (some 98) (.load false 1 (.t 97)) none)), (.s, (PO.mk (some 100) (.load true 68 (.t 99)) none)), (.x, (PO.mk (some 101) (.call (F 169) [(.t 98), (.t 100), (.k (.int .i64 1099511627776))]) none)), (.e, (PO.mk (some 94) (.mv (.t 101)) none)), (.e, (PO.mk (some 102) (.ext 0 (.t 94)) none)), (.e, (PO.mk (some 103) (.ext 1 (.t 94)) none)), (.e, (PO.mk (some 11) (.mv (.t 102)) none)), (.e, (PO.mk (some 12) (.mv (.t 103)) none))]) (.seq (.ops [(PO.mk (some 104) (.mv (.t 12)) none), (PO.mk (some 105) (.bin .eql (.t 104) (.k (.int .i64 0))) none)]) (.cond (.t 105) (.ops [(PO.mk (some 106) (.mv (.t 7)) none), (PO.mk (some 107) (.load true 69 (.t 10)) none), (PO.mk (some 108) (.bsl false 69 1 z69_adc1 [(0, (69, (.t 107)))]) none), (PO.mk (some 109) (.app 69 104 (.t 106) (.t 108)) none), (PO.mk (some 7) (.mv (.t 109)) none)]) .skip)))))))))) (.ops [(PO.mk (some 110) (.bin .add (.t 41) (.k (.int .i64 1))) none), (PO.mk (some 41) (.mv (.t 110)) none)]))))))) (.seq (.ops [(PO.mk (some 111) (.mv (.t 5)) none), (PO.mk (some 112) (.mv (.t 7)) none), (PO.mk (some 2) (.mv (.t 111)) none), (PO.mk (some 3) (.mv (.t 112)) none)]) .ret))))))))
def k292 (F : Fn) : PF := PF.mk 93 0 [(.t 0)] (.seq (.ops [(PO.mk (some 0) (.mv (.k (.bool false))) none)]) (.seq (.ops [(PO.mk (some 12) (.bsl false 1 2 [(.int .i64 0)] [(0, (1, (.k (.int .i64 0)))), (1, (1, (.k (.int .i64 1))))]) none), (PO.mk (some 13) (.call (F 291) [(.t 12)]) none), (PO.mk (some 11) (.mv (.t 13)) none), (PO.mk (some 14) (.ext 0 (.t 11)) none), (PO.mk (some 15) (.ext 1 (.t 11)) none), (PO.mk (some 1) (.mv (.t 14)) none), (PO.mk (some 2) (.mv (.t 15)) none)]) (.seq (.seq (.ops [(PO.mk (some 16) (.mv (.t 1)) none), (PO.mk (some 17) (.eqa .ptr false (.t 16) (.k (.ptr none))) none), (PO.mk (some 18) (.mv (.t 17)) none), (PO.mk (some 19) (.mv (.t 1)) (some (18, false))), (PO.mk (some 20) (.nilck (.t 19)) (some (18, false))), (PO.mk (some 21) (.fldA 0 (.t 20)) (some (18, false))), (PO.mk (some 22) (.load false 1 (.t 21)) (some (18, false))), (PO.mk (some 23) (.call (F 159) [(.t 22)]) (some (18, false))), (PO.mk (some 24) (.bin .neq (.t 23) (.k (.int .i64 3))) (some (18, false))), (PO.mk (some 25) (.pick (.t 18) (.k (.bool true)) (.t 24)) none)]) (.cond (.t 25) (.seq (.ops [(PO.mk (some 0) (.mv (.k (.bool false))) none)]) .ret) .skip)) (.seq (.ops [(PO.mk (some 3) (.alloc [(.map none), (.int .i64 0)]) none)]) (.seq (.ops [(PO.mk (some 26) (.mv (.t 1)) none), (PO.mk (some 27) (.call (F 289) [(.t 3), (.t 26), (.k (.int .i64 1)), (.k (.int .i64 2))]) none), (PO.mk (some 4) (.mv (.t 27)) none)]) (.seq (.seq (.ops [(PO.mk (some 28) (.mv (.t 4)) none), (PO.mk (some 29) (.lenSl (.t 28)) none), (PO.mk (some 30) (.bin .neq (.t 29) (.k (.int .i64 2))) none), (PO.mk (some 31) (.mv (.t 30)) none), (PO.mk (some 32) (.mv (.t 4)) (some (31, false))), (PO.mk (some 33) (.idxSl 1 (.t 32) (.k (.int .i64 0))) (some (31, false))), (PO.mk (some 34) (.load false 1 (.t 33)) (some (31, false))), (PO.mk (some 35) (.bin .neq (.t 34) (.k (.int .i64 1))) (some (31, false))), (PO.mk (some 36) (.pick (.t 31) (.k (.bool true)) (.t 35)) none), (PO.mk (some 37) (.mv (.t 36)) none), (PO.mk (some 38) (.call (F 283) [(.t 3), (.k (.int .i64 1)), (.k (.int .i64 1)), (.k (.int .i64 5))]) (some (37, false))), (PO.mk (some 39) (.bin .neq (.t 38) (.k (.int .i64 0))) (some (37, false))), (PO.mk (some 40) (.pick (.t 37) (.k (.bool true)) (.t 39)) none), (PO.mk (some 41) (.mv (.t 40)) none), (PO.mk (some 42) (.call (F 283) [(.t 3), (.k (.int .i64 1)), (.k (.int .i64 2)), (.k (.int .i64 5))]) (some (41, false))), (PO.mk (some 43) (.bin .neq (.t 42) (.k (.int .i64 5))) (some (41, false))), (PO.mk (some 44) (.pick (.t 41) (.k (.bool true)) (.t 43)) none)]) (.cond (.t 44) (.seq (.ops [(PO.mk (some 0) (.mv (.k (.bool false))) none)]) .ret) .skip)) (.seq (.ops [(PO.mk (some 46) (.call (F 282) [(.t 3), (.k (.int .i64 1))]) none), (PO.mk (some 45) (.mv (.t 46)) none), (PO.mk (some 47) (.ext 0 (.t 45)) none), (PO.mk (some 48) (.ext 1 (.t 45)) none), (PO.mk (some 5) (.mv (.t 47)) none), (PO.mk (some 6) (.mv (.t 48)) none)]) (.seq (.ops [(PO.mk (some 50) (.call (F 288) [(.t 3), (.k (.int .i64 24))]) none), (PO.mk (some 49) (.mv (.t 50)) none), (PO.mk (some 51) (.ext 0 (.t 49)) none), (PO.mk (some 52) (.ext 1 (.t 49)) none), (PO.mk (some 7) (.mv (.t 51)) none), (PO.mk (some 8) (.mv (.t 52)) none)]) (.seq (.ops [(PO.mk (some 54) (.call (F 288) [(.t 3), (.k (.int .i64 25))]) none), (PO.mk (some 53) (.mv (.t 54)) none), (PO.mk (some 55) (.ext 0 (.t 53)) none), (PO.mk (some 56) (.ext 1 (.t 53)) none), (PO.mk (some 9) (.mv (.t 55)) none), (PO.mk (some 10) (.mv (.t 56)) none)]) (.seq (.ops [(PO.mk (some 57) (.mv (.t 6)) none), (PO.mk (some 58) (.mv (.t 57)) none), (PO.mk (some 59) (.mv (.t 5)) (some (58, true))), (PO.mk (some 60) (.bin .eql (.t 59) (.k (.int .i64 1))) (some (58, true))), (PO.mk (some 61) (.pick (.t 58) (.t 60) (.k (.bool false))) none), (PO.mk (some 62) (.mv (.t 61)) none), (PO.mk (some 63) (.mv (.t 8)) (some (62, true))), (PO.mk (some 64) (.not (.t 63)) (some (62, true))), (PO.mk (some 65) (.pick (.t 62) (.t 64) (.k (.bool false))) none), (PO.mk (some 66) (.mv (.t 65)) none), (PO.mk (some 67) (.mv (.t 10)) (some (66, true))), (PO.mk (some 68) (.pick (.t 66) (.t 67) (.k (.bool false))) none), (PO.mk (some 69) (.mv (.t 68)) none), (PO.mk (some 70) (.mv (.t 9)) (some (69, true))), (PO.mk (some 71) (.bin .eql (.t 70) (.k (.int .i64 1))) (some (69, true))), (PO.mk (some 72) (.pick (.t 69) (.t 71) (.k (.bool false))) none), (PO.mk (some 73) (.mv (.t 72)) none), (PO.mk (some 74) (.call (F 280) [(.t 3)]) (some (73, true))), (PO.mk (some 75) (.bin .eql (.t 74) (.k (.int .i64 1))) (some (73, true))), (PO.mk (some 76) (.pick (.t 73) (.t 75) (.k (.bool false))) none), (PO.mk (some 77) (.mv (.t 76)) none), (PO.mk (some 78) (.call (F 281) [(.t 3), (.k (.int .i64 1))]) (some (77, true))), (PO.mk (some 79) (.bin .eql (.t 78) (.k (.int .i64 1))) (some (77, true))), (PO.mk (some 80) (.pick (.t 77) (.t 79) (.k (.bool false))) none), (PO.mk (some 81) (.mv (.t 80)) none), (PO.mk (some 82) (.call (F 279) [(.t 3)]) (some (81, true))), (PO.mk (some 83) (.bin .eql (.t 82) (.k (.int .i64 40))) (some (81, true))), (PO.mk (some 84) (.pick (.t 81) (.t 83) (.k (.bool false))) none), (PO.mk (some 85) (.mv (.t 84)) none), (PO.mk (some 86) (.pick (.t 85) (.k (.bool true)) (.k (.bool false))) none), (PO.mk (some 87) (.mv (.t 86)) none), (PO.mk (some 88) (.pick (.t 87) (.k (.bool true)) (.k (.bool false))) none), (PO.mk (some 89) (.mv (.t 88)) none), (PO.mk (some 90) (.pick (.t 89) (.k (.bool true)) (.k (.bool false))) none), (PO.mk (some 91) (.mv (.t 90)) none), (PO.mk (some 92) (.pick (.t 91) (.k (.bool true)) (.k (.bool false))) none), (PO.mk (some 0) (.mv (.t 92)) none)]) .ret))))))))))
def k297 (F : Fn) : PF := PF.mk 280 1 [(.t 2)] (.seq (.ops [(PO.mk (some 2) (.mv (.k (.bool false))) none)]) (.seq (.seq (.ops [(PO.mk (some 35) (.call (F 292) []) none), (PO.mk (some 36) (.not (.t 35)) none)]) (.cond (.t 36) (.seq (.ops [(PO.mk (some 2) (.mv (.k (.bool false))) none)]) .ret) .skip)) (.seq (.seq (.ops [(PO.mk (some 37) (.mv (.t 0)) none), (PO.mk (some 38) (.lenSl (.t 37)) none), (PO.mk (some 39) (.bin .gtr (.t 38) (.k (.int .i64 100))) none)]) (.cond (.t 39) (.seq (.ops [(PO.mk (some 2) (.mv (.k (.bool true))) none)]) .ret) .skip)) (.seq (.ops [(PO.mk (some 3) (.alloc [(.map none), (.int .i64 0)]) none)]) (.seq (.ops [(PO.mk (some 4) (.mv (.k (.sl .nil [] 0))) none)]) (.seq (.ops [(PO.mk (some 5) (.alloc [(.int .i64 0)]) none), (PO.mk none (.store 1 (.t 5) (.k (.int .i64 0))) none)]) (.seq (.ops [(PO.mk (some 40) (.mkf (F 298) [(.t 5)]) none), (PO.mk (some 6) (.mv (.t 40)) none)]) (.seq (.seq (.ops [(PO.mk (some 41) (.mv (.t 0)) none), (PO.mk (some 42) (.lenSl (.t 41)) none), (PO.mk (some 43) (.mv (.k (.int .i64 0))) none)]) (.block 0 (.loop (.seq (.ops [(PO.mk (some 44) (.bin .lss (.t 43) (.t 42)) none)]) (.seq (.cond (.t 44) .skip (.exit 0)) (.seq (.block 1 (.seq (.ops [(PO.mk (some 45) (.idxSl 4 (.t 41) (.t 43)) none), (PO.mk (some 46) (.load true 4 (.t 45)) none), (PO.mk (some 8) (.alloc [(.int .i64 0), (.int .i64 0), (.int .i64 0), (.int .i64 0)]) none), (PO.mk none (.store 4 (.t 8) (.t 46)) none)]) (.seq (.seq (.ops [(PO.mk (some 47) (.fldA 3 (.t 8)) none), (PO.mk (some 48) (.load false 1 (.t 47)) none), (PO.mk (some 49) (.bin .lss (.t 48) (.k (.int .i64 (-1099511627776)))) none), (PO.mk (some 50) (.mv (.t 49)) none), (PO.mk (some 51) (.fldA 3 (.t 8)) (some (50, false))), (PO.mk (some 52) (.load false 1 (.t 51)) (some (50, false))), (PO.mk (some 53) (.bin .gtr (.t 52) (.k (.int .i64 1099511627776))) (some (50, false))), (PO.mk (some 54) (.pick (.t 50) (.k (.bool true)) (.t 53)) none)]) (.cond (.t 54) (.seq (.ops [(PO.mk (some 2) (.mv (.k (.bool true))) none)]) .ret) .skip)) (.seq (.ops [(PO.mk (some 9) (.mv (.k (.sl .nil [] 0))) none)]) (.seq (.seq (.ops [(PO.mk (some 55) (.fldA 0 (.t 8)) none), (PO.mk (some 56) (.load false 1 (.t 55)) none)]) (.block 2 (.seq (.ops [(PO.mk (some 59) (.bin .eql (.t 56) (.k (.int .i64 0))) none), (PO.mk (some 58) (.mv (.t 59)) none)]) (.cond (.t 58) (.seq (.ops [(PO.mk (some 10) (.mv (.k (.int .i64 0))) none), (PO.mk (some 11) (.mv (.k (.int .i64 0))) none)]) (.seq (.seq (.ops [(PO.mk (some 60) (.mv (.t 4)) none), (PO.mk (some 61) (.lenSl (.t 60)) none), (PO.mk (some 62) (.mv (.k (.int .i64 0))) none)]) (.block 3 (.loop (.seq (.ops [(PO.mk (some 63) (.bin .lss (.t 62) (.t 61)) none)]) (.seq (.cond (.t 63) .skip (.exit 3)) (.seq (.block 4 (.seq (.ops [(PO.mk (some 64) (.idxSl 3 (.t 60) (.t 62)) none), (PO.mk (some 65) (.load true 3 (.t 64)) none), (PO.mk (some 13) (.alloc [(.int .i64 0), (.int .i64 0), (.int .i64 0)]) none), (PO.mk none (.store 3 (.t 13) (.t 65)) none)]) (.seq (.ops [(PO.mk (some 66) (.fldA 1 (.t 13)) none), (PO.mk (some 67) (.load false 1 (.t 66)) none), (PO.mk (some 68) (.fldA 2 (.t 8)) none), (PO.mk (some 69) (.load false 1 (.t 68)) none), (PO.mk (some 70) (.bin .eql (.t 67) (.t 69)) none)]) (.cond (.t 70) (.ops [(PO.mk (some 71) (.mv (.t 11)) none), (PO.mk (some 72) (.bin .add (.t 71) (.k (.int .i64 1))) none), (PO.mk (some 11) (.mv (.t 72)) none)]) .skip)))) (.ops [(PO.mk (some 73) (.bin .add (.t 62) (.k (.int .i64 1))) none), (PO.mk (some 62) (.mv (.t 73)) none)]))))))) (.seq (.seq (.ops [(PO.mk (some 74) (.mv (.t 11)) none), (PO.mk (some 75) (.bin .geq (.t 74) (.k (.int .i64 16))) none)]) (.cond (.t 75) (.ops [(PO.mk (some 10) (.mv (.k (.int .i64 3))) none)]) .skip)) (.seq (.seq (.ops [(PO.mk (some 76) (.mv (.t 4)) none), (PO.mk (some 77) (.lenSl (.t 76)) none), (PO.mk (some 78) (.mv (.k (.int .i64 0))) none)]) (.block 5 (.loop (.seq (.ops [(PO.mk (some 79) (.bin .lss (.t 78) (.t 77)) none)]) (.seq (.cond (.t 79) .skip (.exit 5)) (.seq (.block 6 (.seq (.ops [(PO.mk (some 80) (.idxSl 3 (.t 76) (.t 78)) none), (PO.mk (some 81) (.load true 3 (.t 80)) none), (PO.mk (some 15) (.alloc [(.int .i64 0), (.int .i64 0), (.int .i64 0)]) none), (PO.mk none (.store 3 (.t 15) (.t 81)) none)]) (.seq (.ops [(PO.mk (some 82) (.fldA 0 (.t 15)) none), (PO.mk (some 83) (.load false 1 (.t 82)) none), (PO.mk (some 84) (.fldA 1 (.t 8)) none), (PO.mk (some 85) (.load false 1 (.t 84)) none), (PO.mk (some 86) (.bin .eql (.t 83) (.t 85)) none)]) (.cond (.t 86) (.ops [(PO.mk (some 10) (.mv (.k (.int .i64 5))) none)]) .skip)))) (.ops [(PO.mk (some 87) (.bin .add (.t 78) (.k (.int .i64 1))) none), (PO.mk (some 78) (.mv (.t 87)) none)]))))))) (.seq (.seq (.ops [(PO.mk (some 88) (.fldA 1 (.t 8)) none), (PO.mk (some 89) (.load false 1 (.t 88)) none), (PO.mk (some 90) (.fldA 2 (.t 8)) none), (PO.mk (some 91) (.load false 1 (.t 90)) none), (PO.mk (some 92) (.fldA 3 (.t 8)) none), (PO.mk (some 93) (.load false 1 (.t 92)) none), (PO.mk (some 94) (.call (F 283) [(.t 3), (.t 89), (.t 91), (.t 93)]) none), (PO.mk (some 95) (.mv (.t 10)) none), (PO.mk (some 96) (.bin .neq (.t 94) (.t 95)) none)]) (.cond (.t 96) (.seq (.ops [(PO.mk (some 2) (.mv (.k (.bool false))) none)]) .ret) .skip)) (.seq (.ops [(PO.mk (some 97) (.mv (.t 4)) none), (PO.mk (some 9) (.mv (.t 97)) none)]) (.seq (.ops [(PO.mk (some 98) (.mv (.t 10)) none), (PO.mk (some 99) (.bin .eql (.t 98) (.k (.int .i64 0))) none)]) (.cond (.t 99) (.ops [(PO.mk (some 100) (.mv (.t 9)) none), (PO.mk (some 101) (.fldA 1 (.t 8)) none), (PO.mk (some 102) (.load false 1 (.t 101)) none), (PO.mk (some 103) (.fldA 2 (.t 8)) none), (PO.mk (some 104) (.load false 1 (.t 103)) none), (PO.mk (some 105) (.fldA 3 (.t 8)) none), (PO.mk (some 106) (.load false 1 (.t 105)) none), (PO.mk (some 107) (.build [(.int .i64 0), (.int .i64 0), (.int .i64 0)] [(0, (1, (.t 102))), (1, (1, (.t 104))), (2, (1, (.t 106)))]) none), (PO.mk (some 108) (.bsl false 3 1 [(.int .i64 0), (.int .i64 0), (.int .i64 0)] [(0, (3, (.t 107)))]) none), (PO.mk (some 109) (.app 3 24 (.t 100) (.t 108)) none), (PO.mk (some 9) (.mv (.t 109)) none)]) .skip)))))))) (.seq (.seq (.ops [(PO.mk (some 111) (.bin .eql (.t 56) (.k (.int .i64 1))) none), (PO.mk (some 110) (.mv (.t 111)) none)]) (.cond (.t 110) .skip (.ops [(PO.mk (some 112) (.bin .eql (.t 56) (.k (.int .i64 3))) none), (PO.mk (some 110) (.mv (.t 112)) none)]))) (.cond (.t 110) (.seq (.seq (.ops [(PO.mk (some 113) (.mv (.t 4)) none), (PO.mk (some 114) (.lenSl (.t 113)) none), (PO.mk (some 115) (.mv (.k (.int .i64 0))) none)]) (.block 7 (.loop (.seq (.ops [(PO.mk (some 116) (.bin .lss (.t 115) (.t 114)) none)]) (.seq (.cond (.t 116) .skip (.exit 7)) (.seq (.block 8 (.seq (.ops [(PO.mk (some 117) (.idxSl 3 (.t 113) (.t 115)) none), (PO.mk (some 118) (.load true 3 (.t 117)) none), (PO.mk (some 17) (.alloc [(.int .i64 0), (.int .i64 0), (.int .i64 0)]) none), (PO.mk none (.store 3 (.t 17) (.t 118)) none)]) (.seq (.ops [(PO.mk (some 119) (.fldA 0 (.t 17)) none), (PO.mk (some 120) (.load false 1 (.t 119)) none), (PO.mk (some 121) (.fldA 1 (.t 8)) none), (PO.mk (some 122) (.load false 1 (.t 121)) none), (PO.mk (some 123) (.bin .neq (.t 120) (.t 122)) none)]) (.cond (.t 123) (.ops [(PO.mk (some 124) (.mv (.t 9)) none), (PO.mk (some 125) (.load true 3 (.t 17)) none), (PO.mk (some 126) (.bsl false 3 1 [(.int .i64 0), (.int .i64 0), (.int .i64 0)] [(0, (3, (.t 125)))]) none), (PO.mk (some 127) (.app 3 24 (.t 124) (.t 126)) none), (PO.mk (some 9) (.mv (.t 127)) none)]) (.seq (.ops [(PO.mk (some 128) (.fldA 0 (.t 8)) none), (PO.mk (some 129) (.load false 1 (.t 128)) none), (PO.mk (some 130) (.bin .eql (.t 129) (.k (.int .i64 1))) none)]) (.cond (.t 130) (.ops [(PO.mk (some 131) (.load false 1 (.t 5)) none), (PO.mk (some 132) (.bin .sub (.t 131) (.k (.int .i64 1))) none), (PO.mk (some 133) (.max [(.k (.int .i64 0)), (.t 132)]) none), (PO.mk none (.store 1 (.t 5) (.t 133)) none)]) .skip)))))) (.ops [(PO.mk (some 134) (.bin .add (.t 115) (.k (.int .i64 1))) none), (PO.mk (some 115) (.mv (.t 134)) none)]))))))) (.seq (.ops [(PO.mk (some 135) (.fldA 0 (.t 8)) none), (PO.mk (some 136) (.load false 1 (.t 135)) none), (PO.mk (some 137) (.bin .eql (.t 136) (.k (.int .i64 1))) none)]) (.cond (.t 137) (.ops [(PO.mk (some 138) (.fldA 1 (.t 8)) none), (PO.mk (some 139) (.load false 1 (.t 138)) none), (PO.mk (some 140) (.call (F 284) [(.t 3), (.t 139)]) none)]) (.ops [(PO.mk (some 141) (.fldA 1 (.t 8)) none), (PO.mk (some 142) (.load false 1 (.t 141)) none), (PO.mk (some 143) (.call (F 287) [(.t 3), (.t 142)]) none)])))) (.seq (.ops [(PO.mk (some 145) (.bin .eql (.t 56) (.k (.int .i64 2))) none), (PO.mk (some 144) (.mv (.t 145)) none)]) (.cond (.t 144) (.seq (.ops [(PO.mk (some 146) (.fldA 2 (.t 8)) none), (PO.mk (some 147) (.load false 1 (.t 146)) none), (PO.mk (some 148) (.call (F 285) [(.t 3), (.t 147)]) none), (PO.mk (some 18) (.mv (.t 148)) none)]) (.seq (.ops [(PO.mk (some 19) (.mv (.k (.int .i64 0))) none)]) (.seq (.seq (.ops [(PO.mk (some 149) (.mv (.t 4)) none), (PO.mk (some 150) (.lenSl (.t 149)) none), (PO.mk (some 151) (.mv (.k (.int .i64 0))) none)]) (.block 9 (.loop (.seq (.ops [(PO.mk (some 152) (.bin .lss (.t 151) (.t 150)) none)]) (.seq (.cond (.t 152) .skip (.exit 9)) (.seq (.block 10 (.seq (.ops [(PO.mk (some 153) (.idxSl 3 (.t 149) (.t 151)) none), (PO.mk (some 154) (.load true 3 (.t 153)) none), (PO.mk (some 21) (.alloc [(.int .i64 0), (.int .i64 0), (.int .i64 0)]) none), (PO.mk none (.store 3 (.t 21) (.t 154)) none)]) (.seq (.seq (.ops [(PO.mk (some 155) (.fldA 1 (.t 21)) none), (PO.mk (some 156) (.load false 1 (.t 155)) none), (PO.mk (some 157) (.fldA 2 (.t 8)) none), (PO.mk (some 158) (.load false 1 (.t 157)) none), (PO.mk (some 159) (.bin .neq (.t 156) (.t 158)) none)]) (.cond (.t 159) (.seq (.ops [(PO.mk (some 160) (.mv (.t 9)) none), (PO.mk (some 161) (.load true 3 (.t 21)) none), (PO.mk (some 162) (.bsl false 3 1 [(.int .i64 0), (.int .i64 0), (.int .i64 0)] [(0, (3, (.t 161)))]) none), (PO.mk (some 163) (.app 3 24 (.t 160) (.t 162)) none), (PO.mk (some 9) (.mv (.t 163)) none)]) (.exit 10)) .skip)) (.seq (.ops [(PO.mk (some 164) (.mv (.t 19)) none), (PO.mk (some 165) (.bin .add (.t 164) (.k (.int .i64 1))) none), (PO.mk (some 19) (.mv (.t 165)) none)]) (.seq (.ops [(PO.mk (some 22) (.mv (.k (.bool false))) none)]) (.seq (.seq (.ops [(PO.mk (some 166) (.mv (.t 18)) none), (PO.mk (some 167) (.lenSl (.t 166)) none), (PO.mk (some 168) (.mv (.k (.int .i64 0))) none)]) (.block 11 (.loop (.seq (.ops [(PO.mk (some 169) (.bin .lss (.t 168) (.t 167)) none)]) (.seq (.cond (.t 169) .skip (.exit 11)) (.seq (.block 12 (.seq (.ops [(PO.mk (some 170) (.mv (.t 168)) none), (PO.mk (some 171) (.idxSl 1 (.t 166) (.t 168)) none), (PO.mk (some 172) (.load false 1 (.t 171)) none), (PO.mk (some 23) (.mv (.t 170)) none), (PO.mk (some 24) (.mv (.t 172)) none)]) (.seq (.ops [(PO.mk (some 173) (.mv (.t 22)) none), (PO.mk (some 174) (.mv (.t 173)) none), (PO.mk (some 175) (.mv (.t 24)) (some (174, false))), (PO.mk (some 176) (.fldA 0 (.t 21)) (some (174, false))), (PO.mk (some 177) (.load false 1 (.t 176)) (some (174, false))), (PO.mk (some 178) (.bin .eql (.t 175) (.t 177)) (some (174, false))), (PO.mk (some 179) (.pick (.t 174) (.k (.bool true)) (.t 178)) none), (PO.mk (some 22) (.mv (.t 179)) none)]) (.seq (.ops [(PO.mk (some 180) (.mv (.t 23)) none), (PO.mk (some 181) (.bin .gtr (.t 180) (.k (.int .i64 0))) none), (PO.mk (some 182) (.mv (.t 181)) none), (PO.mk (some 183) (.mv (.t 18)) (some (182, true))), (PO.mk (some 184) (.mv (.t 23)) (some (182, true))), (PO.mk (some 185) (.bin .sub (.t 184) (.k (.int .i64 1))) (some (182, true))), (PO.mk (some 186) (.idxSl 1 (.t 183) (.t 185)) (some (182, true))), (PO.mk (some 187) (.load false 1 (.t 186)) (some (182, true))), (PO.mk (some 188) (.mv (.t 24)) (some (182, true))), (PO.mk (some 189) (.bin .geq (.t 187) (.t 188)) (some (182, true))), (PO.mk (some 190) (.pick (.t 182) (.t 189) (.k (.bool false))) none)]) (.cond (.t 190) (.seq (.ops [(PO.mk (some 2) (.mv (.k (.bool false))) none)]) .ret) .skip))))) (.ops [(PO.mk (some 191) (.bin .add (.t 168) (.k (.int .i64 1))) none), (PO.mk (some 168) (.mv (.t 191)) none)]))))))) (.seq (.ops [(PO.mk (some 192) (.mv (.t 22)) none), (PO.mk (some 193) (.not (.t 192)) none)]) (.cond (.t 193) (.seq (.ops [(PO.mk (some 2) (.mv (.k (.bool false))) none)]) .ret) .skip)))))))) (.ops [(PO.mk (some 194) (.bin .add (.t 151) (.k (.int .i64 1))) none), (PO.mk (some 151) (.mv (.t 194)) none)]))))))) (.seq (.ops [(PO.mk (some 195) (.mv (.t 19)) none), (PO.mk (some 196) (.mv (.t 18)) none), (PO.mk (some 197) (.lenSl (.t 196)) none), (PO.mk (some 198) (.bin .neq (.t 195) (.t 197)) none)]) (.cond (.t 198) (.seq (.ops [(PO.mk (some 2) (.mv (.k (.bool false))) none)]) .ret) .skip))))) (.seq (.ops [(PO.mk (some 200) (.bin .eql (.t 56) (.k (.int .i64 4))) none), (PO.mk (some 199) (.mv (.t 200)) none)]) (.cond (.t 199) (.seq (.ops [(PO.mk (some 25) (.mv (.k (.int .i64 0))) none), (PO.mk (some 26) (.mv (.k (.bool false))) none)]) (.seq (.seq (.ops [(PO.mk (some 201) (.mv (.t 4)) none), (PO.mk (some 202) (.lenSl (.t 201)) none), (PO.mk (some 203) (.mv (.k (.int .i64 0))) none)]) (.block 13 (.loop (.seq (.ops [(PO.mk (some 204) (.bin .lss (.t 203) (.t 202)) none)]) (.seq (.cond (.t 204) .skip (.exit 13)) (.seq (.block 14 (.seq (.ops [(PO.mk (some 205) (.idxSl 3 (.t 201) (.t 203)) none), (PO.mk (some 206) (.load true 3 (.t 205)) none), (PO.mk (some 28) (.alloc [(.int .i64 0), (.int .i64 0), (.int .i64 0)]) none), (PO.mk none (.store 3 (.t 28) (.t 206)) none)]) (.seq (.draw [(.e, (PO.mk (some 207) (.fldA 3 (.t 8)) none)), (.e, (PO.mk (some 209) (.fldA 2 (.t 28)) none)), (.e, (PO.mk (some 212) (.mv (.t 6)) none)), (.s, (PO.mk (some 208) (.load false 1 (.t 207)) none)), (.s, (PO.mk (some 210) (.load false 1 (.t 209)) none)), (.e, (PO.mk (some 211) (.bin .sub (.t 208) (.t 210)) none)), (.s, (PO.mk (some 213) (.callv (.t 212) []) none)), (.e, (PO.mk (some 214) (.bin .geq (.t 211) (.t 213)) none)), (.e, (PO.mk (some 215) (.mv (.t 214)) none)), (.e, (PO.mk (some 216) (.mv (.t 26)) (some (215, true)))), (.e, (PO.mk (some 217) (.not (.t 216)) (some (215, true)))), (.e, (PO.mk (some 218) (.mv (.t 217)) (some (215, true)))), (.e, (PO.mk (some 219) (.fldA 1 (.t 28)) (some (218, false)))), (.e, (PO.mk (some 221) (.mv (.t 25)) (some (218, false)))), (.s, (PO.mk (some 220) (.load false 1 (.t 219)) (some (218, false)))), (.e, (PO.mk (some 222) (.bin .lss (.t 220) (.t 221)) (some (218, false)))), (.e, (PO.mk (some 223) (.pick (.t 218) (.k (.bool true)) (.t 222)) (some (215, true)))), (.e, (PO.mk (some 224) (.pick (.t 215) (.t 223) (.k (.bool false))) none))]) (.cond (.t 224) (.ops [(PO.mk (some 225) (.fldA 1 (.t 28)) none), (PO.mk (some 226) (.load false 1 (.t 225)) none), (PO.mk (some 25) (.mv (.t 226)) none), (PO.mk (some 26) (.mv (.k (.bool true))) none)]) .skip)))) (.ops [(PO.mk (some 227) (.bin .add (.t 203) (.k (.int .i64 1))) none), (PO.mk (some 203) (.mv (.t 227)) none)]))))))) (.seq (.ops [(PO.mk (some 229) (.fldA 3 (.t 8)) none), (PO.mk (some 230) (.load false 1 (.t 229)) none), (PO.mk (some 231) (.call (F 288) [(.t 3), (.t 230)]) none), (PO.mk (some 228) (.mv (.t 231)) none), (PO.mk (some 232) (.ext 0 (.t 228)) none), (PO.mk (some 233) (.ext 1 (.t 228)) none), (PO.mk (some 29) (.mv (.t 232)) none), (PO.mk (some 30) (.mv (.t 233)) none)]) (.seq (.seq (.ops [(PO.mk (some 234) (.mv (.t 30)) none), (PO.mk (some 235) (.mv (.t 26)) none), (PO.mk (some 236) (.eqa .bool true (.t 234) (.t 235)) none), (PO.mk (some 237) (.mv (.t 236)) none), (PO.mk (some 238) (.mv (.t 29)) (some (237, false))), (PO.mk (some 239) (.mv (.t 25)) (some (237, false))), (PO.mk (some 240) (.bin .neq (.t 238) (.t 239)) (some (237, false))), (PO.mk (some 241) (.pick (.t 237) (.k (.bool true)) (.t 240)) none)]) (.cond (.t 241) (.seq (.ops [(PO.mk (some 2) (.mv (.k (.bool false))) none)]) .ret) .skip)) (.seq (.seq (.ops [(PO.mk (some 242) (.mv (.t 26)) none)]) (.cond (.t 242) (.ops [(PO.mk (some 243) (.load false 1 (.t 5)) none), (PO.mk (some 244) (.bin .add (.t 243) (.k (.int .i64 1))) none), (PO.mk (some 245) (.min [(.k (.int .i64 3)), (.t 244)]) none), (PO.mk none (.store 1 (.t 5) (.t 245)) none)]) .skip)) (.ops [(PO.mk (some 246) (.mv (.t 4)) none), (PO.mk (some 9) (.mv (.t 246)) none)])))))) (.ops [(PO.mk (some 57) (.mv (.t 4)) none), (PO.mk (some 9) (.mv (.t 57)) none)]))))))))))) (.seq (.ops [(PO.mk (some 247) (.mv (.t 9)) none), (PO.mk (some 4) (.mv (.t 247)) none)]) (.seq (.seq (.ops [(PO.mk (some 248) (.call (F 280) [(.t 3)]) none), (PO.mk (some 249) (.mv (.t 4)) none), (PO.mk (some 250) (.lenSl (.t 249)) none), (PO.mk (some 251) (.bin .neq (.t 248) (.t 250)) none), (PO.mk (some 252) (.mv (.t 251)) none), (PO.mk (some 253) (.call (F 279) [(.t 3)]) (some (252, false))), (PO.mk (some 254) (.mv (.t 6)) (some (252, false))), (PO.mk (some 255) (.callv (.t 254) []) (some (252, false))), (PO.mk (some 256) (.bin .neq (.t 253) (.t 255)) (some (252, false))), (PO.mk (some 257) (.pick (.t 252) (.k (.bool true)) (.t 256)) none)]) (.cond (.t 257) (.seq (.ops [(PO.mk (some 2) (.mv (.k (.bool false))) none)]) .ret) .skip)) (.seq (.ops [(PO.mk (some 258) (.mv (.t 4)) none), (PO.mk (some 259) (.lenSl (.t 258)) none), (PO.mk (some 260) (.mv (.k (.int .i64 0))) none)]) (.block 15 (.loop (.seq (.ops [(PO.mk (some 261) (.bin .lss (.t 260) (.t 259)) none)]) (.seq (.cond (.t 261) .skip (.exit 15)) (.seq (.block 16 (.seq (.ops [(PO.mk (some 262) (.idxSl 3 (.t 258) (.t 260)) none), (PO.mk (some 263) (.load true 3 (.t 262)) none), (PO.mk (some 32) (.alloc [(.int .i64 0), (.int .i64 0), (.int .i64 0)]) none), (PO.mk none (.store 3 (.t 32) (.t 263)) none)]) (.seq (.ops [(PO.mk (some 265) (.fldA 0 (.t 32)) none), (PO.mk (some 266) (.load false 1 (.t 265)) none), (PO.mk (some 267) (.call (F 282) [(.t 3), (.t 266)]) none), (PO.mk (some 264) (.mv (.t 267)) none), (PO.mk (some 268) (.ext 0 (.t 264)) none), (PO.mk (some 269) (.ext 1 (.t 264)) none), (PO.mk (some 33) (.mv (.t 268)) none), (PO.mk (some 34) (.mv (.t 269)) none)]) (.seq (.ops [(PO.mk (some 270) (.mv (.t 34)) none), (PO.mk (some 271) (.not (.t 270)) none), (PO.mk (some 272) (.mv (.t 271)) none), (PO.mk (some 273) (.mv (.t 33)) (some (272, false))), (PO.mk (some 274) (.fldA 1 (.t 32)) (some (272, false))), (PO.mk (some 275) (.load false 1 (.t 274)) (some (272, false))), (PO.mk (some 276) (.bin .neq (.t 273) (.t 275)) (some (272, false))), (PO.mk (some 277) (.pick (.t 272) (.k (.bool true)) (.t 276)) none)]) (.cond (.t 277) (.seq (.ops [(PO.mk (some 2) (.mv (.k (.bool false))) none)]) .ret) .skip))))) (.ops [(PO.mk (some 278) (.bin .add (.t 260) (.k (.int .i64 1))) none), (PO.mk (some 260) (.mv (.t 278)) none)])))))))))))))) (.ops [(PO.mk (some 279) (.bin .add (.t 43) (.k (.int .i64 1))) none), (PO.mk (some 43) (.mv (.t 279)) none)]))))))) (.seq (.ops [(PO.mk (some 2) (.mv (.k (.bool true))) none)]) .ret)))))))))
structure OkLaw18 (P : Program) (F : Fn) : Prop where
  mixed : P.follows .mixedOrders = true
  toOkWindow : OkWindow P F
  h290 : compFn P ⟨[], [], [], [], []⟩ (F 290) = some (k290 F)
  h291 : compFn P ⟨[], [], [], [], []⟩ (F 291) = some (k291 F)
  h292 : compFn P ⟨[], [], [], [], []⟩ (F 292) = some (k292 F)
  h297 : compFn P ⟨[], [], [], [], []⟩ (F 297) = some (k297 F)
end Go.Ab
set_option linter.unusedVariables false
namespace Go.Ab
open Go
end Go.Ab
set_option linter.unusedSimpArgs false
set_option linter.unusedVariables false
namespace Go.Ab
open Go Go.RowKit
abbrev W := BitVec 64
abbrev U := BitVec 256
def u4 (a b c d : W) : U := BitVec.ofNat 256 (a.toNat + b.toNat * 18446744073709551616 + c.toNat * 340282366920938463463374607431768211456 + d.toNat * 6277101735386680763835789423207666416102355444464034512896)
theorem u4_nat (a b c d : W) : (u4 a b c d).toNat = a.toNat + b.toNat * 18446744073709551616 + c.toNat * 340282366920938463463374607431768211456 + d.toNat * 6277101735386680763835789423207666416102355444464034512896 := by
  have := a.isLt; have := b.isLt; have := c.isLt; have := d.isLt
  rw [u4, BitVec.toNat_ofNat]
  exact Nat.mod_eq_of_lt (by omega)
def limb (x : U) (i : Nat) : W := BitVec.ofNat 64 (x.toNat / 18446744073709551616 ^ i)
theorem limb_nat (x : U) (i : Nat) : (limb x i).toNat = x.toNat / 18446744073709551616 ^ i % 18446744073709551616 := by
  rw [limb, BitVec.toNat_ofNat]
theorem u4_limb (x : U) : u4 (limb x 0) (limb x 1) (limb x 2) (limb x 3) = x := by
  apply BitVec.eq_of_toNat_eq
  have := x.isLt
  rw [u4_nat, limb_nat, limb_nat, limb_nat, limb_nat]
  omega
theorem exists_u4 (x : U) : ∃ a b c d, x = u4 a b c d := ⟨_, _, _, _, (u4_limb x).symm⟩
theorem limb0 (a b c d : W) : limb (u4 a b c d) 0 = a := by
  apply BitVec.eq_of_toNat_eq
  have := a.isLt; have := b.isLt; have := c.isLt; have := d.isLt
  rw [limb_nat, u4_nat]; omega
theorem limb1 (a b c d : W) : limb (u4 a b c d) 1 = b := by
  apply BitVec.eq_of_toNat_eq
  have := a.isLt; have := b.isLt; have := c.isLt; have := d.isLt
  rw [limb_nat, u4_nat]; omega
theorem limb2 (a b c d : W) : limb (u4 a b c d) 2 = c := by
  apply BitVec.eq_of_toNat_eq
  have := a.isLt; have := b.isLt; have := c.isLt; have := d.isLt
  rw [limb_nat, u4_nat]; omega
theorem limb3 (a b c d : W) : limb (u4 a b c d) 3 = d := by
  apply BitVec.eq_of_toNat_eq
  have := a.isLt; have := b.isLt; have := c.isLt; have := d.isLt
  rw [limb_nat, u4_nat]; omega
theorem u4_inj {a b c d a' b' c' d' : W} (h : u4 a b c d = u4 a' b' c' d') : a = a' ∧ b = b' ∧ c = c' ∧ d = d' := by
  refine ⟨?_, ?_, ?_, ?_⟩
  · have := congrArg (limb · 0) h; simpa [limb0] using this
  · have := congrArg (limb · 1) h; simpa [limb1] using this
  · have := congrArg (limb · 2) h; simpa [limb2] using this
  · have := congrArg (limb · 3) h; simpa [limb3] using this
def eU (x : U) : List V := [w64 (limb x 0), w64 (limb x 1), w64 (limb x 2), w64 (limb x 3)]
theorem eU_len (x : U) : (eU x).length = 4 := rfl
theorem eU_u4 (a b c d : W) : eU (u4 a b c d) = [w64 a, w64 b, w64 c, w64 d] := by simp [eU, limb0, limb1, limb2, limb3]
def nU (x : U) : V := .agg (eU x)
def natU (n : Nat) : U := BitVec.ofNat 256 n
theorem natU_nat {n : Nat} (h : n < 2 ^ 256) : (natU n).toNat = n := by
  rw [natU, BitVec.toNat_ofNat]; exact Nat.mod_eq_of_lt h
def b64 (b : Bool) : W := if b then 1#64 else 0#64
theorem b64_nat (b : Bool) : (b64 b).toNat = if b then 1 else 0 := by cases b <;> rfl
def sum64 (x y : W) (c : Bool) : W := x + y + b64 c
def car64 (x y : W) (c : Bool) : Bool := decide (18446744073709551616 ≤ x.toNat + y.toNat + (if c then 1 else 0))
theorem sum64_nat (x y : W) (c : Bool) : (sum64 x y c).toNat = (x.toNat + y.toNat + (if c then 1 else 0)) % 18446744073709551616 := by
  rw [sum64, BitVec.toNat_add, BitVec.toNat_add, b64_nat]
  show ((x.toNat + y.toNat) % 18446744073709551616 + _) % 18446744073709551616 = _
  omega
def dif64 (x y : W) (c : Bool) : W := x - y - b64 c
def bor64 (x y : W) (c : Bool) : Bool := decide (x.toNat < y.toNat + (if c then 1 else 0))
theorem dif64_nat (x y : W) (c : Bool) : (dif64 x y c).toNat = (36893488147419103232 + x.toNat - y.toNat - (if c then 1 else 0)) % 18446744073709551616 := by
  have h1 := x.isLt
  have h2 := y.isLt
  rw [dif64, BitVec.toNat_sub, BitVec.toNat_sub, b64_nat]
  show (18446744073709551616 - _ + (18446744073709551616 - y.toNat + x.toNat) % 18446744073709551616) % 18446744073709551616 = _
  cases c <;> simp <;> omega
def mulhi (x y : W) : W := BitVec.ofNat 64 (x.toNat * y.toNat / 18446744073709551616)
theorem mul64_hi (x y : W) : (x >>> 32) * (y >>> 32) + (((x >>> 32) * (y &&& 4294967295#64) + ((x &&& 4294967295#64) * (y &&& 4294967295#64)) >>> 32) >>> 32) + ((((x >>> 32) * (y &&& 4294967295#64) + ((x &&& 4294967295#64) * (y &&& 4294967295#64)) >>> 32) &&& 4294967295#64) + (x &&& 4294967295#64) * (y >>> 32)) >>> 32 = mulhi x y := by
  have hand : ∀ z : W, (z &&& 4294967295#64).toNat = z.toNat % 4294967296 := fun z => by
    rw [BitVec.toNat_and]
    exact Nat.and_two_pow_sub_one_eq_mod z.toNat 32
  have hshr : ∀ z : W, (z >>> 32).toNat = z.toNat / 4294967296 := fun z => by
    rw [BitVec.toNat_ushiftRight, Nat.shiftRight_eq_div_pow]
  have h1 := x.isLt
  have h2 := y.isLt
  apply BitVec.eq_of_toNat_eq
  simp only [BitVec.toNat_add, BitVec.toNat_mul, hand, hshr, mulhi, BitVec.toNat_ofNat]
  obtain ⟨x0, hx0⟩ : ∃ a, a = x.toNat % 4294967296 := ⟨_, rfl⟩
  obtain ⟨x1, hx1⟩ : ∃ a, a = x.toNat / 4294967296 := ⟨_, rfl⟩
  obtain ⟨y0, hy0⟩ : ∃ a, a = y.toNat % 4294967296 := ⟨_, rfl⟩
  obtain ⟨y1, hy1⟩ : ∃ a, a = y.toNat / 4294967296 := ⟨_, rfl⟩
  have ex : x.toNat = x1 * 4294967296 + x0 := by omega
  have ey : y.toNat = y1 * 4294967296 + y0 := by omega
  rw [← hx0, ← hx1, ← hy0, ← hy1, ex, ey]
  have bx0 : x0 ≤ 4294967295 := by omega
  have bx1 : x1 ≤ 4294967295 := by omega
  have by0 : y0 ≤ 4294967295 := by omega
  have by1 : y1 ≤ 4294967295 := by omega
  have p00 := Nat.mul_le_mul bx0 by0
  have p01 := Nat.mul_le_mul bx0 by1
  have p10 := Nat.mul_le_mul bx1 by0
  have p11 := Nat.mul_le_mul bx1 by1
  have e : (x1 * 4294967296 + x0) * (y1 * 4294967296 + y0) = x1 * y1 * 18446744073709551616 + x1 * y0 * 4294967296 + x0 * y1 * 4294967296 + x0 * y0 := by
    rw [Nat.add_mul, Nat.mul_add, Nat.mul_add]
    have a1 : x1 * 4294967296 * (y1 * 4294967296) = x1 * y1 * 18446744073709551616 := by
      rw [Nat.mul_mul_mul_comm]
    have a2 : x1 * 4294967296 * y0 = x1 * y0 * 4294967296 := by rw [Nat.mul_right_comm]
    have a3 : x0 * (y1 * 4294967296) = x0 * y1 * 4294967296 := by rw [Nat.mul_assoc]
    omega
  rw [e]
  generalize x0 * y0 = q00 at *
  generalize x0 * y1 = q01 at *
  generalize x1 * y0 = q10 at *
  generalize x1 * y1 = q11 at *
  show ((q11 % 18446744073709551616 + ((q10 % 18446744073709551616 + q00 % 18446744073709551616 / 4294967296) % 18446744073709551616 / 4294967296)) % 18446744073709551616 + ((q10 % 18446744073709551616 + q00 % 18446744073709551616 / 4294967296) % 18446744073709551616 % 4294967296 + q01 % 18446744073709551616) % 18446744073709551616 / 4294967296) % 18446744073709551616 = (q11 * 18446744073709551616 + q10 * 4294967296 + q01 * 4294967296 + q00) / 18446744073709551616 % 18446744073709551616
  omega
end Go.Ab
set_option linter.unusedSimpArgs false
set_option linter.unusedVariables false
namespace Go.Ab
open Go Go.RowKit
def eB (b : Bool) : List V := [.bool b]
def bitlen (n : Nat) : Nat := if n = 0 then 0 else n.log2 + 1
theorem bitlen_le {n k : Nat} : bitlen n ≤ k ↔ n < 2 ^ k := by
  unfold bitlen
  split
  · rename_i h; subst h
    simp [Nat.two_pow_pos]
  · rename_i h
    rw [← Nat.log2_lt h]
    omega
theorem bitlen_lt {n k : Nat} : k < bitlen n ↔ 2 ^ k ≤ n := by
  have := @bitlen_le n k
  omega
theorem bitlen_pos {n : Nat} : 0 < bitlen n ↔ 0 < n := by
  rw [bitlen_lt]; simp; omega
end Go.Ab
set_option linter.unusedSimpArgs false
set_option linter.unusedVariables false
namespace Go.Ab
open Go Go.RowKit
section
variable {P : Program} {c : PC} {Q : Ex → Env → St → Prop}
def unrK (K : Env → St → Prop) (Q : Ex → Env → St → Prop) : Ex → Env → St → Prop := fun e env st => match e with | .normal => K env st | e => Q e env st
@[simp] theorem unrK_n (K : Env → St → Prop) (env : Env) (st : St) : unrK K Q .normal env st = K env st := _root_.id rfl
@[simp] theorem unrK_e (K : Env → St → Prop) (i : Nat) (env : Env) (st : St) : unrK K Q (.exit i) env st = Q (.exit i) env st := _root_.id rfl
@[simp] theorem unrK_r (K : Env → St → Prop) (env : Env) (st : St) : unrK K Q .ret env st = Q .ret env st := _root_.id rfl
def unr (P : Program) (c : PC) (Q : Ex → Env → St → Prop) : Nat → Env → St → Prop
  | 0, _, _ => False
  | n + 1, env, st => vc P c (unrK (unr P c Q n) Q) env st
theorem unr_succ (n : Nat) (env : Env) (st : St) : unr P c Q (n + 1) env st = vc P c (unrK (unr P c Q n) Q) env st := _root_.id rfl
theorem vc_unroll {env : Env} {st : St} (n : Nat) (h : unr P c Q n env st) : vc P (.loop c) Q env st := by
  refine vc_loop (fun k env st => unr P c Q k env st) n h ?_
  intro k env' st' hs hu
  cases k with
  | zero => exact hu.elim
  | succ k =>
    refine vc_frame c _ _ env' st' (fun e env'' st'' _ hq => ?_) hu
    cases e with
    | normal => exact ⟨k, st'', Nat.lt_succ_self k, St.sub_refl _, hq⟩
    | exit id => exact hq
    | ret => exact hq
end
theorem Sep.appx' {α : Type} {f : α → List V} {sz : Nat} (hf : ∀ a, (f a).length = sz) (hsz : 0 < sz) {s : V} {l : List α} {L : List Asn} {st : St} (h : Sep (Slx sz f s l :: L) st) {b : Nat} (m : List α) {ys : List V} {n : Nat} (hys : ys = rowsOf f m) (hn : n = m.length) (hb : (l.length + n) * b ≤ 140737488355328) {K : V → St → Prop}
    (hK : ∀ s' st', Sep (Slx sz f s' (l ++ m) :: L) st' → K s' st') : appS sz b s (some (ys, n)) st K := by
  subst hys hn
  exact Sep.appx hf hsz h hb hK
theorem Sep.setAt {i : Nat} {o : AObj} (o' : AObj) : ∀ (n : Nat) {L : List Asn} {st : St}, Sep L st → L[n]? = some (pt i o) → Sep (L.set n (pt i o')) (st.upd i o')
  | 0, A :: L, st, h, e => by
    simp only [List.getElem?_cons_zero, Option.some.injEq] at e
    subst e
    exact h.set o'
  | n + 1, A :: L, st, h, e => by
    obtain ⟨a, r, h1, h2, h3, h4⟩ := h
    have e' : L[n]? = some (pt i o) := by simpa using e
    have hr : r i = some o := Sep.mem h4 (List.mem_of_getElem? e')
    have ih := Sep.setAt o' n h4 e'
    have hai : a i = none := (h1 i).resolve_right (by rw [hr]; simp)
    refine ⟨a, r.upd i o', fun j => ?_, fun j x hx => ?_, h3, ih⟩
    · by_cases ej : j = i
      · exact .inl (ej ▸ hai)
      · rcases h1 j with g | g
        · exact .inl g
        · exact .inr (by simpa [ej] using g)
    · by_cases ej : j = i
      · subst ej
        simpa [St.add, hai] using hx
      · simp only [St.add, st_upd, ej, if_false] at hx ⊢
        exact h2 j x hx
  | _, [], _, _, e => by simp at e
theorem Sep.neq {i j : Nat} {o o' : AObj} : ∀ {L : List Asn} {st : St} (n m : Nat), Sep L st → L[n]? = some (pt i o) → L[m]? = some (pt j o') → n < m → i ≠ j
  | [], _, _, _, _, e, _, _ => by simp at e
  | A :: L, st, 0, m + 1, h, e1, e2, _ => by
    simp only [List.getElem?_cons_zero, Option.some.injEq] at e1
    subst e1
    obtain ⟨a, r, h1, h2, h3, h4⟩ := h
    have hr : r j = some o' := Sep.mem h4 (List.mem_of_getElem? (by simpa using e2))
    rintro rfl
    rcases h1 i with g | g
    · rw [h3] at g; cases g
    · rw [hr] at g; cases g
  | A :: L, st, n + 1, m + 1, h, e1, e2, hlt => by
    obtain ⟨a, r, h1, h2, h3, h4⟩ := h
    exact Sep.neq n m h4 (by simpa using e1) (by simpa using e2) (by omega)
theorem Sep.was' {st0 st : St} {L : List Asn} (h : Sep L st) (hm : Was st0 ∈ L) : St.sub st0 st := by
  obtain ⟨h', k1, rfl⟩ := h.memA hm
  exact k1
theorem frzP_one {t : Nat} {env : Env} {st st' : St} {v : V} {K : Env → St → Prop} (h : frzV st (env t) = some (v, st')) (hk : K (env.upd t v) st') : frzP [t] env st K := by
  simp only [frzP, h]
  exact hk
theorem condB_join {P : Program} {v : V} {a b c : PC} {Q : Ex → Env → St → Prop} {env : Env} {st : St} (M : Env → St → Prop)
    (h : condB P v a b (unrK M Q) env st) (k : ∀ env' st', Same (a.writes ++ b.writes) env env' → M env' st' → vc P c Q env' st') : condB P v a b (seqK P c Q) env st := by
  have e : ∀ R : Ex → Env → St → Prop, condB P v a b R env st = vc P (.cond (.k v) a b) R env st := fun R => _root_.id rfl
  rw [e] at h ⊢
  refine vc_frame (.cond (.k v) a b) _ _ env st (fun ex env' st' hs hq => ?_) h
  cases ex with
  | normal => exact k env' st' hs hq
  | exit i => exact hq
  | ret => exact hq
end Go.Ab
set_option linter.unusedSimpArgs false
set_option linter.unusedVariables false
set_option maxRecDepth 10000
namespace Go.Ab
open Go Go.RowKit
section
variable {P : Program} {F : Fn}
theorem spec105 (ok : OkNum P F) (st : St) (x : W) : ACalls P (F 105) [w64 x] st fun v st' => v = nU (x.setWidth 256) ∧ st' = st := by
  refine shows_call ok.mixed ok.h105 (by simp [k105]) ?_
  have e : eU (x.setWidth 256) = [w64 x, w64 0, w64 0, w64 0] := by
    have : x.setWidth 256 = u4 x 0 0 0 := by
      apply BitVec.eq_of_toNat_eq
      have := x.isLt
      rw [u4_nat, BitVec.toNat_setWidth, Nat.mod_eq_of_lt (by omega)]
      simp
    rw [this, eU_u4]
  simp [k105, fillV, spliceV, nU, e]
  intro id hid
  simp [fillV, storeS, spliceV, St.seg, segOf]
  exact sub_upd hid
def cmpU (a b : U) : Int := if a.toNat < b.toNat then -1 else if a = b then 0 else 1
theorem cmpU_d {a b c d a' b' c' d' : W} (h : d ≠ d') : cmpU (u4 a b c d) (u4 a' b' c' d') = if d < d' then -1 else 1 := by
  have := a.isLt; have := b.isLt; have := c.isLt; have := a'.isLt; have := b'.isLt; have := c'.isLt
  have hne : u4 a b c d ≠ u4 a' b' c' d' := fun e => h (u4_inj e).2.2.2
  have hn : d.toNat ≠ d'.toNat := fun e => h (BitVec.eq_of_toNat_eq e)
  simp only [cmpU, hne, if_false, u4_nat, BitVec.lt_def]
  split <;> split <;> first | rfl | omega
theorem cmpU_c {a b c d a' b' c' : W} (h : c ≠ c') : cmpU (u4 a b c d) (u4 a' b' c' d) = if c < c' then -1 else 1 := by
  have := a.isLt; have := b.isLt; have := a'.isLt; have := b'.isLt
  have hne : u4 a b c d ≠ u4 a' b' c' d := fun e => h (u4_inj e).2.2.1
  have hn : c.toNat ≠ c'.toNat := fun e => h (BitVec.eq_of_toNat_eq e)
  simp only [cmpU, hne, if_false, u4_nat, BitVec.lt_def]
  split <;> split <;> first | rfl | omega
theorem cmpU_b {a b c d a' b' : W} (h : b ≠ b') : cmpU (u4 a b c d) (u4 a' b' c d) = if b < b' then -1 else 1 := by
  have := a.isLt; have := a'.isLt
  have hne : u4 a b c d ≠ u4 a' b' c d := fun e => h (u4_inj e).2.1
  have hn : b.toNat ≠ b'.toNat := fun e => h (BitVec.eq_of_toNat_eq e)
  simp only [cmpU, hne, if_false, u4_nat, BitVec.lt_def]
  split <;> split <;> first | rfl | omega
theorem cmpU_a {a b c d a' : W} (h : a ≠ a') : cmpU (u4 a b c d) (u4 a' b c d) = if a < a' then -1 else 1 := by
  have hne : u4 a b c d ≠ u4 a' b c d := fun e => h (u4_inj e).1
  have hn : a.toNat ≠ a'.toNat := fun e => h (BitVec.eq_of_toNat_eq e)
  simp only [cmpU, hne, if_false, u4_nat, BitVec.lt_def]
  split <;> split <;> first | rfl | omega
theorem sub_upd2 {st : St} {i j : Nat} {o p : AObj} (hi : st i = none) (hj : (st.upd i o) j = none) : St.sub st ((st.upd i o).upd j p) := sub_trans (sub_upd hi) (sub_upd hj)
theorem ne_upd {st : St} {i j : Nat} {o : AObj} (hj : (st.upd i o) j = none) : i ≠ j := by
  rintro rfl
  simp at hj
theorem upd_none {st : St} {i k : Nat} {o : AObj} (h : (st.upd i o) k = none) : i ≠ k ∧ st k = none := by
  by_cases e : k = i
  · subst e; simp at h
  · exact ⟨fun h => e h.symm, by simpa [e] using h⟩
theorem spec106 (ok : OkNum P F) (st : St) (x y : U) : ACalls P (F 106) [nU x, nU y] st fun v st' => v = .int .i64 (cmpU x y) ∧ st' = st := by
  refine shows_call ok.mixed ok.h106 (by simp [k106]) ?_
  obtain ⟨a, b, c, d, rfl⟩ := exists_u4 x
  obtain ⟨a', b', c', d', rfl⟩ := exists_u4 y
  simp only [k106, nU, eU_u4]
  simp
  intro i hi j hj
  have hij := ne_upd hj
  have hsub := sub_upd2 (p := .cells [w64 a', w64 b', w64 c', w64 d']) hi hj
  refine vc_unroll 5 ?_
  simp [unr_succ, hij, idxArrV, St.seg, segOf]
  by_cases h : d = d'
  · subst h
    simp [unr_succ, hij, idxArrV, St.seg, segOf]
    by_cases h : c = c'
    · subst h
      simp [unr_succ, hij, idxArrV, St.seg, segOf]
      by_cases h : b = b'
      · subst h
        simp [unr_succ, hij, idxArrV, St.seg, segOf]
        by_cases h : a = a'
        · subst h
          simp [unr_succ, hij, idxArrV, St.seg, segOf, cmpU, hsub]
        · have hb : (a != a') = true := by simp [h]
          by_cases hlt : a < a' <;> simp [unr_succ, hij, idxArrV, St.seg, segOf, hb, cmpU_a h, hlt, hsub]
      · have hb : (b != b') = true := by simp [h]
        by_cases hlt : b < b' <;> simp [unr_succ, hij, idxArrV, St.seg, segOf, hb, cmpU_b h, hlt, hsub]
    · have hb : (c != c') = true := by simp [h]
      by_cases hlt : c < c' <;> simp [unr_succ, hij, idxArrV, St.seg, segOf, hb, cmpU_c h, hlt, hsub]
  · have hb : (d != d') = true := by simp [h]
    by_cases hlt : d < d' <;> simp [unr_succ, hij, idxArrV, St.seg, segOf, hb, cmpU_d h, hlt, hsub]
theorem eqL_u (x y : U) : eqL (eU x) (eU y) = some (decide (x = y)) := by
  obtain ⟨a, b, c, d, rfl⟩ := exists_u4 x
  obtain ⟨a', b', c', d', rfl⟩ := exists_u4 y
  have key : ∀ p q : W, ((p.toNat : Int) == (q.toNat : Int)) = decide (p = q) := fun p q => by
    rw [Bool.eq_iff_iff]
    simp only [beq_iff_eq, decide_eq_true_eq]
    exact ⟨fun h => BitVec.eq_of_toNat_eq (by omega), fun h => by rw [h]⟩
  simp only [eU_u4, w64, eqL, if_true, Option.map_some, key, Option.some.injEq]
  rw [Bool.eq_iff_iff]
  simp only [Bool.and_eq_true, decide_eq_true_eq]
  constructor
  · rintro ⟨h1, h2, h3, h4, _⟩
    rw [h1, h2, h3, h4]
  · intro h
    obtain ⟨h1, h2, h3, h4⟩ := u4_inj h
    exact ⟨h1, h2, h3, h4, trivial⟩
theorem eU_zero : [w64 0#64, w64 0#64, w64 0#64, w64 0#64] = eU 0#256 := by
  rw [show (0#256 : U) = u4 0#64 0#64 0#64 0#64 from rfl, eU_u4]
theorem segU (x : U) : segOf (eU x) 0 4 = some (eU x) := rfl
theorem spec107 (ok : OkNum P F) (st : St) (x : U) : ACalls P (F 107) [nU x] st fun v st' => v = .bool (decide (x = 0)) ∧ st' = st := by
  refine shows_call ok.mixed ok.h107 (by simp [k107]) ?_
  simp only [k107, nU, eU_zero]
  simp
  intro i hi
  have hl := eU_len x
  simp [St.seg, segU, fillV, eqK, hl, eU_zero, eqL_u]
  exact sub_upd hi
theorem not_u4 (a b c d : W) : ~~~(u4 a b c d) = u4 (~~~a) (~~~b) (~~~c) (~~~d) := by
  apply BitVec.eq_of_toNat_eq
  have := a.isLt; have := b.isLt; have := c.isLt; have := d.isLt
  rw [BitVec.toNat_not, u4_nat, u4_nat, BitVec.toNat_not, BitVec.toNat_not, BitVec.toNat_not, BitVec.toNat_not]
  omega
theorem spec111 (ok : OkNum P F) (st : St) (x : U) : ACalls P (F 111) [nU x] st fun v st' => v = nU (~~~x) ∧ st' = st := by
  refine shows_call ok.mixed ok.h111 (by simp [k111]) ?_
  obtain ⟨a, b, c, d, rfl⟩ := exists_u4 x
  simp only [k111, nU, not_u4, eU_u4]
  simp
  intro i hi
  simp
  intro j hj
  have hij := ne_upd hj
  have hsub := sub_upd2 (p := .cells [w64 0#64, w64 0#64, w64 0#64, w64 0#64]) hi hj
  simp [hij, idxArrV, St.seg, segOf, fillV, spliceV, storeS]
  exact sub_upd2 hi hj
theorem sub_u4 (a b c d a' b' c' d' : W) :
    u4 a b c d - u4 a' b' c' d' = u4 (dif64 a a' false) (dif64 b b' (bor64 a a' false)) (dif64 c c' (bor64 b b' (bor64 a a' false))) (dif64 d d' (bor64 c c' (bor64 b b' (bor64 a a' false)))) ∧
    bor64 d d' (bor64 c c' (bor64 b b' (bor64 a a' false))) = decide ((u4 a b c d).toNat < (u4 a' b' c' d').toNat) := by
  have := a.isLt; have := b.isLt; have := c.isLt; have := d.isLt
  have := a'.isLt; have := b'.isLt; have := c'.isLt; have := d'.isLt
  constructor
  · apply BitVec.eq_of_toNat_eq
    rw [BitVec.toNat_sub, u4_nat, u4_nat, u4_nat, dif64_nat, dif64_nat, dif64_nat, dif64_nat]
    simp only [bor64, decide_eq_true_eq, Bool.false_eq_true, if_false]
    show (115792089237316195423570985008687907853269984665640564039457584007913129639936 - _ + _) % 115792089237316195423570985008687907853269984665640564039457584007913129639936 = _
    split <;> split <;> split <;> omega
  · rw [u4_nat, u4_nat]
    simp only [bor64, decide_eq_true_eq, Bool.false_eq_true, if_false]
    congr 1
    rw [eq_iff_iff]
    split <;> split <;> split <;> omega
@[simp high] theorem carry_sub (x y : W) (c : Bool) : carryV true (w64 x) (w64 y) (w64 (b64 c)) = some (.tup [w64 (dif64 x y c), w64 (b64 (bor64 x y c))]) := by
  have h1 := x.isLt
  have h2 := y.isLt
  have e1 := dif64_nat x y c
  have e2 : (b64 (bor64 x y c)).toNat = if x.toNat < y.toNat + (if c then 1 else 0) then 1 else 0 := by
    rw [b64_nat]
    simp only [bor64, decide_eq_true_eq]
  have e3 := b64_nat c
  generalize dif64 x y c = d at *
  generalize b64 (bor64 x y c) = r at *
  generalize b64 c = q at *
  simp only [carryV, w64]
  rw [if_pos (by split at e3 <;> omega)]
  simp only [Option.some.injEq, V.tup.injEq, List.cons.injEq, V.int.injEq, true_and, and_true, if_true, Int.toNat_natCast]
  rw [e1, e2, e3]
  cases c <;> simp <;> constructor <;> first | omega | (split <;> split <;> omega) | (split <;> omega)
@[simp high] theorem carry_add (x y : W) (c : Bool) : carryV false (w64 x) (w64 y) (w64 (b64 c)) = some (.tup [w64 (sum64 x y c), w64 (b64 (car64 x y c))]) := by
  have h1 := x.isLt
  have h2 := y.isLt
  have e1 := sum64_nat x y c
  have e2 : (b64 (car64 x y c)).toNat = if 18446744073709551616 ≤ x.toNat + y.toNat + (if c then 1 else 0) then 1 else 0 := by
    rw [b64_nat]
    simp only [car64, decide_eq_true_eq]
  have e3 := b64_nat c
  generalize sum64 x y c = d at *
  generalize b64 (car64 x y c) = r at *
  generalize b64 c = q at *
  simp only [carryV, w64]
  rw [if_pos (by split at e3 <;> omega)]
  simp only [Option.some.injEq, V.tup.injEq, List.cons.injEq, V.int.injEq, true_and, and_true, Bool.false_eq_true, if_false]
  rw [e1, e2, e3]
  cases c <;> simp <;> first | omega | (split <;> omega)
theorem zero_b64 : (0#64 : W) = b64 false := rfl
theorem b64_ne (c : Bool) : (b64 c != b64 false) = c := by cases c <;> rfl
theorem sub_ups {st s : St} {i : Nat} {o : AObj} (h : St.sub st s) (hi : st i = none) : St.sub st (s.upd i o) := fun j x hj => by
  have : j ≠ i := fun e => by rw [e, hi] at hj; cases hj
  simp [this, h j x hj]
theorem spec109 (ok : OkNum P F) (st : St) (x y : U) : ACalls P (F 109) [nU x, nU y] st fun v st' => v = .tup [nU (x - y), .bool (decide (x.toNat < y.toNat))] ∧ st' = st := by
  refine shows_call ok.mixed ok.h109 (by simp [k109]) ?_
  obtain ⟨a, b, c, d, rfl⟩ := exists_u4 x
  obtain ⟨a', b', c', d', rfl⟩ := exists_u4 y
  obtain ⟨e1, e2⟩ := sub_u4 a b c d a' b' c' d'
  rw [← e2, e1]
  simp only [k109, nU, eU_u4]
  simp
  intro i hi j hj
  have hij := ne_upd hj
  have hji := hij.symm
  simp
  intro k hk
  have hjk := ne_upd hk
  have hik := (upd_none (upd_none hk).2).1
  have hki := hik.symm
  have hkj := hjk.symm
  refine vc_unroll 5 ?_
  rw [zero_b64]
  simp [unr_succ, hij, hji, hjk, hkj, hik, hki, idxArrV, St.seg, segOf, storeS, spliceV, b64_ne]
  exact sub_ups (sub_ups (sub_ups (sub_ups (sub_ups (sub_self _) hi) (upd_none hj).2) (upd_none (upd_none hk).2).2) hi) (upd_none (upd_none hk).2).2
end
end Go.Ab
set_option linter.unusedSimpArgs false
set_option linter.unusedVariables false
namespace Go.Ab
open Go Go.RowKit
def shaK : List (BitVec 32) := [0x428a2f98, 0x71374491, 0xb5c0fbcf, 0xe9b5dba5, 0x3956c25b, 0x59f111f1, 0x923f82a4, 0xab1c5ed5, 0xd807aa98, 0x12835b01, 0x243185be, 0x550c7dc3, 0x72be5d74, 0x80deb1fe, 0x9bdc06a7, 0xc19bf174, 0xe49b69c1, 0xefbe4786, 0x0fc19dc6, 0x240ca1cc, 0x2de92c6f, 0x4a7484aa, 0x5cb0a9dc, 0x76f988da, 0x983e5152, 0xa831c66d, 0xb00327c8, 0xbf597fc7, 0xc6e00bf3, 0xd5a79147, 0x06ca6351, 0x14292967, 0x27b70a85, 0x2e1b2138, 0x4d2c6dfc, 0x53380d13, 0x650a7354, 0x766a0abb, 0x81c2c92e, 0x92722c85, 0xa2bfe8a1, 0xa81a664b, 0xc24b8b70, 0xc76c51a3, 0xd192e819, 0xd6990624, 0xf40e3585, 0x106aa070, 0x19a4c116, 0x1e376c08, 0x2748774c, 0x34b0bcb5, 0x391c0cb3, 0x4ed8aa4a, 0x5b9cca4f, 0x682e6ff3, 0x748f82ee, 0x78a5636f, 0x84c87814, 0x8cc70208, 0x90befffa, 0xa4506ceb, 0xbef9a3f7, 0xc67178f2]
def be4 (a b c d : UInt8) : BitVec 32 := a.toBitVec.setWidth 32 <<< 24 ||| b.toBitVec.setWidth 32 <<< 16 ||| c.toBitVec.setWidth 32 <<< 8 ||| d.toBitVec.setWidth 32
def words : List UInt8 → List (BitVec 32)
  | a :: b :: c :: d :: l => be4 a b c d :: words l
  | _ => []
def ror (x : BitVec 32) (n : Nat) : BitVec 32 := x >>> n ||| x <<< (32 - n)
def sg0 (x : BitVec 32) : BitVec 32 := ror x 7 ^^^ ror x 18 ^^^ x >>> 3
def sg1 (x : BitVec 32) : BitVec 32 := ror x 17 ^^^ ror x 19 ^^^ x >>> 10
def bg0 (x : BitVec 32) : BitVec 32 := ror x 2 ^^^ ror x 13 ^^^ ror x 22
def bg1 (x : BitVec 32) : BitVec 32 := ror x 6 ^^^ ror x 11 ^^^ ror x 25
def nextW (l : List (BitVec 32)) : BitVec 32 := l.getD (l.length - 16) 0 + sg0 (l.getD (l.length - 15) 0) + l.getD (l.length - 7) 0 + sg1 (l.getD (l.length - 2) 0)
def sched (m : List (BitVec 32)) : Nat → List (BitVec 32)
  | 0 => m
  | k + 1 => sched m k ++ [nextW (sched m k)]
structure V8 where
  a : BitVec 32
  b : BitVec 32
  c : BitVec 32
  d : BitVec 32
  e : BitVec 32
  f : BitVec 32
  g : BitVec 32
  h : BitVec 32
  deriving DecidableEq
def V8.list (v : V8) : List (BitVec 32) := [v.a, v.b, v.c, v.d, v.e, v.f, v.g, v.h]
def rnd (v : V8) (k w : BitVec 32) : V8 :=
  let t := v.h + bg1 v.e + (v.e &&& v.f ^^^ ~~~v.e &&& v.g) + k + w
  ⟨t + bg0 v.a + (v.a &&& v.b ^^^ v.a &&& v.c ^^^ v.b &&& v.c), v.a, v.b, v.c, v.d + t, v.e, v.f, v.g⟩
def rnds : List (BitVec 32) → List (BitVec 32) → V8 → V8
  | k :: ks, w :: ws, v => rnds ks ws (rnd v k w)
  | _, _, v => v
def addV (h v : V8) : V8 := ⟨h.a + v.a, h.b + v.b, h.c + v.c, h.d + v.d, h.e + v.e, h.f + v.f, h.g + v.g, h.h + v.h⟩
def blockM (h : V8) (b : List UInt8) : V8 := addV h (rnds shaK (sched (words b) 48) h)
def blocksM : Nat → V8 → List UInt8 → V8
  | 0, h, _ => h
  | n + 1, h, l => blocksM n (blockM h (l.take 64)) (l.drop 64)
def padM (l : List UInt8) : List UInt8 :=
  l ++ 0x80 :: (List.replicate ((119 - l.length % 64) % 64) 0 ++ [56, 48, 40, 32, 24, 16, 8, 0].map fun i => UInt8.ofBitVec (((BitVec.ofNat 64 l.length * 8) >>> i).setWidth 8))
def iv : V8 := ⟨0x6a09e667, 0xbb67ae85, 0x3c6ef372, 0xa54ff53a, 0x510e527f, 0x9b05688c, 0x1f83d9ab, 0x5be0cd19⟩
def out4 (x : BitVec 32) : List UInt8 := [UInt8.ofBitVec ((x >>> 24).setWidth 8), UInt8.ofBitVec ((x >>> 16).setWidth 8), UInt8.ofBitVec ((x >>> 8).setWidth 8), UInt8.ofBitVec (x.setWidth 8)]
def outV (v : V8) : List UInt8 := v.list.flatMap out4
def shaL (l : List UInt8) : List UInt8 := outV (blocksM ((padM l).length / 64) iv (padM l))
def sha (l : List UInt8) : Id := ⟨⟨shaL l⟩, rfl⟩
def sha2 (l : List UInt8) : Id := sha (shaL l)
end Go.Ab
set_option linter.unusedSimpArgs false
set_option linter.unusedVariables false
namespace Go.Ab
open Go Go.RowKit
abbrev W32 := BitVec 32
def tgtV (size word : Nat) : Nat := if size ≤ 3 then word / 2 ^ (8 * (3 - size)) else word * 2 ^ (8 * (size - 3))
def tgt (b : W32) : Option Nat :=
  if b.toNat % 16777216 = 0 ∨ 8388608 ≤ b.toNat % 16777216 then none
  else if tgtV (b.toNat / 16777216) (b.toNat % 16777216) = 0 ∨ 2 ^ 256 ≤ tgtV (b.toNat / 16777216) (b.toNat % 16777216) then none
  else some (tgtV (b.toNat / 16777216) (b.toNat % 16777216))
theorem tgt_lt {b : W32} {t : Nat} (h : tgt b = some t) : 0 < t ∧ t < 2 ^ 256 := by
  unfold tgt at h
  split at h
  · cases h
  · split at h
    · cases h
    · rename_i h1
      cases h
      omega
def workN (t : Nat) : Nat := 2 ^ 256 / (t + 1)
def sizeN (t : Nat) : Nat := (bitlen t + 7) / 8 + (if 0 < bitlen t ∧ bitlen t % 8 = 0 then 1 else 0)
def wordN (t : Nat) : Nat := if sizeN t ≤ 3 then t * 2 ^ (8 * (3 - sizeN t)) else t / 2 ^ (8 * (sizeN t - 3))
def shortN (t : Nat) : W32 := BitVec.ofNat 32 (sizeN t * 16777216 + wordN t)
theorem lt_bitlen (t : Nat) : t < 2 ^ bitlen t := bitlen_le.1 (Nat.le_refl _)
def clampT (took should : Int) : Nat := (max (should.tdiv 4) (min took (4 * should))).toNat
def nextT (t tk sh limit : Nat) : Nat :=
  let q := if t * tk < 2 ^ 256 then t * tk / sh else t / sh * tk
  if 2 ^ 256 ≤ q ∨ limit < q then limit else q
def nextN (b : W32) (took should : Int) (limit : Nat) : Option W32 :=
  match tgt b with
  | none => none
  | some t => if should < 1 ∨ 1099511627776 < should then none else some (shortN (nextT t (clampT took should) should.toNat limit))
theorem clampT_le {took should : Int} (h1 : 1 ≤ should) (h2 : should ≤ 1099511627776) : clampT took should ≤ 4398046511104 := by
  unfold clampT
  have : should.tdiv 4 ≤ should := by
    rw [Int.tdiv_eq_ediv_of_nonneg (by omega)]
    omega
  omega
structure Hdr where
  ver : W32
  prev : Id
  root : Id
  time : W32
  bits : W32
  nonce : W32
  deriving DecidableEq
def eHdr (h : Hdr) : List V := w32 h.ver :: (eId h.prev ++ (eId h.root ++ [w32 h.time, w32 h.bits, w32 h.nonce]))
theorem eHdr_len (h : Hdr) : (eHdr h).length = 68 := by simp [eHdr, eId_len]
def le4 (x : W32) : List UInt8 := [UInt8.ofBitVec (x.setWidth 8), UInt8.ofBitVec ((x >>> 8).setWidth 8), UInt8.ofBitVec ((x >>> 16).setWidth 8), UInt8.ofBitVec ((x >>> 24).setWidth 8)]
def hBytes (h : Hdr) : List UInt8 := le4 h.ver ++ (h.prev.toList ++ (h.root.toList ++ (le4 h.time ++ (le4 h.bits ++ le4 h.nonce))))
theorem hBytes_len (h : Hdr) : (hBytes h).length = 80 := by simp [hBytes, le4]
def hId (h : Hdr) : Id := sha2 (hBytes h)
def leN : List UInt8 → Nat
  | [] => 0
  | b :: l => b.toNat + 256 * leN l
def idN (x : Id) : Nat := leN x.toList
theorem leN_lt : ∀ l : List UInt8, leN l < 256 ^ l.length
  | [] => by simp [leN]
  | b :: l => by
    have := leN_lt l
    have := b.toNat_lt
    simp only [leN, List.length_cons, Nat.pow_succ]
    omega
theorem idN_lt (x : Id) : idN x < 2 ^ 256 := by
  have := leN_lt x.toList
  rw [Vector.length_toList] at this
  exact this
def provedN (h : Hdr) (limit : W32) : Int :=
  match tgt h.bits, tgt limit with
  | some a, some b => if b < a then 30 else if a < idN (hId h) then 50 else 0
  | _, _ => 30
def mineN (h : Hdr) (limit : W32) : Nat → Option Hdr
  | 0 => none
  | n + 1 => if provedN h limit = 0 then some h else mineN { h with nonce := h.nonce + 1 } limit n
end Go.Ab
set_option linter.unusedSimpArgs false
set_option linter.unusedVariables false
namespace Go.Ab
open Go Go.RowKit
end Go.Ab
set_option linter.unusedSimpArgs false
set_option linter.unusedVariables false
set_option maxRecDepth 10000
namespace Go.Ab
open Go Go.RowKit
section
variable {P : Program} {F : Fn}
theorem turn_amt : ∀ n : Fin 32, (BitVec.ofInt 64 (-((n.val : Nat) : Int)) &&& 31#64) = BitVec.ofNat 64 ((32 - n.val) % 32) := by decide
theorem spec102 (ok : OkHash P F) (st : St) (x : BitVec 32) {n : Nat} (h0 : 0 < n) (hn : n < 32) {k : Int} (hk : k = -(n : Int)) : ACalls P (F 102) [w32 x, .int .i64 k] st fun v st' => v = w32 (ror x n) ∧ st' = st := by
  refine shows_call ok.mixed ok.h102 (by simp [k102]) ?_
  have h := turn_amt ⟨n, hn⟩
  simp only at h
  rw [← hk, show (32 - n) % 32 = 32 - n from Nat.mod_eq_of_lt (by omega)] at h
  have e1 : (32#64 - BitVec.ofNat 64 (32 - n)).toNat = n := by
    rw [BitVec.toNat_sub, BitVec.toNat_ofNat, BitVec.toNat_ofNat, Nat.mod_eq_of_lt (show 32 - n < 2 ^ 64 by omega)]
    show (18446744073709551616 - (32 - n) + 32) % 18446744073709551616 = n
    omega
  have e2 : (BitVec.ofNat 64 (32 - n)).toNat = 32 - n := by
    rw [BitVec.toNat_ofNat, Nat.mod_eq_of_lt (by omega)]
  simp only [k102]
  simp [h, e1, e2, -BitVec.toNat_sub, -BitVec.toNat_ofNat]
  have : ror x n = x <<< (32 - n) ||| x >>> n := by rw [ror, BitVec.or_comm]
  rw [this]
def strB (s : ByteArray) : List UInt8 := s.data.toList
theorem idxStr_w (s : ByteArray) (k : IntKind) {i : Nat} (h : i < (strB s).length) : idxStrV (.str s) (.int k (i : Int)) = some (w8 (strB s)[i]) := by
  have hlt : i < s.data.size := by simpa [strB] using h
  have : s[i]? = some s.data[i] := by
    show (if h : i < s.size then some s[i] else none) = _
    rw [dif_pos (show i < s.size from hlt)]
    rfl
  simp only [idxStrV]
  rw [if_pos (by omega), Int.toNat_natCast, this]
  simp [w8, strB]
theorem spec100 (ok : OkHash P F) (st : St) (s : ByteArray) {i : Nat} (h : i + 4 ≤ (strB s).length) (hs : (strB s).length ≤ 1000000) : ACalls P (F 100) [.str s, .int .i64 (i : Int)] st fun v st' => v = w32 (be4 (strB s)[i] (strB s)[i + 1] (strB s)[i + 2] (strB s)[i + 3]) ∧ st' = st := by
  refine shows_call ok.mixed ok.h100 (by simp [k100]) ?_
  have w1 : IntKind.i64.wrap ((i : Int) + 1) = ((i + 1 : Nat) : Int) := by rw [wrap64 (by omega) (by omega)]; simp
  have w2 : IntKind.i64.wrap ((i : Int) + 2) = ((i + 2 : Nat) : Int) := by rw [wrap64 (by omega) (by omega)]; simp
  have w3 : IntKind.i64.wrap ((i : Int) + 3) = ((i + 3 : Nat) : Int) := by rw [wrap64 (by omega) (by omega)]; simp
  have i0 := idxStr_w s .i64 (i := i) (by omega)
  have i1 : idxStrV (.str s) (.int .i64 ((i : Int) + 1)) = some (w8 (strB s)[i + 1]) := idxStr_w s .i64 (i := i + 1) (by omega)
  have i2 : idxStrV (.str s) (.int .i64 ((i : Int) + 2)) = some (w8 (strB s)[i + 2]) := idxStr_w s .i64 (i := i + 2) (by omega)
  have i3 : idxStrV (.str s) (.int .i64 ((i : Int) + 3)) = some (w8 (strB s)[i + 3]) := idxStr_w s .i64 (i := i + 3) (by omega)
  simp only [k100]
  simp [w1, w2, w3, i0, i1, i2, i3]
  rfl
end
end Go.Ab
set_option linter.unusedSimpArgs false
set_option linter.unusedVariables false
set_option maxRecDepth 10000
namespace Go.Ab
open Go Go.RowKit
section
variable {P : Program} {F : Fn}
def ovU (s : Nat) : Bool := decide (2 ^ 256 ≤ s)
theorem add_u4 (a b c d a' b' c' d' : W) :
    (u4 (sum64 a a' false) (sum64 b b' (car64 a a' false)) (sum64 c c' (car64 b b' (car64 a a' false))) (sum64 d d' (car64 c c' (car64 b b' (car64 a a' false))))) = u4 a b c d + u4 a' b' c' d' ∧
    car64 d d' (car64 c c' (car64 b b' (car64 a a' false))) = ovU ((u4 a b c d).toNat + (u4 a' b' c' d').toNat) := by
  have := a.isLt; have := b.isLt; have := c.isLt; have := d.isLt
  have := a'.isLt; have := b'.isLt; have := c'.isLt; have := d'.isLt
  constructor
  · apply BitVec.eq_of_toNat_eq
    rw [BitVec.toNat_add, u4_nat, u4_nat, u4_nat, sum64_nat, sum64_nat, sum64_nat, sum64_nat]
    simp only [car64, decide_eq_true_eq, Bool.false_eq_true, if_false]
    show _ = (_ + _) % 115792089237316195423570985008687907853269984665640564039457584007913129639936
    split <;> split <;> split <;> omega
  · rw [u4_nat, u4_nat, ovU]
    simp only [car64, decide_eq_true_eq, Bool.false_eq_true, if_false]
    congr 1
    rw [eq_iff_iff]
    show _ ↔ 115792089237316195423570985008687907853269984665640564039457584007913129639936 ≤ _
    split <;> split <;> split <;> omega
def sumU (l : List U) : Nat := (l.map (·.toNat)).sum
theorem sumU_snoc (l : List U) (x : U) : sumU (l ++ [x]) = sumU l + x.toNat := by simp [sumU]
theorem over_step (s : Nat) (x : U) : (ovU s || ovU ((BitVec.ofNat 256 s).toNat + x.toNat)) = ovU (s + x.toNat) := by
  unfold ovU
  rw [BitVec.toNat_ofNat, Bool.eq_iff_iff]
  simp only [Bool.or_eq_true, decide_eq_true_eq]
  show 115792089237316195423570985008687907853269984665640564039457584007913129639936 ≤ s ∨ 115792089237316195423570985008687907853269984665640564039457584007913129639936 ≤ s % 115792089237316195423570985008687907853269984665640564039457584007913129639936 + _ ↔ 115792089237316195423570985008687907853269984665640564039457584007913129639936 ≤ _
  omega
set_option maxHeartbeats 1000000 in
theorem spec108 (ok : OkNum P F) (st : St) {s : V} {l : List U} (hs : Rd 4 eU s l st) (hl : l.length ≤ 1000) : ACalls P (F 108) [s] st fun v st' => v = .tup [nU (BitVec.ofNat 256 (sumU l)), .bool (ovU (sumU l))] ∧ st' = st := by
  refine shows_call ok.mixed ok.h108 (by simp [k108]) ?_
  simp only [k108]
  simp
  intro rid hrid
  simp
  intro oid hoid
  obtain ⟨hro, hoid⟩ := upd_none hoid
  have hlen := hs.len
  simp [hlen]
  rw [eU_zero]
  refine vc_loopJ (fun k env' st' => ∃ i, i ≤ l.length ∧ k = l.length - i ∧ env' 12 = .int .i64 (i : Nat) ∧ env' 5 = .bool (ovU (sumU (l.take i))) ∧ st' = (st.upd rid (.cells (eU 0#256))).upd oid (.cells (eU (BitVec.ofNat 256 (sumU (l.take i)))))) l.length
    ⟨0, by omega, by omega, rfl, by simp [sumU, ovU], by simp [sumU]⟩ ?_
  rintro J hJ k env' st' hsame ⟨i, hi, rfl, h12, h5, rfl⟩
  have g2 := hsame.get 2 rfl
  have g4 := hsame.get 4 rfl
  have g10 := hsame.get 10 rfl
  have g11 := hsame.get 11 rfl
  simp at g2 g4 g10 g11
  clear hsame
  have hsub : St.sub st ((st.upd rid (.cells (eU 0#256))).upd oid (.cells (eU (BitVec.ofNat 256 (sumU (l.take i)))))) := sub_ups (sub_ups (sub_self _) hrid) hoid
  have w1 : IntKind.i64.wrap ((i : Int) + 1) = (i : Int) + 1 := wrap64 (by omega) (by omega)
  by_cases hlt : i < l.length
  · obtain ⟨p, hp1, hp2⟩ := (hs.sub hsub).idx eU_len hlt .i64
    simp [g2, g4, g10, g11, h12, h5, hlt, hp1, hp2]
    intro bid hbid
    obtain ⟨hob, hbid⟩ := upd_none hbid
    obtain ⟨hrb, hbid⟩ := upd_none hbid
    have hbo := hob.symm
    have hbr := hrb.symm
    obtain ⟨a, b, c, d, hx⟩ := exists_u4 (BitVec.ofNat 256 (sumU (l.take i)))
    obtain ⟨a', b', c', d', hy⟩ := exists_u4 l[i]
    obtain ⟨e1, e2⟩ := add_u4 a b c d a' b' c' d'
    rw [hx, hy]
    simp [storeS, spliceV, eU_u4]
    rw [zero_b64]
    refine vc_unroll 5 ?_
    simp [unr_succ, g4, hob, hbo, idxArrV, St.seg, segOf, storeS, spliceV]
    have hov : (ovU (sumU (l.take i)) || car64 d d' (car64 c c' (car64 b b' (car64 a a' false)))) = ovU (sumU (l.take (i + 1))) := by
      rw [e2, ← hx, ← hy, List.take_succ_eq_append_getElem hlt, sumU_snoc]
      exact over_step _ _
    have hst : (((((st.upd rid (.cells (eU 0#256))).upd oid (.cells [w64 a, w64 b, w64 c, w64 d])).upd bid (.cells [w64 a', w64 b', w64 c', w64 d'])).upd oid (.cells [w64 (sum64 a a' false), w64 (sum64 b b' (car64 a a' false)), w64 (sum64 c c' (car64 b b' (car64 a a' false))), w64 (sum64 d d' (car64 c c' (car64 b b' (car64 a a' false))))]))) = ((st.upd rid (.cells (eU 0#256))).upd oid (.cells (eU (BitVec.ofNat 256 (sumU (l.take (i + 1))))))).upd bid (.cells [w64 a', w64 b', w64 c', w64 d']) := by
      have e3 : BitVec.ofNat 256 (sumU (l.take (i + 1))) = u4 a b c d + u4 a' b' c' d' := by
        rw [← hx, ← hy, List.take_succ_eq_append_getElem hlt, sumU_snoc, BitVec.ofNat_add, BitVec.ofNat_toNat, BitVec.setWidth_eq]
      rw [e3, ← e1, eU_u4]
      funext j
      by_cases h1 : j = oid <;> by_cases h2 : j = bid <;> simp [h1, h2, hob, hbo]
    have fin : ∀ env'', env'' 12 = .int .i64 ((i : Int) + 1) → env'' 5 = .bool (ovU (sumU (l.take (i + 1)))) → Round J (l.length - i) env'' (((((st.upd rid (.cells (eU 0#256))).upd oid (.cells [w64 a, w64 b, w64 c, w64 d])).upd bid (.cells [w64 a', w64 b', w64 c', w64 d'])).upd oid (.cells [w64 (sum64 a a' false), w64 (sum64 b b' (car64 a a' false)), w64 (sum64 c c' (car64 b b' (car64 a a' false))), w64 (sum64 d d' (car64 c c' (car64 b b' (car64 a a' false))))]))) := fun env'' q1 q2 => by
      rw [hst]
      refine Round.mk (l.length - (i + 1)) _ (by omega) (sub_upd (by simp [hob.symm, hrb.symm, hbid])) (hJ _ _ _ ⟨i + 1, by omega, rfl, by simpa using q1, q2, rfl⟩)
    obtain ⟨t, ht⟩ : ∃ t, t = ovU (sumU (l.take i)) := ⟨_, rfl⟩
    rw [← ht] at h5 hov
    cases t
    · simp [h5, h12, w1, b64_ne] at hov ⊢
      exact fin _ (by simp) (by simp [hov])
    · simp [h5, h12, w1, b64_ne] at hov ⊢
      exact fin _ (by simp) (by simp [← hov])
  · have : i = l.length := by omega
    subst this
    rw [List.take_length] at *
    have hl' : ¬ ((l.length : Int) < l.length) := by omega
    have hsp : ∀ x y : U, spliceV (eU x) 0 (eU y) = eU y := fun _ _ => rfl
    simp [g2, g4, g10, g11, h12, h5, St.seg, segU, storeS, hro, hro.symm, hsp, eU_len]
    exact ⟨sub_ups (sub_ups (sub_ups (sub_self _) hrid) hoid) hrid, rfl⟩
theorem spec118 (ok : OkNum P F) (st : St) (x y : W) : ACalls P (F 118) [w64 x, w64 y] st fun v st' => v = .tup [w64 (mulhi x y), w64 (x * y)] ∧ st' = st := by
  refine shows_call ok.mixed ok.h118 (by simp [k118]) ?_
  have h := mul64_hi x y
  simp only [k118]
  simp
  rw [← h]
def mlo (x n c : W) : W := sum64 (x * n) c false
def mhi (x n c : W) : W := mulhi x n + b64 (car64 (x * n) c false)
theorem m_nat (x n c : W) : (mlo x n c).toNat + (mhi x n c).toNat * 18446744073709551616 = x.toNat * n.toNat + c.toNat := by
  have h1 := x.isLt
  have h2 := n.isLt
  have h3 := c.isLt
  have hb : x.toNat * n.toNat ≤ 18446744073709551615 * 18446744073709551615 := Nat.mul_le_mul (by omega) (by omega)
  rw [mlo, mhi, sum64_nat, BitVec.toNat_add, b64_nat, mulhi, BitVec.toNat_ofNat, BitVec.toNat_mul]
  simp only [car64, decide_eq_true_eq, Bool.false_eq_true, if_false, BitVec.toNat_mul]
  generalize x.toNat * n.toNat = q at *
  show (q % 18446744073709551616 + c.toNat + 0) % 18446744073709551616 + (q / 18446744073709551616 % 18446744073709551616 + (if 18446744073709551616 ≤ q % 18446744073709551616 + c.toNat + 0 then 1 else 0)) % 18446744073709551616 * 18446744073709551616 = q + c.toNat
  split <;> omega
theorem mul_u4 (a b c d n : W) :
    u4 (mlo a n 0) (mlo b n (mhi a n 0)) (mlo c n (mhi b n (mhi a n 0))) (mlo d n (mhi c n (mhi b n (mhi a n 0)))) = BitVec.ofNat 256 ((u4 a b c d).toNat * n.toNat) ∧
    ((mhi d n (mhi c n (mhi b n (mhi a n 0)))) != 0#64) = ovU ((u4 a b c d).toNat * n.toNat) := by
  have e0 := m_nat a n 0
  have e1 := m_nat b n (mhi a n 0)
  have e2 := m_nat c n (mhi b n (mhi a n 0))
  have e3 := m_nat d n (mhi c n (mhi b n (mhi a n 0)))
  generalize hC0 : mhi a n 0 = C0 at *
  generalize hC1 : mhi b n C0 = C1 at *
  generalize hC2 : mhi c n C1 = C2 at *
  generalize hC3 : mhi d n C2 = C3 at *
  generalize mlo a n 0 = L0 at *
  generalize mlo b n C0 = L1 at *
  generalize mlo c n C1 = L2 at *
  generalize mlo d n C2 = L3 at *
  have i0 := L0.isLt; have i1 := L1.isLt; have i2 := L2.isLt; have i3 := L3.isLt
  have e0' : L0.toNat + C0.toNat * 18446744073709551616 = a.toNat * n.toNat := by simpa using e0
  have key : (u4 a b c d).toNat * n.toNat = L0.toNat + L1.toNat * 18446744073709551616 + L2.toNat * 340282366920938463463374607431768211456 + L3.toNat * 6277101735386680763835789423207666416102355444464034512896 + C3.toNat * 115792089237316195423570985008687907853269984665640564039457584007913129639936 := by
    rw [u4_nat, Nat.add_mul, Nat.add_mul, Nat.add_mul, Nat.mul_right_comm b.toNat, Nat.mul_right_comm c.toNat, Nat.mul_right_comm d.toNat]
    generalize a.toNat * n.toNat = qa at *
    generalize b.toNat * n.toNat = qb at *
    generalize c.toNat * n.toNat = qc at *
    generalize d.toNat * n.toNat = qd at *
    omega
  rw [key]
  constructor
  · apply BitVec.eq_of_toNat_eq
    rw [u4_nat, BitVec.toNat_ofNat]
    show _ = _ % 115792089237316195423570985008687907853269984665640564039457584007913129639936
    omega
  · unfold ovU
    have hz : (C3 != 0#64) = decide (0 < C3.toNat) := by
      rw [Bool.eq_iff_iff]
      simp only [bne_iff_ne, ne_eq, decide_eq_true_eq]
      constructor
      · intro h
        have : C3.toNat ≠ 0 := fun e => h (BitVec.eq_of_toNat_eq e)
        omega
      · rintro h rfl
        simp at h
    rw [hz]
    congr 1
    rw [eq_iff_iff]
    show _ ↔ 115792089237316195423570985008687907853269984665640564039457584007913129639936 ≤ _
    omega
set_option maxHeartbeats 1000000 in
theorem spec110 (ok : OkNum P F) (st : St) (x : U) (n : W) : ACalls P (F 110) [nU x, w64 n] st fun v st' => v = .tup [nU (BitVec.ofNat 256 (x.toNat * n.toNat)), .bool (ovU (x.toNat * n.toNat))] ∧ st' = st := by
  refine shows_call ok.mixed ok.h110 (by simp [k110]) ?_
  obtain ⟨a, b, c, d, rfl⟩ := exists_u4 x
  obtain ⟨e1, e2⟩ := mul_u4 a b c d n
  rw [← e1, ← e2]
  simp only [k110, nU, eU_u4]
  simp
  intro i hi
  simp
  intro j hj
  obtain ⟨hij, hj⟩ := upd_none hj
  have hji := hij.symm
  have call : ∀ (st : St) (y : W), ACalls P (F 118) [w64 y, w64 n] st fun v st' => v = .tup [w64 (mulhi y n), w64 (y * n)] ∧ st' = st := fun st y => spec118 ok st y n
  simp [hij, St.seg, segOf]
  refine vc_unroll 5 ?_
  have i0 : idxV 4 false 1 (.agg [w64 a, w64 b, w64 c, w64 d]) (.int .i64 0) = some (w64 a) := _root_.id rfl
  have i1 : idxV 4 false 1 (.agg [w64 a, w64 b, w64 c, w64 d]) (.int .i64 1) = some (w64 b) := _root_.id rfl
  have i2 : idxV 4 false 1 (.agg [w64 a, w64 b, w64 c, w64 d]) (.int .i64 2) = some (w64 c) := _root_.id rfl
  have i3 : idxV 4 false 1 (.agg [w64 a, w64 b, w64 c, w64 d]) (.int .i64 3) = some (w64 d) := _root_.id rfl
  have z0 : w64 0#64 = w64 (b64 false) := rfl
  have cs : ∀ p q : W, carryV false (w64 p) (w64 q) (w64 0#64) = some (.tup [w64 (sum64 p q false), w64 (b64 (car64 p q false))]) := fun p q => carry_add p q false
  simp [unr_succ, i0]
  refine (call _ a).mono ?_
  rintro v s ⟨rfl, rfl⟩
  simp [unr_succ, i1, cs, idxArrV, hij, hji, storeS, spliceV]
  refine (call _ b).mono ?_
  rintro v s ⟨rfl, rfl⟩
  simp [unr_succ, i2, cs, idxArrV, hij, hji, storeS, spliceV]
  refine (call _ c).mono ?_
  rintro v s ⟨rfl, rfl⟩
  simp [unr_succ, i3, cs, idxArrV, hij, hji, storeS, spliceV]
  refine (call _ d).mono ?_
  rintro v s ⟨rfl, rfl⟩
  simp [unr_succ, cs, idxArrV, hij, hji, storeS, spliceV, St.seg, segOf]
  refine ⟨sub_ups (sub_ups (sub_ups (sub_ups (sub_self _) hi) hj) hi) hj, ?_⟩
  simp [mlo, mhi]
def len8L : List UInt8 := [0, 1] ++ List.replicate 2 2 ++ List.replicate 4 3 ++ List.replicate 8 4 ++ List.replicate 16 5 ++ List.replicate 32 6 ++ List.replicate 64 7 ++ List.replicate 128 8
theorem len8_at : ∀ i : Fin 256, (len8L.getD i.val 0).toNat = bitlen i.val := by decide +kernel
theorem bitlen_shift {n k : Nat} (h : 2 ^ k ≤ n) : bitlen n = bitlen (n / 2 ^ k) + k := by
  have hp := Nat.two_pow_pos k
  have h1 : 0 < n / 2 ^ k := Nat.div_pos h hp
  apply Nat.le_antisymm
  · rw [bitlen_le, Nat.pow_add]
    have := lt_bitlen (n / 2 ^ k)
    exact (Nat.div_lt_iff_lt_mul hp).1 this
  · have h2 : 0 < bitlen (n / 2 ^ k) := bitlen_pos.2 h1
    have h3 : 2 ^ (bitlen (n / 2 ^ k) - 1) ≤ n / 2 ^ k := bitlen_lt.1 (by omega)
    have h4 : 2 ^ (bitlen (n / 2 ^ k) - 1 + k) ≤ n := by
      rw [Nat.pow_add]
      exact (Nat.le_div_iff_mul_le hp).1 h3
    have := bitlen_lt.2 h4
    omega
theorem spec115 (ok : OkNum P F) (st : St) (x : W) : ACalls P (F 115) [w64 x] st fun v st' => v = .int .i64 (bitlen x.toNat) ∧ st' = st := by
  refine shows_call ok.mixed ok.h115 (by simp [k115]) ?_
  simp only [k115]
  generalize hs : ByteArray.mk _ = tab
  have htab : strB tab = len8L := by rw [← hs]; rfl
  clear hs
  have at_ : ∀ y : W, y.toNat < 256 → idxStrV (.str tab) (w8 (UInt8.ofBitVec (y.setWidth 8))) = some (w8 (len8L.getD y.toNat 0)) := fun y hy => by
    have e : (UInt8.ofBitVec (y.setWidth 8)).toNat = y.toNat := by
      show (y.setWidth 8).toNat = _
      rw [BitVec.toNat_setWidth]
      exact Nat.mod_eq_of_lt hy
    have hl : y.toNat < (strB tab).length := by rw [htab]; exact hy
    have := idxStr_w tab .u8 hl
    rw [w8, e, this]
    congr 2
    simp only [htab]
    rw [List.getD_eq_getElem?_getD, List.getElem?_eq_getElem (show y.toNat < len8L.length from hy), Option.getD_some]
  have last : ∀ (y : W) (k : Nat), y.toNat < 256 → k ≤ 100 → idxStrV (.str tab) (w8 (UInt8.ofBitVec (y.setWidth 8))) = some (w8 (len8L.getD y.toNat 0)) ∧ IntKind.i64.wrap ((k : Int) + ((len8L.getD y.toNat 0).toNat : Int)) = ((bitlen y.toNat + k : Nat) : Int) := fun y k hy hk => by
    have h := len8_at ⟨y.toNat, hy⟩
    simp only at h
    have h2 : bitlen y.toNat ≤ 8 := bitlen_le.2 hy
    refine ⟨at_ y hy, ?_⟩
    rw [h, wrap64 (by omega) (by omega)]
    omega
  have hshr : ∀ (z : W) (k : Nat), (z >>> k).toNat = z.toNat / 2 ^ k := fun z k => by
    rw [BitVec.toNat_ushiftRight, Nat.shiftRight_eq_div_pow]
  have c32 : (4294967296#64).toNat = 2 ^ 32 := rfl
  have c16 : (65536#64).toNat = 2 ^ 16 := rfl
  have c8 : (256#64).toNat = 2 ^ 8 := rfl
  have hx := x.isLt
  -- one step: a number with at least so many bits
  have step : ∀ (z : W) (k : Nat), 2 ^ k ≤ z.toNat → bitlen z.toNat = bitlen (z >>> k).toNat + k := fun z k h => by
    rw [hshr]; exact bitlen_shift h
  simp
  by_cases h1 : 4294967296#64 ≤ x
  · have b1 := step x 32 (by rw [← c32]; exact BitVec.le_def.1 h1)
    have l1 : (x >>> 32).toNat < 2 ^ 32 := by rw [hshr]; omega
    simp [h1]
    generalize x >>> 32 = y at *
    by_cases h2 : 65536#64 ≤ y
    · have b2 := step y 16 (by rw [← c16]; exact BitVec.le_def.1 h2)
      have l2 : (y >>> 16).toNat < 2 ^ 16 := by rw [hshr]; omega
      simp [h2]
      generalize y >>> 16 = z at *
      by_cases h3 : 256#64 ≤ z
      · have b3 := step z 8 (by rw [← c8]; exact BitVec.le_def.1 h3)
        have l3 : (z >>> 8).toNat < 2 ^ 8 := by rw [hshr]; omega
        simp [h3]
        generalize z >>> 8 = t at *
        obtain ⟨q1, q2⟩ := last t 56 (by omega) (by omega)
        have q3 : bitlen x.toNat = bitlen t.toNat + 56 := by omega
        simp [q1, q3] at q2 ⊢
        exact q2
      · have l3 : z.toNat < 2 ^ 8 := by
          have := mt BitVec.le_def.2 h3
          rw [c8] at this
          omega
        simp [h3]
        obtain ⟨q1, q2⟩ := last z 48 (by omega) (by omega)
        have q3 : bitlen x.toNat = bitlen z.toNat + 48 := by omega
        simp [q1, q3] at q2 ⊢
        exact q2
    · have l2 : y.toNat < 2 ^ 16 := by
        have := mt BitVec.le_def.2 h2
        rw [c16] at this
        omega
      simp [h2]
      by_cases h3 : 256#64 ≤ y
      · have b3 := step y 8 (by rw [← c8]; exact BitVec.le_def.1 h3)
        have l3 : (y >>> 8).toNat < 2 ^ 8 := by rw [hshr]; omega
        simp [h3]
        generalize y >>> 8 = t at *
        obtain ⟨q1, q2⟩ := last t 40 (by omega) (by omega)
        have q3 : bitlen x.toNat = bitlen t.toNat + 40 := by omega
        simp [q1, q3] at q2 ⊢
        exact q2
      · have l3 : y.toNat < 2 ^ 8 := by
          have := mt BitVec.le_def.2 h3
          rw [c8] at this
          omega
        simp [h3]
        obtain ⟨q1, q2⟩ := last y 32 (by omega) (by omega)
        have q3 : bitlen x.toNat = bitlen y.toNat + 32 := by omega
        simp [q1, q3] at q2 ⊢
        exact q2
  · have l1 : x.toNat < 2 ^ 32 := by
      have := mt BitVec.le_def.2 h1
      rw [c32] at this
      omega
    simp [h1]
    by_cases h2 : 65536#64 ≤ x
    · have b2 := step x 16 (by rw [← c16]; exact BitVec.le_def.1 h2)
      have l2 : (x >>> 16).toNat < 2 ^ 16 := by rw [hshr]; omega
      simp [h2]
      generalize x >>> 16 = z at *
      by_cases h3 : 256#64 ≤ z
      · have b3 := step z 8 (by rw [← c8]; exact BitVec.le_def.1 h3)
        have l3 : (z >>> 8).toNat < 2 ^ 8 := by rw [hshr]; omega
        simp [h3]
        generalize z >>> 8 = t at *
        obtain ⟨q1, q2⟩ := last t 24 (by omega) (by omega)
        have q3 : bitlen x.toNat = bitlen t.toNat + 24 := by omega
        simp [q1, q3] at q2 ⊢
        exact q2
      · have l3 : z.toNat < 2 ^ 8 := by
          have := mt BitVec.le_def.2 h3
          rw [c8] at this
          omega
        simp [h3]
        obtain ⟨q1, q2⟩ := last z 16 (by omega) (by omega)
        have q3 : bitlen x.toNat = bitlen z.toNat + 16 := by omega
        simp [q1, q3] at q2 ⊢
        exact q2
    · have l2 : x.toNat < 2 ^ 16 := by
        have := mt BitVec.le_def.2 h2
        rw [c16] at this
        omega
      simp [h2]
      by_cases h3 : 256#64 ≤ x
      · have b3 := step x 8 (by rw [← c8]; exact BitVec.le_def.1 h3)
        have l3 : (x >>> 8).toNat < 2 ^ 8 := by rw [hshr]; omega
        simp [h3]
        generalize x >>> 8 = t at *
        obtain ⟨q1, q2⟩ := last t 8 (by omega) (by omega)
        have q3 : bitlen x.toNat = bitlen t.toNat + 8 := by omega
        simp [q1, q3] at q2 ⊢
        exact q2
      · have l3 : x.toNat < 2 ^ 8 := by
          have := mt BitVec.le_def.2 h3
          rw [c8] at this
          omega
        simp [h3]
        obtain ⟨q1, q2⟩ := last x 0 (by omega) (by omega)
        simp at q2
        simp [q1, q2]
end
end Go.Ab

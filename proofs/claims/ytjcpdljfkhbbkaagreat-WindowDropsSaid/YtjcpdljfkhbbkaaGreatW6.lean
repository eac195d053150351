import Derived.Test.YtjcpdljfkhbbkaaGreatW5
import Derived.Test.YtjcpdljfkhbbkaaGreatW4
import Derived.Deep.Slices
import Derived.OpenShut
set_option linter.unusedVariables false
namespace Go.Ab
open Go
def k154 (F : Fn) : PF := PF.mk 60 1 [(.t 2)] (.seq (.ops [(PO.mk (some 1) (.box (.t 0)) none), (PO.mk (some 2) (.mv (.k (.int .i64 0))) none)]) (.seq (.seq (.ops [(PO.mk (some 6) (.fldA 0 (.t 1)) none), (PO.mk (some 7) (.load false 1 (.t 6)) none), (PO.mk (some 8) (.call (F 135) [(.t 7)]) none), (PO.mk (some 5) (.mv (.t 8)) none), (PO.mk (some 9) (.ext 0 (.t 5)) none), (PO.mk (some 10) (.ext 1 (.t 5)) none), (PO.mk (some 3) (.alloc [(w64 0), (w64 0), (w64 0), (w64 0)]) none), (PO.mk none (.store 4 (.t 3) (.t 9)) none), (PO.mk (some 4) (.mv (.t 10)) none)]) (.seq (.ops [(PO.mk (some 11) (.mv (.t 4)) none), (PO.mk (some 12) (.not (.t 11)) none), (PO.mk (some 13) (.mv (.t 12)) none), (PO.mk (some 14) (.fldA 5 (.t 1)) (some (13, false))), (PO.mk (some 15) (.fldA 0 (.t 14)) (some (13, false))), (PO.mk (some 16) (.fldA 66 (.t 15)) (some (13, false))), (PO.mk (some 17) (.load false 1 (.t 16)) (some (13, false))), (PO.mk (some 18) (.fldA 0 (.t 1)) (some (13, false))), (PO.mk (some 19) (.load false 1 (.t 18)) (some (13, false))), (PO.mk (some 20) (.bin .neq (.t 17) (.t 19)) (some (13, false))), (PO.mk (some 21) (.pick (.t 13) (.k (.bool true)) (.t 20)) none)]) (.cond (.t 21) (.seq (.ops [(PO.mk (some 2) (.mv (.k (.int .i64 30))) none)]) .ret) .skip))) (.seq (.seq (.ops [(PO.mk (some 22) (.fldA 1 (.t 1)) none), (PO.mk (some 23) (.load false 1 (.t 22)) none), (PO.mk (some 24) (.bin .lss (.t 23) (.k (.int .i64 0))) none), (PO.mk (some 25) (.mv (.t 24)) none), (PO.mk (some 26) (.fldA 1 (.t 1)) (some (25, false))), (PO.mk (some 27) (.load false 1 (.t 26)) (some (25, false))), (PO.mk (some 28) (.bin .gtr (.t 27) (.k (.int .i64 1000))) (some (25, false))), (PO.mk (some 29) (.pick (.t 25) (.k (.bool true)) (.t 28)) none), (PO.mk (some 30) (.mv (.t 29)) none), (PO.mk (some 31) (.fldA 2 (.t 1)) (some (30, false))), (PO.mk (some 32) (.load false 1 (.t 31)) (some (30, false))), (PO.mk (some 33) (.bin .lss (.t 32) (.k (.int .i64 1))) (some (30, false))), (PO.mk (some 34) (.pick (.t 30) (.k (.bool true)) (.t 33)) none), (PO.mk (some 35) (.mv (.t 34)) none), (PO.mk (some 36) (.fldA 2 (.t 1)) (some (35, false))), (PO.mk (some 37) (.load false 1 (.t 36)) (some (35, false))), (PO.mk (some 38) (.bin .gtr (.t 37) (.k (.int .i64 1048576))) (some (35, false))), (PO.mk (some 39) (.pick (.t 35) (.k (.bool true)) (.t 38)) none), (PO.mk (some 40) (.mv (.t 39)) none), (PO.mk (some 41) (.fldA 3 (.t 1)) (some (40, false))), (PO.mk (some 42) (.load false 1 (.t 41)) (some (40, false))), (PO.mk (some 43) (.bin .lss (.t 42) (.k (.int .i64 0))) (some (40, false))), (PO.mk (some 44) (.pick (.t 40) (.k (.bool true)) (.t 43)) none), (PO.mk (some 45) (.mv (.t 44)) none), (PO.mk (some 46) (.fldA 3 (.t 1)) (some (45, false))), (PO.mk (some 47) (.load false 1 (.t 46)) (some (45, false))), (PO.mk (some 48) (.bin .gtr (.t 47) (.k (.int .i64 1125899906842624))) (some (45, false))), (PO.mk (some 49) (.pick (.t 45) (.k (.bool true)) (.t 48)) none), (PO.mk (some 50) (.mv (.t 49)) none), (PO.mk (some 51) (.fldA 4 (.t 1)) (some (50, false))), (PO.mk (some 52) (.load false 1 (.t 51)) (some (50, false))), (PO.mk (some 53) (.bin .lss (.t 52) (.k (.int .i64 0))) (some (50, false))), (PO.mk (some 54) (.pick (.t 50) (.k (.bool true)) (.t 53)) none), (PO.mk (some 55) (.mv (.t 54)) none), (PO.mk (some 56) (.fldA 4 (.t 1)) (some (55, false))), (PO.mk (some 57) (.load false 1 (.t 56)) (some (55, false))), (PO.mk (some 58) (.bin .gtr (.t 57) (.k (.int .i64 1000))) (some (55, false))), (PO.mk (some 59) (.pick (.t 55) (.k (.bool true)) (.t 58)) none)]) (.cond (.t 59) (.seq (.ops [(PO.mk (some 2) (.mv (.k (.int .i64 1))) none)]) .ret) .skip)) (.seq (.ops [(PO.mk (some 2) (.mv (.k (.int .i64 0))) none)]) .ret))))
def k155 (F : Fn) : PF := PF.mk 21 1 [(.t 2), (.t 3)] (.seq (.ops [(PO.mk (some 1) (.box (.t 0)) none), (PO.mk (some 2) (.mv (.k (.ptr none))) none), (PO.mk (some 3) (.mv (.k (.int .i64 0))) none)]) (.seq (.seq (.ops [(PO.mk (some 6) (.load true 74 (.t 1)) none), (PO.mk (some 7) (.call (F 154) [(.t 6)]) none), (PO.mk (some 4) (.mv (.t 7)) none)]) (.seq (.ops [(PO.mk (some 8) (.mv (.t 4)) none), (PO.mk (some 9) (.bin .neq (.t 8) (.k (.int .i64 0))) none)]) (.cond (.t 9) (.seq (.ops [(PO.mk (some 10) (.mv (.t 4)) none), (PO.mk (some 2) (.mv (.k (.ptr none))) none), (PO.mk (some 3) (.mv (.t 10)) none)]) .ret) .skip))) (.seq (.ops [(PO.mk (some 11) (.load true 74 (.t 1)) none), (PO.mk (some 12) POp.mkmap none), (PO.mk (some 13) (.build z76_2d2c [(0, (74, (.t 11))), (75, (1, (.t 12)))]) none), (PO.mk (some 14) (.box (.t 13)) none), (PO.mk (some 5) (.mv (.t 14)) none)]) (.seq (.ops [(PO.mk (some 15) (.mv (.t 5)) none), (PO.mk (some 16) (.fldA 5 (.t 1)) none), (PO.mk (some 17) (.fldA 0 (.t 16)) none), (PO.mk (some 18) (.load true 68 (.t 17)) none), (PO.mk (some 19) (.call (F 156) [(.t 15), (.t 18), (.k (.int .i64 (-1)))]) none)]) (.seq (.ops [(PO.mk (some 20) (.mv (.t 5)) none), (PO.mk (some 2) (.mv (.t 20)) none), (PO.mk (some 3) (.mv (.k (.int .i64 0))) none)]) .ret)))))
def k156 (F : Fn) : PF := PF.mk 79 3 [(.t 6)] (.seq (.ops [(PO.mk (some 4) (.box (.t 1)) none), (PO.mk (some 6) (.mv (.k (.int .i64 0))) none)]) (.seq (.draw [(.e, (PO.mk (some 15) (.mv (.t 2)) none)), (.s, (PO.mk (some 12) (.load true 68 (.t 4)) none)), (.s, (PO.mk (some 13) (.load true 68 (.t 4)) none)), (.s, (PO.mk (some 14) (.call (F 141) [(.t 13)]) none)), (.e, (PO.mk (some 16) (.build z108_9b14 [(0, (68, (.t 12))), (68, (32, (.t 14))), (100, (1, (.t 15)))]) none)), (.a, (PO.mk (some 7) (.alloc z108_9b14) none)), (.x, (PO.mk none (.store 108 (.t 7) (.t 16)) none))]) (.seq (.ops [(PO.mk (some 18) (.fldA 66 (.t 4)) none), (PO.mk (some 19) (.load false 1 (.t 18)) none), (PO.mk (some 20) (.call (F 135) [(.t 19)]) none), (PO.mk (some 17) (.mv (.t 20)) none), (PO.mk (some 21) (.ext 0 (.t 17)) none), (PO.mk (some 22) (.ext 1 (.t 17)) none), (PO.mk (some 8) (.alloc [(w64 0), (w64 0), (w64 0), (w64 0)]) none), (PO.mk none (.store 4 (.t 8) (.t 21)) none), (PO.mk (some 9) (.mv (.t 22)) none)]) (.seq (.ops [(PO.mk (some 23) (.load true 4 (.t 8)) none), (PO.mk (some 24) (.call (F 137) [(.t 23)]) none), (PO.mk (some 25) (.fldA 103 (.t 7)) none), (PO.mk none (.store 4 (.t 25) (.t 24)) none)]) (.seq (.seq (.ops [(PO.mk (some 26) (.mv (.t 2)) none), (PO.mk (some 27) (.bin .geq (.t 26) (.k (.int .i64 0))) none)]) (.cond (.t 27) (.seq (.ops [(PO.mk (some 28) (.mv (.t 0)) none), (PO.mk (some 29) (.nilck (.t 28)) none), (PO.mk (some 30) (.fldA 74 (.t 29)) none), (PO.mk (some 31) (.load false 1 (.t 30)) none), (PO.mk (some 32) (.mv (.t 2)) none), (PO.mk (some 33) (.idxSl 108 (.t 31) (.t 32)) none), (PO.mk (some 34) (.load true 108 (.t 33)) none), (PO.mk (some 10) (.alloc z108_9b14) none), (PO.mk none (.store 108 (.t 10) (.t 34)) none)]) (.seq (.ops [(PO.mk (some 35) (.fldA 102 (.t 10)) none), (PO.mk (some 36) (.load false 1 (.t 35)) none), (PO.mk (some 37) (.bin .add (.t 36) (.k (.int .i64 1))) none), (PO.mk (some 38) (.fldA 102 (.t 7)) none), (PO.mk none (.store 1 (.t 38) (.t 37)) none)]) (.seq (.ops [(PO.mk (some 40) (.fldA 103 (.t 7)) none), (PO.mk (some 41) (.load true 4 (.t 40)) none), (PO.mk (some 42) (.fldA 103 (.t 10)) none), (PO.mk (some 43) (.load true 4 (.t 42)) none), (PO.mk (some 44) (.bsl false 4 2 [(w64 0), (w64 0), (w64 0), (w64 0)] [(0, (4, (.t 41))), (4, (4, (.t 43)))]) none), (PO.mk (some 45) (.call (F 108) [(.t 44)]) none), (PO.mk (some 39) (.mv (.t 45)) none), (PO.mk (some 46) (.ext 0 (.t 39)) none), (PO.mk (some 47) (.ext 1 (.t 39)) none), (PO.mk (some 48) (.fldA 103 (.t 7)) none), (PO.mk none (.store 4 (.t 48) (.t 46)) none)]) (.ops [(PO.mk (some 49) (.mv (.t 0)) none), (PO.mk (some 50) (.mv (.t 2)) none), (PO.mk (some 51) (.fldA 102 (.t 7)) none), (PO.mk (some 52) (.load false 1 (.t 51)) none), (PO.mk (some 53) (.call (F 157) [(.t 52)]) none), (PO.mk (some 54) (.call (F 158) [(.t 49), (.t 50), (.t 53)]) none), (PO.mk (some 55) (.fldA 101 (.t 7)) none), (PO.mk none (.store 1 (.t 55) (.t 54)) none)])))) .skip)) (.seq (.ops [(PO.mk (some 56) (.mv (.t 0)) none), (PO.mk (some 57) (.nilck (.t 56)) none), (PO.mk (some 58) (.fldA 74 (.t 57)) none), (PO.mk (some 59) (.load false 1 (.t 58)) none), (PO.mk (some 60) (.lenSl (.t 59)) none), (PO.mk (some 11) (.mv (.t 60)) none)]) (.seq (.draw [(.e, (PO.mk (some 61) (.mv (.t 0)) none)), (.e, (PO.mk (some 62) (.mv (.t 0)) none)), (.e, (PO.mk (some 63) (.nilck (.t 62)) none)), (.e, (PO.mk (some 64) (.fldA 74 (.t 63)) none)), (.s, (PO.mk (some 65) (.load false 1 (.t 64)) none)), (.s, (PO.mk (some 66) (.load true 108 (.t 7)) none)), (.e, (PO.mk (some 67) (.bsl false 108 1 z108_9b14 [(0, (108, (.t 66)))]) none)), (.x, (PO.mk (some 68) (.app 108 176 (.t 65) (.t 67)) none)), (.e, (PO.mk (some 69) (.nilck (.t 61)) none)), (.e, (PO.mk (some 70) (.fldA 74 (.t 69)) none)), (.x, (PO.mk none (.store 1 (.t 70) (.t 68)) none))]) (.seq (.draw [(.e, (PO.mk (some 71) (.mv (.t 0)) none)), (.e, (PO.mk (some 72) (.nilck (.t 71)) none)), (.e, (PO.mk (some 73) (.fldA 75 (.t 72)) none)), (.e, (PO.mk (some 75) (.fldA 68 (.t 7)) none)), (.e, (PO.mk (some 77) (.mv (.t 11)) none)), (.s, (PO.mk (some 74) (.load false 1 (.t 73)) none)), (.s, (PO.mk (some 76) (.load true 32 (.t 75)) none)), (.x, (PO.mk none (.mset (.agg 32) (.t 74) (.t 76) (.t 77)) none))]) (.seq (.ops [(PO.mk (some 78) (.mv (.t 11)) none), (PO.mk (some 6) (.mv (.t 78)) none)]) .ret)))))))))
def k157 (F : Fn) : PF := PF.mk 20 1 [(.t 2)] (.seq (.ops [(PO.mk (some 2) (.mv (.k (.int .i64 0))) none)]) (.seq (.block 0 (.seq (.ops [(PO.mk (some 4) (.mv (.t 0)) none), (PO.mk (some 5) (.bin .lss (.t 4) (.k (.int .i64 2))) none), (PO.mk (some 3) (.mv (.t 5)) none)]) (.cond (.t 3) (.seq (.ops [(PO.mk (some 2) (.mv (.k (.int .i64 0))) none)]) .ret) (.seq (.ops [(PO.mk (some 7) (.mv (.t 0)) none), (PO.mk (some 8) (.bin .rem (.t 7) (.k (.int .i64 2))) none), (PO.mk (some 9) (.bin .eql (.t 8) (.k (.int .i64 1))) none), (PO.mk (some 6) (.mv (.t 9)) none)]) (.cond (.t 6) (.seq (.ops [(PO.mk (some 10) (.mv (.t 0)) none), (PO.mk (some 11) (.bin .sub (.t 10) (.k (.int .i64 1))) none), (PO.mk (some 12) (.mv (.t 0)) none), (PO.mk (some 13) (.bin .sub (.t 12) (.k (.int .i64 2))) none), (PO.mk (some 14) (.bin .and (.t 11) (.t 13)) none), (PO.mk (some 15) (.bin .add (.t 14) (.k (.int .i64 1))) none), (PO.mk (some 2) (.mv (.t 15)) none)]) .ret) .skip))))) (.seq (.ops [(PO.mk (some 16) (.mv (.t 0)) none), (PO.mk (some 17) (.mv (.t 0)) none), (PO.mk (some 18) (.bin .sub (.t 17) (.k (.int .i64 1))) none), (PO.mk (some 19) (.bin .and (.t 16) (.t 18)) none), (PO.mk (some 2) (.mv (.t 19)) none)]) .ret)))
def k159 (F : Fn) : PF := PF.mk 8 1 [(.t 2)] (.seq (.ops [(PO.mk (some 2) (.mv (.k (.int .i64 0))) none)]) (.seq (.ops [(PO.mk (some 3) (.mv (.t 0)) none), (PO.mk (some 4) (.nilck (.t 3)) none), (PO.mk (some 5) (.fldA 74 (.t 4)) none), (PO.mk (some 6) (.load false 1 (.t 5)) none), (PO.mk (some 7) (.lenSl (.t 6)) none), (PO.mk (some 2) (.mv (.t 7)) none)]) .ret))
def k161 (F : Fn) : PF := PF.mk 23 2 [(PR.cell 4 true 108)] (.seq (.ops [(PO.mk (some 4) (.alloc z108_9b14) none)]) (.seq (.seq (.ops [(PO.mk (some 5) (.mv (.t 1)) none), (PO.mk (some 6) (.bin .lss (.t 5) (.k (.int .i64 0))) none), (PO.mk (some 7) (.mv (.t 6)) none), (PO.mk (some 8) (.mv (.t 1)) (some (7, false))), (PO.mk (some 9) (.mv (.t 0)) (some (7, false))), (PO.mk (some 10) (.nilck (.t 9)) (some (7, false))), (PO.mk (some 11) (.fldA 74 (.t 10)) (some (7, false))), (PO.mk (some 12) (.load false 1 (.t 11)) (some (7, false))), (PO.mk (some 13) (.lenSl (.t 12)) (some (7, false))), (PO.mk (some 14) (.bin .geq (.t 8) (.t 13)) (some (7, false))), (PO.mk (some 15) (.pick (.t 7) (.k (.bool true)) (.t 14)) none)]) (.cond (.t 15) (.ops [(PO.mk (some 1) (.mv (.k (.int .i64 0))) none)]) .skip)) (.seq (.ops [(PO.mk (some 16) (.mv (.t 0)) none), (PO.mk (some 17) (.nilck (.t 16)) none), (PO.mk (some 18) (.fldA 74 (.t 17)) none), (PO.mk (some 19) (.load false 1 (.t 18)) none), (PO.mk (some 20) (.mv (.t 1)) none), (PO.mk (some 21) (.idxSl 108 (.t 19) (.t 20)) none), (PO.mk (some 22) (.load true 108 (.t 21)) none), (PO.mk none (.store 108 (.t 4) (.t 22)) none)]) .ret)))
def k158 (F : Fn) : PF := PF.mk 73 3 [(.t 6)] (.seq (.ops [(PO.mk (some 6) (.mv (.k (.int .i64 0))) none)]) (.seq (.seq (.ops [(PO.mk (some 8) (.mv (.t 1)) none), (PO.mk (some 9) (.bin .lss (.t 8) (.k (.int .i64 0))) none), (PO.mk (some 10) (.mv (.t 9)) none), (PO.mk (some 11) (.mv (.t 1)) (some (10, false))), (PO.mk (some 12) (.mv (.t 0)) (some (10, false))), (PO.mk (some 13) (.nilck (.t 12)) (some (10, false))), (PO.mk (some 14) (.fldA 74 (.t 13)) (some (10, false))), (PO.mk (some 15) (.load false 1 (.t 14)) (some (10, false))), (PO.mk (some 16) (.lenSl (.t 15)) (some (10, false))), (PO.mk (some 17) (.bin .geq (.t 11) (.t 16)) (some (10, false))), (PO.mk (some 18) (.pick (.t 10) (.k (.bool true)) (.t 17)) none), (PO.mk (some 19) (.mv (.t 18)) none), (PO.mk (some 20) (.mv (.t 2)) (some (19, false))), (PO.mk (some 21) (.bin .lss (.t 20) (.k (.int .i64 0))) (some (19, false))), (PO.mk (some 22) (.pick (.t 19) (.k (.bool true)) (.t 21)) none), (PO.mk (some 23) (.mv (.t 22)) none), (PO.mk (some 24) (.mv (.t 2)) (some (23, false))), (PO.mk (some 25) (.mv (.t 0)) (some (23, false))), (PO.mk (some 26) (.nilck (.t 25)) (some (23, false))), (PO.mk (some 27) (.fldA 74 (.t 26)) (some (23, false))), (PO.mk (some 28) (.load false 1 (.t 27)) (some (23, false))), (PO.mk (some 29) (.mv (.t 1)) (some (23, false))), (PO.mk (some 30) (.idxSl 108 (.t 28) (.t 29)) (some (23, false))), (PO.mk (some 31) (.fldA 102 (.t 30)) (some (23, false))), (PO.mk (some 32) (.load false 1 (.t 31)) (some (23, false))), (PO.mk (some 33) (.bin .gtr (.t 24) (.t 32)) (some (23, false))), (PO.mk (some 34) (.pick (.t 23) (.k (.bool true)) (.t 33)) none)]) (.cond (.t 34) (.seq (.ops [(PO.mk (some 6) (.mv (.k (.int .i64 (-1)))) none)]) .ret) .skip)) (.seq (.block 0 (.loop (.seq (.seq (.ops [(PO.mk (some 35) (.mv (.t 0)) none), (PO.mk (some 36) (.nilck (.t 35)) none), (PO.mk (some 37) (.fldA 74 (.t 36)) none), (PO.mk (some 38) (.load false 1 (.t 37)) none), (PO.mk (some 39) (.mv (.t 1)) none), (PO.mk (some 40) (.idxSl 108 (.t 38) (.t 39)) none), (PO.mk (some 41) (.fldA 102 (.t 40)) none), (PO.mk (some 42) (.load false 1 (.t 41)) none), (PO.mk (some 43) (.mv (.t 2)) none), (PO.mk (some 44) (.bin .gtr (.t 42) (.t 43)) none)]) (.cond (.t 44) .skip (.exit 0))) (.block 1 (.seq (.ops [(PO.mk (some 45) (.mv (.t 0)) none), (PO.mk (some 46) (.nilck (.t 45)) none), (PO.mk (some 47) (.fldA 74 (.t 46)) none), (PO.mk (some 48) (.load false 1 (.t 47)) none), (PO.mk (some 49) (.mv (.t 1)) none), (PO.mk (some 50) (.idxSl 108 (.t 48) (.t 49)) none), (PO.mk (some 51) (.fldA 101 (.t 50)) none), (PO.mk (some 52) (.load false 1 (.t 51)) none), (PO.mk (some 7) (.mv (.t 52)) none)]) (.seq (.ops [(PO.mk (some 53) (.mv (.t 0)) none), (PO.mk (some 54) (.nilck (.t 53)) none), (PO.mk (some 55) (.fldA 74 (.t 54)) none), (PO.mk (some 56) (.load false 1 (.t 55)) none), (PO.mk (some 57) (.mv (.t 7)) none), (PO.mk (some 58) (.idxSl 108 (.t 56) (.t 57)) none), (PO.mk (some 59) (.fldA 102 (.t 58)) none), (PO.mk (some 60) (.load false 1 (.t 59)) none), (PO.mk (some 61) (.mv (.t 2)) none), (PO.mk (some 62) (.bin .geq (.t 60) (.t 61)) none)]) (.cond (.t 62) (.ops [(PO.mk (some 63) (.mv (.t 7)) none), (PO.mk (some 1) (.mv (.t 63)) none)]) (.ops [(PO.mk (some 64) (.mv (.t 0)) none), (PO.mk (some 65) (.nilck (.t 64)) none), (PO.mk (some 66) (.fldA 74 (.t 65)) none), (PO.mk (some 67) (.load false 1 (.t 66)) none), (PO.mk (some 68) (.mv (.t 1)) none), (PO.mk (some 69) (.idxSl 108 (.t 67) (.t 68)) none), (PO.mk (some 70) (.fldA 100 (.t 69)) none), (PO.mk (some 71) (.load false 1 (.t 70)) none), (PO.mk (some 1) (.mv (.t 71)) none)])))))))) (.seq (.ops [(PO.mk (some 72) (.mv (.t 1)) none), (PO.mk (some 6) (.mv (.t 72)) none)]) .ret))))
def k163 (F : Fn) : PF := PF.mk 33 3 [(.t 6)] (.seq (.ops [(PO.mk (some 6) (.mv (.k (.bool false))) none)]) (.seq (.ops [(PO.mk (some 7) (.mv (.t 1)) none), (PO.mk (some 8) (.bin .geq (.t 7) (.k (.int .i64 0))) none), (PO.mk (some 9) (.mv (.t 8)) none), (PO.mk (some 10) (.mv (.t 1)) (some (9, true))), (PO.mk (some 11) (.mv (.t 0)) (some (9, true))), (PO.mk (some 12) (.nilck (.t 11)) (some (9, true))), (PO.mk (some 13) (.fldA 74 (.t 12)) (some (9, true))), (PO.mk (some 14) (.load false 1 (.t 13)) (some (9, true))), (PO.mk (some 15) (.lenSl (.t 14)) (some (9, true))), (PO.mk (some 16) (.bin .lss (.t 10) (.t 15)) (some (9, true))), (PO.mk (some 17) (.pick (.t 9) (.t 16) (.k (.bool false))) none), (PO.mk (some 18) (.mv (.t 17)) none), (PO.mk (some 19) (.mv (.t 0)) (some (18, true))), (PO.mk (some 20) (.mv (.t 2)) (some (18, true))), (PO.mk (some 21) (.mv (.t 0)) (some (18, true))), (PO.mk (some 22) (.nilck (.t 21)) (some (18, true))), (PO.mk (some 23) (.fldA 74 (.t 22)) (some (18, true))), (PO.mk (some 24) (.load false 1 (.t 23)) (some (18, true))), (PO.mk (some 25) (.mv (.t 1)) (some (18, true))), (PO.mk (some 26) (.idxSl 108 (.t 24) (.t 25)) (some (18, true))), (PO.mk (some 27) (.fldA 102 (.t 26)) (some (18, true))), (PO.mk (some 28) (.load false 1 (.t 27)) (some (18, true))), (PO.mk (some 29) (.call (F 158) [(.t 19), (.t 20), (.t 28)]) (some (18, true))), (PO.mk (some 30) (.mv (.t 1)) (some (18, true))), (PO.mk (some 31) (.bin .eql (.t 29) (.t 30)) (some (18, true))), (PO.mk (some 32) (.pick (.t 18) (.t 31) (.k (.bool false))) none), (PO.mk (some 6) (.mv (.t 32)) none)]) .ret))
def k164 (F : Fn) : PF := PF.mk 11 1 [(.t 2)] (.seq (.ops [(PO.mk (some 2) (.mv (.k (w32 0))) none)]) (.seq (.ops [(PO.mk (some 3) (.mv (.t 0)) none), (PO.mk (some 4) (.call (F 165) [(.t 3)]) none)]) (.seq (.ops [(PO.mk (some 5) (.mv (.t 0)) none), (PO.mk (some 6) (.mv (.t 0)) none), (PO.mk (some 7) (.lenSl (.t 6)) none), (PO.mk (some 8) (.bin .quo (.t 7) (.k (.int .i64 2))) none), (PO.mk (some 9) (.idxSl 1 (.t 5) (.t 8)) none), (PO.mk (some 10) (.load false 1 (.t 9)) none), (PO.mk (some 2) (.mv (.t 10)) none)]) .ret)))
def k166 (F : Fn) : PF := PF.mk 44 2 [(.t 4)] (.seq (.ops [(PO.mk (some 4) (.mv (.k (w32 0))) none)]) (.seq (.ops [(PO.mk (some 5) (.mv (.k (.sl .nil [] 0))) none)]) (.seq (.seq (.ops [(PO.mk (some 6) (.mv (.t 1)) none), (PO.mk (some 7) (.mv (.t 0)) none), (PO.mk (some 8) (.nilck (.t 7)) none), (PO.mk (some 9) (.fldA 74 (.t 8)) none), (PO.mk (some 10) (.load false 1 (.t 9)) none), (PO.mk (some 11) (.lenSl (.t 10)) none), (PO.mk (some 12) (.bin .sub (.t 11) (.k (.int .i64 1))) none), (PO.mk (some 13) (.min [(.t 6), (.t 12)]) none), (PO.mk (some 14) (.max [(.k (.int .i64 0)), (.t 13)]) none), (PO.mk (some 1) (.mv (.t 14)) none)]) (.block 0 (.loop (.seq (.seq (.ops [(PO.mk (some 15) (.mv (.t 1)) none), (PO.mk (some 16) (.bin .geq (.t 15) (.k (.int .i64 0))) none), (PO.mk (some 17) (.mv (.t 16)) none), (PO.mk (some 18) (.mv (.t 5)) (some (17, true))), (PO.mk (some 19) (.lenSl (.t 18)) (some (17, true))), (PO.mk (some 20) (.bin .lss (.t 19) (.k (.int .i64 11))) (some (17, true))), (PO.mk (some 21) (.pick (.t 17) (.t 20) (.k (.bool false))) none)]) (.cond (.t 21) .skip (.exit 0))) (.seq (.block 1 (.ops [(PO.mk (some 30) (.mv (.t 5)) none), (PO.mk (some 31) (.mv (.t 0)) none), (PO.mk (some 32) (.nilck (.t 31)) none), (PO.mk (some 33) (.fldA 74 (.t 32)) none), (PO.mk (some 34) (.load false 1 (.t 33)) none), (PO.mk (some 35) (.mv (.t 1)) none), (PO.mk (some 36) (.idxSl 108 (.t 34) (.t 35)) none), (PO.mk (some 37) (.fldA 0 (.t 36)) none), (PO.mk (some 38) (.fldA 65 (.t 37)) none), (PO.mk (some 39) (.load false 1 (.t 38)) none), (PO.mk (some 40) (.bsl false 1 1 [(w32 0)] [(0, (1, (.t 39)))]) none), (PO.mk (some 41) (.app 1 4 (.t 30) (.t 40)) none), (PO.mk (some 5) (.mv (.t 41)) none)])) (.ops [(PO.mk (some 22) (.mv (.t 0)) none), (PO.mk (some 23) (.nilck (.t 22)) none), (PO.mk (some 24) (.fldA 74 (.t 23)) none), (PO.mk (some 25) (.load false 1 (.t 24)) none), (PO.mk (some 26) (.mv (.t 1)) none), (PO.mk (some 27) (.idxSl 108 (.t 25) (.t 26)) none), (PO.mk (some 28) (.fldA 100 (.t 27)) none), (PO.mk (some 29) (.load false 1 (.t 28)) none), (PO.mk (some 1) (.mv (.t 29)) none)])))))) (.seq (.ops [(PO.mk (some 42) (.mv (.t 5)) none), (PO.mk (some 43) (.call (F 164) [(.t 42)]) none), (PO.mk (some 4) (.mv (.t 43)) none)]) .ret))))
def k167 (F : Fn) : PF := PF.mk 100 2 [(.t 4)] (.seq (.ops [(PO.mk (some 4) (.mv (.k (w32 0))) none)]) (.seq (.ops [(PO.mk (some 11) (.mv (.t 0)) none), (PO.mk (some 12) (.mv (.t 1)) none), (PO.mk (some 13) (.call (F 161) [(.t 11), (.t 12)]) none), (PO.mk (some 5) (.alloc z108_9b14) none), (PO.mk none (.store 108 (.t 5) (.t 13)) none)]) (.seq (.seq (.draw [(.e, (PO.mk (some 14) (.mv (.t 0)) none)), (.e, (PO.mk (some 15) (.nilck (.t 14)) none)), (.e, (PO.mk (some 16) (.fldA 0 (.t 15)) none)), (.e, (PO.mk (some 17) (.fldA 1 (.t 16)) none)), (.s, (PO.mk (some 18) (.load false 1 (.t 17)) none)), (.e, (PO.mk (some 19) (.bin .eql (.t 18) (.k (.int .i64 0))) none)), (.e, (PO.mk (some 20) (.mv (.t 19)) none)), (.e, (PO.mk (some 21) (.fldA 102 (.t 5)) (some (20, false)))), (.e, (PO.mk (some 24) (.mv (.t 0)) (some (20, false)))), (.e, (PO.mk (some 25) (.nilck (.t 24)) (some (20, false)))), (.e, (PO.mk (some 26) (.fldA 0 (.t 25)) (some (20, false)))), (.e, (PO.mk (some 27) (.fldA 1 (.t 26)) (some (20, false)))), (.s, (PO.mk (some 22) (.load false 1 (.t 21)) (some (20, false)))), (.e, (PO.mk (some 23) (.bin .add (.t 22) (.k (.int .i64 1))) (some (20, false)))), (.s, (PO.mk (some 28) (.load false 1 (.t 27)) (some (20, false)))), (.e, (PO.mk (some 29) (.bin .rem (.t 23) (.t 28)) (some (20, false)))), (.e, (PO.mk (some 30) (.bin .neq (.t 29) (.k (.int .i64 0))) (some (20, false)))), (.e, (PO.mk (some 31) (.pick (.t 20) (.k (.bool true)) (.t 30)) none))]) (.cond (.t 31) (.seq (.ops [(PO.mk (some 32) (.fldA 0 (.t 5)) none), (PO.mk (some 33) (.fldA 66 (.t 32)) none), (PO.mk (some 34) (.load false 1 (.t 33)) none), (PO.mk (some 4) (.mv (.t 34)) none)]) .ret) .skip)) (.seq (.draw [(.e, (PO.mk (some 35) (.mv (.t 0)) none)), (.e, (PO.mk (some 36) (.nilck (.t 35)) none)), (.e, (PO.mk (some 37) (.fldA 74 (.t 36)) none)), (.e, (PO.mk (some 39) (.mv (.t 0)) none)), (.e, (PO.mk (some 40) (.mv (.t 1)) none)), (.e, (PO.mk (some 41) (.mv (.t 0)) none)), (.e, (PO.mk (some 42) (.nilck (.t 41)) none)), (.e, (PO.mk (some 43) (.fldA 74 (.t 42)) none)), (.e, (PO.mk (some 49) (.fldA 102 (.t 5)) none)), (.e, (PO.mk (some 52) (.mv (.t 0)) none)), (.e, (PO.mk (some 53) (.nilck (.t 52)) none)), (.e, (PO.mk (some 54) (.fldA 0 (.t 53)) none)), (.e, (PO.mk (some 55) (.fldA 1 (.t 54)) none)), (.s, (PO.mk (some 38) (.load false 1 (.t 37)) none)), (.s, (PO.mk (some 44) (.load false 1 (.t 43)) none)), (.e, (PO.mk (some 45) (.lenSl (.t 44)) none)), (.e, (PO.mk (some 46) (.bin .sub (.t 45) (.k (.int .i64 1))) none)), (.e, (PO.mk (some 47) (.min [(.t 40), (.t 46)]) none)), (.e, (PO.mk (some 48) (.max [(.k (.int .i64 0)), (.t 47)]) none)), (.s, (PO.mk (some 50) (.load false 1 (.t 49)) none)), (.e, (PO.mk (some 51) (.bin .add (.t 50) (.k (.int .i64 1))) none)), (.s, (PO.mk (some 56) (.load false 1 (.t 55)) none)), (.e, (PO.mk (some 57) (.bin .sub (.t 51) (.t 56)) none)), (.e, (PO.mk (some 58) (.max [(.k (.int .i64 0)), (.t 57)]) none)), (.s, (PO.mk (some 59) (.call (F 158) [(.t 39), (.t 48), (.t 58)]) none)), (.e, (PO.mk (some 60) (.idxSl 108 (.t 38) (.t 59)) none)), (.s, (PO.mk (some 61) (.load true 108 (.t 60)) none)), (.a, (PO.mk (some 6) (.alloc z108_9b14) none)), (.x, (PO.mk none (.store 108 (.t 6) (.t 61)) none))]) (.seq (.ops [(PO.mk (some 63) (.mv (.t 0)) none), (PO.mk (some 64) (.nilck (.t 63)) none), (PO.mk (some 65) (.fldA 0 (.t 64)) none), (PO.mk (some 66) (.fldA 0 (.t 65)) none), (PO.mk (some 67) (.load false 1 (.t 66)) none), (PO.mk (some 68) (.call (F 135) [(.t 67)]) none), (PO.mk (some 62) (.mv (.t 68)) none), (PO.mk (some 69) (.ext 0 (.t 62)) none), (PO.mk (some 70) (.ext 1 (.t 62)) none), (PO.mk (some 7) (.alloc [(w64 0), (w64 0), (w64 0), (w64 0)]) none), (PO.mk none (.store 4 (.t 7) (.t 69)) none), (PO.mk (some 8) (.mv (.t 70)) none)]) (.seq (.draw [(.e, (PO.mk (some 72) (.fldA 0 (.t 5)) none)), (.e, (PO.mk (some 73) (.fldA 66 (.t 72)) none)), (.e, (PO.mk (some 75) (.fldA 0 (.t 5)) none)), (.e, (PO.mk (some 76) (.fldA 65 (.t 75)) none)), (.e, (PO.mk (some 79) (.fldA 0 (.t 6)) none)), (.e, (PO.mk (some 80) (.fldA 65 (.t 79)) none)), (.e, (PO.mk (some 84) (.mv (.t 0)) none)), (.e, (PO.mk (some 85) (.nilck (.t 84)) none)), (.e, (PO.mk (some 86) (.fldA 0 (.t 85)) none)), (.e, (PO.mk (some 87) (.fldA 1 (.t 86)) none)), (.e, (PO.mk (some 89) (.mv (.t 0)) none)), (.e, (PO.mk (some 90) (.nilck (.t 89)) none)), (.e, (PO.mk (some 91) (.fldA 0 (.t 90)) none)), (.e, (PO.mk (some 92) (.fldA 2 (.t 91)) none)), (.s, (PO.mk (some 74) (.load false 1 (.t 73)) none)), (.s, (PO.mk (some 77) (.load false 1 (.t 76)) none)), (.e, (PO.mk (some 78) (.conv .i64 (.t 77)) none)), (.s, (PO.mk (some 81) (.load false 1 (.t 80)) none)), (.e, (PO.mk (some 82) (.conv .i64 (.t 81)) none)), (.e, (PO.mk (some 83) (.bin .sub (.t 78) (.t 82)) none)), (.s, (PO.mk (some 88) (.load false 1 (.t 87)) none)), (.s, (PO.mk (some 93) (.load false 1 (.t 92)) none)), (.e, (PO.mk (some 94) (.bin .mul (.t 88) (.t 93)) none)), (.s, (PO.mk (some 95) (.load true 4 (.t 7)) none)), (.x, (PO.mk (some 96) (.call (F 138) [(.t 74), (.t 83), (.t 94), (.t 95)]) none)), (.e, (PO.mk (some 71) (.mv (.t 96)) none)), (.e, (PO.mk (some 97) (.ext 0 (.t 71)) none)), (.e, (PO.mk (some 98) (.ext 1 (.t 71)) none)), (.e, (PO.mk (some 9) (.mv (.t 97)) none)), (.e, (PO.mk (some 10) (.mv (.t 98)) none))]) (.seq (.ops [(PO.mk (some 99) (.mv (.t 9)) none), (PO.mk (some 4) (.mv (.t 99)) none)]) .ret)))))))
def k168 (F : Fn) : PF := PF.mk 61 4 [(.t 8)] (.seq (.ops [(PO.mk (some 5) (.box (.t 1)) none), (PO.mk (some 8) (.mv (.k (.int .i64 0))) none)]) (.seq (.seq (.ops [(PO.mk (some 10) (.mv (.t 2)) none), (PO.mk (some 11) (.bin .lss (.t 10) (.k (.int .i64 0))) none), (PO.mk (some 12) (.mv (.t 11)) none), (PO.mk (some 13) (.mv (.t 2)) (some (12, false))), (PO.mk (some 14) (.mv (.t 0)) (some (12, false))), (PO.mk (some 15) (.nilck (.t 14)) (some (12, false))), (PO.mk (some 16) (.fldA 74 (.t 15)) (some (12, false))), (PO.mk (some 17) (.load false 1 (.t 16)) (some (12, false))), (PO.mk (some 18) (.lenSl (.t 17)) (some (12, false))), (PO.mk (some 19) (.bin .geq (.t 13) (.t 18)) (some (12, false))), (PO.mk (some 20) (.pick (.t 12) (.k (.bool true)) (.t 19)) none)]) (.cond (.t 20) (.seq (.ops [(PO.mk (some 8) (.mv (.k (.int .i64 100))) none)]) .ret) .skip)) (.seq (.seq (.draw [(.e, (PO.mk (some 22) (.mv (.t 0)) none)), (.e, (PO.mk (some 23) (.nilck (.t 22)) none)), (.e, (PO.mk (some 24) (.fldA 0 (.t 23)) none)), (.e, (PO.mk (some 25) (.fldA 0 (.t 24)) none)), (.s, (PO.mk (some 21) (.load true 68 (.t 5)) none)), (.s, (PO.mk (some 26) (.load false 1 (.t 25)) none)), (.x, (PO.mk (some 27) (.call (F 142) [(.t 21), (.t 26)]) none)), (.e, (PO.mk (some 9) (.mv (.t 27)) none))]) (.seq (.ops [(PO.mk (some 28) (.mv (.t 9)) none), (PO.mk (some 29) (.bin .neq (.t 28) (.k (.int .i64 0))) none)]) (.cond (.t 29) (.seq (.ops [(PO.mk (some 30) (.mv (.t 9)) none), (PO.mk (some 8) (.mv (.t 30)) none)]) .ret) .skip))) (.seq (.block 0 (.seq (.ops [(PO.mk (some 32) (.mv (.t 0)) none), (PO.mk (some 33) (.nilck (.t 32)) none), (PO.mk (some 34) (.fldA 74 (.t 33)) none), (PO.mk (some 35) (.load false 1 (.t 34)) none), (PO.mk (some 36) (.mv (.t 2)) none), (PO.mk (some 37) (.idxSl 108 (.t 35) (.t 36)) none), (PO.mk (some 38) (.fldA 107 (.t 37)) none), (PO.mk (some 39) (.load false 1 (.t 38)) none), (PO.mk (some 31) (.mv (.t 39)) none)]) (.cond (.t 31) (.seq (.ops [(PO.mk (some 8) (.mv (.k (.int .i64 101))) none)]) .ret) (.seq (.draw [(.e, (PO.mk (some 41) (.fldA 66 (.t 5)) none)), (.e, (PO.mk (some 43) (.mv (.t 0)) none)), (.e, (PO.mk (some 44) (.mv (.t 2)) none)), (.s, (PO.mk (some 42) (.load false 1 (.t 41)) none)), (.s, (PO.mk (some 45) (.call (F 167) [(.t 43), (.t 44)]) none)), (.e, (PO.mk (some 46) (.bin .neq (.t 42) (.t 45)) none)), (.e, (PO.mk (some 40) (.mv (.t 46)) none))]) (.cond (.t 40) (.seq (.ops [(PO.mk (some 8) (.mv (.k (.int .i64 30))) none)]) .ret) (.seq (.draw [(.e, (PO.mk (some 48) (.fldA 65 (.t 5)) none)), (.e, (PO.mk (some 50) (.mv (.t 0)) none)), (.e, (PO.mk (some 51) (.mv (.t 2)) none)), (.s, (PO.mk (some 49) (.load false 1 (.t 48)) none)), (.s, (PO.mk (some 52) (.call (F 166) [(.t 50), (.t 51)]) none)), (.e, (PO.mk (some 53) (.bin .leq (.t 49) (.t 52)) none)), (.e, (PO.mk (some 47) (.mv (.t 53)) none))]) (.cond (.t 47) (.seq (.ops [(PO.mk (some 8) (.mv (.k (.int .i64 102))) none)]) .ret) (.seq (.ops [(PO.mk (some 55) (.fldA 65 (.t 5)) none), (PO.mk (some 56) (.load false 1 (.t 55)) none), (PO.mk (some 57) (.conv .i64 (.t 56)) none), (PO.mk (some 58) (.bin .sub (.t 57) (.k (.int .i64 7200))) none), (PO.mk (some 59) (.mv (.t 3)) none), (PO.mk (some 60) (.bin .gtr (.t 58) (.t 59)) none), (PO.mk (some 54) (.mv (.t 60)) none)]) (.cond (.t 54) (.seq (.ops [(PO.mk (some 8) (.mv (.k (.int .i64 103))) none)]) .ret) .skip))))))))) (.seq (.ops [(PO.mk (some 8) (.mv (.k (.int .i64 0))) none)]) .ret)))))
def k169 (F : Fn) : PF := PF.mk 55 3 [(.t 6), (.t 7)] (.seq (.ops [(PO.mk (some 4) (.box (.t 1)) none), (PO.mk (some 6) (.mv (.k (.int .i64 0))) none), (PO.mk (some 7) (.mv (.k (.int .i64 0))) none)]) (.seq (.seq (.draw [(.e, (PO.mk (some 14) (.mv (.t 0)) none)), (.e, (PO.mk (some 15) (.nilck (.t 14)) none)), (.e, (PO.mk (some 16) (.fldA 75 (.t 15)) none)), (.s, (PO.mk (some 17) (.load false 1 (.t 16)) none)), (.s, (PO.mk (some 18) (.load true 68 (.t 4)) none)), (.s, (PO.mk (some 19) (.call (F 141) [(.t 18)]) none)), (.s, (PO.mk (some 20) (.lookup (.agg 32) (.int .i64 0) true (.t 17) (.t 19)) none)), (.e, (PO.mk (some 13) (.mv (.t 20)) none)), (.e, (PO.mk (some 21) (.ext 0 (.t 13)) none)), (.e, (PO.mk (some 22) (.ext 1 (.t 13)) none)), (.e, (PO.mk (some 8) (.mv (.t 21)) none)), (.e, (PO.mk (some 9) (.mv (.t 22)) none))]) (.seq (.ops [(PO.mk (some 23) (.mv (.t 9)) none)]) (.cond (.t 23) (.seq (.ops [(PO.mk (some 24) (.mv (.t 8)) none), (PO.mk (some 6) (.mv (.t 24)) none), (PO.mk (some 7) (.mv (.k (.int .i64 5))) none)]) .ret) .skip))) (.seq (.draw [(.e, (PO.mk (some 26) (.mv (.t 0)) none)), (.e, (PO.mk (some 27) (.nilck (.t 26)) none)), (.e, (PO.mk (some 28) (.fldA 75 (.t 27)) none)), (.e, (PO.mk (some 30) (.fldA 1 (.t 4)) none)), (.s, (PO.mk (some 29) (.load false 1 (.t 28)) none)), (.s, (PO.mk (some 31) (.load true 32 (.t 30)) none)), (.s, (PO.mk (some 32) (.lookup (.agg 32) (.int .i64 0) true (.t 29) (.t 31)) none)), (.e, (PO.mk (some 25) (.mv (.t 32)) none)), (.e, (PO.mk (some 33) (.ext 0 (.t 25)) none)), (.e, (PO.mk (some 34) (.ext 1 (.t 25)) none)), (.e, (PO.mk (some 10) (.mv (.t 33)) none)), (.e, (PO.mk (some 11) (.mv (.t 34)) none))]) (.seq (.seq (.ops [(PO.mk (some 35) (.mv (.t 11)) none), (PO.mk (some 36) (.not (.t 35)) none)]) (.cond (.t 36) (.seq (.ops [(PO.mk (some 6) (.mv (.k (.int .i64 (-1)))) none), (PO.mk (some 7) (.mv (.k (.int .i64 100))) none)]) .ret) .skip)) (.seq (.seq (.ops [(PO.mk (some 37) (.mv (.t 0)) none), (PO.mk (some 38) (.load true 68 (.t 4)) none), (PO.mk (some 39) (.mv (.t 10)) none), (PO.mk (some 40) (.mv (.t 2)) none), (PO.mk (some 41) (.call (F 168) [(.t 37), (.t 38), (.t 39), (.t 40)]) none), (PO.mk (some 12) (.mv (.t 41)) none)]) (.seq (.ops [(PO.mk (some 42) (.mv (.t 12)) none), (PO.mk (some 43) (.bin .neq (.t 42) (.k (.int .i64 0))) none)]) (.cond (.t 43) (.seq (.ops [(PO.mk (some 44) (.mv (.t 12)) none), (PO.mk (some 6) (.mv (.k (.int .i64 (-1)))) none), (PO.mk (some 7) (.mv (.t 44)) none)]) .ret) .skip))) (.seq (.seq (.ops [(PO.mk (some 45) (.mv (.t 0)) none), (PO.mk (some 46) (.nilck (.t 45)) none), (PO.mk (some 47) (.fldA 74 (.t 46)) none), (PO.mk (some 48) (.load false 1 (.t 47)) none), (PO.mk (some 49) (.lenSl (.t 48)) none), (PO.mk (some 50) (.bin .eql (.t 49) (.k (.int .i64 16384))) none)]) (.cond (.t 50) (.seq (.ops [(PO.mk (some 6) (.mv (.k (.int .i64 (-1)))) none), (PO.mk (some 7) (.mv (.k (.int .i64 3))) none)]) .ret) .skip)) (.seq (.ops [(PO.mk (some 51) (.mv (.t 0)) none), (PO.mk (some 52) (.load true 68 (.t 4)) none), (PO.mk (some 53) (.mv (.t 10)) none), (PO.mk (some 54) (.call (F 156) [(.t 51), (.t 52), (.t 53)]) none), (PO.mk (some 6) (.mv (.t 54)) none), (PO.mk (some 7) (.mv (.k (.int .i64 0))) none)]) .ret)))))))
def k165 (F : Fn) : PF := PF.mk 11 1 [] (.seq (.ops [(PO.mk (some 3) (.mv (.t 0)) none), (PO.mk (some 4) (.lenSl (.t 3)) none), (PO.mk (some 2) (.mv (.t 4)) none)]) (.ops [(PO.mk (some 5) (.mv (.t 0)) none), (PO.mk (some 6) (.mv (.t 2)) none), (PO.mk (some 7) (.mv (.t 2)) none), (PO.mk (some 8) (.conv .u64 (.t 7)) none), (PO.mk (some 9) (.call (F 171) [(.t 8)]) none), (PO.mk (some 10) (.call (F 172) [(.t 5), (.k (.int .i64 0)), (.t 6), (.t 9)]) none)]))
def k172 (F : Fn) : PF := PF.mk 134 4 [] (.seq (.ops [(PO.mk (some 8) (.mv (.k (.bool true))) none)]) (.seq (.ops [(PO.mk (some 9) (.mv (.k (.bool true))) none)]) (.block 0 (.loop (.block 1 (.seq (.ops [(PO.mk (some 19) (.mv (.t 2)) none), (PO.mk (some 20) (.mv (.t 1)) none), (PO.mk (some 21) (.bin .sub (.t 19) (.t 20)) none), (PO.mk (some 10) (.mv (.t 21)) none)]) (.seq (.seq (.ops [(PO.mk (some 22) (.mv (.t 10)) none), (PO.mk (some 23) (.bin .leq (.t 22) (.k (.int .i64 12))) none)]) (.cond (.t 23) (.seq (.ops [(PO.mk (some 24) (.mv (.t 0)) none), (PO.mk (some 25) (.mv (.t 1)) none), (PO.mk (some 26) (.mv (.t 2)) none), (PO.mk (some 27) (.call (F 173) [(.t 24), (.t 25), (.t 26)]) none)]) .ret) .skip)) (.seq (.seq (.ops [(PO.mk (some 28) (.mv (.t 3)) none), (PO.mk (some 29) (.bin .eql (.t 28) (.k (.int .i64 0))) none)]) (.cond (.t 29) (.seq (.ops [(PO.mk (some 30) (.mv (.t 0)) none), (PO.mk (some 31) (.mv (.t 1)) none), (PO.mk (some 32) (.mv (.t 2)) none), (PO.mk (some 33) (.call (F 174) [(.t 30), (.t 31), (.t 32)]) none)]) .ret) .skip)) (.seq (.seq (.ops [(PO.mk (some 34) (.mv (.t 8)) none), (PO.mk (some 35) (.not (.t 34)) none)]) (.cond (.t 35) (.seq (.ops [(PO.mk (some 36) (.mv (.t 0)) none), (PO.mk (some 37) (.mv (.t 1)) none), (PO.mk (some 38) (.mv (.t 2)) none), (PO.mk (some 39) (.call (F 175) [(.t 36), (.t 37), (.t 38)]) none)]) (.ops [(PO.mk (some 40) (.mv (.t 3)) none), (PO.mk (some 41) (.bin .sub (.t 40) (.k (.int .i64 1))) none), (PO.mk (some 3) (.mv (.t 41)) none)])) .skip)) (.seq (.ops [(PO.mk (some 43) (.mv (.t 0)) none), (PO.mk (some 44) (.mv (.t 1)) none), (PO.mk (some 45) (.mv (.t 2)) none), (PO.mk (some 46) (.call (F 176) [(.t 43), (.t 44), (.t 45)]) none), (PO.mk (some 42) (.mv (.t 46)) none), (PO.mk (some 47) (.ext 0 (.t 42)) none), (PO.mk (some 48) (.ext 1 (.t 42)) none), (PO.mk (some 11) (.mv (.t 47)) none), (PO.mk (some 12) (.mv (.t 48)) none)]) (.seq (.seq (.ops [(PO.mk (some 49) (.mv (.t 12)) none), (PO.mk (some 50) (.bin .eql (.t 49) (.k (.int .i64 2))) none)]) (.cond (.t 50) (.seq (.ops [(PO.mk (some 51) (.mv (.t 0)) none), (PO.mk (some 52) (.mv (.t 1)) none), (PO.mk (some 53) (.mv (.t 2)) none), (PO.mk (some 54) (.call (F 177) [(.t 51), (.t 52), (.t 53)]) none)]) (.seq (.ops [(PO.mk (some 55) (.mv (.t 2)) none), (PO.mk (some 56) (.bin .sub (.t 55) (.k (.int .i64 1))) none), (PO.mk (some 57) (.mv (.t 11)) none), (PO.mk (some 58) (.mv (.t 1)) none), (PO.mk (some 59) (.bin .sub (.t 57) (.t 58)) none), (PO.mk (some 60) (.bin .sub (.t 56) (.t 59)) none), (PO.mk (some 11) (.mv (.t 60)) none)]) (.ops [(PO.mk (some 12) (.mv (.k (.int .i64 1))) none)]))) .skip)) (.seq (.seq (.ops [(PO.mk (some 61) (.mv (.t 8)) none), (PO.mk (some 62) (.mv (.t 61)) none), (PO.mk (some 63) (.mv (.t 9)) (some (62, true))), (PO.mk (some 64) (.pick (.t 62) (.t 63) (.k (.bool false))) none), (PO.mk (some 65) (.mv (.t 64)) none), (PO.mk (some 66) (.mv (.t 12)) (some (65, true))), (PO.mk (some 67) (.bin .eql (.t 66) (.k (.int .i64 1))) (some (65, true))), (PO.mk (some 68) (.pick (.t 65) (.t 67) (.k (.bool false))) none)]) (.cond (.t 68) (.seq (.ops [(PO.mk (some 69) (.mv (.t 0)) none), (PO.mk (some 70) (.mv (.t 1)) none), (PO.mk (some 71) (.mv (.t 2)) none), (PO.mk (some 72) (.call (F 178) [(.t 69), (.t 70), (.t 71)]) none)]) (.cond (.t 72) .ret .skip)) .skip)) (.seq (.seq (.draw [(.e, (PO.mk (some 73) (.mv (.t 1)) none)), (.e, (PO.mk (some 74) (.bin .gtr (.t 73) (.k (.int .i64 0))) none)), (.e, (PO.mk (some 75) (.mv (.t 74)) none)), (.e, (PO.mk (some 76) (.mv (.t 0)) (some (75, true)))), (.e, (PO.mk (some 77) (.mv (.t 1)) (some (75, true)))), (.e, (PO.mk (some 78) (.bin .sub (.t 77) (.k (.int .i64 1))) (some (75, true)))), (.e, (PO.mk (some 79) (.idxSl 1 (.t 76) (.t 78)) (some (75, true)))), (.e, (PO.mk (some 81) (.mv (.t 0)) (some (75, true)))), (.e, (PO.mk (some 82) (.mv (.t 11)) (some (75, true)))), (.e, (PO.mk (some 83) (.idxSl 1 (.t 81) (.t 82)) (some (75, true)))), (.s, (PO.mk (some 80) (.load false 1 (.t 79)) (some (75, true)))), (.s, (PO.mk (some 84) (.load false 1 (.t 83)) (some (75, true)))), (.x, (PO.mk (some 85) (.call (F 179) [(.t 80), (.t 84)]) (some (75, true)))), (.e, (PO.mk (some 86) (.not (.t 85)) (some (75, true)))), (.e, (PO.mk (some 87) (.pick (.t 75) (.t 86) (.k (.bool false))) none))]) (.cond (.t 87) (.seq (.ops [(PO.mk (some 88) (.mv (.t 0)) none), (PO.mk (some 89) (.mv (.t 1)) none), (PO.mk (some 90) (.mv (.t 2)) none), (PO.mk (some 91) (.mv (.t 11)) none), (PO.mk (some 92) (.call (F 180) [(.t 88), (.t 89), (.t 90), (.t 91)]) none), (PO.mk (some 13) (.mv (.t 92)) none)]) (.seq (.ops [(PO.mk (some 93) (.mv (.t 13)) none), (PO.mk (some 1) (.mv (.t 93)) none)]) (.exit 1))) .skip)) (.seq (.ops [(PO.mk (some 95) (.mv (.t 0)) none), (PO.mk (some 96) (.mv (.t 1)) none), (PO.mk (some 97) (.mv (.t 2)) none), (PO.mk (some 98) (.mv (.t 11)) none), (PO.mk (some 99) (.call (F 181) [(.t 95), (.t 96), (.t 97), (.t 98)]) none), (PO.mk (some 94) (.mv (.t 99)) none), (PO.mk (some 100) (.ext 0 (.t 94)) none), (PO.mk (some 101) (.ext 1 (.t 94)) none), (PO.mk (some 14) (.mv (.t 100)) none), (PO.mk (some 15) (.mv (.t 101)) none)]) (.seq (.ops [(PO.mk (some 102) (.mv (.t 15)) none), (PO.mk (some 9) (.mv (.t 102)) none)]) (.seq (.ops [(PO.mk (some 103) (.mv (.t 14)) none), (PO.mk (some 104) (.mv (.t 1)) none), (PO.mk (some 105) (.bin .sub (.t 103) (.t 104)) none), (PO.mk (some 106) (.mv (.t 2)) none), (PO.mk (some 107) (.mv (.t 14)) none), (PO.mk (some 108) (.bin .sub (.t 106) (.t 107)) none), (PO.mk (some 16) (.mv (.t 105)) none), (PO.mk (some 17) (.mv (.t 108)) none)]) (.seq (.ops [(PO.mk (some 109) (.mv (.t 10)) none), (PO.mk (some 110) (.bin .quo (.t 109) (.k (.int .i64 8))) none), (PO.mk (some 18) (.mv (.t 110)) none)]) (.seq (.ops [(PO.mk (some 111) (.mv (.t 16)) none), (PO.mk (some 112) (.mv (.t 17)) none), (PO.mk (some 113) (.bin .lss (.t 111) (.t 112)) none)]) (.cond (.t 113) (.seq (.ops [(PO.mk (some 114) (.mv (.t 16)) none), (PO.mk (some 115) (.mv (.t 18)) none), (PO.mk (some 116) (.bin .geq (.t 114) (.t 115)) none), (PO.mk (some 8) (.mv (.t 116)) none)]) (.seq (.ops [(PO.mk (some 117) (.mv (.t 0)) none), (PO.mk (some 118) (.mv (.t 1)) none), (PO.mk (some 119) (.mv (.t 14)) none), (PO.mk (some 120) (.mv (.t 3)) none), (PO.mk (some 121) (.call (F 172) [(.t 117), (.t 118), (.t 119), (.t 120)]) none)]) (.ops [(PO.mk (some 122) (.mv (.t 14)) none), (PO.mk (some 123) (.bin .add (.t 122) (.k (.int .i64 1))) none), (PO.mk (some 1) (.mv (.t 123)) none)]))) (.seq (.ops [(PO.mk (some 124) (.mv (.t 17)) none), (PO.mk (some 125) (.mv (.t 18)) none), (PO.mk (some 126) (.bin .geq (.t 124) (.t 125)) none), (PO.mk (some 8) (.mv (.t 126)) none)]) (.seq (.ops [(PO.mk (some 127) (.mv (.t 0)) none), (PO.mk (some 128) (.mv (.t 14)) none), (PO.mk (some 129) (.bin .add (.t 128) (.k (.int .i64 1))) none), (PO.mk (some 130) (.mv (.t 2)) none), (PO.mk (some 131) (.mv (.t 3)) none), (PO.mk (some 132) (.call (F 172) [(.t 127), (.t 129), (.t 130), (.t 131)]) none)]) (.ops [(PO.mk (some 133) (.mv (.t 14)) none), (PO.mk (some 2) (.mv (.t 133)) none)]))))))))))))))))))))))
def k173 (F : Fn) : PF := PF.mk 49 3 [] (.seq (.ops [(PO.mk (some 8) (.mv (.t 1)) none), (PO.mk (some 9) (.bin .add (.t 8) (.k (.int .i64 1))) none), (PO.mk (some 6) (.mv (.t 9)) none)]) (.block 0 (.loop (.seq (.seq (.ops [(PO.mk (some 10) (.mv (.t 6)) none), (PO.mk (some 11) (.mv (.t 2)) none), (PO.mk (some 12) (.bin .lss (.t 10) (.t 11)) none)]) (.cond (.t 12) .skip (.exit 0))) (.seq (.block 1 (.seq (.ops [(PO.mk (some 15) (.mv (.t 6)) none), (PO.mk (some 7) (.mv (.t 15)) none)]) (.block 2 (.loop (.seq (.seq (.draw [(.e, (PO.mk (some 16) (.mv (.t 7)) none)), (.e, (PO.mk (some 17) (.mv (.t 1)) none)), (.e, (PO.mk (some 18) (.bin .gtr (.t 16) (.t 17)) none)), (.e, (PO.mk (some 19) (.mv (.t 18)) none)), (.e, (PO.mk (some 20) (.mv (.t 0)) (some (19, true)))), (.e, (PO.mk (some 21) (.mv (.t 7)) (some (19, true)))), (.e, (PO.mk (some 22) (.idxSl 1 (.t 20) (.t 21)) (some (19, true)))), (.e, (PO.mk (some 24) (.mv (.t 0)) (some (19, true)))), (.e, (PO.mk (some 25) (.mv (.t 7)) (some (19, true)))), (.e, (PO.mk (some 26) (.bin .sub (.t 25) (.k (.int .i64 1))) (some (19, true)))), (.e, (PO.mk (some 27) (.idxSl 1 (.t 24) (.t 26)) (some (19, true)))), (.s, (PO.mk (some 23) (.load false 1 (.t 22)) (some (19, true)))), (.s, (PO.mk (some 28) (.load false 1 (.t 27)) (some (19, true)))), (.x, (PO.mk (some 29) (.call (F 179) [(.t 23), (.t 28)]) (some (19, true)))), (.e, (PO.mk (some 30) (.pick (.t 19) (.t 29) (.k (.bool false))) none))]) (.cond (.t 30) .skip (.exit 2))) (.seq (.block 3 (.draw [(.e, (PO.mk (some 33) (.mv (.t 0)) none)), (.e, (PO.mk (some 34) (.mv (.t 7)) none)), (.e, (PO.mk (some 35) (.mv (.t 0)) none)), (.e, (PO.mk (some 36) (.mv (.t 7)) none)), (.e, (PO.mk (some 37) (.bin .sub (.t 36) (.k (.int .i64 1))) none)), (.e, (PO.mk (some 38) (.mv (.t 0)) none)), (.e, (PO.mk (some 39) (.mv (.t 7)) none)), (.e, (PO.mk (some 40) (.bin .sub (.t 39) (.k (.int .i64 1))) none)), (.e, (PO.mk (some 41) (.idxSl 1 (.t 38) (.t 40)) none)), (.e, (PO.mk (some 43) (.mv (.t 0)) none)), (.e, (PO.mk (some 44) (.mv (.t 7)) none)), (.e, (PO.mk (some 45) (.idxSl 1 (.t 43) (.t 44)) none)), (.s, (PO.mk (some 42) (.load false 1 (.t 41)) none)), (.s, (PO.mk (some 46) (.load false 1 (.t 45)) none)), (.e, (PO.mk (some 47) (.idxSl 1 (.t 33) (.t 34)) none)), (.x, (PO.mk none (.store 1 (.t 47) (.t 42)) none)), (.e, (PO.mk (some 48) (.idxSl 1 (.t 35) (.t 37)) none)), (.x, (PO.mk none (.store 1 (.t 48) (.t 46)) none))])) (.ops [(PO.mk (some 31) (.mv (.t 7)) none), (PO.mk (some 32) (.bin .sub (.t 31) (.k (.int .i64 1))) none), (PO.mk (some 7) (.mv (.t 32)) none)]))))))) (.ops [(PO.mk (some 13) (.mv (.t 6)) none), (PO.mk (some 14) (.bin .add (.t 13) (.k (.int .i64 1))) none), (PO.mk (some 6) (.mv (.t 14)) none)]))))))
def k179 (F : Fn) : PF := PF.mk 17 2 [(.t 4)] (.seq (.ops [(PO.mk (some 4) (.mv (.k (.bool false))) none)]) (.seq (.ops [(PO.mk (some 5) (.mv (.t 0)) none), (PO.mk (some 6) (.call (F 182) [(.t 5)]) none), (PO.mk (some 7) (.mv (.t 6)) none), (PO.mk (some 8) (.mv (.t 1)) (some (7, true))), (PO.mk (some 9) (.call (F 182) [(.t 8)]) (some (7, true))), (PO.mk (some 10) (.not (.t 9)) (some (7, true))), (PO.mk (some 11) (.pick (.t 7) (.t 10) (.k (.bool false))) none), (PO.mk (some 12) (.mv (.t 11)) none), (PO.mk (some 13) (.mv (.t 0)) (some (12, false))), (PO.mk (some 14) (.mv (.t 1)) (some (12, false))), (PO.mk (some 15) (.bin .lss (.t 13) (.t 14)) (some (12, false))), (PO.mk (some 16) (.pick (.t 12) (.k (.bool true)) (.t 15)) none), (PO.mk (some 4) (.mv (.t 16)) none)]) .ret))
def k182 (F : Fn) : PF := PF.mk 6 1 [(.t 2)] (.seq (.ops [(PO.mk (some 2) (.mv (.k (.bool false))) none)]) (.seq (.ops [(PO.mk (some 3) (.mv (.t 0)) none), (PO.mk (some 4) (.mv (.t 0)) none), (PO.mk (some 5) (.bin .neq (.t 3) (.t 4)) none), (PO.mk (some 2) (.mv (.t 5)) none)]) .ret))
def k171 (F : Fn) : PF := PF.mk 8 1 [(.t 2)] (.seq (.ops [(PO.mk (some 2) (.mv (.k (.int .i64 0))) none)]) (.seq (.cond (.k (.bool false)) (.seq (.ops [(PO.mk (some 3) (.mv (.t 0)) none), (PO.mk (some 4) (.conv .u32 (.t 3)) none), (PO.mk (some 5) (.call (F 183) [(.t 4)]) none), (PO.mk (some 2) (.mv (.t 5)) none)]) .ret) .skip) (.seq (.ops [(PO.mk (some 6) (.mv (.t 0)) none), (PO.mk (some 7) (.call (F 115) [(.t 6)]) none), (PO.mk (some 2) (.mv (.t 7)) none)]) .ret)))
structure OkIndex (P : Program) (F : Fn) : Prop where
  mixed : P.follows .mixedOrders = true
  toOkHead : OkHead P F
  h154 : compFn P ⟨[], [], [], [], []⟩ (F 154) = some (k154 F)
  h155 : compFn P ⟨[], [], [], [], []⟩ (F 155) = some (k155 F)
  h156 : compFn P ⟨[], [], [], [], []⟩ (F 156) = some (k156 F)
  h157 : compFn P ⟨[], [], [], [], []⟩ (F 157) = some (k157 F)
  h159 : compFn P ⟨[], [], [], [], []⟩ (F 159) = some (k159 F)
  h161 : compFn P ⟨[], [], [], [], []⟩ (F 161) = some (k161 F)
  h158 : compFn P ⟨[], [], [], [], []⟩ (F 158) = some (k158 F)
  h163 : compFn P ⟨[], [], [], [], []⟩ (F 163) = some (k163 F)
  h164 : compFn P ⟨[], [], [], [], []⟩ (F 164) = some (k164 F)
  h166 : compFn P ⟨[], [], [], [], []⟩ (F 166) = some (k166 F)
  h167 : compFn P ⟨[], [], [], [], []⟩ (F 167) = some (k167 F)
  h168 : compFn P ⟨[], [], [], [], []⟩ (F 168) = some (k168 F)
  h169 : compFn P ⟨[], [], [], [], []⟩ (F 169) = some (k169 F)
  h165 : compFn P ⟨[], [], [], [], []⟩ (F 165) = some (k165 F)
  h172 : compFn P ⟨[], [], [], [], []⟩ (F 172) = some (k172 F)
  h173 : compFn P ⟨[], [], [], [], []⟩ (F 173) = some (k173 F)
  h179 : compFn P ⟨[], [], [], [], []⟩ (F 179) = some (k179 F)
  h182 : compFn P ⟨[], [], [], [], []⟩ (F 182) = some (k182 F)
  h171 : compFn P ⟨[], [], [], [], []⟩ (F 171) = some (k171 F)
end Go.Ab
set_option linter.unusedVariables false
namespace Go.Ab
open Go
structure OkIndexZ (P : Program) (F : Fn) : Prop where
  mixed : P.follows .mixedOrders = true
  toOkIndex : OkIndex P F
end Go.Ab
set_option linter.unusedVariables false
namespace Go.Ab
open Go
def k228 (F : Fn) : PF := PF.mk 49 3 [(.t 6)] (.seq (.ops [(PO.mk (some 6) (.mv (.k (.int .i64 0))) none)]) (.seq (.ops [(PO.mk (some 8) (.mv (.t 1)) none), (PO.mk (some 9) (.mv (.t 0)) none), (PO.mk (some 10) (.call (F 159) [(.t 9)]) none), (PO.mk (some 11) (.bin .sub (.t 10) (.k (.int .i64 1))) none), (PO.mk (some 12) (.min [(.t 8), (.t 11)]) none), (PO.mk (some 13) (.max [(.k (.int .i64 0)), (.t 12)]) none), (PO.mk (some 14) (.mv (.t 2)) none), (PO.mk (some 15) (.mv (.t 0)) none), (PO.mk (some 16) (.call (F 159) [(.t 15)]) none), (PO.mk (some 17) (.bin .sub (.t 16) (.k (.int .i64 1))) none), (PO.mk (some 18) (.min [(.t 14), (.t 17)]) none), (PO.mk (some 19) (.max [(.k (.int .i64 0)), (.t 18)]) none), (PO.mk (some 1) (.mv (.t 13)) none), (PO.mk (some 2) (.mv (.t 19)) none)]) (.seq (.ops [(PO.mk (some 20) (.mv (.t 0)) none), (PO.mk (some 21) (.mv (.t 1)) none), (PO.mk (some 22) (.call (F 161) [(.t 20), (.t 21)]) none), (PO.mk (some 23) (.fld false 102 1 (.t 22)) none), (PO.mk (some 24) (.mv (.t 0)) none), (PO.mk (some 25) (.mv (.t 2)) none), (PO.mk (some 26) (.call (F 161) [(.t 24), (.t 25)]) none), (PO.mk (some 27) (.fld false 102 1 (.t 26)) none), (PO.mk (some 28) (.min [(.t 23), (.t 27)]) none), (PO.mk (some 7) (.mv (.t 28)) none)]) (.seq (.ops [(PO.mk (some 29) (.mv (.t 0)) none), (PO.mk (some 30) (.mv (.t 1)) none), (PO.mk (some 31) (.mv (.t 7)) none), (PO.mk (some 32) (.call (F 158) [(.t 29), (.t 30), (.t 31)]) none), (PO.mk (some 33) (.mv (.t 0)) none), (PO.mk (some 34) (.mv (.t 2)) none), (PO.mk (some 35) (.mv (.t 7)) none), (PO.mk (some 36) (.call (F 158) [(.t 33), (.t 34), (.t 35)]) none), (PO.mk (some 1) (.mv (.t 32)) none), (PO.mk (some 2) (.mv (.t 36)) none)]) (.seq (.block 0 (.loop (.seq (.seq (.ops [(PO.mk (some 37) (.mv (.t 1)) none), (PO.mk (some 38) (.mv (.t 2)) none), (PO.mk (some 39) (.bin .neq (.t 37) (.t 38)) none)]) (.cond (.t 39) .skip (.exit 0))) (.block 1 (.ops [(PO.mk (some 40) (.mv (.t 0)) none), (PO.mk (some 41) (.mv (.t 1)) none), (PO.mk (some 42) (.call (F 161) [(.t 40), (.t 41)]) none), (PO.mk (some 43) (.fld false 100 1 (.t 42)) none), (PO.mk (some 44) (.mv (.t 0)) none), (PO.mk (some 45) (.mv (.t 2)) none), (PO.mk (some 46) (.call (F 161) [(.t 44), (.t 45)]) none), (PO.mk (some 47) (.fld false 100 1 (.t 46)) none), (PO.mk (some 1) (.mv (.t 43)) none), (PO.mk (some 2) (.mv (.t 47)) none)]))))) (.seq (.ops [(PO.mk (some 48) (.mv (.t 1)) none), (PO.mk (some 6) (.mv (.t 48)) none)]) .ret))))))
def k229 (F : Fn) : PF := PF.mk 39 3 [(.t 6)] (.seq (.ops [(PO.mk (some 6) (.mv (.k (.sl .nil [] 0))) none)]) (.seq (.seq (.ops [(PO.mk (some 9) (.mv (.t 2)) none), (PO.mk (some 10) (.bin .lss (.t 9) (.k (.int .i64 0))) none), (PO.mk (some 11) (.mv (.t 10)) none), (PO.mk (some 12) (.mv (.t 2)) (some (11, false))), (PO.mk (some 13) (.mv (.t 0)) (some (11, false))), (PO.mk (some 14) (.call (F 159) [(.t 13)]) (some (11, false))), (PO.mk (some 15) (.bin .geq (.t 12) (.t 14)) (some (11, false))), (PO.mk (some 16) (.pick (.t 11) (.k (.bool true)) (.t 15)) none), (PO.mk (some 17) (.mv (.t 16)) none), (PO.mk (some 18) (.mv (.t 0)) (some (17, false))), (PO.mk (some 19) (.mv (.t 1)) (some (17, false))), (PO.mk (some 20) (.mv (.t 2)) (some (17, false))), (PO.mk (some 21) (.call (F 163) [(.t 18), (.t 19), (.t 20)]) (some (17, false))), (PO.mk (some 22) (.not (.t 21)) (some (17, false))), (PO.mk (some 23) (.pick (.t 17) (.k (.bool true)) (.t 22)) none)]) (.cond (.t 23) (.seq (.ops [(PO.mk (some 6) (.mv (.k (.sl .nil [] 0))) none)]) .ret) .skip)) (.seq (.ops [(PO.mk (some 7) (.mv (.k (.sl .nil [] 0))) none)]) (.seq (.seq (.ops [(PO.mk (some 24) (.mv (.t 2)) none), (PO.mk (some 8) (.mv (.t 24)) none)]) (.block 0 (.loop (.seq (.seq (.ops [(PO.mk (some 25) (.mv (.t 8)) none), (PO.mk (some 26) (.mv (.t 1)) none), (PO.mk (some 27) (.bin .neq (.t 25) (.t 26)) none)]) (.cond (.t 27) .skip (.exit 0))) (.seq (.block 1 (.ops [(PO.mk (some 32) (.mv (.t 7)) none), (PO.mk (some 33) (.mv (.t 8)) none), (PO.mk (some 34) (.bsl false 1 1 [(.int .i64 0)] [(0, (1, (.t 33)))]) none), (PO.mk (some 35) (.app 1 8 (.t 32) (.t 34)) none), (PO.mk (some 7) (.mv (.t 35)) none)])) (.ops [(PO.mk (some 28) (.mv (.t 0)) none), (PO.mk (some 29) (.mv (.t 8)) none), (PO.mk (some 30) (.call (F 161) [(.t 28), (.t 29)]) none), (PO.mk (some 31) (.fld false 100 1 (.t 30)) none), (PO.mk (some 8) (.mv (.t 31)) none)])))))) (.seq (.ops [(PO.mk (some 36) (.mv (.t 7)) none), (PO.mk (some 37) (.call (F 230) [(.t 36)]) none)]) (.seq (.ops [(PO.mk (some 38) (.mv (.t 7)) none), (PO.mk (some 6) (.mv (.t 38)) none)]) .ret))))))
def k230 (F : Fn) : PF := PF.mk 28 1 [] (.seq (.ops [(PO.mk (some 4) (.mv (.t 0)) none), (PO.mk (some 5) (.lenSl (.t 4)) none), (PO.mk (some 6) (.bin .sub (.t 5) (.k (.int .i64 1))) none), (PO.mk (some 2) (.mv (.k (.int .i64 0))) none), (PO.mk (some 3) (.mv (.t 6)) none)]) (.block 0 (.loop (.seq (.seq (.ops [(PO.mk (some 7) (.mv (.t 2)) none), (PO.mk (some 8) (.mv (.t 3)) none), (PO.mk (some 9) (.bin .lss (.t 7) (.t 8)) none)]) (.cond (.t 9) .skip (.exit 0))) (.seq (.block 1 (.draw [(.e, (PO.mk (some 14) (.mv (.t 0)) none)), (.e, (PO.mk (some 15) (.mv (.t 2)) none)), (.e, (PO.mk (some 16) (.mv (.t 0)) none)), (.e, (PO.mk (some 17) (.mv (.t 3)) none)), (.e, (PO.mk (some 18) (.mv (.t 0)) none)), (.e, (PO.mk (some 19) (.mv (.t 3)) none)), (.e, (PO.mk (some 20) (.idxSl 1 (.t 18) (.t 19)) none)), (.e, (PO.mk (some 22) (.mv (.t 0)) none)), (.e, (PO.mk (some 23) (.mv (.t 2)) none)), (.e, (PO.mk (some 24) (.idxSl 1 (.t 22) (.t 23)) none)), (.s, (PO.mk (some 21) (.load false 1 (.t 20)) none)), (.s, (PO.mk (some 25) (.load false 1 (.t 24)) none)), (.e, (PO.mk (some 26) (.idxSl 1 (.t 14) (.t 15)) none)), (.x, (PO.mk none (.store 1 (.t 26) (.t 21)) none)), (.e, (PO.mk (some 27) (.idxSl 1 (.t 16) (.t 17)) none)), (.x, (PO.mk none (.store 1 (.t 27) (.t 25)) none))])) (.ops [(PO.mk (some 10) (.mv (.t 2)) none), (PO.mk (some 11) (.bin .add (.t 10) (.k (.int .i64 1))) none), (PO.mk (some 12) (.mv (.t 3)) none), (PO.mk (some 13) (.bin .sub (.t 12) (.k (.int .i64 1))) none), (PO.mk (some 2) (.mv (.t 11)) none), (PO.mk (some 3) (.mv (.t 13)) none)]))))))
structure OkLocate (P : Program) (F : Fn) : Prop where
  mixed : P.follows .mixedOrders = true
  toOkIndexZ : OkIndexZ P F
  h228 : compFn P ⟨[], [], [], [], []⟩ (F 228) = some (k228 F)
  h229 : compFn P ⟨[], [], [], [], []⟩ (F 229) = some (k229 F)
  h230 : compFn P ⟨[], [], [], [], []⟩ (F 230) = some (k230 F)
end Go.Ab
set_option linter.unusedVariables false
namespace Go.Ab
open Go
def k265 (F : Fn) : PF := PF.mk 47 1 [(.t 2), (.t 3)] (.seq (.ops [(PO.mk (some 1) (.box (.t 0)) none), (PO.mk (some 2) (.mv (.k (.ptr none))) none), (PO.mk (some 3) (.mv (.k (.int .i64 0))) none)]) (.seq (.ops [(PO.mk (some 11) (.load true 74 (.t 1)) none), (PO.mk (some 12) (.call (F 155) [(.t 11)]) none), (PO.mk (some 10) (.mv (.t 12)) none), (PO.mk (some 13) (.ext 0 (.t 10)) none), (PO.mk (some 14) (.ext 1 (.t 10)) none), (PO.mk (some 4) (.mv (.t 13)) none), (PO.mk (some 5) (.mv (.t 14)) none)]) (.seq (.seq (.ops [(PO.mk (some 15) (.mv (.t 5)) none), (PO.mk (some 16) (.bin .neq (.t 15) (.k (.int .i64 0))) none)]) (.cond (.t 16) (.seq (.ops [(PO.mk (some 17) (.mv (.t 5)) none), (PO.mk (some 2) (.mv (.k (.ptr none))) none), (PO.mk (some 3) (.mv (.t 17)) none)]) .ret) .skip)) (.seq (.seq (.ops [(PO.mk (some 18) (.fldA 5 (.t 1)) none), (PO.mk (some 19) (.load true 69 (.t 18)) none), (PO.mk (some 20) (.call (F 253) [(.t 19)]) none), (PO.mk (some 6) (.mv (.t 20)) none)]) (.seq (.ops [(PO.mk (some 21) (.mv (.t 6)) none), (PO.mk (some 22) (.bin .neq (.t 21) (.k (.int .i64 0))) none)]) (.cond (.t 22) (.seq (.ops [(PO.mk (some 23) (.mv (.t 6)) none), (PO.mk (some 2) (.mv (.k (.ptr none))) none), (PO.mk (some 3) (.mv (.t 23)) none)]) .ret) .skip))) (.seq (.ops [(PO.mk (some 24) (.mv (.t 4)) none), (PO.mk (some 25) POp.mkmap none), (PO.mk (some 26) (.fldA 5 (.t 1)) none), (PO.mk (some 27) (.load true 69 (.t 26)) none), (PO.mk none (.mset .int (.t 25) (.k (.int .i64 0)) (.t 27)) none), (PO.mk (some 28) (.mv (.t 25)) none), (PO.mk (some 29) POp.mkmap none), (PO.mk (some 30) (.build [(.ptr none), (.map none), (.map none), (.map none), (.int .i64 0)] [(0, (1, (.t 24))), (2, (1, (.t 28))), (3, (1, (.t 29)))]) none), (PO.mk (some 31) (.box (.t 30)) none), (PO.mk (some 7) (.mv (.t 31)) none)]) (.seq (.seq (.draw [(.e, (PO.mk (some 33) (.mv (.t 7)) none)), (.e, (PO.mk (some 34) (.nilck (.t 33)) none)), (.e, (PO.mk (some 35) (.fldA 1 (.t 34)) none)), (.e, (PO.mk (some 36) (.fldA 5 (.t 1)) none)), (.e, (PO.mk (some 38) (.fldA 3 (.t 1)) none)), (.s, (PO.mk (some 37) (.load true 69 (.t 36)) none)), (.s, (PO.mk (some 39) (.load false 1 (.t 38)) none)), (.x, (PO.mk (some 40) (.call (F 260) [(.t 35), (.t 37), (.k (.int .i64 0)), (.t 39)]) none)), (.e, (PO.mk (some 32) (.mv (.t 40)) none)), (.e, (PO.mk (some 41) (.ext 0 (.t 32)) none)), (.e, (PO.mk (some 42) (.ext 1 (.t 32)) none)), (.a, (PO.mk (some 8) (.alloc [(.sl .nil [] 0), (.sl .nil [] 0)]) none)), (.x, (PO.mk none (.store 2 (.t 8) (.t 41)) none)), (.e, (PO.mk (some 9) (.mv (.t 42)) none))]) (.seq (.ops [(PO.mk (some 43) (.mv (.t 9)) none), (PO.mk (some 44) (.bin .neq (.t 43) (.k (.int .i64 0))) none)]) (.cond (.t 44) (.seq (.ops [(PO.mk (some 45) (.mv (.t 9)) none), (PO.mk (some 2) (.mv (.k (.ptr none))) none), (PO.mk (some 3) (.mv (.t 45)) none)]) .ret) .skip))) (.seq (.ops [(PO.mk (some 46) (.mv (.t 7)) none), (PO.mk (some 2) (.mv (.t 46)) none), (PO.mk (some 3) (.mv (.k (.int .i64 0))) none)]) .ret)))))))
def k266 (F : Fn) : PF := PF.mk 7 1 [(.t 2)] (.seq (.ops [(PO.mk (some 2) (.mv (.k (.int .i64 0))) none)]) (.seq (.ops [(PO.mk (some 3) (.mv (.t 0)) none), (PO.mk (some 4) (.nilck (.t 3)) none), (PO.mk (some 5) (.fldA 4 (.t 4)) none), (PO.mk (some 6) (.load false 1 (.t 5)) none), (PO.mk (some 2) (.mv (.t 6)) none)]) .ret))
def k268 (F : Fn) : PF := PF.mk 17 2 [(.t 4)] (.seq (.ops [(PO.mk (some 4) (.mv (.k (.bool false))) none)]) (.seq (.ops [(PO.mk (some 8) (.mv (.t 0)) none), (PO.mk (some 9) (.nilck (.t 8)) none), (PO.mk (some 10) (.fldA 2 (.t 9)) none), (PO.mk (some 11) (.load false 1 (.t 10)) none), (PO.mk (some 12) (.mv (.t 1)) none), (PO.mk (some 13) (.lookup .int (.agg z69_adc1) true (.t 11) (.t 12)) none), (PO.mk (some 7) (.mv (.t 13)) none), (PO.mk (some 14) (.ext 0 (.t 7)) none), (PO.mk (some 15) (.ext 1 (.t 7)) none), (PO.mk (some 5) (.alloc z69_adc1) none), (PO.mk none (.store 69 (.t 5) (.t 14)) none), (PO.mk (some 6) (.mv (.t 15)) none)]) (.seq (.ops [(PO.mk (some 16) (.mv (.t 6)) none), (PO.mk (some 4) (.mv (.t 16)) none)]) .ret)))
def k272 (F : Fn) : PF := PF.mk 39 1 [(.t 2)] (.seq (.ops [(PO.mk (some 2) (.mv (.k (.int .i64 0))) none)]) (.seq (.ops [(PO.mk (some 3) (.mv (.k (.int .i64 0))) none)]) (.seq (.seq (.ops [(PO.mk (some 6) (.mv (.t 0)) none), (PO.mk (some 7) (.nilck (.t 6)) none), (PO.mk (some 8) (.fldA 0 (.t 7)) none), (PO.mk (some 9) (.load false 1 (.t 8)) none), (PO.mk (some 10) (.call (F 159) [(.t 9)]) none), (PO.mk (some 11) (.mv (.k (.int .i64 0))) none)]) (.block 0 (.loop (.seq (.ops [(PO.mk (some 12) (.bin .lss (.t 11) (.t 10)) none)]) (.seq (.cond (.t 12) .skip (.exit 0)) (.seq (.block 1 (.seq (.ops [(PO.mk (some 13) (.mv (.t 11)) none), (PO.mk (some 4) (.mv (.t 13)) none)]) (.seq (.ops [(PO.mk (some 14) (.mv (.t 0)) none), (PO.mk (some 15) (.nilck (.t 14)) none), (PO.mk (some 16) (.fldA 0 (.t 15)) none), (PO.mk (some 17) (.load false 1 (.t 16)) none), (PO.mk (some 18) (.mv (.t 4)) none), (PO.mk (some 19) (.call (F 161) [(.t 17), (.t 18)]) none), (PO.mk (some 5) (.alloc z108_9b14) none), (PO.mk none (.store 108 (.t 5) (.t 19)) none)]) (.seq (.draw [(.e, (PO.mk (some 20) (.fldA 107 (.t 5)) none)), (.s, (PO.mk (some 21) (.load false 1 (.t 20)) none)), (.e, (PO.mk (some 22) (.not (.t 21)) none)), (.e, (PO.mk (some 23) (.mv (.t 22)) none)), (.e, (PO.mk (some 24) (.fldA 103 (.t 5)) (some (23, true)))), (.e, (PO.mk (some 26) (.mv (.t 0)) (some (23, true)))), (.e, (PO.mk (some 27) (.nilck (.t 26)) (some (23, true)))), (.e, (PO.mk (some 28) (.fldA 0 (.t 27)) (some (23, true)))), (.e, (PO.mk (some 30) (.mv (.t 3)) (some (23, true)))), (.s, (PO.mk (some 25) (.load true 4 (.t 24)) (some (23, true)))), (.s, (PO.mk (some 29) (.load false 1 (.t 28)) (some (23, true)))), (.s, (PO.mk (some 31) (.call (F 161) [(.t 29), (.t 30)]) (some (23, true)))), (.e, (PO.mk (some 32) (.fld true 103 4 (.t 31)) (some (23, true)))), (.s, (PO.mk (some 33) (.call (F 106) [(.t 25), (.t 32)]) (some (23, true)))), (.e, (PO.mk (some 34) (.bin .gtr (.t 33) (.k (.int .i64 0))) (some (23, true)))), (.e, (PO.mk (some 35) (.pick (.t 23) (.t 34) (.k (.bool false))) none))]) (.cond (.t 35) (.ops [(PO.mk (some 36) (.mv (.t 4)) none), (PO.mk (some 3) (.mv (.t 36)) none)]) .skip))))) (.ops [(PO.mk (some 37) (.bin .add (.t 11) (.k (.int .i64 1))) none), (PO.mk (some 11) (.mv (.t 37)) none)]))))))) (.seq (.ops [(PO.mk (some 38) (.mv (.t 3)) none), (PO.mk (some 2) (.mv (.t 38)) none)]) .ret))))
structure OkChain (P : Program) (F : Fn) : Prop where
  mixed : P.follows .mixedOrders = true
  toOkCoins : OkCoins P F
  toOkLocate : OkLocate P F
  h265 : compFn P ⟨[], [], [], [], []⟩ (F 265) = some (k265 F)
  h266 : compFn P ⟨[], [], [], [], []⟩ (F 266) = some (k266 F)
  h268 : compFn P ⟨[], [], [], [], []⟩ (F 268) = some (k268 F)
  h272 : compFn P ⟨[], [], [], [], []⟩ (F 272) = some (k272 F)
end Go.Ab
set_option linter.unusedVariables false
namespace Go.Ab
open Go
def k279 (F : Fn) : PF := PF.mk 9 1 [(.t 2)] (.seq (.ops [(PO.mk (some 2) (.mv (.k (.int .i64 0))) none)]) (.seq (.ops [(PO.mk (some 3) (.mv (.t 0)) none), (PO.mk (some 4) (.nilck (.t 3)) none), (PO.mk (some 5) (.fldA 1 (.t 4)) none), (PO.mk (some 6) (.load false 1 (.t 5)) none), (PO.mk (some 7) (.bin .shl (.k (.int .i64 20)) (.t 6)) none), (PO.mk (some 8) (.min [(.k (.int .i64 160)), (.t 7)]) none), (PO.mk (some 2) (.mv (.t 8)) none)]) .ret))
def k280 (F : Fn) : PF := PF.mk 8 1 [(.t 2)] (.seq (.ops [(PO.mk (some 2) (.mv (.k (.int .i64 0))) none)]) (.seq (.ops [(PO.mk (some 3) (.mv (.t 0)) none), (PO.mk (some 4) (.nilck (.t 3)) none), (PO.mk (some 5) (.fldA 0 (.t 4)) none), (PO.mk (some 6) (.load false 1 (.t 5)) none), (PO.mk (some 7) (.lenMap (.t 6)) none), (PO.mk (some 2) (.mv (.t 7)) none)]) .ret))
def k281 (F : Fn) : PF := PF.mk 24 2 [(.t 4)] (.seq (.ops [(PO.mk (some 4) (.mv (.k (.int .i64 0))) none)]) (.seq (.ops [(PO.mk (some 5) (.mv (.k (.int .i64 0))) none)]) (.seq (.seq (.ops [(PO.mk (some 8) (.mv (.t 0)) none), (PO.mk (some 9) (.nilck (.t 8)) none), (PO.mk (some 10) (.fldA 0 (.t 9)) none), (PO.mk (some 11) (.load false 1 (.t 10)) none), (PO.mk (some 12) (.rngMap (.t 11)) none)]) (.block 0 (.loop (.seq (.ops [(PO.mk (some 13) (.nextMap (.t 12)) none), (PO.mk (some 14) (.ext 0 (.t 13)) none)]) (.seq (.cond (.t 14) .skip (.exit 0)) (.block 1 (.seq (.ops [(PO.mk (some 15) (.entry (.t 12)) none), (PO.mk (some 16) (.ext 1 (.t 15)) none), (PO.mk (some 7) (.alloc [(.int .i64 0), (.int .i64 0)]) none), (PO.mk none (.store 2 (.t 7) (.t 16)) none)]) (.seq (.ops [(PO.mk (some 17) (.fldA 0 (.t 7)) none), (PO.mk (some 18) (.load false 1 (.t 17)) none), (PO.mk (some 19) (.mv (.t 1)) none), (PO.mk (some 20) (.bin .eql (.t 18) (.t 19)) none)]) (.cond (.t 20) (.ops [(PO.mk (some 21) (.mv (.t 5)) none), (PO.mk (some 22) (.bin .add (.t 21) (.k (.int .i64 1))) none), (PO.mk (some 5) (.mv (.t 22)) none)]) .skip))))))))) (.seq (.seq (.frz [11]) (.ops [(PO.mk (some 23) (.mv (.t 5)) none), (PO.mk (some 4) (.mv (.t 23)) none)])) .ret))))
def k282 (F : Fn) : PF := PF.mk 20 2 [(.t 4), (.t 5)] (.seq (.ops [(PO.mk (some 4) (.mv (.k (.int .i64 0))) none), (PO.mk (some 5) (.mv (.k (.bool false))) none)]) (.seq (.ops [(PO.mk (some 9) (.mv (.t 0)) none), (PO.mk (some 10) (.nilck (.t 9)) none), (PO.mk (some 11) (.fldA 0 (.t 10)) none), (PO.mk (some 12) (.load false 1 (.t 11)) none), (PO.mk (some 13) (.mv (.t 1)) none), (PO.mk (some 14) (.lookup .int (.agg [(.int .i64 0), (.int .i64 0)]) true (.t 12) (.t 13)) none), (PO.mk (some 8) (.mv (.t 14)) none), (PO.mk (some 15) (.ext 0 (.t 8)) none), (PO.mk (some 16) (.ext 1 (.t 8)) none), (PO.mk (some 6) (.alloc [(.int .i64 0), (.int .i64 0)]) none), (PO.mk none (.store 2 (.t 6) (.t 15)) none), (PO.mk (some 7) (.mv (.t 16)) none)]) (.seq (.ops [(PO.mk (some 17) (.fldA 0 (.t 6)) none), (PO.mk (some 18) (.load false 1 (.t 17)) none), (PO.mk (some 19) (.mv (.t 7)) none), (PO.mk (some 4) (.mv (.t 18)) none), (PO.mk (some 5) (.mv (.t 19)) none)]) .ret)))
def k283 (F : Fn) : PF := PF.mk 42 4 [(.t 8)] (.seq (.ops [(PO.mk (some 8) (.mv (.k (.int .i64 0))) none)]) (.seq (.seq (.ops [(PO.mk (some 12) (.mv (.t 0)) none), (PO.mk (some 13) (.nilck (.t 12)) none), (PO.mk (some 14) (.fldA 0 (.t 13)) none), (PO.mk (some 15) (.load false 1 (.t 14)) none), (PO.mk (some 16) (.mv (.t 1)) none), (PO.mk (some 17) (.lookup .int (.agg [(.int .i64 0), (.int .i64 0)]) true (.t 15) (.t 16)) none), (PO.mk (some 11) (.mv (.t 17)) none), (PO.mk (some 18) (.ext 0 (.t 11)) none), (PO.mk (some 19) (.ext 1 (.t 11)) none), (PO.mk (some 9) (.alloc [(.int .i64 0), (.int .i64 0)]) none), (PO.mk none (.store 2 (.t 9) (.t 18)) none), (PO.mk (some 10) (.mv (.t 19)) none)]) (.seq (.ops [(PO.mk (some 20) (.mv (.t 10)) none)]) (.cond (.t 20) (.seq (.ops [(PO.mk (some 8) (.mv (.k (.int .i64 5))) none)]) .ret) .skip))) (.seq (.seq (.ops [(PO.mk (some 21) (.mv (.t 0)) none), (PO.mk (some 22) (.mv (.t 2)) none), (PO.mk (some 23) (.call (F 281) [(.t 21), (.t 22)]) none), (PO.mk (some 24) (.bin .geq (.t 23) (.k (.int .i64 16))) none)]) (.cond (.t 24) (.seq (.ops [(PO.mk (some 8) (.mv (.k (.int .i64 3))) none)]) .ret) .skip)) (.seq (.seq (.ops [(PO.mk (some 25) (.mv (.t 0)) none), (PO.mk (some 26) (.nilck (.t 25)) none), (PO.mk (some 27) (.fldA 0 (.t 26)) none), (PO.mk (some 28) (.load false 1 (.t 27)) none), (PO.mk (some 29) (.eqa .map false (.t 28) (.k (.map none))) none)]) (.cond (.t 29) (.ops [(PO.mk (some 30) (.mv (.t 0)) none), (PO.mk (some 31) POp.mkmap none), (PO.mk (some 32) (.nilck (.t 30)) none), (PO.mk (some 33) (.fldA 0 (.t 32)) none), (PO.mk none (.store 1 (.t 33) (.t 31)) none)]) .skip)) (.seq (.ops [(PO.mk (some 34) (.mv (.t 0)) none), (PO.mk (some 35) (.nilck (.t 34)) none), (PO.mk (some 36) (.fldA 0 (.t 35)) none), (PO.mk (some 37) (.load false 1 (.t 36)) none), (PO.mk (some 38) (.mv (.t 1)) none), (PO.mk (some 39) (.mv (.t 2)) none), (PO.mk (some 40) (.mv (.t 3)) none), (PO.mk (some 41) (.build [(.int .i64 0), (.int .i64 0)] [(0, (1, (.t 39))), (1, (1, (.t 40)))]) none), (PO.mk none (.mset .int (.t 37) (.t 38) (.t 41)) none)]) (.seq (.ops [(PO.mk (some 8) (.mv (.k (.int .i64 0))) none)]) .ret))))))
def k284 (F : Fn) : PF := PF.mk 30 2 [] (.seq (.ops [(PO.mk (some 7) (.mv (.t 0)) none), (PO.mk (some 8) (.nilck (.t 7)) none), (PO.mk (some 9) (.fldA 0 (.t 8)) none), (PO.mk (some 10) (.load false 1 (.t 9)) none), (PO.mk (some 11) (.mv (.t 1)) none), (PO.mk (some 12) (.lookup .int (.agg [(.int .i64 0), (.int .i64 0)]) true (.t 10) (.t 11)) none), (PO.mk (some 6) (.mv (.t 12)) none), (PO.mk (some 13) (.ext 0 (.t 6)) none), (PO.mk (some 14) (.ext 1 (.t 6)) none), (PO.mk (some 4) (.alloc [(.int .i64 0), (.int .i64 0)]) none), (PO.mk none (.store 2 (.t 4) (.t 13)) none), (PO.mk (some 5) (.mv (.t 14)) none)]) (.seq (.ops [(PO.mk (some 15) (.mv (.t 5)) none)]) (.cond (.t 15) (.seq (.ops [(PO.mk (some 16) (.mv (.t 0)) none), (PO.mk (some 17) (.nilck (.t 16)) none), (PO.mk (some 18) (.fldA 0 (.t 17)) none), (PO.mk (some 19) (.load false 1 (.t 18)) none), (PO.mk (some 20) (.mv (.t 1)) none), (PO.mk none (.mdel .int (.t 19) (.t 20)) none)]) (.ops [(PO.mk (some 21) (.mv (.t 0)) none), (PO.mk (some 22) (.mv (.t 0)) none), (PO.mk (some 23) (.nilck (.t 22)) none), (PO.mk (some 24) (.fldA 1 (.t 23)) none), (PO.mk (some 25) (.load false 1 (.t 24)) none), (PO.mk (some 26) (.bin .sub (.t 25) (.k (.int .i64 1))) none), (PO.mk (some 27) (.max [(.k (.int .i64 0)), (.t 26)]) none), (PO.mk (some 28) (.nilck (.t 21)) none), (PO.mk (some 29) (.fldA 1 (.t 28)) none), (PO.mk none (.store 1 (.t 29) (.t 27)) none)])) .skip)))
def k285 (F : Fn) : PF := PF.mk 34 2 [(.t 4)] (.seq (.ops [(PO.mk (some 4) (.mv (.k (.sl .nil [] 0))) none)]) (.seq (.ops [(PO.mk (some 5) (.mv (.k (.sl .nil [] 0))) none)]) (.seq (.seq (.ops [(PO.mk (some 8) (.mv (.t 0)) none), (PO.mk (some 9) (.nilck (.t 8)) none), (PO.mk (some 10) (.fldA 0 (.t 9)) none), (PO.mk (some 11) (.load false 1 (.t 10)) none), (PO.mk (some 12) (.rngMap (.t 11)) none)]) (.block 0 (.loop (.seq (.ops [(PO.mk (some 13) (.nextMap (.t 12)) none), (PO.mk (some 14) (.ext 0 (.t 13)) none)]) (.seq (.cond (.t 14) .skip (.exit 0)) (.block 1 (.seq (.ops [(PO.mk (some 15) (.entry (.t 12)) none), (PO.mk (some 16) (.ext 0 (.t 15)) none), (PO.mk (some 17) (.ext 1 (.t 15)) none), (PO.mk (some 7) (.alloc [(.int .i64 0), (.int .i64 0)]) none), (PO.mk (some 6) (.mv (.t 16)) none), (PO.mk none (.store 2 (.t 7) (.t 17)) none)]) (.seq (.ops [(PO.mk (some 18) (.fldA 0 (.t 7)) none), (PO.mk (some 19) (.load false 1 (.t 18)) none), (PO.mk (some 20) (.mv (.t 1)) none), (PO.mk (some 21) (.bin .eql (.t 19) (.t 20)) none)]) (.cond (.t 21) (.seq (.ops [(PO.mk (some 22) (.mv (.t 5)) none), (PO.mk (some 23) (.mv (.t 6)) none), (PO.mk (some 24) (.bsl false 1 1 [(.int .i64 0)] [(0, (1, (.t 23)))]) none), (PO.mk (some 25) (.app 1 8 (.t 22) (.t 24)) none), (PO.mk (some 5) (.mv (.t 25)) none)]) (.ops [(PO.mk (some 26) (.mv (.t 0)) none), (PO.mk (some 27) (.nilck (.t 26)) none), (PO.mk (some 28) (.fldA 0 (.t 27)) none), (PO.mk (some 29) (.load false 1 (.t 28)) none), (PO.mk (some 30) (.mv (.t 6)) none), (PO.mk none (.mdel .int (.t 29) (.t 30)) none)])) .skip))))))))) (.seq (.seq (.frz [11]) (.ops [(PO.mk (some 31) (.mv (.t 5)) none), (PO.mk (some 32) (.call (F 286) [(.t 31)]) none)])) (.seq (.ops [(PO.mk (some 33) (.mv (.t 5)) none), (PO.mk (some 4) (.mv (.t 33)) none)]) .ret)))))
def k287 (F : Fn) : PF := PF.mk 9 2 [] (.ops [(PO.mk (some 4) (.mv (.t 0)) none), (PO.mk (some 5) (.nilck (.t 4)) none), (PO.mk (some 6) (.fldA 0 (.t 5)) none), (PO.mk (some 7) (.load false 1 (.t 6)) none), (PO.mk (some 8) (.mv (.t 1)) none), (PO.mk none (.mdel .int (.t 7) (.t 8)) none)])
def k288 (F : Fn) : PF := PF.mk 50 2 [(.t 4), (.t 5)] (.seq (.ops [(PO.mk (some 4) (.mv (.k (.int .i64 0))) none), (PO.mk (some 5) (.mv (.k (.bool false))) none)]) (.seq (.ops [(PO.mk (some 6) (.mv (.k (.int .i64 0))) none), (PO.mk (some 7) (.mv (.k (.bool false))) none)]) (.seq (.seq (.ops [(PO.mk (some 10) (.mv (.t 0)) none), (PO.mk (some 11) (.nilck (.t 10)) none), (PO.mk (some 12) (.fldA 0 (.t 11)) none), (PO.mk (some 13) (.load false 1 (.t 12)) none), (PO.mk (some 14) (.rngMap (.t 13)) none)]) (.block 0 (.loop (.seq (.ops [(PO.mk (some 15) (.nextMap (.t 14)) none), (PO.mk (some 16) (.ext 0 (.t 15)) none)]) (.seq (.cond (.t 16) .skip (.exit 0)) (.block 1 (.seq (.ops [(PO.mk (some 17) (.entry (.t 14)) none), (PO.mk (some 18) (.ext 1 (.t 17)) none), (PO.mk (some 9) (.alloc [(.int .i64 0), (.int .i64 0)]) none), (PO.mk none (.store 2 (.t 9) (.t 18)) none)]) (.seq (.draw [(.e, (PO.mk (some 19) (.mv (.t 1)) none)), (.e, (PO.mk (some 20) (.fldA 1 (.t 9)) none)), (.e, (PO.mk (some 23) (.mv (.t 0)) none)), (.s, (PO.mk (some 21) (.load false 1 (.t 20)) none)), (.e, (PO.mk (some 22) (.bin .sub (.t 19) (.t 21)) none)), (.s, (PO.mk (some 24) (.call (F 279) [(.t 23)]) none)), (.e, (PO.mk (some 25) (.bin .geq (.t 22) (.t 24)) none)), (.e, (PO.mk (some 26) (.mv (.t 25)) none)), (.e, (PO.mk (some 27) (.mv (.t 7)) (some (26, true)))), (.e, (PO.mk (some 28) (.not (.t 27)) (some (26, true)))), (.e, (PO.mk (some 29) (.mv (.t 28)) (some (26, true)))), (.e, (PO.mk (some 30) (.fldA 0 (.t 9)) (some (29, false)))), (.e, (PO.mk (some 32) (.mv (.t 6)) (some (29, false)))), (.s, (PO.mk (some 31) (.load false 1 (.t 30)) (some (29, false)))), (.e, (PO.mk (some 33) (.bin .lss (.t 31) (.t 32)) (some (29, false)))), (.e, (PO.mk (some 34) (.pick (.t 29) (.k (.bool true)) (.t 33)) (some (26, true)))), (.e, (PO.mk (some 35) (.pick (.t 26) (.t 34) (.k (.bool false))) none))]) (.cond (.t 35) (.ops [(PO.mk (some 36) (.fldA 0 (.t 9)) none), (PO.mk (some 37) (.load false 1 (.t 36)) none), (PO.mk (some 6) (.mv (.t 37)) none), (PO.mk (some 7) (.mv (.k (.bool true))) none)]) .skip))))))))) (.seq (.seq (.seq (.frz [13]) (.ops [(PO.mk (some 38) (.mv (.t 7)) none)])) (.cond (.t 38) (.ops [(PO.mk (some 39) (.mv (.t 0)) none), (PO.mk (some 40) (.mv (.t 0)) none), (PO.mk (some 41) (.nilck (.t 40)) none), (PO.mk (some 42) (.fldA 1 (.t 41)) none), (PO.mk (some 43) (.load false 1 (.t 42)) none), (PO.mk (some 44) (.bin .add (.t 43) (.k (.int .i64 1))) none), (PO.mk (some 45) (.min [(.t 44), (.k (.int .i64 3))]) none), (PO.mk (some 46) (.nilck (.t 39)) none), (PO.mk (some 47) (.fldA 1 (.t 46)) none), (PO.mk none (.store 1 (.t 47) (.t 45)) none)]) .skip)) (.seq (.ops [(PO.mk (some 48) (.mv (.t 6)) none), (PO.mk (some 49) (.mv (.t 7)) none), (PO.mk (some 4) (.mv (.t 48)) none), (PO.mk (some 5) (.mv (.t 49)) none)]) .ret)))))
def k289 (F : Fn) : PF := PF.mk 110 4 [(.t 8)] (.seq (.ops [(PO.mk (some 8) (.mv (.k (.sl .nil [] 0))) none)]) (.seq (.seq (.ops [(PO.mk (some 17) (.mv (.t 3)) none), (PO.mk (some 18) (.bin .lss (.t 17) (.k (.int .i64 0))) none), (PO.mk (some 19) (.mv (.t 18)) none), (PO.mk (some 20) (.mv (.t 3)) (some (19, false))), (PO.mk (some 21) (.mv (.t 1)) (some (19, false))), (PO.mk (some 22) (.nilck (.t 21)) (some (19, false))), (PO.mk (some 23) (.fldA 0 (.t 22)) (some (19, false))), (PO.mk (some 24) (.load false 1 (.t 23)) (some (19, false))), (PO.mk (some 25) (.call (F 159) [(.t 24)]) (some (19, false))), (PO.mk (some 26) (.bin .geq (.t 20) (.t 25)) (some (19, false))), (PO.mk (some 27) (.pick (.t 19) (.k (.bool true)) (.t 26)) none), (PO.mk (some 28) (.mv (.t 27)) none), (PO.mk (some 29) (.mv (.t 1)) (some (28, false))), (PO.mk (some 30) (.nilck (.t 29)) (some (28, false))), (PO.mk (some 31) (.fldA 0 (.t 30)) (some (28, false))), (PO.mk (some 32) (.load false 1 (.t 31)) (some (28, false))), (PO.mk (some 33) (.mv (.t 3)) (some (28, false))), (PO.mk (some 34) (.call (F 161) [(.t 32), (.t 33)]) (some (28, false))), (PO.mk (some 35) (.fld false 107 1 (.t 34)) (some (28, false))), (PO.mk (some 36) (.pick (.t 28) (.k (.bool true)) (.t 35)) none)]) (.cond (.t 36) (.seq (.ops [(PO.mk (some 8) (.mv (.k (.sl .nil [] 0))) none)]) .ret) .skip)) (.seq (.draw [(.e, (PO.mk (some 37) (.mv (.t 1)) none)), (.e, (PO.mk (some 38) (.nilck (.t 37)) none)), (.e, (PO.mk (some 39) (.fldA 0 (.t 38)) none)), (.e, (PO.mk (some 41) (.mv (.t 1)) none)), (.s, (PO.mk (some 40) (.load false 1 (.t 39)) none)), (.s, (PO.mk (some 42) (.call (F 266) [(.t 41)]) none)), (.s, (PO.mk (some 43) (.call (F 161) [(.t 40), (.t 42)]) none)), (.e, (PO.mk (some 44) (.fld false 102 1 (.t 43)) none)), (.e, (PO.mk (some 45) (.bin .add (.t 44) (.k (.int .i64 1024))) none)), (.e, (PO.mk (some 9) (.mv (.t 45)) none))]) (.seq (.draw [(.e, (PO.mk (some 46) (.mv (.t 1)) none)), (.e, (PO.mk (some 47) (.nilck (.t 46)) none)), (.e, (PO.mk (some 48) (.fldA 0 (.t 47)) none)), (.e, (PO.mk (some 50) (.mv (.t 1)) none)), (.e, (PO.mk (some 52) (.mv (.t 3)) none)), (.s, (PO.mk (some 49) (.load false 1 (.t 48)) none)), (.s, (PO.mk (some 51) (.call (F 266) [(.t 50)]) none)), (.s, (PO.mk (some 53) (.call (F 228) [(.t 49), (.t 51), (.t 52)]) none)), (.e, (PO.mk (some 10) (.mv (.t 53)) none))]) (.seq (.ops [(PO.mk (some 54) (.mv (.t 0)) none), (PO.mk (some 55) (.mv (.t 2)) none), (PO.mk (some 56) (.call (F 281) [(.t 54), (.t 55)]) none), (PO.mk (some 57) (.bin .sub (.k (.int .i64 16)) (.t 56)) none), (PO.mk (some 11) (.mv (.t 57)) none)]) (.seq (.ops [(PO.mk (some 12) (.mv (.k (.sl .nil [] 0))) none)]) (.seq .skip (.seq (.seq (.ops [(PO.mk (some 58) (.mv (.t 1)) none), (PO.mk (some 59) (.nilck (.t 58)) none), (PO.mk (some 60) (.fldA 0 (.t 59)) none), (PO.mk (some 61) (.load false 1 (.t 60)) none), (PO.mk (some 62) (.mv (.t 10)) none), (PO.mk (some 63) (.mv (.t 3)) none), (PO.mk (some 64) (.call (F 229) [(.t 61), (.t 62), (.t 63)]) none), (PO.mk (some 65) (.lenSl (.t 64)) none), (PO.mk (some 66) (.mv (.k (.int .i64 0))) none)]) (.block 0 (.loop (.seq (.ops [(PO.mk (some 67) (.bin .lss (.t 66) (.t 65)) none)]) (.seq (.cond (.t 67) .skip (.exit 0)) (.seq (.block 1 (.seq (.ops [(PO.mk (some 68) (.idxSl 1 (.t 64) (.t 66)) none), (PO.mk (some 69) (.load false 1 (.t 68)) none), (PO.mk (some 14) (.mv (.t 69)) none)]) (.seq (.ops [(PO.mk (some 71) (.mv (.t 0)) none), (PO.mk (some 72) (.nilck (.t 71)) none), (PO.mk (some 73) (.fldA 0 (.t 72)) none), (PO.mk (some 74) (.load false 1 (.t 73)) none), (PO.mk (some 75) (.mv (.t 14)) none), (PO.mk (some 76) (.lookup .int (.agg [(.int .i64 0), (.int .i64 0)]) true (.t 74) (.t 75)) none), (PO.mk (some 70) (.mv (.t 76)) none), (PO.mk (some 77) (.ext 0 (.t 70)) none), (PO.mk (some 78) (.ext 1 (.t 70)) none), (PO.mk (some 15) (.alloc [(.int .i64 0), (.int .i64 0)]) none), (PO.mk none (.store 2 (.t 15) (.t 77)) none), (PO.mk (some 16) (.mv (.t 78)) none)]) (.block 2 (.seq (.ops [(PO.mk (some 80) (.mv (.t 12)) none), (PO.mk (some 81) (.lenSl (.t 80)) none), (PO.mk (some 82) (.mv (.t 11)) none), (PO.mk (some 83) (.bin .geq (.t 81) (.t 82)) none), (PO.mk (some 84) (.mv (.t 83)) none), (PO.mk (some 85) (.mv (.t 1)) (some (84, false))), (PO.mk (some 86) (.nilck (.t 85)) (some (84, false))), (PO.mk (some 87) (.fldA 0 (.t 86)) (some (84, false))), (PO.mk (some 88) (.load false 1 (.t 87)) (some (84, false))), (PO.mk (some 89) (.mv (.t 14)) (some (84, false))), (PO.mk (some 90) (.call (F 161) [(.t 88), (.t 89)]) (some (84, false))), (PO.mk (some 91) (.fld false 102 1 (.t 90)) (some (84, false))), (PO.mk (some 92) (.mv (.t 9)) (some (84, false))), (PO.mk (some 93) (.bin .gtr (.t 91) (.t 92)) (some (84, false))), (PO.mk (some 94) (.pick (.t 84) (.k (.bool true)) (.t 93)) none), (PO.mk (some 79) (.mv (.t 94)) none)]) (.cond (.t 79) (.exit 0) (.seq (.ops [(PO.mk (some 96) (.mv (.t 16)) none), (PO.mk (some 97) (.not (.t 96)) none), (PO.mk (some 98) (.mv (.t 97)) none), (PO.mk (some 99) (.mv (.t 1)) (some (98, true))), (PO.mk (some 100) (.mv (.t 14)) (some (98, true))), (PO.mk (some 101) (.call (F 268) [(.t 99), (.t 100)]) (some (98, true))), (PO.mk (some 102) (.not (.t 101)) (some (98, true))), (PO.mk (some 103) (.pick (.t 98) (.t 102) (.k (.bool false))) none), (PO.mk (some 95) (.mv (.t 103)) none)]) (.cond (.t 95) (.ops [(PO.mk (some 104) (.mv (.t 12)) none), (PO.mk (some 105) (.mv (.t 14)) none), (PO.mk (some 106) (.bsl false 1 1 [(.int .i64 0)] [(0, (1, (.t 105)))]) none), (PO.mk (some 107) (.app 1 8 (.t 104) (.t 106)) none), (PO.mk (some 12) (.mv (.t 107)) none)]) .skip)))))))) (.ops [(PO.mk (some 108) (.bin .add (.t 66) (.k (.int .i64 1))) none), (PO.mk (some 66) (.mv (.t 108)) none)]))))))) (.seq (.ops [(PO.mk (some 109) (.mv (.t 12)) none), (PO.mk (some 8) (.mv (.t 109)) none)]) .ret)))))))))
structure OkWindow (P : Program) (F : Fn) : Prop where
  mixed : P.follows .mixedOrders = true
  toOkChain : OkChain P F
  h279 : compFn P ⟨[], [], [], [], []⟩ (F 279) = some (k279 F)
  h280 : compFn P ⟨[], [], [], [], []⟩ (F 280) = some (k280 F)
  h281 : compFn P ⟨[], [], [(7, [11])], [], []⟩ (F 281) = some (k281 F)
  h282 : compFn P ⟨[], [], [], [], []⟩ (F 282) = some (k282 F)
  h283 : compFn P ⟨[], [], [], [], []⟩ (F 283) = some (k283 F)
  h284 : compFn P ⟨[], [], [], [], []⟩ (F 284) = some (k284 F)
  h285 : compFn P ⟨[], [], [(8, [11])], [], []⟩ (F 285) = some (k285 F)
  h287 : compFn P ⟨[], [], [], [], []⟩ (F 287) = some (k287 F)
  h288 : compFn P ⟨[], [], [(7, [13])], [], []⟩ (F 288) = some (k288 F)
  h289 : compFn P ⟨[], [], [], [], []⟩ (F 289) = some (k289 F)
end Go.Ab
set_option linter.unusedVariables false
namespace Go.Ab
open Go
def k290 (F : Fn) : PF := PF.mk 11 1 [(PR.cell 2 true 2)] (.seq (.ops [(PO.mk (some 2) (.alloc [(.sl .nil [] 0), (.sl .nil [] 0)]) none)]) (.seq (.ops [(PO.mk (some 3) (.call (F 197) []) none), (PO.mk (some 4) (.mv (.t 0)) none), (PO.mk (some 5) (.bsl false 1 1 [(w8 0)] [(0, (1, (.t 4)))]) none), (PO.mk (some 6) (.build z34_1838 [(0, (33, (.t 3))), (33, (1, (.t 5)))]) none), (PO.mk (some 7) (.bsl false 34 1 z34_1838 [(0, (34, (.t 6)))]) none), (PO.mk (some 8) (.build z33_0be4 [(0, (1, (.k (.int .i64 50))))]) none), (PO.mk (some 9) (.bsl false 33 1 z33_0be4 [(0, (33, (.t 8)))]) none), (PO.mk (some 10) (.build [(.sl .nil [] 0), (.sl .nil [] 0)] [(0, (1, (.t 7))), (1, (1, (.t 9)))]) none), (PO.mk none (.store 2 (.t 2) (.t 10)) none)]) .ret))
def k291 (F : Fn) : PF := PF.mk 113 1 [(.t 2), (.t 3)] (.seq (.ops [(PO.mk (some 2) (.mv (.k (.ptr none))) none), (PO.mk (some 3) (.mv (.k (.sl .nil [] 0))) none)]) (.seq (.ops [(PO.mk (some 13) (.build z68_39b1 [(66, (1, (.k (w32 545259519))))]) none), (PO.mk (some 14) (.call (F 290) [(.k (w8 0))]) none), (PO.mk (some 15) (.bsl false 2 1 [(.sl .nil [] 0), (.sl .nil [] 0)] [(0, (2, (.t 14)))]) none), (PO.mk (some 16) (.build z69_adc1 [(0, (68, (.t 13))), (68, (1, (.t 15)))]) none), (PO.mk (some 4) (.alloc z69_adc1) none), (PO.mk none (.store 69 (.t 4) (.t 16)) none)]) (.seq (.ops [(PO.mk (some 18) (.fldA 68 (.t 4)) none), (PO.mk (some 19) (.load false 1 (.t 18)) none), (PO.mk (some 20) (.call (F 192) [(.t 19)]) none), (PO.mk (some 17) (.mv (.t 20)) none), (PO.mk (some 21) (.ext 0 (.t 17)) none), (PO.mk (some 22) (.ext 1 (.t 17)) none), (PO.mk (some 23) (.fldA 0 (.t 4)) none), (PO.mk (some 24) (.fldA 33 (.t 23)) none), (PO.mk none (.store 32 (.t 24) (.t 21)) none)]) (.seq (.ops [(PO.mk (some 26) (.load true 69 (.t 4)) none), (PO.mk (some 27) (.build z74_2f53 [(0, (1, (.k (w32 545259519)))), (2, (1, (.k (.int .i64 10)))), (3, (1, (.k (.int .i64 50)))), (5, (69, (.t 26)))]) none), (PO.mk (some 28) (.call (F 265) [(.t 27)]) none), (PO.mk (some 25) (.mv (.t 28)) none), (PO.mk (some 29) (.ext 0 (.t 25)) none), (PO.mk (some 30) (.ext 1 (.t 25)) none), (PO.mk (some 5) (.mv (.t 29)) none), (PO.mk (some 6) (.mv (.t 30)) none)]) (.seq (.seq (.ops [(PO.mk (some 31) (.mv (.t 5)) none), (PO.mk (some 32) (.eqa .ptr false (.t 31) (.k (.ptr none))) none), (PO.mk (some 33) (.mv (.t 32)) none), (PO.mk (some 34) (.mv (.t 6)) (some (33, false))), (PO.mk (some 35) (.bin .neq (.t 34) (.k (.int .i64 0))) (some (33, false))), (PO.mk (some 36) (.pick (.t 33) (.k (.bool true)) (.t 35)) none)]) (.cond (.t 36) (.seq (.ops [(PO.mk (some 2) (.mv (.k (.ptr none))) none), (PO.mk (some 3) (.mv (.k (.sl .nil [] 0))) none)]) .ret) .skip)) (.seq (.ops [(PO.mk (some 37) (.load true 69 (.t 4)) none), (PO.mk (some 38) (.bsl false 69 1 z69_adc1 [(0, (69, (.t 37)))]) none), (PO.mk (some 7) (.mv (.t 38)) none)]) (.seq (.seq (.ops [(PO.mk (some 39) (.mv (.t 0)) none), (PO.mk (some 40) (.lenSl (.t 39)) none), (PO.mk (some 41) (.mv (.k (.int .i64 0))) none)]) (.block 0 (.loop (.seq (.ops [(PO.mk (some 42) (.bin .lss (.t 41) (.t 40)) none)]) (.seq (.cond (.t 42) .skip (.exit 0)) (.seq (.block 1 (.seq (.ops [(PO.mk (some 43) (.mv (.t 41)) none), (PO.mk (some 44) (.idxSl 1 (.t 39) (.t 41)) none), (PO.mk (some 45) (.load false 1 (.t 44)) none), (PO.mk (some 8) (.mv (.t 43)) none), (PO.mk (some 9) (.mv (.t 45)) none)]) (.seq (.ops [(PO.mk (some 46) (.mv (.t 9)) none), (PO.mk (some 47) (.mv (.t 5)) none), (PO.mk (some 48) (.nilck (.t 47)) none), (PO.mk (some 49) (.fldA 0 (.t 48)) none), (PO.mk (some 50) (.load false 1 (.t 49)) none), (PO.mk (some 51) (.call (F 159) [(.t 50)]) none), (PO.mk (some 52) (.bin .sub (.t 51) (.k (.int .i64 1))) none), (PO.mk (some 53) (.min [(.t 46), (.t 52)]) none), (PO.mk (some 54) (.max [(.k (.int .i64 0)), (.t 53)]) none), (PO.mk (some 9) (.mv (.t 54)) none)]) (.seq (.ops [(PO.mk (some 55) (.mv (.t 8)) none), (PO.mk (some 56) (.bin .add (.t 55) (.k (.int .i64 1))) none), (PO.mk (some 57) (.conv .u8 (.t 56)) none), (PO.mk (some 58) (.call (F 290) [(.t 57)]) none), (PO.mk (some 59) (.bsl false 2 1 [(.sl .nil [] 0), (.sl .nil [] 0)] [(0, (2, (.t 58)))]) none), (PO.mk (some 60) (.build z69_adc1 [(68, (1, (.t 59)))]) none), (PO.mk (some 10) (.alloc z69_adc1) none), (PO.mk none (.store 69 (.t 10) (.t 60)) none)]) (.seq (.draw [(.e, (PO.mk (some 61) (.mv (.t 5)) none)), (.e, (PO.mk (some 62) (.nilck (.t 61)) none)), (.e, (PO.mk (some 63) (.fldA 0 (.t 62)) none)), (.e, (PO.mk (some 65) (.mv (.t 9)) none)), (.e, (PO.mk (some 68) (.mv (.t 5)) none)), (.e, (PO.mk (some 69) (.nilck (.t 68)) none)), (.e, (PO.mk (some 70) (.fldA 0 (.t 69)) none)), (.e, (PO.mk (some 72) (.mv (.t 9)) none)), (.s, (PO.mk (some 64) (.load false 1 (.t 63)) none)), (.s, (PO.mk (some 66) (.call (F 161) [(.t 64), (.t 65)]) none)), (.e, (PO.mk (some 67) (.fld true 68 32 (.t 66)) none)), (.s, (PO.mk (some 71) (.load false 1 (.t 70)) none)), (.s, (PO.mk (some 73) (.call (F 161) [(.t 71), (.t 72)]) none)), (.e, (PO.mk (some 74) (.fld true 0 68 (.t 73)) none)), (.e, (PO.mk (some 75) (.fld false 65 1 (.t 74)) none)), (.e, (PO.mk (some 76) (.bin .add (.t 75) (.k (w32 1))) none)), (.e, (PO.mk (some 77) (.build z68_39b1 [(1, (32, (.t 67))), (65, (1, (.t 76))), (66, (1, (.k (w32 545259519))))]) none)), (.e, (PO.mk (some 78) (.fldA 0 (.t 10)) none)), (.x, (PO.mk none (.store 68 (.t 78) (.t 77)) none))]) (.seq (.ops [(PO.mk (some 80) (.fldA 68 (.t 10)) none), (PO.mk (some 81) (.load false 1 (.t 80)) none), (PO.mk (some 82) (.call (F 192) [(.t 81)]) none), (PO.mk (some 79) (.mv (.t 82)) none), (PO.mk (some 83) (.ext 0 (.t 79)) none), (PO.mk (some 84) (.ext 1 (.t 79)) none), (PO.mk (some 85) (.fldA 0 (.t 10)) none), (PO.mk (some 86) (.fldA 33 (.t 85)) none), (PO.mk none (.store 32 (.t 86) (.t 83)) none)]) (.seq (.ops [(PO.mk (some 88) (.fldA 0 (.t 10)) none), (PO.mk (some 89) (.load true 68 (.t 88)) none), (PO.mk (some 90) (.call (F 143) [(.t 89), (.k (w32 545259519)), (.k (.int .i64 1000))]) none), (PO.mk (some 87) (.mv (.t 90)) none), (PO.mk (some 91) (.ext 0 (.t 87)) none), (PO.mk (some 92) (.ext 1 (.t 87)) none), (PO.mk (some 93) (.fldA 0 (.t 10)) none), (PO.mk none (.store 68 (.t 93) (.t 91)) none)]) (.seq (.draw [(.e, (PO.mk (some 95) (.mv (.t 5)) none)), (.e, (PO.mk (some 96) (.nilck (.t 95)) none)), (.e, (PO.mk (some 97) (.fldA 0 (.t 96)) none)), (.e, (PO.mk (some 99) (.fldA 0 (.t 10)) none)), (.s, (PO.mk (some 98) (.load false 1 (.t 97)) none)), (.s, (PO.mk (some 100) (.load true 68 (.t 99)) none)), (.x, (PO.mk (some 101) (.call (F 169) [(.t 98), (.t 100), (.k (.int .i64 1099511627776))]) none)), (.e, (PO.mk (some 94) (.mv (.t 101)) none)), (.e, (PO.mk (some 102) (.ext 0 (.t 94)) none)), (.e, (PO.mk (some 103) (.ext 1 (.t 94)) none)), (.e, (PO.mk (some 11) (.mv (.t 102)) none)), (.e, (PO.mk (some 12) (.mv (.t 103)) none))]) (.seq (.ops [(PO.mk (some 104) (.mv (.t 12)) none), (PO.mk (some 105) (.bin .eql (.t 104) (.k (.int .i64 0))) none)]) (.cond (.t 105) (.ops [(PO.mk (some 106) (.mv (.t 7)) none), (PO.mk (some 107) (.load true 69 (.t 10)) none), (PO.mk (some 108) (.bsl false 69 1 z69_adc1 [(0, (69, (.t 107)))]) none), (PO.mk (some 109) (.app 69 104 (.t 106) (.t 108)) none), (PO.mk (some 7) (.mv (.t 109)) none)]) .skip)))))))))) (.ops [(PO.mk (some 110) (.bin .add (.t 41) (.k (.int .i64 1))) none), (PO.mk (some 41) (.mv (.t 110)) none)]))))))) (.seq (.ops [(PO.mk (some 111) (.mv (.t 5)) none), (PO.mk (some 112) (.mv (.t 7)) none), (PO.mk (some 2) (.mv (.t 111)) none), (PO.mk (some 3) (.mv (.t 112)) none)]) .ret))))))))
def k292 (F : Fn) : PF := PF.mk 93 0 [(.t 0)] (.seq (.ops [(PO.mk (some 0) (.mv (.k (.bool false))) none)]) (.seq (.ops [(PO.mk (some 12) (.bsl false 1 2 [(.int .i64 0)] [(0, (1, (.k (.int .i64 0)))), (1, (1, (.k (.int .i64 1))))]) none), (PO.mk (some 13) (.call (F 291) [(.t 12)]) none), (PO.mk (some 11) (.mv (.t 13)) none), (PO.mk (some 14) (.ext 0 (.t 11)) none), (PO.mk (some 15) (.ext 1 (.t 11)) none), (PO.mk (some 1) (.mv (.t 14)) none), (PO.mk (some 2) (.mv (.t 15)) none)]) (.seq (.seq (.ops [(PO.mk (some 16) (.mv (.t 1)) none), (PO.mk (some 17) (.eqa .ptr false (.t 16) (.k (.ptr none))) none), (PO.mk (some 18) (.mv (.t 17)) none), (PO.mk (some 19) (.mv (.t 1)) (some (18, false))), (PO.mk (some 20) (.nilck (.t 19)) (some (18, false))), (PO.mk (some 21) (.fldA 0 (.t 20)) (some (18, false))), (PO.mk (some 22) (.load false 1 (.t 21)) (some (18, false))), (PO.mk (some 23) (.call (F 159) [(.t 22)]) (some (18, false))), (PO.mk (some 24) (.bin .neq (.t 23) (.k (.int .i64 3))) (some (18, false))), (PO.mk (some 25) (.pick (.t 18) (.k (.bool true)) (.t 24)) none)]) (.cond (.t 25) (.seq (.ops [(PO.mk (some 0) (.mv (.k (.bool false))) none)]) .ret) .skip)) (.seq (.ops [(PO.mk (some 3) (.alloc [(.map none), (.int .i64 0)]) none)]) (.seq (.ops [(PO.mk (some 26) (.mv (.t 1)) none), (PO.mk (some 27) (.call (F 289) [(.t 3), (.t 26), (.k (.int .i64 1)), (.k (.int .i64 2))]) none), (PO.mk (some 4) (.mv (.t 27)) none)]) (.seq (.seq (.ops [(PO.mk (some 28) (.mv (.t 4)) none), (PO.mk (some 29) (.lenSl (.t 28)) none), (PO.mk (some 30) (.bin .neq (.t 29) (.k (.int .i64 2))) none), (PO.mk (some 31) (.mv (.t 30)) none), (PO.mk (some 32) (.mv (.t 4)) (some (31, false))), (PO.mk (some 33) (.idxSl 1 (.t 32) (.k (.int .i64 0))) (some (31, false))), (PO.mk (some 34) (.load false 1 (.t 33)) (some (31, false))), (PO.mk (some 35) (.bin .neq (.t 34) (.k (.int .i64 1))) (some (31, false))), (PO.mk (some 36) (.pick (.t 31) (.k (.bool true)) (.t 35)) none), (PO.mk (some 37) (.mv (.t 36)) none), (PO.mk (some 38) (.call (F 283) [(.t 3), (.k (.int .i64 1)), (.k (.int .i64 1)), (.k (.int .i64 5))]) (some (37, false))), (PO.mk (some 39) (.bin .neq (.t 38) (.k (.int .i64 0))) (some (37, false))), (PO.mk (some 40) (.pick (.t 37) (.k (.bool true)) (.t 39)) none), (PO.mk (some 41) (.mv (.t 40)) none), (PO.mk (some 42) (.call (F 283) [(.t 3), (.k (.int .i64 1)), (.k (.int .i64 2)), (.k (.int .i64 5))]) (some (41, false))), (PO.mk (some 43) (.bin .neq (.t 42) (.k (.int .i64 5))) (some (41, false))), (PO.mk (some 44) (.pick (.t 41) (.k (.bool true)) (.t 43)) none)]) (.cond (.t 44) (.seq (.ops [(PO.mk (some 0) (.mv (.k (.bool false))) none)]) .ret) .skip)) (.seq (.ops [(PO.mk (some 46) (.call (F 282) [(.t 3), (.k (.int .i64 1))]) none), (PO.mk (some 45) (.mv (.t 46)) none), (PO.mk (some 47) (.ext 0 (.t 45)) none), (PO.mk (some 48) (.ext 1 (.t 45)) none), (PO.mk (some 5) (.mv (.t 47)) none), (PO.mk (some 6) (.mv (.t 48)) none)]) (.seq (.ops [(PO.mk (some 50) (.call (F 288) [(.t 3), (.k (.int .i64 24))]) none), (PO.mk (some 49) (.mv (.t 50)) none), (PO.mk (some 51) (.ext 0 (.t 49)) none), (PO.mk (some 52) (.ext 1 (.t 49)) none), (PO.mk (some 7) (.mv (.t 51)) none), (PO.mk (some 8) (.mv (.t 52)) none)]) (.seq (.ops [(PO.mk (some 54) (.call (F 288) [(.t 3), (.k (.int .i64 25))]) none), (PO.mk (some 53) (.mv (.t 54)) none), (PO.mk (some 55) (.ext 0 (.t 53)) none), (PO.mk (some 56) (.ext 1 (.t 53)) none), (PO.mk (some 9) (.mv (.t 55)) none), (PO.mk (some 10) (.mv (.t 56)) none)]) (.seq (.ops [(PO.mk (some 57) (.mv (.t 6)) none), (PO.mk (some 58) (.mv (.t 57)) none), (PO.mk (some 59) (.mv (.t 5)) (some (58, true))), (PO.mk (some 60) (.bin .eql (.t 59) (.k (.int .i64 1))) (some (58, true))), (PO.mk (some 61) (.pick (.t 58) (.t 60) (.k (.bool false))) none), (PO.mk (some 62) (.mv (.t 61)) none), (PO.mk (some 63) (.mv (.t 8)) (some (62, true))), (PO.mk (some 64) (.not (.t 63)) (some (62, true))), (PO.mk (some 65) (.pick (.t 62) (.t 64) (.k (.bool false))) none), (PO.mk (some 66) (.mv (.t 65)) none), (PO.mk (some 67) (.mv (.t 10)) (some (66, true))), (PO.mk (some 68) (.pick (.t 66) (.t 67) (.k (.bool false))) none), (PO.mk (some 69) (.mv (.t 68)) none), (PO.mk (some 70) (.mv (.t 9)) (some (69, true))), (PO.mk (some 71) (.bin .eql (.t 70) (.k (.int .i64 1))) (some (69, true))), (PO.mk (some 72) (.pick (.t 69) (.t 71) (.k (.bool false))) none), (PO.mk (some 73) (.mv (.t 72)) none), (PO.mk (some 74) (.call (F 280) [(.t 3)]) (some (73, true))), (PO.mk (some 75) (.bin .eql (.t 74) (.k (.int .i64 1))) (some (73, true))), (PO.mk (some 76) (.pick (.t 73) (.t 75) (.k (.bool false))) none), (PO.mk (some 77) (.mv (.t 76)) none), (PO.mk (some 78) (.call (F 281) [(.t 3), (.k (.int .i64 1))]) (some (77, true))), (PO.mk (some 79) (.bin .eql (.t 78) (.k (.int .i64 1))) (some (77, true))), (PO.mk (some 80) (.pick (.t 77) (.t 79) (.k (.bool false))) none), (PO.mk (some 81) (.mv (.t 80)) none), (PO.mk (some 82) (.call (F 279) [(.t 3)]) (some (81, true))), (PO.mk (some 83) (.bin .eql (.t 82) (.k (.int .i64 40))) (some (81, true))), (PO.mk (some 84) (.pick (.t 81) (.t 83) (.k (.bool false))) none), (PO.mk (some 85) (.mv (.t 84)) none), (PO.mk (some 86) (.pick (.t 85) (.k (.bool true)) (.k (.bool false))) none), (PO.mk (some 87) (.mv (.t 86)) none), (PO.mk (some 88) (.pick (.t 87) (.k (.bool true)) (.k (.bool false))) none), (PO.mk (some 89) (.mv (.t 88)) none), (PO.mk (some 90) (.pick (.t 89) (.k (.bool true)) (.k (.bool false))) none), (PO.mk (some 91) (.mv (.t 90)) none), (PO.mk (some 92) (.pick (.t 91) (.k (.bool true)) (.k (.bool false))) none), (PO.mk (some 0) (.mv (.t 92)) none)]) .ret))))))))))
def k293 (F : Fn) : PF := PF.mk 71 1 [(.t 2)] (.seq (.ops [(PO.mk (some 2) (.mv (.k (.bool false))) none)]) (.seq (.seq (.ops [(PO.mk (some 12) (.call (F 292) []) none), (PO.mk (some 13) (.not (.t 12)) none)]) (.cond (.t 13) (.seq (.ops [(PO.mk (some 2) (.mv (.k (.bool false))) none)]) .ret) .skip)) (.seq (.seq (.ops [(PO.mk (some 14) (.mv (.t 0)) none), (PO.mk (some 15) (.lenSl (.t 14)) none), (PO.mk (some 16) (.bin .gtr (.t 15) (.k (.int .i64 60))) none)]) (.cond (.t 16) (.seq (.ops [(PO.mk (some 2) (.mv (.k (.bool true))) none)]) .ret) .skip)) (.seq (.ops [(PO.mk (some 3) (.alloc [(.map none), (.int .i64 0)]) none)]) (.seq (.ops [(PO.mk (some 4) (.mv (.k (.int .i64 0))) none)]) (.seq (.seq (.ops [(PO.mk (some 17) (.mv (.t 0)) none), (PO.mk (some 18) (.lenSl (.t 17)) none), (PO.mk (some 19) (.mv (.k (.int .i64 0))) none)]) (.block 0 (.loop (.seq (.ops [(PO.mk (some 20) (.bin .lss (.t 19) (.t 18)) none)]) (.seq (.cond (.t 20) .skip (.exit 0)) (.seq (.block 1 (.seq (.ops [(PO.mk (some 21) (.mv (.t 19)) none), (PO.mk (some 22) (.idxSl 1 (.t 17) (.t 19)) none), (PO.mk (some 23) (.load false 1 (.t 22)) none), (PO.mk (some 5) (.mv (.t 21)) none), (PO.mk (some 6) (.mv (.t 23)) none)]) (.seq (.ops [(PO.mk (some 24) (.call (F 279) [(.t 3)]) none), (PO.mk (some 7) (.mv (.t 24)) none)]) (.seq (.ops [(PO.mk (some 25) (.mv (.t 5)) none), (PO.mk (some 26) (.mv (.t 4)) none), (PO.mk (some 27) (.call (F 283) [(.t 3), (.t 25), (.k (.int .i64 1)), (.t 26)]) none)]) (.seq (.seq (.ops [(PO.mk (some 28) (.mv (.t 6)) none)]) (.cond (.t 28) (.seq (.ops [(PO.mk (some 29) (.mv (.t 4)) none), (PO.mk (some 30) (.mv (.t 7)) none), (PO.mk (some 31) (.bin .add (.t 29) (.t 30)) none), (PO.mk (some 4) (.mv (.t 31)) none)]) (.seq (.seq (.ops [(PO.mk (some 33) (.mv (.t 4)) none), (PO.mk (some 34) (.call (F 288) [(.t 3), (.t 33)]) none), (PO.mk (some 32) (.mv (.t 34)) none), (PO.mk (some 35) (.ext 0 (.t 32)) none), (PO.mk (some 36) (.ext 1 (.t 32)) none), (PO.mk (some 8) (.mv (.t 35)) none), (PO.mk (some 9) (.mv (.t 36)) none)]) (.seq (.ops [(PO.mk (some 37) (.mv (.t 9)) none), (PO.mk (some 38) (.not (.t 37)) none), (PO.mk (some 39) (.mv (.t 38)) none), (PO.mk (some 40) (.mv (.t 8)) (some (39, false))), (PO.mk (some 41) (.bin .neq (.t 40) (.k (.int .i64 1))) (some (39, false))), (PO.mk (some 42) (.pick (.t 39) (.k (.bool true)) (.t 41)) none), (PO.mk (some 43) (.mv (.t 42)) none), (PO.mk (some 44) (.call (F 279) [(.t 3)]) (some (43, false))), (PO.mk (some 45) (.mv (.t 7)) (some (43, false))), (PO.mk (some 46) (.bin .mul (.k (.int .i64 2)) (.t 45)) (some (43, false))), (PO.mk (some 47) (.min [(.k (.int .i64 160)), (.t 46)]) (some (43, false))), (PO.mk (some 48) (.bin .neq (.t 44) (.t 47)) (some (43, false))), (PO.mk (some 49) (.pick (.t 43) (.k (.bool true)) (.t 48)) none)]) (.cond (.t 49) (.seq (.ops [(PO.mk (some 2) (.mv (.k (.bool false))) none)]) .ret) .skip))) (.seq (.ops [(PO.mk (some 50) (.mv (.t 5)) none), (PO.mk (some 51) (.call (F 287) [(.t 3), (.t 50)]) none)]) (.exit 1)))) .skip)) (.seq (.seq (.ops [(PO.mk (some 53) (.mv (.t 4)) none), (PO.mk (some 54) (.mv (.t 7)) none), (PO.mk (some 55) (.bin .add (.t 53) (.t 54)) none), (PO.mk (some 56) (.bin .sub (.t 55) (.k (.int .i64 1))) none), (PO.mk (some 57) (.call (F 288) [(.t 3), (.t 56)]) none), (PO.mk (some 52) (.mv (.t 57)) none), (PO.mk (some 58) (.ext 0 (.t 52)) none), (PO.mk (some 59) (.ext 1 (.t 52)) none), (PO.mk (some 10) (.mv (.t 58)) none), (PO.mk (some 11) (.mv (.t 59)) none)]) (.seq (.ops [(PO.mk (some 60) (.mv (.t 11)) none)]) (.cond (.t 60) (.seq (.ops [(PO.mk (some 2) (.mv (.k (.bool false))) none)]) .ret) .skip))) (.seq (.ops [(PO.mk (some 61) (.mv (.t 5)) none), (PO.mk (some 62) (.call (F 284) [(.t 3), (.t 61)]) none)]) (.seq (.ops [(PO.mk (some 63) (.call (F 279) [(.t 3)]) none), (PO.mk (some 64) (.mv (.t 7)) none), (PO.mk (some 65) (.bin .quo (.t 64) (.k (.int .i64 2))) none), (PO.mk (some 66) (.max [(.k (.int .i64 20)), (.t 65)]) none), (PO.mk (some 67) (.bin .neq (.t 63) (.t 66)) none)]) (.cond (.t 67) (.seq (.ops [(PO.mk (some 2) (.mv (.k (.bool false))) none)]) .ret) .skip))))))))) (.ops [(PO.mk (some 68) (.bin .add (.t 19) (.k (.int .i64 1))) none), (PO.mk (some 19) (.mv (.t 68)) none)]))))))) (.seq (.ops [(PO.mk (some 69) (.call (F 280) [(.t 3)]) none), (PO.mk (some 70) (.bin .eql (.t 69) (.k (.int .i64 0))) none), (PO.mk (some 2) (.mv (.t 70)) none)]) .ret)))))))
def k294 (F : Fn) : PF := PF.mk 110 2 [(.t 4)] (.seq (.ops [(PO.mk (some 4) (.mv (.k (.bool false))) none)]) (.seq (.seq (.ops [(PO.mk (some 14) (.call (F 292) []) none), (PO.mk (some 15) (.not (.t 14)) none)]) (.cond (.t 15) (.seq (.ops [(PO.mk (some 4) (.mv (.k (.bool false))) none)]) .ret) .skip)) (.seq (.seq (.ops [(PO.mk (some 16) (.mv (.t 0)) none), (PO.mk (some 17) (.bin .lss (.t 16) (.k (.int .i64 0))) none), (PO.mk (some 18) (.mv (.t 17)) none), (PO.mk (some 19) (.mv (.t 0)) (some (18, false))), (PO.mk (some 20) (.bin .gtr (.t 19) (.k (.int .i64 60))) (some (18, false))), (PO.mk (some 21) (.pick (.t 18) (.k (.bool true)) (.t 20)) none), (PO.mk (some 22) (.mv (.t 21)) none), (PO.mk (some 23) (.mv (.t 1)) (some (22, false))), (PO.mk (some 24) (.bin .lss (.t 23) (.k (.int .i64 1))) (some (22, false))), (PO.mk (some 25) (.pick (.t 22) (.k (.bool true)) (.t 24)) none), (PO.mk (some 26) (.mv (.t 25)) none), (PO.mk (some 27) (.mv (.t 1)) (some (26, false))), (PO.mk (some 28) (.bin .gtr (.t 27) (.k (.int .i64 5))) (some (26, false))), (PO.mk (some 29) (.pick (.t 26) (.k (.bool true)) (.t 28)) none)]) (.cond (.t 29) (.seq (.ops [(PO.mk (some 4) (.mv (.k (.bool true))) none)]) .ret) .skip)) (.seq (.ops [(PO.mk (some 5) (.mv (.k (.sl .nil [] 0))) none)]) (.seq (.seq (.ops [(PO.mk (some 30) (.mv (.t 0)) none), (PO.mk (some 31) (.mv (.k (.int .i64 0))) none)]) (.block 0 (.loop (.seq (.ops [(PO.mk (some 32) (.bin .lss (.t 31) (.t 30)) none)]) (.seq (.cond (.t 32) .skip (.exit 0)) (.seq (.block 1 (.seq (.ops [(PO.mk (some 33) (.mv (.t 31)) none), (PO.mk (some 6) (.mv (.t 33)) none)]) (.ops [(PO.mk (some 34) (.mv (.t 5)) none), (PO.mk (some 35) (.mv (.t 6)) none), (PO.mk (some 36) (.bsl false 1 1 [(.int .i64 0)] [(0, (1, (.t 35)))]) none), (PO.mk (some 37) (.app 1 8 (.t 34) (.t 36)) none), (PO.mk (some 5) (.mv (.t 37)) none)]))) (.ops [(PO.mk (some 38) (.bin .add (.t 31) (.k (.int .i64 1))) none), (PO.mk (some 31) (.mv (.t 38)) none)]))))))) (.seq (.ops [(PO.mk (some 40) (.mv (.t 5)) none), (PO.mk (some 41) (.call (F 291) [(.t 40)]) none), (PO.mk (some 39) (.mv (.t 41)) none), (PO.mk (some 42) (.ext 0 (.t 39)) none), (PO.mk (some 43) (.ext 1 (.t 39)) none), (PO.mk (some 7) (.mv (.t 42)) none), (PO.mk (some 8) (.mv (.t 43)) none)]) (.seq (.seq (.ops [(PO.mk (some 44) (.mv (.t 7)) none), (PO.mk (some 45) (.eqa .ptr false (.t 44) (.k (.ptr none))) none)]) (.cond (.t 45) (.seq (.ops [(PO.mk (some 4) (.mv (.k (.bool false))) none)]) .ret) .skip)) (.seq (.ops [(PO.mk (some 9) (.alloc [(.map none), (.int .i64 0)]) none)]) (.seq (.ops [(PO.mk (some 46) POp.mkmap none), (PO.mk (some 10) (.mv (.t 46)) none)]) (.seq (.seq (.ops [(PO.mk (some 47) (.mv (.k (.int .i64 0))) none)]) (.block 2 (.loop (.seq (.ops [(PO.mk (some 48) (.bin .lss (.t 47) (.k (.int .i64 3))) none)]) (.seq (.cond (.t 48) .skip (.exit 2)) (.seq (.block 3 (.seq (.ops [(PO.mk (some 49) (.mv (.t 1)) none), (PO.mk (some 50) (.mv (.k (.int .i64 0))) none)]) (.block 4 (.loop (.seq (.ops [(PO.mk (some 51) (.bin .lss (.t 50) (.t 49)) none)]) (.seq (.cond (.t 51) .skip (.exit 4)) (.seq (.block 5 (.seq (.ops [(PO.mk (some 52) (.mv (.t 50)) none), (PO.mk (some 11) (.mv (.t 52)) none)]) (.seq (.seq (.ops [(PO.mk (some 53) (.mv (.t 7)) none), (PO.mk (some 54) (.mv (.t 11)) none), (PO.mk (some 55) (.mv (.t 7)) none), (PO.mk (some 56) (.call (F 272) [(.t 55)]) none), (PO.mk (some 57) (.call (F 289) [(.t 9), (.t 53), (.t 54), (.t 56)]) none), (PO.mk (some 58) (.lenSl (.t 57)) none), (PO.mk (some 59) (.mv (.k (.int .i64 0))) none)]) (.block 6 (.loop (.seq (.ops [(PO.mk (some 60) (.bin .lss (.t 59) (.t 58)) none)]) (.seq (.cond (.t 60) .skip (.exit 6)) (.seq (.block 7 (.seq (.ops [(PO.mk (some 61) (.idxSl 1 (.t 57) (.t 59)) none), (PO.mk (some 62) (.load false 1 (.t 61)) none), (PO.mk (some 13) (.mv (.t 62)) none)]) (.seq (.seq (.ops [(PO.mk (some 63) (.mv (.t 10)) none), (PO.mk (some 64) (.mv (.t 13)) none), (PO.mk (some 65) (.lookup .int (.bool false) false (.t 63) (.t 64)) none), (PO.mk (some 66) (.mv (.t 65)) none), (PO.mk (some 67) (.mv (.t 13)) (some (66, false))), (PO.mk (some 68) (.mv (.t 11)) (some (66, false))), (PO.mk (some 69) (.call (F 283) [(.t 9), (.t 67), (.t 68), (.k (.int .i64 0))]) (some (66, false))), (PO.mk (some 70) (.bin .neq (.t 69) (.k (.int .i64 0))) (some (66, false))), (PO.mk (some 71) (.pick (.t 66) (.k (.bool true)) (.t 70)) none), (PO.mk (some 72) (.mv (.t 71)) none), (PO.mk (some 73) (.mv (.t 7)) (some (72, false))), (PO.mk (some 74) (.nilck (.t 73)) (some (72, false))), (PO.mk (some 75) (.fldA 0 (.t 74)) (some (72, false))), (PO.mk (some 76) (.load false 1 (.t 75)) (some (72, false))), (PO.mk (some 77) (.mv (.t 13)) (some (72, false))), (PO.mk (some 78) (.call (F 161) [(.t 76), (.t 77)]) (some (72, false))), (PO.mk (some 79) (.fld false 102 1 (.t 78)) (some (72, false))), (PO.mk (some 80) (.bin .gtr (.t 79) (.k (.int .i64 1024))) (some (72, false))), (PO.mk (some 81) (.pick (.t 72) (.k (.bool true)) (.t 80)) none)]) (.cond (.t 81) (.seq (.ops [(PO.mk (some 4) (.mv (.k (.bool false))) none)]) .ret) .skip)) (.ops [(PO.mk (some 82) (.mv (.t 10)) none), (PO.mk (some 83) (.mv (.t 13)) none), (PO.mk none (.mset .int (.t 82) (.t 83) (.k (.bool true))) none)])))) (.ops [(PO.mk (some 84) (.bin .add (.t 59) (.k (.int .i64 1))) none), (PO.mk (some 59) (.mv (.t 84)) none)]))))))) (.seq (.ops [(PO.mk (some 85) (.mv (.t 11)) none), (PO.mk (some 86) (.call (F 281) [(.t 9), (.t 85)]) none), (PO.mk (some 87) (.bin .gtr (.t 86) (.k (.int .i64 16))) none)]) (.cond (.t 87) (.seq (.ops [(PO.mk (some 4) (.mv (.k (.bool false))) none)]) .ret) .skip))))) (.ops [(PO.mk (some 88) (.bin .add (.t 50) (.k (.int .i64 1))) none), (PO.mk (some 50) (.mv (.t 88)) none)])))))))) (.ops [(PO.mk (some 89) (.bin .add (.t 47) (.k (.int .i64 1))) none), (PO.mk (some 47) (.mv (.t 89)) none)]))))))) (.seq (.draw [(.e, (PO.mk (some 90) (.mv (.t 10)) none)), (.e, (PO.mk (some 92) (.mv (.t 7)) none)), (.e, (PO.mk (some 93) (.nilck (.t 92)) none)), (.e, (PO.mk (some 94) (.fldA 0 (.t 93)) none)), (.e, (PO.mk (some 96) (.mv (.t 7)) none)), (.e, (PO.mk (some 100) (.mv (.t 1)) none)), (.e, (PO.mk (some 101) (.bin .mul (.k (.int .i64 16)) (.t 100)) none)), (.s, (PO.mk (some 91) (.lenMap (.t 90)) none)), (.s, (PO.mk (some 95) (.load false 1 (.t 94)) none)), (.s, (PO.mk (some 97) (.call (F 272) [(.t 96)]) none)), (.s, (PO.mk (some 98) (.call (F 161) [(.t 95), (.t 97)]) none)), (.e, (PO.mk (some 99) (.fld false 102 1 (.t 98)) none)), (.e, (PO.mk (some 102) (.min [(.t 99), (.t 101)]) none)), (.e, (PO.mk (some 103) (.bin .eql (.t 91) (.t 102)) none)), (.e, (PO.mk (some 104) (.mv (.t 103)) none)), (.e, (PO.mk (some 106) (.mv (.t 10)) (some (104, true)))), (.s, (PO.mk (some 105) (.call (F 280) [(.t 9)]) (some (104, true)))), (.s, (PO.mk (some 107) (.lenMap (.t 106)) (some (104, true)))), (.e, (PO.mk (some 108) (.bin .eql (.t 105) (.t 107)) (some (104, true)))), (.e, (PO.mk (some 109) (.pick (.t 104) (.t 108) (.k (.bool false))) none)), (.e, (PO.mk (some 4) (.mv (.t 109)) none))]) .ret)))))))))))
def k295 (F : Fn) : PF := PF.mk 100 2 [(.t 4)] (.seq (.ops [(PO.mk (some 4) (.mv (.k (.bool false))) none)]) (.seq (.seq (.ops [(PO.mk (some 14) (.call (F 292) []) none), (PO.mk (some 15) (.not (.t 14)) none)]) (.cond (.t 15) (.seq (.ops [(PO.mk (some 4) (.mv (.k (.bool false))) none)]) .ret) .skip)) (.seq (.seq (.ops [(PO.mk (some 16) (.mv (.t 0)) none), (PO.mk (some 17) (.lenSl (.t 16)) none), (PO.mk (some 18) (.bin .gtr (.t 17) (.k (.int .i64 20))) none), (PO.mk (some 19) (.mv (.t 18)) none), (PO.mk (some 20) (.mv (.t 1)) (some (19, false))), (PO.mk (some 21) (.bin .lss (.t 20) (.k (.int .i64 0))) (some (19, false))), (PO.mk (some 22) (.pick (.t 19) (.k (.bool true)) (.t 21)) none), (PO.mk (some 23) (.mv (.t 22)) none), (PO.mk (some 24) (.mv (.t 1)) (some (23, false))), (PO.mk (some 25) (.bin .gtr (.t 24) (.k (.int .i64 1000))) (some (23, false))), (PO.mk (some 26) (.pick (.t 23) (.k (.bool true)) (.t 25)) none)]) (.cond (.t 26) (.seq (.ops [(PO.mk (some 4) (.mv (.k (.bool true))) none)]) .ret) .skip)) (.seq (.ops [(PO.mk (some 5) (.alloc [(.map none), (.int .i64 0)]) none)]) (.seq (.seq (.ops [(PO.mk (some 27) (.mv (.t 0)) none), (PO.mk (some 28) (.lenSl (.t 27)) none), (PO.mk (some 29) (.mv (.k (.int .i64 0))) none)]) (.block 0 (.loop (.seq (.ops [(PO.mk (some 30) (.bin .lss (.t 29) (.t 28)) none)]) (.seq (.cond (.t 30) .skip (.exit 0)) (.seq (.block 1 (.seq (.ops [(PO.mk (some 31) (.mv (.t 29)) none), (PO.mk (some 32) (.idxSl 1 (.t 27) (.t 29)) none), (PO.mk (some 33) (.load false 1 (.t 32)) none), (PO.mk (some 6) (.mv (.t 31)) none), (PO.mk (some 7) (.mv (.t 33)) none)]) (.seq (.seq (.ops [(PO.mk (some 34) (.mv (.t 7)) none), (PO.mk (some 35) (.bin .lss (.t 34) (.k (.int .i64 0))) none), (PO.mk (some 36) (.mv (.t 35)) none), (PO.mk (some 37) (.mv (.t 7)) (some (36, false))), (PO.mk (some 38) (.bin .gtr (.t 37) (.k (.int .i64 1000))) (some (36, false))), (PO.mk (some 39) (.pick (.t 36) (.k (.bool true)) (.t 38)) none)]) (.cond (.t 39) (.seq (.ops [(PO.mk (some 4) (.mv (.k (.bool true))) none)]) .ret) .skip)) (.ops [(PO.mk (some 40) (.mv (.t 6)) none), (PO.mk (some 41) (.bin .add (.k (.int .i64 100)) (.t 40)) none), (PO.mk (some 42) (.mv (.t 6)) none), (PO.mk (some 43) (.mv (.t 7)) none), (PO.mk (some 44) (.call (F 283) [(.t 5), (.t 41), (.t 42), (.t 43)]) none)])))) (.ops [(PO.mk (some 45) (.bin .add (.t 29) (.k (.int .i64 1))) none), (PO.mk (some 29) (.mv (.t 45)) none)]))))))) (.seq (.ops [(PO.mk (some 8) (.mv (.k (.int .i64 (-1)))) none)]) (.seq (.seq (.ops [(PO.mk (some 46) (.mv (.k (.int .i64 0))) none)]) (.block 2 (.loop (.seq (.ops [(PO.mk (some 47) (.bin .lss (.t 46) (.k (.int .i64 25))) none)]) (.seq (.cond (.t 47) .skip (.exit 2)) (.seq (.block 3 (.seq (.ops [(PO.mk (some 48) (.call (F 279) [(.t 5)]) none), (PO.mk (some 9) (.mv (.t 48)) none)]) (.seq (.ops [(PO.mk (some 50) (.mv (.t 1)) none), (PO.mk (some 51) (.call (F 288) [(.t 5), (.t 50)]) none), (PO.mk (some 49) (.mv (.t 51)) none), (PO.mk (some 52) (.ext 0 (.t 49)) none), (PO.mk (some 53) (.ext 1 (.t 49)) none), (PO.mk (some 10) (.mv (.t 52)) none), (PO.mk (some 11) (.mv (.t 53)) none)]) (.seq (.ops [(PO.mk (some 12) (.mv (.k (.int .i64 (-1)))) none)]) (.seq (.seq (.ops [(PO.mk (some 54) (.mv (.t 0)) none), (PO.mk (some 55) (.lenSl (.t 54)) none), (PO.mk (some 56) (.bin .sub (.t 55) (.k (.int .i64 1))) none), (PO.mk (some 13) (.mv (.t 56)) none)]) (.block 4 (.loop (.seq (.seq (.ops [(PO.mk (some 57) (.mv (.t 13)) none), (PO.mk (some 58) (.bin .geq (.t 57) (.k (.int .i64 0))) none)]) (.cond (.t 58) .skip (.exit 4))) (.seq (.block 5 (.seq (.ops [(PO.mk (some 61) (.mv (.t 13)) none), (PO.mk (some 62) (.call (F 281) [(.t 5), (.t 61)]) none), (PO.mk (some 63) (.bin .gtr (.t 62) (.k (.int .i64 0))) none), (PO.mk (some 64) (.mv (.t 63)) none), (PO.mk (some 65) (.mv (.t 1)) (some (64, true))), (PO.mk (some 66) (.mv (.t 0)) (some (64, true))), (PO.mk (some 67) (.mv (.t 13)) (some (64, true))), (PO.mk (some 68) (.idxSl 1 (.t 66) (.t 67)) (some (64, true))), (PO.mk (some 69) (.load false 1 (.t 68)) (some (64, true))), (PO.mk (some 70) (.bin .sub (.t 65) (.t 69)) (some (64, true))), (PO.mk (some 71) (.mv (.t 9)) (some (64, true))), (PO.mk (some 72) (.bin .geq (.t 70) (.t 71)) (some (64, true))), (PO.mk (some 73) (.pick (.t 64) (.t 72) (.k (.bool false))) none)]) (.cond (.t 73) (.ops [(PO.mk (some 74) (.mv (.t 13)) none), (PO.mk (some 12) (.mv (.t 74)) none)]) .skip))) (.ops [(PO.mk (some 59) (.mv (.t 13)) none), (PO.mk (some 60) (.bin .sub (.t 59) (.k (.int .i64 1))) none), (PO.mk (some 13) (.mv (.t 60)) none)])))))) (.seq (.seq (.ops [(PO.mk (some 75) (.mv (.t 11)) none), (PO.mk (some 76) (.mv (.t 12)) none), (PO.mk (some 77) (.bin .geq (.t 76) (.k (.int .i64 0))) none), (PO.mk (some 78) (.eqa .bool true (.t 75) (.t 77)) none), (PO.mk (some 79) (.mv (.t 78)) none), (PO.mk (some 80) (.mv (.t 11)) (some (79, false))), (PO.mk (some 81) (.mv (.t 80)) (some (79, false))), (PO.mk (some 82) (.mv (.t 10)) (some (81, true))), (PO.mk (some 83) (.mv (.t 12)) (some (81, true))), (PO.mk (some 84) (.bin .neq (.t 82) (.t 83)) (some (81, true))), (PO.mk (some 85) (.pick (.t 81) (.t 84) (.k (.bool false))) (some (79, false))), (PO.mk (some 86) (.pick (.t 79) (.k (.bool true)) (.t 85)) none)]) (.cond (.t 86) (.seq (.ops [(PO.mk (some 4) (.mv (.k (.bool false))) none)]) .ret) .skip)) (.seq (.seq (.ops [(PO.mk (some 87) (.mv (.t 11)) none), (PO.mk (some 88) (.not (.t 87)) none)]) (.cond (.t 88) (.seq (.ops [(PO.mk (some 4) (.mv (.k (.bool true))) none)]) .ret) .skip)) (.seq (.seq (.ops [(PO.mk (some 89) (.mv (.t 8)) none), (PO.mk (some 90) (.mv (.t 10)) none), (PO.mk (some 91) (.bin .eql (.t 89) (.t 90)) none), (PO.mk (some 92) (.mv (.t 91)) none), (PO.mk (some 93) (.mv (.t 10)) (some (92, false))), (PO.mk (some 94) (.call (F 285) [(.t 5), (.t 93)]) (some (92, false))), (PO.mk (some 95) (.lenSl (.t 94)) (some (92, false))), (PO.mk (some 96) (.bin .neq (.t 95) (.k (.int .i64 1))) (some (92, false))), (PO.mk (some 97) (.pick (.t 92) (.k (.bool true)) (.t 96)) none)]) (.cond (.t 97) (.seq (.ops [(PO.mk (some 4) (.mv (.k (.bool false))) none)]) .ret) .skip)) (.ops [(PO.mk (some 98) (.mv (.t 10)) none), (PO.mk (some 8) (.mv (.t 98)) none)]))))))))) (.ops [(PO.mk (some 99) (.bin .add (.t 46) (.k (.int .i64 1))) none), (PO.mk (some 46) (.mv (.t 99)) none)]))))))) (.seq (.ops [(PO.mk (some 4) (.mv (.k (.bool false))) none)]) .ret))))))))
def k296 (F : Fn) : PF := PF.mk 144 2 [(.t 4)] (.seq (.ops [(PO.mk (some 4) (.mv (.k (.bool false))) none)]) (.seq (.seq (.ops [(PO.mk (some 24) (.call (F 292) []) none), (PO.mk (some 25) (.not (.t 24)) none)]) (.cond (.t 25) (.seq (.ops [(PO.mk (some 4) (.mv (.k (.bool false))) none)]) .ret) .skip)) (.seq (.seq (.ops [(PO.mk (some 26) (.mv (.t 0)) none), (PO.mk (some 27) (.bin .lss (.t 26) (.k (.int .i64 1))) none), (PO.mk (some 28) (.mv (.t 27)) none), (PO.mk (some 29) (.mv (.t 0)) (some (28, false))), (PO.mk (some 30) (.bin .gtr (.t 29) (.k (.int .i64 30))) (some (28, false))), (PO.mk (some 31) (.pick (.t 28) (.k (.bool true)) (.t 30)) none), (PO.mk (some 32) (.mv (.t 31)) none), (PO.mk (some 33) (.mv (.t 1)) (some (32, false))), (PO.mk (some 34) (.lenSl (.t 33)) (some (32, false))), (PO.mk (some 35) (.bin .gtr (.t 34) (.k (.int .i64 30))) (some (32, false))), (PO.mk (some 36) (.pick (.t 32) (.k (.bool true)) (.t 35)) none)]) (.cond (.t 36) (.seq (.ops [(PO.mk (some 4) (.mv (.k (.bool true))) none)]) .ret) .skip)) (.seq (.ops [(PO.mk (some 5) (.mv (.k (.sl .nil [] 0))) none)]) (.seq (.seq (.ops [(PO.mk (some 37) (.mv (.t 0)) none), (PO.mk (some 38) (.mv (.k (.int .i64 0))) none)]) (.block 0 (.loop (.seq (.ops [(PO.mk (some 39) (.bin .lss (.t 38) (.t 37)) none)]) (.seq (.cond (.t 39) .skip (.exit 0)) (.seq (.block 1 (.seq (.ops [(PO.mk (some 40) (.mv (.t 38)) none), (PO.mk (some 6) (.mv (.t 40)) none)]) (.ops [(PO.mk (some 41) (.mv (.t 5)) none), (PO.mk (some 42) (.mv (.t 6)) none), (PO.mk (some 43) (.bsl false 1 1 [(.int .i64 0)] [(0, (1, (.t 42)))]) none), (PO.mk (some 44) (.app 1 8 (.t 41) (.t 43)) none), (PO.mk (some 5) (.mv (.t 44)) none)]))) (.ops [(PO.mk (some 45) (.bin .add (.t 38) (.k (.int .i64 1))) none), (PO.mk (some 38) (.mv (.t 45)) none)]))))))) (.seq (.ops [(PO.mk (some 47) (.mv (.t 5)) none), (PO.mk (some 48) (.call (F 291) [(.t 47)]) none), (PO.mk (some 46) (.mv (.t 48)) none), (PO.mk (some 49) (.ext 0 (.t 46)) none), (PO.mk (some 50) (.ext 1 (.t 46)) none), (PO.mk (some 7) (.mv (.t 49)) none), (PO.mk (some 8) (.mv (.t 50)) none)]) (.seq (.seq (.ops [(PO.mk (some 51) (.mv (.t 7)) none), (PO.mk (some 52) (.eqa .ptr false (.t 51) (.k (.ptr none))) none)]) (.cond (.t 52) (.seq (.ops [(PO.mk (some 4) (.mv (.k (.bool false))) none)]) .ret) .skip)) (.seq (.ops [(PO.mk (some 9) (.alloc [(.map none), (.int .i64 0)]) none)]) (.seq (.ops [(PO.mk (some 53) (.mv (.t 7)) none), (PO.mk (some 54) (.mv (.t 7)) none), (PO.mk (some 55) (.call (F 272) [(.t 54)]) none), (PO.mk (some 56) (.call (F 289) [(.t 9), (.t 53), (.k (.int .i64 1)), (.t 55)]) none), (PO.mk (some 10) (.mv (.t 56)) none)]) (.seq (.seq (.ops [(PO.mk (some 57) (.mv (.t 10)) none), (PO.mk (some 58) (.lenSl (.t 57)) none), (PO.mk (some 59) (.mv (.k (.int .i64 0))) none)]) (.block 2 (.loop (.seq (.ops [(PO.mk (some 60) (.bin .lss (.t 59) (.t 58)) none)]) (.seq (.cond (.t 60) .skip (.exit 2)) (.seq (.block 3 (.seq (.ops [(PO.mk (some 61) (.idxSl 1 (.t 57) (.t 59)) none), (PO.mk (some 62) (.load false 1 (.t 61)) none), (PO.mk (some 12) (.mv (.t 62)) none)]) (.seq (.ops [(PO.mk (some 63) (.mv (.t 12)) none), (PO.mk (some 64) (.call (F 283) [(.t 9), (.t 63), (.k (.int .i64 1)), (.k (.int .i64 0))]) none), (PO.mk (some 65) (.bin .neq (.t 64) (.k (.int .i64 0))) none)]) (.cond (.t 65) (.seq (.ops [(PO.mk (some 4) (.mv (.k (.bool false))) none)]) .ret) .skip)))) (.ops [(PO.mk (some 66) (.bin .add (.t 59) (.k (.int .i64 1))) none), (PO.mk (some 59) (.mv (.t 66)) none)]))))))) (.seq (.seq (.ops [(PO.mk (some 67) (.mv (.t 1)) none), (PO.mk (some 68) (.lenSl (.t 67)) none), (PO.mk (some 69) (.mv (.k (.int .i64 0))) none)]) (.block 4 (.loop (.seq (.ops [(PO.mk (some 70) (.bin .lss (.t 69) (.t 68)) none)]) (.seq (.cond (.t 70) .skip (.exit 4)) (.seq (.block 5 (.seq (.ops [(PO.mk (some 71) (.idxSl 1 (.t 67) (.t 69)) none), (PO.mk (some 72) (.load false 1 (.t 71)) none), (PO.mk (some 14) (.mv (.t 72)) none)]) (.ops [(PO.mk (some 73) (.mv (.t 14)) none), (PO.mk (some 74) (.call (F 287) [(.t 9), (.t 73)]) none)]))) (.ops [(PO.mk (some 75) (.bin .add (.t 69) (.k (.int .i64 1))) none), (PO.mk (some 69) (.mv (.t 75)) none)]))))))) (.seq (.ops [(PO.mk (some 15) (.mv (.k (.sl .nil [] 0))) none)]) (.seq (.seq (.ops [(PO.mk (some 76) (.mv (.t 10)) none), (PO.mk (some 77) (.lenSl (.t 76)) none), (PO.mk (some 78) (.mv (.k (.int .i64 0))) none)]) (.block 6 (.loop (.seq (.ops [(PO.mk (some 79) (.bin .lss (.t 78) (.t 77)) none)]) (.seq (.cond (.t 79) .skip (.exit 6)) (.seq (.block 7 (.seq (.ops [(PO.mk (some 80) (.idxSl 1 (.t 76) (.t 78)) none), (PO.mk (some 81) (.load false 1 (.t 80)) none), (PO.mk (some 17) (.mv (.t 81)) none)]) (.seq (.ops [(PO.mk (some 83) (.mv (.t 17)) none), (PO.mk (some 84) (.call (F 282) [(.t 9), (.t 83)]) none), (PO.mk (some 82) (.mv (.t 84)) none), (PO.mk (some 85) (.ext 0 (.t 82)) none), (PO.mk (some 86) (.ext 1 (.t 82)) none), (PO.mk (some 18) (.mv (.t 85)) none), (PO.mk (some 19) (.mv (.t 86)) none)]) (.seq (.ops [(PO.mk (some 87) (.mv (.t 19)) none)]) (.cond (.t 87) (.ops [(PO.mk (some 88) (.mv (.t 15)) none), (PO.mk (some 89) (.mv (.t 17)) none), (PO.mk (some 90) (.bsl false 1 1 [(.int .i64 0)] [(0, (1, (.t 89)))]) none), (PO.mk (some 91) (.app 1 8 (.t 88) (.t 90)) none), (PO.mk (some 15) (.mv (.t 91)) none)]) .skip))))) (.ops [(PO.mk (some 92) (.bin .add (.t 78) (.k (.int .i64 1))) none), (PO.mk (some 78) (.mv (.t 92)) none)]))))))) (.seq (.ops [(PO.mk (some 93) (.call (F 285) [(.t 9), (.k (.int .i64 1))]) none), (PO.mk (some 20) (.mv (.t 93)) none)]) (.seq (.ops [(PO.mk (some 94) (.mv (.t 7)) none), (PO.mk (some 95) (.mv (.t 7)) none), (PO.mk (some 96) (.call (F 272) [(.t 95)]) none), (PO.mk (some 97) (.call (F 289) [(.t 9), (.t 94), (.k (.int .i64 2)), (.t 96)]) none), (PO.mk (some 21) (.mv (.t 97)) none)]) (.seq (.seq (.ops [(PO.mk (some 98) (.mv (.t 20)) none), (PO.mk (some 99) (.lenSl (.t 98)) none), (PO.mk (some 100) (.mv (.t 15)) none), (PO.mk (some 101) (.lenSl (.t 100)) none), (PO.mk (some 102) (.bin .neq (.t 99) (.t 101)) none), (PO.mk (some 103) (.mv (.t 102)) none), (PO.mk (some 104) (.mv (.t 21)) (some (103, false))), (PO.mk (some 105) (.lenSl (.t 104)) (some (103, false))), (PO.mk (some 106) (.mv (.t 10)) (some (103, false))), (PO.mk (some 107) (.lenSl (.t 106)) (some (103, false))), (PO.mk (some 108) (.bin .neq (.t 105) (.t 107)) (some (103, false))), (PO.mk (some 109) (.pick (.t 103) (.k (.bool true)) (.t 108)) none), (PO.mk (some 110) (.mv (.t 109)) none), (PO.mk (some 111) (.call (F 280) [(.t 9)]) (some (110, false))), (PO.mk (some 112) (.bin .neq (.t 111) (.k (.int .i64 0))) (some (110, false))), (PO.mk (some 113) (.pick (.t 110) (.k (.bool true)) (.t 112)) none)]) (.cond (.t 113) (.seq (.ops [(PO.mk (some 4) (.mv (.k (.bool false))) none)]) .ret) .skip)) (.seq (.seq (.ops [(PO.mk (some 114) (.mv (.t 20)) none), (PO.mk (some 115) (.lenSl (.t 114)) none), (PO.mk (some 116) (.mv (.k (.int .i64 0))) none)]) (.block 8 (.loop (.seq (.ops [(PO.mk (some 117) (.bin .lss (.t 116) (.t 115)) none)]) (.seq (.cond (.t 117) .skip (.exit 8)) (.seq (.block 9 (.seq (.ops [(PO.mk (some 118) (.mv (.t 116)) none), (PO.mk (some 22) (.mv (.t 118)) none)]) (.seq (.draw [(.e, (PO.mk (some 119) (.mv (.t 20)) none)), (.e, (PO.mk (some 120) (.mv (.t 22)) none)), (.e, (PO.mk (some 121) (.idxSl 1 (.t 119) (.t 120)) none)), (.e, (PO.mk (some 123) (.mv (.t 15)) none)), (.e, (PO.mk (some 124) (.mv (.t 22)) none)), (.e, (PO.mk (some 125) (.idxSl 1 (.t 123) (.t 124)) none)), (.s, (PO.mk (some 122) (.load false 1 (.t 121)) none)), (.s, (PO.mk (some 126) (.load false 1 (.t 125)) none)), (.e, (PO.mk (some 127) (.bin .neq (.t 122) (.t 126)) none))]) (.cond (.t 127) (.seq (.ops [(PO.mk (some 4) (.mv (.k (.bool false))) none)]) .ret) .skip)))) (.ops [(PO.mk (some 128) (.bin .add (.t 116) (.k (.int .i64 1))) none), (PO.mk (some 116) (.mv (.t 128)) none)]))))))) (.seq (.seq (.ops [(PO.mk (some 129) (.mv (.t 10)) none), (PO.mk (some 130) (.lenSl (.t 129)) none), (PO.mk (some 131) (.mv (.k (.int .i64 0))) none)]) (.block 10 (.loop (.seq (.ops [(PO.mk (some 132) (.bin .lss (.t 131) (.t 130)) none)]) (.seq (.cond (.t 132) .skip (.exit 10)) (.seq (.block 11 (.seq (.ops [(PO.mk (some 133) (.mv (.t 131)) none), (PO.mk (some 23) (.mv (.t 133)) none)]) (.seq (.draw [(.e, (PO.mk (some 134) (.mv (.t 21)) none)), (.e, (PO.mk (some 135) (.mv (.t 23)) none)), (.e, (PO.mk (some 136) (.idxSl 1 (.t 134) (.t 135)) none)), (.e, (PO.mk (some 138) (.mv (.t 10)) none)), (.e, (PO.mk (some 139) (.mv (.t 23)) none)), (.e, (PO.mk (some 140) (.idxSl 1 (.t 138) (.t 139)) none)), (.s, (PO.mk (some 137) (.load false 1 (.t 136)) none)), (.s, (PO.mk (some 141) (.load false 1 (.t 140)) none)), (.e, (PO.mk (some 142) (.bin .neq (.t 137) (.t 141)) none))]) (.cond (.t 142) (.seq (.ops [(PO.mk (some 4) (.mv (.k (.bool false))) none)]) .ret) .skip)))) (.ops [(PO.mk (some 143) (.bin .add (.t 131) (.k (.int .i64 1))) none), (PO.mk (some 131) (.mv (.t 143)) none)]))))))) (.seq (.ops [(PO.mk (some 4) (.mv (.k (.bool true))) none)]) .ret)))))))))))))))))))
structure OkLaw18 (P : Program) (F : Fn) : Prop where
  mixed : P.follows .mixedOrders = true
  toOkWindow : OkWindow P F
  h290 : compFn P ⟨[], [], [], [], []⟩ (F 290) = some (k290 F)
  h291 : compFn P ⟨[], [], [], [], []⟩ (F 291) = some (k291 F)
  h292 : compFn P ⟨[], [], [], [], []⟩ (F 292) = some (k292 F)
  h293 : compFn P ⟨[], [], [], [], []⟩ (F 293) = some (k293 F)
  h294 : compFn P ⟨[], [], [], [], []⟩ (F 294) = some (k294 F)
  h295 : compFn P ⟨[], [], [], [], []⟩ (F 295) = some (k295 F)
  h296 : compFn P ⟨[], [], [], [], []⟩ (F 296) = some (k296 F)
end Go.Ab
set_option linter.unusedSimpArgs false
set_option linter.unusedVariables false
namespace Go.Ab
open Go Go.RowKit
def Gh.all (w : World) : Gh := { ι := fun _ => none, pm := fun b o => if b < w.heap.size then w.cell? ⟨b, o, none⟩ else none, N := 0, fresh := fun _ _ => rfl }
theorem stRel_all (w : World) : StRel w.heap.size w (Gh.all w) (fun _ => none) w := by
  refine ⟨Below.refl _ _, Nat.le_refl _, fun id b x h => (by cases h), fun b o v h => ?_, fun id ob h => (by cases h), fun id id' b x x' h => absurd rfl h⟩
  simp only [Gh.all] at h
  split at h
  · exact h
  · cases h
theorem calls_of_acalls {P : Program} {f : FuncId} {args : List V} {w : World} {xs : List Value} (h : ACalls P f args (fun _ => none) fun v _ => v = .bool true) (ha : LRel (Gh.all w) args xs) :
    Calls P f xs.toArray w fun e w' => e = .returned (.bool true) ∧ Below w.heap.size w w' := by
  refine (h (fun _ => none) (fun _ => .inl rfl) w.heap.size w (Gh.all w) w xs (by rw [St.add_none]; exact stRel_all w) ha).mono ?_
  rintro e w' ⟨v, x, G', st', rfl, h1, h2, h3, h4, rfl⟩
  cases h2
  exact ⟨rfl, h4.below⟩
end Go.Ab
set_option linter.unusedSimpArgs false
set_option linter.unusedVariables false
namespace Go.Ab
open Go Go.RowKit Go.ChangeShapes Go.WideShapes Go.Deep
def ofCellV : Value → V
  | .bool b => .bool b
  | .int k n => .int k n
  | .string s => .str s
  | _ => .junk
theorem ofCellV_rel (G : Gh) (x : Value) : VRel G (ofCellV x) x := by
  cases x <;> first | exact .bool _ | exact .int _ _ | exact .str _ | exact .junk _
def plainCell : Value → Bool
  | .bool _ | .int .. | .string _ | .slice .. => true
  | _ => false
theorem plainCell_one {x : Value} (h : plainCell x = true) : x.oneCell' = true := by
  cases x <;> first | rfl | cases h
def plainTy (P : Program) : Nat → TypeId → Option Nat
  | 0, _ => none
  | d + 1, t =>
    match P.underlying t with
    | some (.int _) | some .bool | some .string | some (.slice _) => some 1
    | some (.struct fs) => (flatFs P (plainTy P d) fs.toList 0).bind fun n => if P.cellsOf t = n then some n else none
    | some (.array len e) => (plainTy P d e).bind fun m => if P.cellsOf e = m ∧ P.cellsOf t = len * m then some (len * m) else none
    | _ => none
inductive Shape (P : Program) : TypeId → List V → Prop
  | int {t : TypeId} {k : IntKind} (hu : P.underlying t = some (.int k)) (n : Int) (hw : (Lit.int k n).wf = true) : Shape P t [.int k n]
  | bool {t : TypeId} (hu : P.underlying t = some .bool) (b : Bool) : Shape P t [.bool b]
  | str {t : TypeId} (hu : P.underlying t = some .string) (s : ByteArray) : Shape P t [.str s]
  | hole {t e : TypeId} (hu : P.underlying t = some (.slice e)) : Shape P t [.junk]
  | struct {t : TypeId} {fs : Array Field} (hu : P.underlying t = some (.struct fs)) (vs : List V) (h : ∀ (i : Nat) (f : Field), fs[i]? = some f → Shape P f.type ((vs.drop f.offset).take (P.cellsOf f.type))) : Shape P t vs
  | array {t : TypeId} {n : Nat} {e : TypeId} (hu : P.underlying t = some (.array n e)) (vs : List V) (h : ∀ i, i < n → Shape P e ((vs.drop (i * P.cellsOf e)).take (P.cellsOf e))) : Shape P t vs
section
variable {P : Program} {t : TypeId} {vs : List V}
end
section
variable {H : Type} {enc : TypeId × Value → H} {P : Program} {w : World} {base : Nat} {spare : Nat → Bool} {held : Bool}
theorem flatFs_cover {g : TypeId → Option Nat} {Q : Nat → Prop} : ∀ (fs : List Field) (n0 n : Nat), flatFs P g fs n0 = some n → (∀ f ∈ fs, ∀ m, g f.type = some m → P.cellsOf f.type = m → ∀ j, j < m → Q (f.offset + j)) → ∀ j, n0 ≤ j → j < n → Q j
  | [], n0, n, h, _, j, h1, h2 => by
    simp only [flatFs, Option.some.injEq] at h
    omega
  | f :: fs, n0, n, h, hq, j, h1, h2 => by
    simp only [flatFs] at h
    split at h <;> try (cases h; done)
    rename_i hc
    obtain ⟨m, hm, h⟩ := Option.bind_eq_some_iff.1 h
    split at h <;> try (cases h; done)
    rename_i hsz
    have hcm : P.cellsOf f.type = m := by
      unfold szOf at hsz
      simp only [Program.cellsOf, hsz, Option.getD_some]
    have hoff : f.offset = n0 := by
      simp at hc
      exact hc.2
    by_cases hj : j < n0 + m
    · have := hq f (by simp) m hm hcm (j - n0) (by omega)
      rwa [hoff, show n0 + (j - n0) = j by omega] at this
    · exact flatFs_cover fs (n0 + m) n h (fun f hf => hq f (by simp [hf])) j (by omega) h2
theorem trod_plain : ∀ (d : Nat) (t : TypeId) (m : Nat), plainTy P d t = some m → ∀ {fuel : Nat} {cs : List Value} {x : DataW H × List MemPlace}, DataW.trod enc P w base spare held fuel t cs = some x →
    cs.length = m ∧ (∀ j, j < m → plainCell (cs.getD j undef) = true) ∧ Shape P t (cs.map ofCellV)
  | 0, t, m, hp, fuel, cs, x, h => by cases hp
  | d + 1, t, m, hp, fuel, cs, x, h => by
    simp only [plainTy] at hp
    split at hp
    · rename_i k hu
      cases hp
      obtain ⟨n, rfl, _, hwf⟩ := DataW.trod_int hu h
      refine ⟨rfl, fun j hj => ?_, .int hu n hwf⟩
      have : j = 0 := by omega
      subst this
      rfl
    · rename_i hu
      cases hp
      obtain ⟨b, rfl, _⟩ := DataW.trod_bool hu h
      refine ⟨rfl, fun j hj => ?_, .bool hu b⟩
      have : j = 0 := by omega
      subst this
      rfl
    · rename_i hu
      cases hp
      obtain ⟨s, rfl, _⟩ := DataW.trod_string hu h
      refine ⟨rfl, fun j hj => ?_, .str hu s⟩
      have : j = 0 := by omega
      subst this
      rfl
    · rename_i e hu
      cases hp
      obtain ⟨ao, len, cap, rfl⟩ : ∃ ao len cap, cs = [.slice ao len cap] := by
        rcases open_slice hu h with ⟨h0, _⟩ | ⟨a, len', cap', m, n, D, Pl, hcs, _⟩
        · exact ⟨_, _, _, h0⟩
        · exact ⟨_, _, _, hcs⟩
      refine ⟨rfl, fun j hj => ?_, .hole hu⟩
      have : j = 0 := by omega
      subst this
      rfl
    · rename_i fs hu
      obtain ⟨n, hf, hp⟩ := Option.bind_eq_some_iff.1 hp
      split at hp <;> cases hp
      rename_i hcm
      obtain ⟨xs, n', _, _, hlen, hxl, hg⟩ := DataW.trod_struct hu h
      have sub : ∀ (i : Nat) (f : Field), fs[i]? = some f → ∃ y, DataW.trod enc P w base spare held n' f.type ((cs.drop f.offset).take (P.cellsOf f.type)) = some y := fun i f hi => by
        have hlt : i < fs.size := (Array.getElem?_eq_some_iff.1 hi).1
        exact ⟨_, (hg i f hi).trans (List.getElem?_eq_getElem (by omega))⟩
      have inf : ∀ (i : Nat) (f : Field), fs[i]? = some f → ∃ m, plainTy P d f.type = some m := by
        have key : ∀ (l : List Field) (n0 n : Nat), flatFs P (plainTy P d) l n0 = some n → ∀ f ∈ l, ∃ m, plainTy P d f.type = some m := by
          intro l
          induction l with
          | nil => intro n0 n h f hf; cases hf
          | cons g l ih =>
            intro n0 n h f hf
            simp only [flatFs] at h
            split at h <;> try (cases h; done)
            obtain ⟨m, hm, h⟩ := Option.bind_eq_some_iff.1 h
            split at h <;> try (cases h; done)
            rcases List.mem_cons.1 hf with rfl | hf
            · exact ⟨m, hm⟩
            · exact ih _ _ h f hf
        intro i f hi
        exact key _ _ _ hf f (Array.mem_toList_iff.2 (Array.mem_of_getElem? hi))
      refine ⟨hlen.trans hcm, fun j hj => ?_, .struct hu _ fun i f hi => ?_⟩
      · refine flatFs_cover (P := P) (Q := fun j => plainCell (cs.getD j undef) = true) _ _ _ hf (fun f hf' m' hm' hcm' j hj => ?_) j (Nat.zero_le _) hj
        obtain ⟨i, hi⟩ := List.getElem?_of_mem hf'
        obtain ⟨y, hy⟩ := sub i f (by simpa using hi)
        obtain ⟨h1, h2, _⟩ := trod_plain d f.type m' hm' hy
        have := h2 j hj
        rw [List.length_take, List.length_drop, hcm'] at h1
        simp only [List.getD_eq_getElem?_getD, List.getElem?_take, List.getElem?_drop, hcm', if_pos hj] at this ⊢
        exact this
      · obtain ⟨m', hm'⟩ := inf i f hi
        obtain ⟨y, hy⟩ := sub i f hi
        have := (trod_plain d f.type m' hm' hy).2.2
        rwa [List.map_take, List.map_drop] at this
    · rename_i len e hu
      obtain ⟨m', hm', hp⟩ := Option.bind_eq_some_iff.1 hp
      split at hp <;> cases hp
      rename_i hc
      obtain ⟨hc1, hc2⟩ := hc
      obtain ⟨xs, n', _, _, hlen, hxl, hg⟩ := DataW.trod_array hu h
      have sub : ∀ i, i < len → ∃ y, DataW.trod enc P w base spare held n' e ((cs.drop (i * P.cellsOf e)).take (P.cellsOf e)) = some y := fun i hi => ⟨_, (hg i hi).trans (List.getElem?_eq_getElem (by omega))⟩
      refine ⟨hlen.trans hc2, fun j hj => ?_, .array hu _ fun i hi => ?_⟩
      · have hm0 : 0 < m' := by
          rcases Nat.eq_zero_or_pos m' with h0 | h0
          · subst h0; simp at hj
          · exact h0
        have hi : j / m' < len := (Nat.div_lt_iff_lt_mul hm0).2 hj
        obtain ⟨y, hy⟩ := sub _ hi
        have := (trod_plain d e m' hm' hy).2.1 (j % m') (Nat.mod_lt _ hm0)
        simp only [List.getD_eq_getElem?_getD, List.getElem?_take, List.getElem?_drop, hc1, if_pos (Nat.mod_lt _ hm0)] at this ⊢
        rwa [show j / m' * m' + j % m' = j by rw [Nat.mul_comm]; exact Nat.div_add_mod j m'] at this
      · obtain ⟨y, hy⟩ := sub i hi
        have := (trod_plain d e m' hm' hy).2.2
        rwa [List.map_take, List.map_drop] at this
    · cases hp
theorem choose_list {α : Type} {Q : Nat → α → Prop} : ∀ n : Nat, (∀ i, i < n → ∃ r, Q i r) → ∃ l : List α, l.length = n ∧ ∀ i (hi : i < l.length), Q i l[i]
  | 0, _ => ⟨[], rfl, fun i hi => by simp at hi⟩
  | n + 1, h => by
    obtain ⟨l, h1, h2⟩ := choose_list n fun i hi => h i (by omega)
    obtain ⟨r, hr⟩ := h n (by omega)
    refine ⟨l ++ [r], by simp [h1], fun i hi => ?_⟩
    by_cases e : i < l.length
    · rw [List.getElem_append_left e]
      exact h2 i e
    · have : i = n := by simp at hi; omega
      subst this
      rw [List.getElem_append_right (by omega)]
      simpa [h1] using hr
theorem rowsOf_at {α : Type} {f : α → List V} {sz : Nat} (hf : ∀ a, (f a).length = sz) : ∀ (l : List α) (i j : Nat) (hi : i < l.length), j < sz → (rowsOf f l).getD (i * sz + j) .junk = (f l[i]).getD j .junk
  | [], i, j, hi, hj => by simp at hi
  | a :: l, 0, j, hi, hj => by
    simp only [rowsOf, List.flatMap_cons, Nat.zero_mul, Nat.zero_add, List.getElem_cons_zero, List.getD_eq_getElem?_getD]
    rw [List.getElem?_append_left (by rw [hf]; exact hj)]
  | a :: l, i + 1, j, hi, hj => by
    have ih := rowsOf_at hf l i j (by simpa using hi) hj
    have e : (i + 1) * sz + j = (f a).length + (i * sz + j) := by rw [hf, Nat.succ_mul]; omega
    simp only [rowsOf, List.flatMap_cons, List.getElem_cons_succ, List.getD_eq_getElem?_getD] at ih ⊢
    rw [e, List.getElem?_append_right (by omega), Nat.add_sub_cancel_left]
    exact ih
theorem open_rows {α : Type} (f : α → List V) {sz d : Nat} (hsz : 0 < sz) (hf : ∀ a, (f a).length = sz) {t e : TypeId} (ht : P.underlying t = some (.slice e)) (hp : plainTy P d e = some sz) (hc : P.cellsOf e = sz) (hdec : ∀ vs, vs.length = sz → Shape P e vs → ∃ a, vs = f a)
    {fuel : Nat} {ao : Option Addr} {len cap : Nat} {x : DataW H × List MemPlace} (h : DataW.trod enc P w base spare held fuel t [.slice ao len cap] = some x) (hspot : ∀ a, ao = some a → a.spot = none) :
    ∃ l : List α, l.length = len ∧ VRel (Gh.all w) (.sl .any (rowsOf f l) l.length) (.slice ao len cap) := by
  rcases open_slice ht h with ⟨h0, _⟩ | ⟨a, len', cap', m, n, D, Pl, hcs, hb, hl, hm, hmm, hx, hi⟩
  · simp only [List.cons.injEq, Value.slice.injEq, and_true] at h0
    obtain ⟨rfl, rfl, rfl⟩ := h0
    exact ⟨[], rfl, .slnil _ (.inr rfl)⟩
  · simp only [List.cons.injEq, Value.slice.injEq, and_true] at hcs
    obtain ⟨rfl, rfl, rfl⟩ := hcs
    have hs := hspot a rfl
    obtain ⟨b, o, sp⟩ := a
    simp only at hs
    subst hs
    have hlm : len ≤ m := by rw [hmm]; split <;> omega
    have row : ∀ i, i < len → ∃ r : α, ∀ j, j < sz → ∃ y, w.cell? ⟨b, o + (i * sz + j), none⟩ = some y ∧ VRel (Gh.all w) ((f r).getD j .junk) y ∧ y.oneCell' = true := fun i hil => by
      obtain ⟨cs', h1, h2⟩ := hi i (by omega)
      obtain ⟨k1, k2, k3⟩ := trod_plain d e sz hp h2
      obtain ⟨r, hr⟩ := hdec _ (by simpa using k1) k3
      obtain ⟨_, hcl, hat⟩ := World.cells?_some h1
      refine ⟨r, fun j hj => ⟨cs'.getD j undef, ?_, ?_, plainCell_one (k2 j hj)⟩⟩
      · have := hat j (by omega)
        rw [hc, add_lit, add_lit] at this
        rw [show o + (i * sz + j) = o + i * sz + j by omega]
        have hlt : j < cs'.length := by omega
        rw [List.getD_eq_getElem?_getD, List.getElem?_eq_getElem hlt]
        rw [List.getElem?_eq_getElem hlt] at this
        simpa using this
      · rw [← hr]
        have hlt : j < cs'.length := by omega
        simp only [List.getD_eq_getElem?_getD, List.getElem?_map, List.getElem?_eq_getElem hlt, Option.map_some, Option.getD_some]
        exact ofCellV_rel _ _
    obtain ⟨l, hll, hrow⟩ := choose_list len row
    have cell : ∀ i, i < (rowsOf f l).length → ∃ y, (w.cell? ⟨b, o + i, none⟩).getD undef = y ∧ w.cell? ⟨b, o + i, none⟩ = some y ∧ VRel (Gh.all w) ((rowsOf f l).getD i .junk) y ∧ y.oneCell' = true := fun i hil => by
      rw [rowsOf_length hf] at hil
      have hq : i / sz < l.length := (Nat.div_lt_iff_lt_mul hsz).2 hil
      obtain ⟨y, h1, h2, h3⟩ := hrow (i / sz) hq (i % sz) (Nat.mod_lt _ hsz)
      have e : i / sz * sz + i % sz = i := by rw [Nat.mul_comm]; exact Nat.div_add_mod i sz
      have hg := rowsOf_at hf l (i / sz) (i % sz) hq (Nat.mod_lt _ hsz)
      rw [e] at hg h1
      exact ⟨y, by rw [h1]; rfl, h1, by rw [hg]; exact h2, h3⟩
    refine ⟨l, hll, ?_⟩
    rw [hll]
    refine .sl .any _ len b o cap (by simp) hl (fun e => by cases e) (fun i => (w.cell? ⟨b, o + i, none⟩).getD undef) (fun i hil => ?_) (fun i hil => ?_) (fun i hil => ?_) <;> obtain ⟨y, q1, q2, q3, q4⟩ := cell i hil
    · rw [q1]
      simp only [Gh.all]
      rw [if_pos (block_of_cell q2), q2]
    · rw [q1]; exact q3
    · rw [q1]; exact q4
theorem slice_spot {t e : TypeId} {r : Reach} {b0 : Nat} (ht : P.underlying t = some (.slice e)) {a : Option Addr} {len cap : Nat} (h : Value.okWide P w r b0 t (.slice a len cap)) : ∀ x, a = some x → x.spot = none := by
  rintro x rfl
  simp only [Value.okWide, ht, Cell.okWide, Cell.ok] at h
  exact h.2.2.2.1
theorem shape_one {t : TypeId} (hu : P.underlying t = some (.int .i64)) (vs : List V) (hl : vs.length = 1) (h : Shape P t vs) : ∃ n, vs = e1 n := by
  cases h with
  | int hu' n hw => rw [hu] at hu'; cases hu'; exact ⟨n, rfl⟩
  | bool hu' | str hu' | hole hu' | struct hu' | array hu' => rw [hu] at hu'; cases hu'
end
end Go.Ab
set_option linter.unusedSimpArgs false
set_option linter.unusedVariables false
namespace Go.Ab
open Go Go.RowKit Go.ChangeShapes Go.WideShapes Go.Deep
section
variable {H : Type} {enc : TypeId × Value → H} {P : Program} {w : World} {base : Nat} {spare : Nat → Bool} {held : Bool}
end
end Go.Ab
set_option linter.unusedVariables false
namespace Go.Ab
open Go
end Go.Ab
set_option linter.unusedSimpArgs false
set_option linter.unusedVariables false
namespace Go.Ab
open Go Go.RowKit
abbrev W := BitVec 64
abbrev U := BitVec 256
def u4 (a b c d : W) : U := BitVec.ofNat 256 (a.toNat + b.toNat * 18446744073709551616 + c.toNat * 340282366920938463463374607431768211456 + d.toNat * 6277101735386680763835789423207666416102355444464034512896)
theorem u4_nat (a b c d : W) : (u4 a b c d).toNat = a.toNat + b.toNat * 18446744073709551616 + c.toNat * 340282366920938463463374607431768211456 + d.toNat * 6277101735386680763835789423207666416102355444464034512896 := by
  have := a.isLt; have := b.isLt; have := c.isLt; have := d.isLt
  rw [u4, BitVec.toNat_ofNat]
  exact Nat.mod_eq_of_lt (by omega)
def limb (x : U) (i : Nat) : W := BitVec.ofNat 64 (x.toNat / 18446744073709551616 ^ i)
theorem limb_nat (x : U) (i : Nat) : (limb x i).toNat = x.toNat / 18446744073709551616 ^ i % 18446744073709551616 := by
  rw [limb, BitVec.toNat_ofNat]
theorem u4_limb (x : U) : u4 (limb x 0) (limb x 1) (limb x 2) (limb x 3) = x := by
  apply BitVec.eq_of_toNat_eq
  have := x.isLt
  rw [u4_nat, limb_nat, limb_nat, limb_nat, limb_nat]
  omega
theorem exists_u4 (x : U) : ∃ a b c d, x = u4 a b c d := ⟨_, _, _, _, (u4_limb x).symm⟩
theorem limb0 (a b c d : W) : limb (u4 a b c d) 0 = a := by
  apply BitVec.eq_of_toNat_eq
  have := a.isLt; have := b.isLt; have := c.isLt; have := d.isLt
  rw [limb_nat, u4_nat]; omega
theorem limb1 (a b c d : W) : limb (u4 a b c d) 1 = b := by
  apply BitVec.eq_of_toNat_eq
  have := a.isLt; have := b.isLt; have := c.isLt; have := d.isLt
  rw [limb_nat, u4_nat]; omega
theorem limb2 (a b c d : W) : limb (u4 a b c d) 2 = c := by
  apply BitVec.eq_of_toNat_eq
  have := a.isLt; have := b.isLt; have := c.isLt; have := d.isLt
  rw [limb_nat, u4_nat]; omega
theorem limb3 (a b c d : W) : limb (u4 a b c d) 3 = d := by
  apply BitVec.eq_of_toNat_eq
  have := a.isLt; have := b.isLt; have := c.isLt; have := d.isLt
  rw [limb_nat, u4_nat]; omega
theorem u4_inj {a b c d a' b' c' d' : W} (h : u4 a b c d = u4 a' b' c' d') : a = a' ∧ b = b' ∧ c = c' ∧ d = d' := by
  refine ⟨?_, ?_, ?_, ?_⟩
  · have := congrArg (limb · 0) h; simpa [limb0] using this
  · have := congrArg (limb · 1) h; simpa [limb1] using this
  · have := congrArg (limb · 2) h; simpa [limb2] using this
  · have := congrArg (limb · 3) h; simpa [limb3] using this
def eU (x : U) : List V := [w64 (limb x 0), w64 (limb x 1), w64 (limb x 2), w64 (limb x 3)]
theorem eU_len (x : U) : (eU x).length = 4 := rfl
theorem eU_u4 (a b c d : W) : eU (u4 a b c d) = [w64 a, w64 b, w64 c, w64 d] := by simp [eU, limb0, limb1, limb2, limb3]
def nU (x : U) : V := .agg (eU x)
def natU (n : Nat) : U := BitVec.ofNat 256 n
theorem natU_nat {n : Nat} (h : n < 2 ^ 256) : (natU n).toNat = n := by
  rw [natU, BitVec.toNat_ofNat]; exact Nat.mod_eq_of_lt h
def b64 (b : Bool) : W := if b then 1#64 else 0#64
theorem b64_nat (b : Bool) : (b64 b).toNat = if b then 1 else 0 := by cases b <;> rfl
def sum64 (x y : W) (c : Bool) : W := x + y + b64 c
def car64 (x y : W) (c : Bool) : Bool := decide (18446744073709551616 ≤ x.toNat + y.toNat + (if c then 1 else 0))
theorem sum64_nat (x y : W) (c : Bool) : (sum64 x y c).toNat = (x.toNat + y.toNat + (if c then 1 else 0)) % 18446744073709551616 := by
  rw [sum64, BitVec.toNat_add, BitVec.toNat_add, b64_nat]
  show ((x.toNat + y.toNat) % 18446744073709551616 + _) % 18446744073709551616 = _
  omega
def dif64 (x y : W) (c : Bool) : W := x - y - b64 c
def bor64 (x y : W) (c : Bool) : Bool := decide (x.toNat < y.toNat + (if c then 1 else 0))
theorem dif64_nat (x y : W) (c : Bool) : (dif64 x y c).toNat = (36893488147419103232 + x.toNat - y.toNat - (if c then 1 else 0)) % 18446744073709551616 := by
  have h1 := x.isLt
  have h2 := y.isLt
  rw [dif64, BitVec.toNat_sub, BitVec.toNat_sub, b64_nat]
  show (18446744073709551616 - _ + (18446744073709551616 - y.toNat + x.toNat) % 18446744073709551616) % 18446744073709551616 = _
  cases c <;> simp <;> omega
def mulhi (x y : W) : W := BitVec.ofNat 64 (x.toNat * y.toNat / 18446744073709551616)
theorem mul64_hi (x y : W) : (x >>> 32) * (y >>> 32) + (((x >>> 32) * (y &&& 4294967295#64) + ((x &&& 4294967295#64) * (y &&& 4294967295#64)) >>> 32) >>> 32) + ((((x >>> 32) * (y &&& 4294967295#64) + ((x &&& 4294967295#64) * (y &&& 4294967295#64)) >>> 32) &&& 4294967295#64) + (x &&& 4294967295#64) * (y >>> 32)) >>> 32 = mulhi x y := by
  have hand : ∀ z : W, (z &&& 4294967295#64).toNat = z.toNat % 4294967296 := fun z => by
    rw [BitVec.toNat_and]
    exact Nat.and_two_pow_sub_one_eq_mod z.toNat 32
  have hshr : ∀ z : W, (z >>> 32).toNat = z.toNat / 4294967296 := fun z => by
    rw [BitVec.toNat_ushiftRight, Nat.shiftRight_eq_div_pow]
  have h1 := x.isLt
  have h2 := y.isLt
  apply BitVec.eq_of_toNat_eq
  simp only [BitVec.toNat_add, BitVec.toNat_mul, hand, hshr, mulhi, BitVec.toNat_ofNat]
  obtain ⟨x0, hx0⟩ : ∃ a, a = x.toNat % 4294967296 := ⟨_, rfl⟩
  obtain ⟨x1, hx1⟩ : ∃ a, a = x.toNat / 4294967296 := ⟨_, rfl⟩
  obtain ⟨y0, hy0⟩ : ∃ a, a = y.toNat % 4294967296 := ⟨_, rfl⟩
  obtain ⟨y1, hy1⟩ : ∃ a, a = y.toNat / 4294967296 := ⟨_, rfl⟩
  have ex : x.toNat = x1 * 4294967296 + x0 := by omega
  have ey : y.toNat = y1 * 4294967296 + y0 := by omega
  rw [← hx0, ← hx1, ← hy0, ← hy1, ex, ey]
  have bx0 : x0 ≤ 4294967295 := by omega
  have bx1 : x1 ≤ 4294967295 := by omega
  have by0 : y0 ≤ 4294967295 := by omega
  have by1 : y1 ≤ 4294967295 := by omega
  have p00 := Nat.mul_le_mul bx0 by0
  have p01 := Nat.mul_le_mul bx0 by1
  have p10 := Nat.mul_le_mul bx1 by0
  have p11 := Nat.mul_le_mul bx1 by1
  have e : (x1 * 4294967296 + x0) * (y1 * 4294967296 + y0) = x1 * y1 * 18446744073709551616 + x1 * y0 * 4294967296 + x0 * y1 * 4294967296 + x0 * y0 := by
    rw [Nat.add_mul, Nat.mul_add, Nat.mul_add]
    have a1 : x1 * 4294967296 * (y1 * 4294967296) = x1 * y1 * 18446744073709551616 := by
      rw [Nat.mul_mul_mul_comm]
    have a2 : x1 * 4294967296 * y0 = x1 * y0 * 4294967296 := by rw [Nat.mul_right_comm]
    have a3 : x0 * (y1 * 4294967296) = x0 * y1 * 4294967296 := by rw [Nat.mul_assoc]
    omega
  rw [e]
  generalize x0 * y0 = q00 at *
  generalize x0 * y1 = q01 at *
  generalize x1 * y0 = q10 at *
  generalize x1 * y1 = q11 at *
  show ((q11 % 18446744073709551616 + ((q10 % 18446744073709551616 + q00 % 18446744073709551616 / 4294967296) % 18446744073709551616 / 4294967296)) % 18446744073709551616 + ((q10 % 18446744073709551616 + q00 % 18446744073709551616 / 4294967296) % 18446744073709551616 % 4294967296 + q01 % 18446744073709551616) % 18446744073709551616 / 4294967296) % 18446744073709551616 = (q11 * 18446744073709551616 + q10 * 4294967296 + q01 * 4294967296 + q00) / 18446744073709551616 % 18446744073709551616
  omega
end Go.Ab
set_option linter.unusedSimpArgs false
set_option linter.unusedVariables false
namespace Go.Ab
open Go Go.RowKit
def eB (b : Bool) : List V := [.bool b]
theorem eB_len (b : Bool) : (eB b).length = 1 := rfl
def valB : List Bool → Nat
  | [] => 0
  | b :: l => b.toNat + 2 * valB l
def bitlen (n : Nat) : Nat := if n = 0 then 0 else n.log2 + 1
theorem bitlen_le {n k : Nat} : bitlen n ≤ k ↔ n < 2 ^ k := by
  unfold bitlen
  split
  · rename_i h; subst h
    simp [Nat.two_pow_pos]
  · rename_i h
    rw [← Nat.log2_lt h]
    omega
theorem bitlen_lt {n k : Nat} : k < bitlen n ↔ 2 ^ k ≤ n := by
  have := @bitlen_le n k
  omega
theorem bitlen_pos {n : Nat} : 0 < bitlen n ↔ 0 < n := by
  rw [bitlen_lt]; simp; omega
end Go.Ab
set_option linter.unusedSimpArgs false
set_option linter.unusedVariables false
namespace Go.Ab
open Go Go.RowKit
section
variable {P : Program} {c : PC} {Q : Ex → Env → St → Prop}
def unrK (K : Env → St → Prop) (Q : Ex → Env → St → Prop) : Ex → Env → St → Prop := fun e env st => match e with | .normal => K env st | e => Q e env st
@[simp] theorem unrK_n (K : Env → St → Prop) (env : Env) (st : St) : unrK K Q .normal env st = K env st := _root_.id rfl
@[simp] theorem unrK_e (K : Env → St → Prop) (i : Nat) (env : Env) (st : St) : unrK K Q (.exit i) env st = Q (.exit i) env st := _root_.id rfl
@[simp] theorem unrK_r (K : Env → St → Prop) (env : Env) (st : St) : unrK K Q .ret env st = Q .ret env st := _root_.id rfl
def unr (P : Program) (c : PC) (Q : Ex → Env → St → Prop) : Nat → Env → St → Prop
  | 0, _, _ => False
  | n + 1, env, st => vc P c (unrK (unr P c Q n) Q) env st
theorem unr_succ (n : Nat) (env : Env) (st : St) : unr P c Q (n + 1) env st = vc P c (unrK (unr P c Q n) Q) env st := _root_.id rfl
theorem vc_unroll {env : Env} {st : St} (n : Nat) (h : unr P c Q n env st) : vc P (.loop c) Q env st := by
  refine vc_loop (fun k env st => unr P c Q k env st) n h ?_
  intro k env' st' hs hu
  cases k with
  | zero => exact hu.elim
  | succ k =>
    refine vc_frame c _ _ env' st' (fun e env'' st'' _ hq => ?_) hu
    cases e with
    | normal => exact ⟨k, st'', Nat.lt_succ_self k, St.sub_refl _, hq⟩
    | exit id => exact hq
    | ret => exact hq
end
theorem Sep.appx' {α : Type} {f : α → List V} {sz : Nat} (hf : ∀ a, (f a).length = sz) (hsz : 0 < sz) {s : V} {l : List α} {L : List Asn} {st : St} (h : Sep (Slx sz f s l :: L) st) {b : Nat} (m : List α) {ys : List V} {n : Nat} (hys : ys = rowsOf f m) (hn : n = m.length) (hb : (l.length + n) * b ≤ 140737488355328) {K : V → St → Prop}
    (hK : ∀ s' st', Sep (Slx sz f s' (l ++ m) :: L) st' → K s' st') : appS sz b s (some (ys, n)) st K := by
  subst hys hn
  exact Sep.appx hf hsz h hb hK
theorem Sep.setAt {i : Nat} {o : AObj} (o' : AObj) : ∀ (n : Nat) {L : List Asn} {st : St}, Sep L st → L[n]? = some (pt i o) → Sep (L.set n (pt i o')) (st.upd i o')
  | 0, A :: L, st, h, e => by
    simp only [List.getElem?_cons_zero, Option.some.injEq] at e
    subst e
    exact h.set o'
  | n + 1, A :: L, st, h, e => by
    obtain ⟨a, r, h1, h2, h3, h4⟩ := h
    have e' : L[n]? = some (pt i o) := by simpa using e
    have hr : r i = some o := Sep.mem h4 (List.mem_of_getElem? e')
    have ih := Sep.setAt o' n h4 e'
    have hai : a i = none := (h1 i).resolve_right (by rw [hr]; simp)
    refine ⟨a, r.upd i o', fun j => ?_, fun j x hx => ?_, h3, ih⟩
    · by_cases ej : j = i
      · exact .inl (ej ▸ hai)
      · rcases h1 j with g | g
        · exact .inl g
        · exact .inr (by simpa [ej] using g)
    · by_cases ej : j = i
      · subst ej
        simpa [St.add, hai] using hx
      · simp only [St.add, st_upd, ej, if_false] at hx ⊢
        exact h2 j x hx
  | _, [], _, _, e => by simp at e
theorem Sep.neq {i j : Nat} {o o' : AObj} : ∀ {L : List Asn} {st : St} (n m : Nat), Sep L st → L[n]? = some (pt i o) → L[m]? = some (pt j o') → n < m → i ≠ j
  | [], _, _, _, _, e, _, _ => by simp at e
  | A :: L, st, 0, m + 1, h, e1, e2, _ => by
    simp only [List.getElem?_cons_zero, Option.some.injEq] at e1
    subst e1
    obtain ⟨a, r, h1, h2, h3, h4⟩ := h
    have hr : r j = some o' := Sep.mem h4 (List.mem_of_getElem? (by simpa using e2))
    rintro rfl
    rcases h1 i with g | g
    · rw [h3] at g; cases g
    · rw [hr] at g; cases g
  | A :: L, st, n + 1, m + 1, h, e1, e2, hlt => by
    obtain ⟨a, r, h1, h2, h3, h4⟩ := h
    exact Sep.neq n m h4 (by simpa using e1) (by simpa using e2) (by omega)
theorem Sep.was' {st0 st : St} {L : List Asn} (h : Sep L st) (hm : Was st0 ∈ L) : St.sub st0 st := by
  obtain ⟨h', k1, rfl⟩ := h.memA hm
  exact k1
theorem frzP_one {t : Nat} {env : Env} {st st' : St} {v : V} {K : Env → St → Prop} (h : frzV st (env t) = some (v, st')) (hk : K (env.upd t v) st') : frzP [t] env st K := by
  simp only [frzP, h]
  exact hk
theorem condB_join {P : Program} {v : V} {a b c : PC} {Q : Ex → Env → St → Prop} {env : Env} {st : St} (M : Env → St → Prop)
    (h : condB P v a b (unrK M Q) env st) (k : ∀ env' st', Same (a.writes ++ b.writes) env env' → M env' st' → vc P c Q env' st') : condB P v a b (seqK P c Q) env st := by
  have e : ∀ R : Ex → Env → St → Prop, condB P v a b R env st = vc P (.cond (.k v) a b) R env st := fun R => _root_.id rfl
  rw [e] at h ⊢
  refine vc_frame (.cond (.k v) a b) _ _ env st (fun ex env' st' hs hq => ?_) h
  cases ex with
  | normal => exact k env' st' hs hq
  | exit i => exact hq
  | ret => exact hq
end Go.Ab
set_option linter.unusedSimpArgs false
set_option linter.unusedVariables false
set_option maxRecDepth 10000
namespace Go.Ab
open Go Go.RowKit
section
variable {P : Program} {F : Fn}
theorem spec105 (ok : OkNum P F) (st : St) (x : W) : ACalls P (F 105) [w64 x] st fun v st' => v = nU (x.setWidth 256) ∧ st' = st := by
  refine shows_call ok.mixed ok.h105 (by simp [k105]) ?_
  have e : eU (x.setWidth 256) = [w64 x, w64 0, w64 0, w64 0] := by
    have : x.setWidth 256 = u4 x 0 0 0 := by
      apply BitVec.eq_of_toNat_eq
      have := x.isLt
      rw [u4_nat, BitVec.toNat_setWidth, Nat.mod_eq_of_lt (by omega)]
      simp
    rw [this, eU_u4]
  simp [k105, fillV, spliceV, nU, e]
  intro id hid
  simp [fillV, storeS, spliceV, St.seg, segOf]
  exact sub_upd hid
def cmpU (a b : U) : Int := if a.toNat < b.toNat then -1 else if a = b then 0 else 1
theorem cmpU_d {a b c d a' b' c' d' : W} (h : d ≠ d') : cmpU (u4 a b c d) (u4 a' b' c' d') = if d < d' then -1 else 1 := by
  have := a.isLt; have := b.isLt; have := c.isLt; have := a'.isLt; have := b'.isLt; have := c'.isLt
  have hne : u4 a b c d ≠ u4 a' b' c' d' := fun e => h (u4_inj e).2.2.2
  have hn : d.toNat ≠ d'.toNat := fun e => h (BitVec.eq_of_toNat_eq e)
  simp only [cmpU, hne, if_false, u4_nat, BitVec.lt_def]
  split <;> split <;> first | rfl | omega
theorem cmpU_c {a b c d a' b' c' : W} (h : c ≠ c') : cmpU (u4 a b c d) (u4 a' b' c' d) = if c < c' then -1 else 1 := by
  have := a.isLt; have := b.isLt; have := a'.isLt; have := b'.isLt
  have hne : u4 a b c d ≠ u4 a' b' c' d := fun e => h (u4_inj e).2.2.1
  have hn : c.toNat ≠ c'.toNat := fun e => h (BitVec.eq_of_toNat_eq e)
  simp only [cmpU, hne, if_false, u4_nat, BitVec.lt_def]
  split <;> split <;> first | rfl | omega
theorem cmpU_b {a b c d a' b' : W} (h : b ≠ b') : cmpU (u4 a b c d) (u4 a' b' c d) = if b < b' then -1 else 1 := by
  have := a.isLt; have := a'.isLt
  have hne : u4 a b c d ≠ u4 a' b' c d := fun e => h (u4_inj e).2.1
  have hn : b.toNat ≠ b'.toNat := fun e => h (BitVec.eq_of_toNat_eq e)
  simp only [cmpU, hne, if_false, u4_nat, BitVec.lt_def]
  split <;> split <;> first | rfl | omega
theorem cmpU_a {a b c d a' : W} (h : a ≠ a') : cmpU (u4 a b c d) (u4 a' b c d) = if a < a' then -1 else 1 := by
  have hne : u4 a b c d ≠ u4 a' b c d := fun e => h (u4_inj e).1
  have hn : a.toNat ≠ a'.toNat := fun e => h (BitVec.eq_of_toNat_eq e)
  simp only [cmpU, hne, if_false, u4_nat, BitVec.lt_def]
  split <;> split <;> first | rfl | omega
theorem sub_upd2 {st : St} {i j : Nat} {o p : AObj} (hi : st i = none) (hj : (st.upd i o) j = none) : St.sub st ((st.upd i o).upd j p) := sub_trans (sub_upd hi) (sub_upd hj)
theorem ne_upd {st : St} {i j : Nat} {o : AObj} (hj : (st.upd i o) j = none) : i ≠ j := by
  rintro rfl
  simp at hj
theorem upd_none {st : St} {i k : Nat} {o : AObj} (h : (st.upd i o) k = none) : i ≠ k ∧ st k = none := by
  by_cases e : k = i
  · subst e; simp at h
  · exact ⟨fun h => e h.symm, by simpa [e] using h⟩
theorem spec106 (ok : OkNum P F) (st : St) (x y : U) : ACalls P (F 106) [nU x, nU y] st fun v st' => v = .int .i64 (cmpU x y) ∧ st' = st := by
  refine shows_call ok.mixed ok.h106 (by simp [k106]) ?_
  obtain ⟨a, b, c, d, rfl⟩ := exists_u4 x
  obtain ⟨a', b', c', d', rfl⟩ := exists_u4 y
  simp only [k106, nU, eU_u4]
  simp
  intro i hi j hj
  have hij := ne_upd hj
  have hsub := sub_upd2 (p := .cells [w64 a', w64 b', w64 c', w64 d']) hi hj
  refine vc_unroll 5 ?_
  simp [unr_succ, hij, idxArrV, St.seg, segOf]
  by_cases h : d = d'
  · subst h
    simp [unr_succ, hij, idxArrV, St.seg, segOf]
    by_cases h : c = c'
    · subst h
      simp [unr_succ, hij, idxArrV, St.seg, segOf]
      by_cases h : b = b'
      · subst h
        simp [unr_succ, hij, idxArrV, St.seg, segOf]
        by_cases h : a = a'
        · subst h
          simp [unr_succ, hij, idxArrV, St.seg, segOf, cmpU, hsub]
        · have hb : (a != a') = true := by simp [h]
          by_cases hlt : a < a' <;> simp [unr_succ, hij, idxArrV, St.seg, segOf, hb, cmpU_a h, hlt, hsub]
      · have hb : (b != b') = true := by simp [h]
        by_cases hlt : b < b' <;> simp [unr_succ, hij, idxArrV, St.seg, segOf, hb, cmpU_b h, hlt, hsub]
    · have hb : (c != c') = true := by simp [h]
      by_cases hlt : c < c' <;> simp [unr_succ, hij, idxArrV, St.seg, segOf, hb, cmpU_c h, hlt, hsub]
  · have hb : (d != d') = true := by simp [h]
    by_cases hlt : d < d' <;> simp [unr_succ, hij, idxArrV, St.seg, segOf, hb, cmpU_d h, hlt, hsub]
theorem eqL_u (x y : U) : eqL (eU x) (eU y) = some (decide (x = y)) := by
  obtain ⟨a, b, c, d, rfl⟩ := exists_u4 x
  obtain ⟨a', b', c', d', rfl⟩ := exists_u4 y
  have key : ∀ p q : W, ((p.toNat : Int) == (q.toNat : Int)) = decide (p = q) := fun p q => by
    rw [Bool.eq_iff_iff]
    simp only [beq_iff_eq, decide_eq_true_eq]
    exact ⟨fun h => BitVec.eq_of_toNat_eq (by omega), fun h => by rw [h]⟩
  simp only [eU_u4, w64, eqL, if_true, Option.map_some, key, Option.some.injEq]
  rw [Bool.eq_iff_iff]
  simp only [Bool.and_eq_true, decide_eq_true_eq]
  constructor
  · rintro ⟨h1, h2, h3, h4, _⟩
    rw [h1, h2, h3, h4]
  · intro h
    obtain ⟨h1, h2, h3, h4⟩ := u4_inj h
    exact ⟨h1, h2, h3, h4, trivial⟩
theorem eU_zero : [w64 0#64, w64 0#64, w64 0#64, w64 0#64] = eU 0#256 := by
  rw [show (0#256 : U) = u4 0#64 0#64 0#64 0#64 from rfl, eU_u4]
theorem segU (x : U) : segOf (eU x) 0 4 = some (eU x) := rfl
theorem spec107 (ok : OkNum P F) (st : St) (x : U) : ACalls P (F 107) [nU x] st fun v st' => v = .bool (decide (x = 0)) ∧ st' = st := by
  refine shows_call ok.mixed ok.h107 (by simp [k107]) ?_
  simp only [k107, nU, eU_zero]
  simp
  intro i hi
  have hl := eU_len x
  simp [St.seg, segU, fillV, eqK, hl, eU_zero, eqL_u]
  exact sub_upd hi
theorem not_u4 (a b c d : W) : ~~~(u4 a b c d) = u4 (~~~a) (~~~b) (~~~c) (~~~d) := by
  apply BitVec.eq_of_toNat_eq
  have := a.isLt; have := b.isLt; have := c.isLt; have := d.isLt
  rw [BitVec.toNat_not, u4_nat, u4_nat, BitVec.toNat_not, BitVec.toNat_not, BitVec.toNat_not, BitVec.toNat_not]
  omega
theorem spec111 (ok : OkNum P F) (st : St) (x : U) : ACalls P (F 111) [nU x] st fun v st' => v = nU (~~~x) ∧ st' = st := by
  refine shows_call ok.mixed ok.h111 (by simp [k111]) ?_
  obtain ⟨a, b, c, d, rfl⟩ := exists_u4 x
  simp only [k111, nU, not_u4, eU_u4]
  simp
  intro i hi
  simp
  intro j hj
  have hij := ne_upd hj
  have hsub := sub_upd2 (p := .cells [w64 0#64, w64 0#64, w64 0#64, w64 0#64]) hi hj
  simp [hij, idxArrV, St.seg, segOf, fillV, spliceV, storeS]
  exact sub_upd2 hi hj
theorem sub_u4 (a b c d a' b' c' d' : W) :
    u4 a b c d - u4 a' b' c' d' = u4 (dif64 a a' false) (dif64 b b' (bor64 a a' false)) (dif64 c c' (bor64 b b' (bor64 a a' false))) (dif64 d d' (bor64 c c' (bor64 b b' (bor64 a a' false)))) ∧
    bor64 d d' (bor64 c c' (bor64 b b' (bor64 a a' false))) = decide ((u4 a b c d).toNat < (u4 a' b' c' d').toNat) := by
  have := a.isLt; have := b.isLt; have := c.isLt; have := d.isLt
  have := a'.isLt; have := b'.isLt; have := c'.isLt; have := d'.isLt
  constructor
  · apply BitVec.eq_of_toNat_eq
    rw [BitVec.toNat_sub, u4_nat, u4_nat, u4_nat, dif64_nat, dif64_nat, dif64_nat, dif64_nat]
    simp only [bor64, decide_eq_true_eq, Bool.false_eq_true, if_false]
    show (115792089237316195423570985008687907853269984665640564039457584007913129639936 - _ + _) % 115792089237316195423570985008687907853269984665640564039457584007913129639936 = _
    split <;> split <;> split <;> omega
  · rw [u4_nat, u4_nat]
    simp only [bor64, decide_eq_true_eq, Bool.false_eq_true, if_false]
    congr 1
    rw [eq_iff_iff]
    split <;> split <;> split <;> omega
@[simp high] theorem carry_sub (x y : W) (c : Bool) : carryV true (w64 x) (w64 y) (w64 (b64 c)) = some (.tup [w64 (dif64 x y c), w64 (b64 (bor64 x y c))]) := by
  have h1 := x.isLt
  have h2 := y.isLt
  have e1 := dif64_nat x y c
  have e2 : (b64 (bor64 x y c)).toNat = if x.toNat < y.toNat + (if c then 1 else 0) then 1 else 0 := by
    rw [b64_nat]
    simp only [bor64, decide_eq_true_eq]
  have e3 := b64_nat c
  generalize dif64 x y c = d at *
  generalize b64 (bor64 x y c) = r at *
  generalize b64 c = q at *
  simp only [carryV, w64]
  rw [if_pos (by split at e3 <;> omega)]
  simp only [Option.some.injEq, V.tup.injEq, List.cons.injEq, V.int.injEq, true_and, and_true, if_true, Int.toNat_natCast]
  rw [e1, e2, e3]
  cases c <;> simp <;> constructor <;> first | omega | (split <;> split <;> omega) | (split <;> omega)
@[simp high] theorem carry_add (x y : W) (c : Bool) : carryV false (w64 x) (w64 y) (w64 (b64 c)) = some (.tup [w64 (sum64 x y c), w64 (b64 (car64 x y c))]) := by
  have h1 := x.isLt
  have h2 := y.isLt
  have e1 := sum64_nat x y c
  have e2 : (b64 (car64 x y c)).toNat = if 18446744073709551616 ≤ x.toNat + y.toNat + (if c then 1 else 0) then 1 else 0 := by
    rw [b64_nat]
    simp only [car64, decide_eq_true_eq]
  have e3 := b64_nat c
  generalize sum64 x y c = d at *
  generalize b64 (car64 x y c) = r at *
  generalize b64 c = q at *
  simp only [carryV, w64]
  rw [if_pos (by split at e3 <;> omega)]
  simp only [Option.some.injEq, V.tup.injEq, List.cons.injEq, V.int.injEq, true_and, and_true, Bool.false_eq_true, if_false]
  rw [e1, e2, e3]
  cases c <;> simp <;> first | omega | (split <;> omega)
theorem zero_b64 : (0#64 : W) = b64 false := rfl
theorem b64_ne (c : Bool) : (b64 c != b64 false) = c := by cases c <;> rfl
theorem sub_ups {st s : St} {i : Nat} {o : AObj} (h : St.sub st s) (hi : st i = none) : St.sub st (s.upd i o) := fun j x hj => by
  have : j ≠ i := fun e => by rw [e, hi] at hj; cases hj
  simp [this, h j x hj]
theorem spec109 (ok : OkNum P F) (st : St) (x y : U) : ACalls P (F 109) [nU x, nU y] st fun v st' => v = .tup [nU (x - y), .bool (decide (x.toNat < y.toNat))] ∧ st' = st := by
  refine shows_call ok.mixed ok.h109 (by simp [k109]) ?_
  obtain ⟨a, b, c, d, rfl⟩ := exists_u4 x
  obtain ⟨a', b', c', d', rfl⟩ := exists_u4 y
  obtain ⟨e1, e2⟩ := sub_u4 a b c d a' b' c' d'
  rw [← e2, e1]
  simp only [k109, nU, eU_u4]
  simp
  intro i hi j hj
  have hij := ne_upd hj
  have hji := hij.symm
  simp
  intro k hk
  have hjk := ne_upd hk
  have hik := (upd_none (upd_none hk).2).1
  have hki := hik.symm
  have hkj := hjk.symm
  refine vc_unroll 5 ?_
  rw [zero_b64]
  simp [unr_succ, hij, hji, hjk, hkj, hik, hki, idxArrV, St.seg, segOf, storeS, spliceV, b64_ne]
  exact sub_ups (sub_ups (sub_ups (sub_ups (sub_ups (sub_self _) hi) (upd_none hj).2) (upd_none (upd_none hk).2).2) hi) (upd_none (upd_none hk).2).2
end
end Go.Ab
set_option linter.unusedSimpArgs false
set_option linter.unusedVariables false
namespace Go.Ab
open Go Go.RowKit
def shaK : List (BitVec 32) := [0x428a2f98, 0x71374491, 0xb5c0fbcf, 0xe9b5dba5, 0x3956c25b, 0x59f111f1, 0x923f82a4, 0xab1c5ed5, 0xd807aa98, 0x12835b01, 0x243185be, 0x550c7dc3, 0x72be5d74, 0x80deb1fe, 0x9bdc06a7, 0xc19bf174, 0xe49b69c1, 0xefbe4786, 0x0fc19dc6, 0x240ca1cc, 0x2de92c6f, 0x4a7484aa, 0x5cb0a9dc, 0x76f988da, 0x983e5152, 0xa831c66d, 0xb00327c8, 0xbf597fc7, 0xc6e00bf3, 0xd5a79147, 0x06ca6351, 0x14292967, 0x27b70a85, 0x2e1b2138, 0x4d2c6dfc, 0x53380d13, 0x650a7354, 0x766a0abb, 0x81c2c92e, 0x92722c85, 0xa2bfe8a1, 0xa81a664b, 0xc24b8b70, 0xc76c51a3, 0xd192e819, 0xd6990624, 0xf40e3585, 0x106aa070, 0x19a4c116, 0x1e376c08, 0x2748774c, 0x34b0bcb5, 0x391c0cb3, 0x4ed8aa4a, 0x5b9cca4f, 0x682e6ff3, 0x748f82ee, 0x78a5636f, 0x84c87814, 0x8cc70208, 0x90befffa, 0xa4506ceb, 0xbef9a3f7, 0xc67178f2]
def be4 (a b c d : UInt8) : BitVec 32 := a.toBitVec.setWidth 32 <<< 24 ||| b.toBitVec.setWidth 32 <<< 16 ||| c.toBitVec.setWidth 32 <<< 8 ||| d.toBitVec.setWidth 32
def words : List UInt8 → List (BitVec 32)
  | a :: b :: c :: d :: l => be4 a b c d :: words l
  | _ => []
def ror (x : BitVec 32) (n : Nat) : BitVec 32 := x >>> n ||| x <<< (32 - n)
def sg0 (x : BitVec 32) : BitVec 32 := ror x 7 ^^^ ror x 18 ^^^ x >>> 3
def sg1 (x : BitVec 32) : BitVec 32 := ror x 17 ^^^ ror x 19 ^^^ x >>> 10
def bg0 (x : BitVec 32) : BitVec 32 := ror x 2 ^^^ ror x 13 ^^^ ror x 22
def bg1 (x : BitVec 32) : BitVec 32 := ror x 6 ^^^ ror x 11 ^^^ ror x 25
def nextW (l : List (BitVec 32)) : BitVec 32 := l.getD (l.length - 16) 0 + sg0 (l.getD (l.length - 15) 0) + l.getD (l.length - 7) 0 + sg1 (l.getD (l.length - 2) 0)
def sched (m : List (BitVec 32)) : Nat → List (BitVec 32)
  | 0 => m
  | k + 1 => sched m k ++ [nextW (sched m k)]
structure V8 where
  a : BitVec 32
  b : BitVec 32
  c : BitVec 32
  d : BitVec 32
  e : BitVec 32
  f : BitVec 32
  g : BitVec 32
  h : BitVec 32
  deriving DecidableEq
def V8.list (v : V8) : List (BitVec 32) := [v.a, v.b, v.c, v.d, v.e, v.f, v.g, v.h]
def rnd (v : V8) (k w : BitVec 32) : V8 :=
  let t := v.h + bg1 v.e + (v.e &&& v.f ^^^ ~~~v.e &&& v.g) + k + w
  ⟨t + bg0 v.a + (v.a &&& v.b ^^^ v.a &&& v.c ^^^ v.b &&& v.c), v.a, v.b, v.c, v.d + t, v.e, v.f, v.g⟩
def rnds : List (BitVec 32) → List (BitVec 32) → V8 → V8
  | k :: ks, w :: ws, v => rnds ks ws (rnd v k w)
  | _, _, v => v
def addV (h v : V8) : V8 := ⟨h.a + v.a, h.b + v.b, h.c + v.c, h.d + v.d, h.e + v.e, h.f + v.f, h.g + v.g, h.h + v.h⟩
def blockM (h : V8) (b : List UInt8) : V8 := addV h (rnds shaK (sched (words b) 48) h)
def blocksM : Nat → V8 → List UInt8 → V8
  | 0, h, _ => h
  | n + 1, h, l => blocksM n (blockM h (l.take 64)) (l.drop 64)
def padM (l : List UInt8) : List UInt8 :=
  l ++ 0x80 :: (List.replicate ((119 - l.length % 64) % 64) 0 ++ [56, 48, 40, 32, 24, 16, 8, 0].map fun i => UInt8.ofBitVec (((BitVec.ofNat 64 l.length * 8) >>> i).setWidth 8))
def iv : V8 := ⟨0x6a09e667, 0xbb67ae85, 0x3c6ef372, 0xa54ff53a, 0x510e527f, 0x9b05688c, 0x1f83d9ab, 0x5be0cd19⟩
def out4 (x : BitVec 32) : List UInt8 := [UInt8.ofBitVec ((x >>> 24).setWidth 8), UInt8.ofBitVec ((x >>> 16).setWidth 8), UInt8.ofBitVec ((x >>> 8).setWidth 8), UInt8.ofBitVec (x.setWidth 8)]
def outV (v : V8) : List UInt8 := v.list.flatMap out4
def shaL (l : List UInt8) : List UInt8 := outV (blocksM ((padM l).length / 64) iv (padM l))
def sha (l : List UInt8) : Id := ⟨⟨shaL l⟩, rfl⟩
def sha2 (l : List UInt8) : Id := sha (shaL l)
end Go.Ab

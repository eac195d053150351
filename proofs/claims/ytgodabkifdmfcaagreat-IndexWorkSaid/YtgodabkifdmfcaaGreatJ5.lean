import Derived.Test.YtgodabkifdmfcaaGreatJ4
/-
  The code of functions of the program in the small language.
-/
set_option linter.unusedVariables false
namespace Go.Ab
open Go
-- regions [0, 1]
/- tallystick/num.Of -/
def k105 (F : Fn) : PF := PF.mk 5 1 [(PR.cell 2 true 4)] (.seq (.ops [(PO.mk (some 2) (.alloc [(w64 0), (w64 0), (w64 0), (w64 0)]) none)]) (.seq (.ops [(PO.mk (some 3) (.mv (.t 0)) none), (PO.mk (some 4) (.build [(w64 0), (w64 0), (w64 0), (w64 0)] [(0, (1, (.t 3)))]) none), (PO.mk none (.store 4 (.t 2) (.t 4)) none)]) .ret))
-- regions [0, 1, 2, 4, 5, 6, 7, 3, 8]
/- tallystick/num.Cmp -/
def k106 (F : Fn) : PF := PF.mk 24 2 [(.t 4)] (.seq (.ops [(PO.mk (some 2) (.box (.t 0)) none), (PO.mk (some 3) (.box (.t 1)) none), (PO.mk (some 4) (.mv (.k (.int .i64 0))) none)]) (.seq (.seq (.ops [(PO.mk (some 5) (.mv (.k (.int .i64 3))) none)]) (.block 0 (.loop (.seq (.seq (.ops [(PO.mk (some 6) (.mv (.t 5)) none), (PO.mk (some 7) (.bin .geq (.t 6) (.k (.int .i64 0))) none)]) (.cond (.t 7) .skip (.exit 0))) (.seq (.block 1 (.seq (.draw [(.e, (PO.mk (some 10) (.mv (.t 5)) none)), (.e, (PO.mk (some 11) (.idxArr 4 1 (.t 2) (.t 10)) none)), (.e, (PO.mk (some 13) (.mv (.t 5)) none)), (.e, (PO.mk (some 14) (.idxArr 4 1 (.t 3) (.t 13)) none)), (.s, (PO.mk (some 12) (.load false 1 (.t 11)) none)), (.s, (PO.mk (some 15) (.load false 1 (.t 14)) none)), (.e, (PO.mk (some 16) (.bin .neq (.t 12) (.t 15)) none))]) (.cond (.t 16) (.seq (.seq (.draw [(.e, (PO.mk (some 17) (.mv (.t 5)) none)), (.e, (PO.mk (some 18) (.idxArr 4 1 (.t 2) (.t 17)) none)), (.e, (PO.mk (some 20) (.mv (.t 5)) none)), (.e, (PO.mk (some 21) (.idxArr 4 1 (.t 3) (.t 20)) none)), (.s, (PO.mk (some 19) (.load false 1 (.t 18)) none)), (.s, (PO.mk (some 22) (.load false 1 (.t 21)) none)), (.e, (PO.mk (some 23) (.bin .lss (.t 19) (.t 22)) none))]) (.cond (.t 23) (.seq (.ops [(PO.mk (some 4) (.mv (.k (.int .i64 (-1)))) none)]) .ret) .skip)) (.seq (.ops [(PO.mk (some 4) (.mv (.k (.int .i64 1))) none)]) .ret)) .skip))) (.ops [(PO.mk (some 8) (.mv (.t 5)) none), (PO.mk (some 9) (.bin .sub (.t 8) (.k (.int .i64 1))) none), (PO.mk (some 5) (.mv (.t 9)) none)])))))) (.seq (.ops [(PO.mk (some 4) (.mv (.k (.int .i64 0))) none)]) .ret)))
-- regions [0, 1]
/- (tallystick/num.Num).Zero -/
def k107 (F : Fn) : PF := PF.mk 6 1 [(.t 2)] (.seq (.ops [(PO.mk (some 1) (.box (.t 0)) none), (PO.mk (some 2) (.mv (.k (.bool false))) none)]) (.seq (.ops [(PO.mk (some 3) (.load true 4 (.t 1)) none), (PO.mk (some 4) (.build [(w64 0), (w64 0), (w64 0), (w64 0)] []) none), (PO.mk (some 5) (.eqa (.agg 4) false (.t 3) (.t 4)) none), (PO.mk (some 2) (.mv (.t 5)) none)]) .ret))
-- regions [0, 1, 2, 3, 4, 5, 6, 7, 8, 9, 10, 11, 12, 13, 14]
/- tallystick/num.Add -/
def k108 (F : Fn) : PF := PF.mk 41 1 [(PR.cell 2 true 4), (.t 3)] (.seq (.ops [(PO.mk (some 2) (.alloc [(w64 0), (w64 0), (w64 0), (w64 0)]) none), (PO.mk (some 3) (.mv (.k (.bool false))) none)]) (.seq (.ops [(PO.mk (some 4) (.alloc [(w64 0), (w64 0), (w64 0), (w64 0)]) none)]) (.seq (.ops [(PO.mk (some 5) (.mv (.k (.bool false))) none)]) (.seq (.seq (.ops [(PO.mk (some 10) (.mv (.t 0)) none), (PO.mk (some 11) (.lenSl (.t 10)) none), (PO.mk (some 12) (.mv (.k (.int .i64 0))) none)]) (.block 0 (.loop (.seq (.ops [(PO.mk (some 13) (.bin .lss (.t 12) (.t 11)) none)]) (.seq (.cond (.t 13) .skip (.exit 0)) (.seq (.block 1 (.seq (.ops [(PO.mk (some 14) (.idxSl 4 (.t 10) (.t 12)) none), (PO.mk (some 15) (.load true 4 (.t 14)) none), (PO.mk (some 7) (.alloc [(w64 0), (w64 0), (w64 0), (w64 0)]) none), (PO.mk none (.store 4 (.t 7) (.t 15)) none)]) (.seq (.ops [(PO.mk (some 8) (.mv (.k (w64 0))) none)]) (.seq (.seq (.ops [(PO.mk (some 16) (.mv (.k (.int .i64 0))) none)]) (.block 2 (.loop (.seq (.ops [(PO.mk (some 17) (.bin .lss (.t 16) (.k (.int .i64 4))) none)]) (.seq (.cond (.t 17) .skip (.exit 2)) (.seq (.block 3 (.seq (.ops [(PO.mk (some 18) (.mv (.t 16)) none), (PO.mk (some 9) (.mv (.t 18)) none)]) (.draw [(.e, (PO.mk (some 20) (.mv (.t 9)) none)), (.e, (PO.mk (some 21) (.mv (.t 9)) none)), (.e, (PO.mk (some 22) (.idxArr 4 1 (.t 4) (.t 21)) none)), (.e, (PO.mk (some 24) (.mv (.t 9)) none)), (.e, (PO.mk (some 25) (.idxArr 4 1 (.t 7) (.t 24)) none)), (.e, (PO.mk (some 27) (.mv (.t 8)) none)), (.s, (PO.mk (some 23) (.load false 1 (.t 22)) none)), (.s, (PO.mk (some 26) (.load false 1 (.t 25)) none)), (.e, (PO.mk (some 28) (.carry false (.t 23) (.t 26) (.t 27)) none)), (.e, (PO.mk (some 19) (.mv (.t 28)) none)), (.e, (PO.mk (some 29) (.ext 0 (.t 19)) none)), (.e, (PO.mk (some 30) (.ext 1 (.t 19)) none)), (.e, (PO.mk (some 31) (.idxArr 4 1 (.t 4) (.t 20)) none)), (.x, (PO.mk none (.store 1 (.t 31) (.t 29)) none)), (.e, (PO.mk (some 8) (.mv (.t 30)) none))]))) (.ops [(PO.mk (some 32) (.bin .add (.t 16) (.k (.int .i64 1))) none), (PO.mk (some 16) (.mv (.t 32)) none)]))))))) (.ops [(PO.mk (some 33) (.mv (.t 5)) none), (PO.mk (some 34) (.mv (.t 33)) none), (PO.mk (some 35) (.mv (.t 8)) (some (34, false))), (PO.mk (some 36) (.bin .neq (.t 35) (.k (w64 0))) (some (34, false))), (PO.mk (some 37) (.pick (.t 34) (.k (.bool true)) (.t 36)) none), (PO.mk (some 5) (.mv (.t 37)) none)]))))) (.ops [(PO.mk (some 38) (.bin .add (.t 12) (.k (.int .i64 1))) none), (PO.mk (some 12) (.mv (.t 38)) none)]))))))) (.seq (.ops [(PO.mk (some 39) (.load true 4 (.t 4)) none), (PO.mk (some 40) (.mv (.t 5)) none), (PO.mk none (.store 4 (.t 2) (.t 39)) none), (PO.mk (some 3) (.mv (.t 40)) none)]) .ret)))))
-- regions [0, 1, 2, 3, 4, 5, 6, 7]
/- tallystick/num.Sub -/
def k109 (F : Fn) : PF := PF.mk 28 2 [(PR.cell 4 true 4), (.t 5)] (.seq (.ops [(PO.mk (some 2) (.box (.t 0)) none), (PO.mk (some 3) (.box (.t 1)) none), (PO.mk (some 4) (.alloc [(w64 0), (w64 0), (w64 0), (w64 0)]) none), (PO.mk (some 5) (.mv (.k (.bool false))) none)]) (.seq (.ops [(PO.mk (some 6) (.mv (.k (w64 0))) none)]) (.seq (.seq (.ops [(PO.mk (some 8) (.mv (.k (.int .i64 0))) none)]) (.block 0 (.loop (.seq (.ops [(PO.mk (some 9) (.bin .lss (.t 8) (.k (.int .i64 4))) none)]) (.seq (.cond (.t 9) .skip (.exit 0)) (.seq (.block 1 (.seq (.ops [(PO.mk (some 10) (.mv (.t 8)) none), (PO.mk (some 7) (.mv (.t 10)) none)]) (.draw [(.e, (PO.mk (some 12) (.mv (.t 7)) none)), (.e, (PO.mk (some 13) (.mv (.t 7)) none)), (.e, (PO.mk (some 14) (.idxArr 4 1 (.t 2) (.t 13)) none)), (.e, (PO.mk (some 16) (.mv (.t 7)) none)), (.e, (PO.mk (some 17) (.idxArr 4 1 (.t 3) (.t 16)) none)), (.e, (PO.mk (some 19) (.mv (.t 6)) none)), (.s, (PO.mk (some 15) (.load false 1 (.t 14)) none)), (.s, (PO.mk (some 18) (.load false 1 (.t 17)) none)), (.e, (PO.mk (some 20) (.carry true (.t 15) (.t 18) (.t 19)) none)), (.e, (PO.mk (some 11) (.mv (.t 20)) none)), (.e, (PO.mk (some 21) (.ext 0 (.t 11)) none)), (.e, (PO.mk (some 22) (.ext 1 (.t 11)) none)), (.e, (PO.mk (some 23) (.idxArr 4 1 (.t 2) (.t 12)) none)), (.x, (PO.mk none (.store 1 (.t 23) (.t 21)) none)), (.e, (PO.mk (some 6) (.mv (.t 22)) none))]))) (.ops [(PO.mk (some 24) (.bin .add (.t 8) (.k (.int .i64 1))) none), (PO.mk (some 8) (.mv (.t 24)) none)]))))))) (.seq (.ops [(PO.mk (some 25) (.load true 4 (.t 2)) none), (PO.mk (some 26) (.mv (.t 6)) none), (PO.mk (some 27) (.bin .neq (.t 26) (.k (w64 0))) none), (PO.mk none (.store 4 (.t 4) (.t 25)) none), (PO.mk (some 5) (.mv (.t 27)) none)]) .ret))))
-- regions [0, 1, 2, 3, 4, 5, 6, 7, 8, 9]
/- tallystick/num.Mul -/
def k110 (F : Fn) : PF := PF.mk 39 2 [(PR.cell 4 true 4), (.t 5)] (.seq (.ops [(PO.mk (some 2) (.box (.t 0)) none), (PO.mk (some 4) (.alloc [(w64 0), (w64 0), (w64 0), (w64 0)]) none), (PO.mk (some 5) (.mv (.k (.bool false))) none)]) (.seq (.ops [(PO.mk (some 6) (.mv (.k (w64 0))) none)]) (.seq (.seq (.ops [(PO.mk (some 12) (.load true 4 (.t 2)) none), (PO.mk (some 13) (.mv (.k (.int .i64 0))) none)]) (.block 0 (.loop (.seq (.ops [(PO.mk (some 14) (.bin .lss (.t 13) (.k (.int .i64 4))) none)]) (.seq (.cond (.t 14) .skip (.exit 0)) (.seq (.block 1 (.seq (.ops [(PO.mk (some 15) (.mv (.t 13)) none), (PO.mk (some 16) (.idx 4 false 1 (.t 12) (.t 13)) none), (PO.mk (some 7) (.mv (.t 15)) none), (PO.mk (some 8) (.mv (.t 16)) none)]) (.seq (.ops [(PO.mk (some 18) (.mv (.t 8)) none), (PO.mk (some 19) (.mv (.t 1)) none), (PO.mk (some 20) (.call (F 118) [(.t 18), (.t 19)]) none), (PO.mk (some 17) (.mv (.t 20)) none), (PO.mk (some 21) (.ext 0 (.t 17)) none), (PO.mk (some 22) (.ext 1 (.t 17)) none), (PO.mk (some 9) (.mv (.t 21)) none), (PO.mk (some 10) (.mv (.t 22)) none)]) (.seq (.ops [(PO.mk (some 24) (.mv (.t 10)) none), (PO.mk (some 25) (.mv (.t 6)) none), (PO.mk (some 26) (.carry false (.t 24) (.t 25) (.k (w64 0))) none), (PO.mk (some 23) (.mv (.t 26)) none), (PO.mk (some 27) (.ext 0 (.t 23)) none), (PO.mk (some 28) (.ext 1 (.t 23)) none), (PO.mk (some 10) (.mv (.t 27)) none), (PO.mk (some 11) (.mv (.t 28)) none)]) (.ops [(PO.mk (some 29) (.mv (.t 7)) none), (PO.mk (some 30) (.mv (.t 10)) none), (PO.mk (some 31) (.mv (.t 9)) none), (PO.mk (some 32) (.mv (.t 11)) none), (PO.mk (some 33) (.bin .add (.t 31) (.t 32)) none), (PO.mk (some 34) (.idxArr 4 1 (.t 2) (.t 29)) none), (PO.mk none (.store 1 (.t 34) (.t 30)) none), (PO.mk (some 6) (.mv (.t 33)) none)]))))) (.ops [(PO.mk (some 35) (.bin .add (.t 13) (.k (.int .i64 1))) none), (PO.mk (some 13) (.mv (.t 35)) none)]))))))) (.seq (.ops [(PO.mk (some 36) (.load true 4 (.t 2)) none), (PO.mk (some 37) (.mv (.t 6)) none), (PO.mk (some 38) (.bin .neq (.t 37) (.k (w64 0))) none), (PO.mk none (.store 4 (.t 4) (.t 36)) none), (PO.mk (some 5) (.mv (.t 38)) none)]) .ret))))
-- regions [0, 1]
/- tallystick/num.Not -/
def k111 (F : Fn) : PF := PF.mk 16 1 [(PR.cell 2 true 4)] (.seq (.ops [(PO.mk (some 1) (.box (.t 0)) none), (PO.mk (some 2) (.alloc [(w64 0), (w64 0), (w64 0), (w64 0)]) none)]) (.seq (.ops [(PO.mk (some 3) (.idxArr 4 1 (.t 1) (.k (.int .i64 0))) none), (PO.mk (some 4) (.load false 1 (.t 3)) none), (PO.mk (some 5) (.inv (.t 4)) none), (PO.mk (some 6) (.idxArr 4 1 (.t 1) (.k (.int .i64 1))) none), (PO.mk (some 7) (.load false 1 (.t 6)) none), (PO.mk (some 8) (.inv (.t 7)) none), (PO.mk (some 9) (.idxArr 4 1 (.t 1) (.k (.int .i64 2))) none), (PO.mk (some 10) (.load false 1 (.t 9)) none), (PO.mk (some 11) (.inv (.t 10)) none), (PO.mk (some 12) (.idxArr 4 1 (.t 1) (.k (.int .i64 3))) none), (PO.mk (some 13) (.load false 1 (.t 12)) none), (PO.mk (some 14) (.inv (.t 13)) none), (PO.mk (some 15) (.build [(w64 0), (w64 0), (w64 0), (w64 0)] [(0, (1, (.t 5))), (1, (1, (.t 8))), (2, (1, (.t 11))), (3, (1, (.t 14)))]) none), (PO.mk none (.store 4 (.t 2) (.t 15)) none)]) .ret))
-- regions [0, 1, 2, 3, 4, 5, 6, 8, 9, 10, 7, 11]
/- tallystick/num.Shl -/
def k112 (F : Fn) : PF := PF.mk 57 2 [(PR.cell 4 true 4)] (.seq (.ops [(PO.mk (some 2) (.box (.t 0)) none), (PO.mk (some 4) (.alloc [(w64 0), (w64 0), (w64 0), (w64 0)]) none)]) (.seq (.seq (.ops [(PO.mk (some 9) (.mv (.t 1)) none), (PO.mk (some 10) (.bin .lss (.t 9) (.k (.int .i64 0))) none), (PO.mk (some 11) (.mv (.t 10)) none), (PO.mk (some 12) (.mv (.t 1)) (some (11, false))), (PO.mk (some 13) (.bin .gtr (.t 12) (.k (.int .i64 255))) (some (11, false))), (PO.mk (some 14) (.pick (.t 11) (.k (.bool true)) (.t 13)) none)]) (.cond (.t 14) (.seq (.ops [(PO.mk (some 15) (.build [(w64 0), (w64 0), (w64 0), (w64 0)] []) none), (PO.mk none (.store 4 (.t 4) (.t 15)) none)]) .ret) .skip)) (.seq (.ops [(PO.mk (some 5) (.alloc [(w64 0), (w64 0), (w64 0), (w64 0)]) none)]) (.seq (.ops [(PO.mk (some 16) (.mv (.t 1)) none), (PO.mk (some 17) (.bin .quo (.t 16) (.k (.int .i64 64))) none), (PO.mk (some 18) (.mv (.t 1)) none), (PO.mk (some 19) (.bin .rem (.t 18) (.k (.int .i64 64))) none), (PO.mk (some 20) (.conv .u64 (.t 19)) none), (PO.mk (some 6) (.mv (.t 17)) none), (PO.mk (some 7) (.mv (.t 20)) none)]) (.seq (.seq (.ops [(PO.mk (some 8) (.mv (.k (.int .i64 3))) none)]) (.block 0 (.loop (.seq (.seq (.ops [(PO.mk (some 21) (.mv (.t 8)) none), (PO.mk (some 22) (.mv (.t 6)) none), (PO.mk (some 23) (.bin .geq (.t 21) (.t 22)) none)]) (.cond (.t 23) .skip (.exit 0))) (.seq (.block 1 (.seq (.ops [(PO.mk (some 26) (.mv (.t 8)) none), (PO.mk (some 27) (.mv (.t 8)) none), (PO.mk (some 28) (.mv (.t 6)) none), (PO.mk (some 29) (.bin .sub (.t 27) (.t 28)) none), (PO.mk (some 30) (.idxArr 4 1 (.t 2) (.t 29)) none), (PO.mk (some 31) (.load false 1 (.t 30)) none), (PO.mk (some 32) (.mv (.t 7)) none), (PO.mk (some 33) (.bin .shl (.t 31) (.t 32)) none), (PO.mk (some 34) (.idxArr 4 1 (.t 5) (.t 26)) none), (PO.mk none (.store 1 (.t 34) (.t 33)) none)]) (.seq (.ops [(PO.mk (some 35) (.mv (.t 8)) none), (PO.mk (some 36) (.mv (.t 6)) none), (PO.mk (some 37) (.bin .gtr (.t 35) (.t 36)) none), (PO.mk (some 38) (.mv (.t 37)) none), (PO.mk (some 39) (.mv (.t 7)) (some (38, true))), (PO.mk (some 40) (.bin .gtr (.t 39) (.k (w64 0))) (some (38, true))), (PO.mk (some 41) (.pick (.t 38) (.t 40) (.k (.bool false))) none)]) (.cond (.t 41) (.draw [(.e, (PO.mk (some 42) (.mv (.t 8)) none)), (.e, (PO.mk (some 43) (.idxArr 4 1 (.t 5) (.t 42)) none)), (.e, (PO.mk (some 45) (.mv (.t 8)) none)), (.e, (PO.mk (some 46) (.mv (.t 6)) none)), (.e, (PO.mk (some 47) (.bin .sub (.t 45) (.t 46)) none)), (.e, (PO.mk (some 48) (.bin .sub (.t 47) (.k (.int .i64 1))) none)), (.e, (PO.mk (some 49) (.idxArr 4 1 (.t 2) (.t 48)) none)), (.e, (PO.mk (some 51) (.mv (.t 7)) none)), (.e, (PO.mk (some 52) (.bin .sub (.k (w64 64)) (.t 51)) none)), (.s, (PO.mk (some 44) (.load false 1 (.t 43)) none)), (.s, (PO.mk (some 50) (.load false 1 (.t 49)) none)), (.e, (PO.mk (some 53) (.bin .shr (.t 50) (.t 52)) none)), (.e, (PO.mk (some 54) (.bin .or (.t 44) (.t 53)) none)), (.e, (PO.mk (some 55) (.idxArr 4 1 (.t 5) (.t 42)) none)), (.x, (PO.mk none (.store 1 (.t 55) (.t 54)) none))]) .skip)))) (.ops [(PO.mk (some 24) (.mv (.t 8)) none), (PO.mk (some 25) (.bin .sub (.t 24) (.k (.int .i64 1))) none), (PO.mk (some 8) (.mv (.t 25)) none)])))))) (.seq (.ops [(PO.mk (some 56) (.load true 4 (.t 5)) none), (PO.mk none (.store 4 (.t 4) (.t 56)) none)]) .ret))))))
-- regions [0, 1, 2, 3, 4, 5, 6, 8, 9, 10, 7, 11]
/- tallystick/num.Shr -/
def k113 (F : Fn) : PF := PF.mk 59 2 [(PR.cell 4 true 4)] (.seq (.ops [(PO.mk (some 2) (.box (.t 0)) none), (PO.mk (some 4) (.alloc [(w64 0), (w64 0), (w64 0), (w64 0)]) none)]) (.seq (.seq (.ops [(PO.mk (some 9) (.mv (.t 1)) none), (PO.mk (some 10) (.bin .lss (.t 9) (.k (.int .i64 0))) none), (PO.mk (some 11) (.mv (.t 10)) none), (PO.mk (some 12) (.mv (.t 1)) (some (11, false))), (PO.mk (some 13) (.bin .gtr (.t 12) (.k (.int .i64 255))) (some (11, false))), (PO.mk (some 14) (.pick (.t 11) (.k (.bool true)) (.t 13)) none)]) (.cond (.t 14) (.seq (.ops [(PO.mk (some 15) (.build [(w64 0), (w64 0), (w64 0), (w64 0)] []) none), (PO.mk none (.store 4 (.t 4) (.t 15)) none)]) .ret) .skip)) (.seq (.ops [(PO.mk (some 5) (.alloc [(w64 0), (w64 0), (w64 0), (w64 0)]) none)]) (.seq (.ops [(PO.mk (some 16) (.mv (.t 1)) none), (PO.mk (some 17) (.bin .quo (.t 16) (.k (.int .i64 64))) none), (PO.mk (some 18) (.mv (.t 1)) none), (PO.mk (some 19) (.bin .rem (.t 18) (.k (.int .i64 64))) none), (PO.mk (some 20) (.conv .u64 (.t 19)) none), (PO.mk (some 6) (.mv (.t 17)) none), (PO.mk (some 7) (.mv (.t 20)) none)]) (.seq (.seq (.ops [(PO.mk (some 8) (.mv (.k (.int .i64 0))) none)]) (.block 0 (.loop (.seq (.seq (.ops [(PO.mk (some 21) (.mv (.t 8)) none), (PO.mk (some 22) (.mv (.t 6)) none), (PO.mk (some 23) (.bin .sub (.k (.int .i64 4)) (.t 22)) none), (PO.mk (some 24) (.bin .lss (.t 21) (.t 23)) none)]) (.cond (.t 24) .skip (.exit 0))) (.seq (.block 1 (.seq (.ops [(PO.mk (some 27) (.mv (.t 8)) none), (PO.mk (some 28) (.mv (.t 8)) none), (PO.mk (some 29) (.mv (.t 6)) none), (PO.mk (some 30) (.bin .add (.t 28) (.t 29)) none), (PO.mk (some 31) (.idxArr 4 1 (.t 2) (.t 30)) none), (PO.mk (some 32) (.load false 1 (.t 31)) none), (PO.mk (some 33) (.mv (.t 7)) none), (PO.mk (some 34) (.bin .shr (.t 32) (.t 33)) none), (PO.mk (some 35) (.idxArr 4 1 (.t 5) (.t 27)) none), (PO.mk none (.store 1 (.t 35) (.t 34)) none)]) (.seq (.ops [(PO.mk (some 36) (.mv (.t 8)) none), (PO.mk (some 37) (.mv (.t 6)) none), (PO.mk (some 38) (.bin .add (.t 36) (.t 37)) none), (PO.mk (some 39) (.bin .lss (.t 38) (.k (.int .i64 3))) none), (PO.mk (some 40) (.mv (.t 39)) none), (PO.mk (some 41) (.mv (.t 7)) (some (40, true))), (PO.mk (some 42) (.bin .gtr (.t 41) (.k (w64 0))) (some (40, true))), (PO.mk (some 43) (.pick (.t 40) (.t 42) (.k (.bool false))) none)]) (.cond (.t 43) (.draw [(.e, (PO.mk (some 44) (.mv (.t 8)) none)), (.e, (PO.mk (some 45) (.idxArr 4 1 (.t 5) (.t 44)) none)), (.e, (PO.mk (some 47) (.mv (.t 8)) none)), (.e, (PO.mk (some 48) (.mv (.t 6)) none)), (.e, (PO.mk (some 49) (.bin .add (.t 47) (.t 48)) none)), (.e, (PO.mk (some 50) (.bin .add (.t 49) (.k (.int .i64 1))) none)), (.e, (PO.mk (some 51) (.idxArr 4 1 (.t 2) (.t 50)) none)), (.e, (PO.mk (some 53) (.mv (.t 7)) none)), (.e, (PO.mk (some 54) (.bin .sub (.k (w64 64)) (.t 53)) none)), (.s, (PO.mk (some 46) (.load false 1 (.t 45)) none)), (.s, (PO.mk (some 52) (.load false 1 (.t 51)) none)), (.e, (PO.mk (some 55) (.bin .shl (.t 52) (.t 54)) none)), (.e, (PO.mk (some 56) (.bin .or (.t 46) (.t 55)) none)), (.e, (PO.mk (some 57) (.idxArr 4 1 (.t 5) (.t 44)) none)), (.x, (PO.mk none (.store 1 (.t 57) (.t 56)) none))]) .skip)))) (.ops [(PO.mk (some 25) (.mv (.t 8)) none), (PO.mk (some 26) (.bin .add (.t 25) (.k (.int .i64 1))) none), (PO.mk (some 8) (.mv (.t 26)) none)])))))) (.seq (.ops [(PO.mk (some 58) (.load true 4 (.t 5)) none), (PO.mk none (.store 4 (.t 4) (.t 58)) none)]) .ret))))))
-- regions [0, 1, 2, 4, 5, 3, 6]
/- tallystick/num.Len -/
def k114 (F : Fn) : PF := PF.mk 19 1 [(.t 2)] (.seq (.ops [(PO.mk (some 1) (.box (.t 0)) none), (PO.mk (some 2) (.mv (.k (.int .i64 0))) none)]) (.seq (.seq (.ops [(PO.mk (some 3) (.mv (.k (.int .i64 3))) none)]) (.block 0 (.loop (.seq (.seq (.ops [(PO.mk (some 4) (.mv (.t 3)) none), (PO.mk (some 5) (.bin .geq (.t 4) (.k (.int .i64 0))) none)]) (.cond (.t 5) .skip (.exit 0))) (.seq (.block 1 (.seq (.ops [(PO.mk (some 8) (.mv (.t 3)) none), (PO.mk (some 9) (.idxArr 4 1 (.t 1) (.t 8)) none), (PO.mk (some 10) (.load false 1 (.t 9)) none), (PO.mk (some 11) (.bin .neq (.t 10) (.k (w64 0))) none)]) (.cond (.t 11) (.seq (.ops [(PO.mk (some 12) (.mv (.t 3)) none), (PO.mk (some 13) (.bin .mul (.k (.int .i64 64)) (.t 12)) none), (PO.mk (some 14) (.mv (.t 3)) none), (PO.mk (some 15) (.idxArr 4 1 (.t 1) (.t 14)) none), (PO.mk (some 16) (.load false 1 (.t 15)) none), (PO.mk (some 17) (.call (F 115) [(.t 16)]) none), (PO.mk (some 18) (.bin .add (.t 13) (.t 17)) none), (PO.mk (some 2) (.mv (.t 18)) none)]) .ret) .skip))) (.ops [(PO.mk (some 6) (.mv (.t 3)) none), (PO.mk (some 7) (.bin .sub (.t 6) (.k (.int .i64 1))) none), (PO.mk (some 3) (.mv (.t 7)) none)])))))) (.seq (.ops [(PO.mk (some 2) (.mv (.k (.int .i64 0))) none)]) .ret)))
-- regions [0, 1, 2, 3, 4, 5, 7, 8, 9, 10, 6, 11]
/- tallystick/num.Div -/
def k116 (F : Fn) : PF := PF.mk 48 2 [(PR.cell 4 true 4), (PR.cell 5 true 4), (.t 6)] (.seq (.ops [(PO.mk (some 2) (.box (.t 0)) none), (PO.mk (some 3) (.box (.t 1)) none), (PO.mk (some 4) (.alloc [(w64 0), (w64 0), (w64 0), (w64 0)]) none), (PO.mk (some 5) (.alloc [(w64 0), (w64 0), (w64 0), (w64 0)]) none), (PO.mk (some 6) (.mv (.k (.int .i64 0))) none)]) (.seq (.seq (.ops [(PO.mk (some 10) (.load true 4 (.t 3)) none), (PO.mk (some 11) (.call (F 107) [(.t 10)]) none)]) (.cond (.t 11) (.seq (.ops [(PO.mk (some 12) (.build [(w64 0), (w64 0), (w64 0), (w64 0)] []) none), (PO.mk (some 13) (.build [(w64 0), (w64 0), (w64 0), (w64 0)] []) none), (PO.mk none (.store 4 (.t 4) (.t 12)) none), (PO.mk none (.store 4 (.t 5) (.t 13)) none), (PO.mk (some 6) (.mv (.k (.int .i64 1))) none)]) .ret) .skip)) (.seq (.ops [(PO.mk (some 7) (.alloc [(w64 0), (w64 0), (w64 0), (w64 0)]) none)]) (.seq (.seq (.draw [(.s, (PO.mk (some 14) (.load true 4 (.t 2)) none)), (.s, (PO.mk (some 15) (.call (F 114) [(.t 14)]) none)), (.s, (PO.mk (some 16) (.load true 4 (.t 3)) none)), (.s, (PO.mk (some 17) (.call (F 114) [(.t 16)]) none)), (.e, (PO.mk (some 18) (.bin .sub (.t 15) (.t 17)) none)), (.e, (PO.mk (some 8) (.mv (.t 18)) none))]) (.block 0 (.loop (.seq (.seq (.ops [(PO.mk (some 19) (.mv (.t 8)) none), (PO.mk (some 20) (.bin .geq (.t 19) (.k (.int .i64 0))) none)]) (.cond (.t 20) .skip (.exit 0))) (.seq (.block 1 (.seq (.ops [(PO.mk (some 23) (.load true 4 (.t 3)) none), (PO.mk (some 24) (.mv (.t 8)) none), (PO.mk (some 25) (.call (F 112) [(.t 23), (.t 24)]) none), (PO.mk (some 9) (.alloc [(w64 0), (w64 0), (w64 0), (w64 0)]) none), (PO.mk none (.store 4 (.t 9) (.t 25)) none)]) (.seq (.ops [(PO.mk (some 26) (.load true 4 (.t 9)) none), (PO.mk (some 27) (.load true 4 (.t 2)) none), (PO.mk (some 28) (.call (F 106) [(.t 26), (.t 27)]) none), (PO.mk (some 29) (.bin .leq (.t 28) (.k (.int .i64 0))) none)]) (.cond (.t 29) (.seq (.ops [(PO.mk (some 31) (.load true 4 (.t 2)) none), (PO.mk (some 32) (.load true 4 (.t 9)) none), (PO.mk (some 33) (.call (F 109) [(.t 31), (.t 32)]) none), (PO.mk (some 30) (.mv (.t 33)) none), (PO.mk (some 34) (.ext 0 (.t 30)) none), (PO.mk (some 35) (.ext 1 (.t 30)) none), (PO.mk none (.store 4 (.t 2) (.t 34)) none)]) (.ops [(PO.mk (some 36) (.mv (.t 8)) none), (PO.mk (some 37) (.bin .quo (.t 36) (.k (.int .i64 64))) none), (PO.mk (some 38) (.idxArr 4 1 (.t 7) (.t 37)) none), (PO.mk (some 39) (.load false 1 (.t 38)) none), (PO.mk (some 40) (.mv (.t 8)) none), (PO.mk (some 41) (.bin .rem (.t 40) (.k (.int .i64 64))) none), (PO.mk (some 42) (.conv .u64 (.t 41)) none), (PO.mk (some 43) (.bin .shl (.k (w64 1)) (.t 42)) none), (PO.mk (some 44) (.bin .or (.t 39) (.t 43)) none), (PO.mk (some 45) (.idxArr 4 1 (.t 7) (.t 37)) none), (PO.mk none (.store 1 (.t 45) (.t 44)) none)])) .skip)))) (.ops [(PO.mk (some 21) (.mv (.t 8)) none), (PO.mk (some 22) (.bin .sub (.t 21) (.k (.int .i64 1))) none), (PO.mk (some 8) (.mv (.t 22)) none)])))))) (.seq (.draw2 [(7, 4), (7, 5), (2, 4), (2, 5)] [(.s, (PO.mk (some 46) (.load true 4 (.t 7)) none)), (.s, (PO.mk (some 47) (.load true 4 (.t 2)) none)), (.x, (PO.mk none (.store 4 (.t 4) (.t 46)) none)), (.x, (PO.mk none (.store 4 (.t 5) (.t 47)) none)), (.e, (PO.mk (some 6) (.mv (.k (.int .i64 0))) none))]) .ret)))))
-- regions [0, 1, 2, 3, 4, 5, 6, 7]
/- tallystick/num.FromID -/
def k117 (F : Fn) : PF := PF.mk 26 1 [(PR.cell 2 true 4)] (.seq (.ops [(PO.mk (some 1) (.box (.t 0)) none), (PO.mk (some 2) (.alloc [(w64 0), (w64 0), (w64 0), (w64 0)]) none)]) (.seq (.ops [(PO.mk (some 3) (.alloc [(w64 0), (w64 0), (w64 0), (w64 0)]) none)]) (.seq (.seq (.ops [(PO.mk (some 6) (.load true 32 (.t 1)) none), (PO.mk (some 7) (.mv (.k (.int .i64 0))) none)]) (.block 0 (.loop (.seq (.ops [(PO.mk (some 8) (.bin .lss (.t 7) (.k (.int .i64 32))) none)]) (.seq (.cond (.t 8) .skip (.exit 0)) (.seq (.block 1 (.seq (.ops [(PO.mk (some 9) (.mv (.t 7)) none), (PO.mk (some 10) (.idx 32 false 1 (.t 6) (.t 7)) none), (PO.mk (some 4) (.mv (.t 9)) none), (PO.mk (some 5) (.mv (.t 10)) none)]) (.ops [(PO.mk (some 11) (.mv (.t 4)) none), (PO.mk (some 12) (.bin .quo (.t 11) (.k (.int .i64 8))) none), (PO.mk (some 13) (.idxArr 4 1 (.t 3) (.t 12)) none), (PO.mk (some 14) (.load false 1 (.t 13)) none), (PO.mk (some 15) (.mv (.t 5)) none), (PO.mk (some 16) (.conv .u64 (.t 15)) none), (PO.mk (some 17) (.mv (.t 4)) none), (PO.mk (some 18) (.bin .rem (.t 17) (.k (.int .i64 8))) none), (PO.mk (some 19) (.bin .mul (.k (.int .i64 8)) (.t 18)) none), (PO.mk (some 20) (.conv .u64 (.t 19)) none), (PO.mk (some 21) (.bin .shl (.t 16) (.t 20)) none), (PO.mk (some 22) (.bin .or (.t 14) (.t 21)) none), (PO.mk (some 23) (.idxArr 4 1 (.t 3) (.t 12)) none), (PO.mk none (.store 1 (.t 23) (.t 22)) none)]))) (.ops [(PO.mk (some 24) (.bin .add (.t 7) (.k (.int .i64 1))) none), (PO.mk (some 7) (.mv (.t 24)) none)]))))))) (.seq (.ops [(PO.mk (some 25) (.load true 4 (.t 3)) none), (PO.mk none (.store 4 (.t 2) (.t 25)) none)]) .ret))))
-- regions [0, 1, 2, 3, 4, 5, 6, 7, 8, 9, 10]
/- math/bits.Len64 -/
def k115 (F : Fn) : PF := PF.mk 25 1 [(.t 2)] (.seq (.ops [(PO.mk (some 2) (.mv (.k (.int .i64 0))) none)]) (.seq (.seq (.ops [(PO.mk (some 3) (.mv (.t 0)) none), (PO.mk (some 4) (.bin .geq (.t 3) (.k (w64 4294967296))) none)]) (.cond (.t 4) (.seq (.ops [(PO.mk (some 5) (.mv (.t 0)) none), (PO.mk (some 6) (.bin .shr (.t 5) (.k (w64 32))) none), (PO.mk (some 0) (.mv (.t 6)) none)]) (.ops [(PO.mk (some 2) (.mv (.k (.int .i64 32))) none)])) .skip)) (.seq (.seq (.ops [(PO.mk (some 7) (.mv (.t 0)) none), (PO.mk (some 8) (.bin .geq (.t 7) (.k (w64 65536))) none)]) (.cond (.t 8) (.seq (.ops [(PO.mk (some 9) (.mv (.t 0)) none), (PO.mk (some 10) (.bin .shr (.t 9) (.k (w64 16))) none), (PO.mk (some 0) (.mv (.t 10)) none)]) (.ops [(PO.mk (some 11) (.mv (.t 2)) none), (PO.mk (some 12) (.bin .add (.t 11) (.k (.int .i64 16))) none), (PO.mk (some 2) (.mv (.t 12)) none)])) .skip)) (.seq (.seq (.ops [(PO.mk (some 13) (.mv (.t 0)) none), (PO.mk (some 14) (.bin .geq (.t 13) (.k (w64 256))) none)]) (.cond (.t 14) (.seq (.ops [(PO.mk (some 15) (.mv (.t 0)) none), (PO.mk (some 16) (.bin .shr (.t 15) (.k (w64 8))) none), (PO.mk (some 0) (.mv (.t 16)) none)]) (.ops [(PO.mk (some 17) (.mv (.t 2)) none), (PO.mk (some 18) (.bin .add (.t 17) (.k (.int .i64 8))) none), (PO.mk (some 2) (.mv (.t 18)) none)])) .skip)) (.seq (.ops [(PO.mk (some 19) (.mv (.t 2)) none), (PO.mk (some 20) (.mv (.t 0)) none), (PO.mk (some 21) (.conv .u8 (.t 20)) none), (PO.mk (some 22) (.idxStr (.k (.str (ByteArray.mk ⟨[0, 1, 2, 2, 3, 3, 3, 3, 4, 4, 4, 4, 4, 4, 4, 4, 5, 5, 5, 5, 5, 5, 5, 5, 5, 5, 5, 5, 5, 5, 5, 5, 6, 6, 6, 6, 6, 6, 6, 6, 6, 6, 6, 6, 6, 6, 6, 6, 6, 6, 6, 6, 6, 6, 6, 6, 6, 6, 6, 6, 6, 6, 6, 6, 7, 7, 7, 7, 7, 7, 7, 7, 7, 7, 7, 7, 7, 7, 7, 7, 7, 7, 7, 7, 7, 7, 7, 7, 7, 7, 7, 7, 7, 7, 7, 7, 7, 7, 7, 7, 7, 7, 7, 7, 7, 7, 7, 7, 7, 7, 7, 7, 7, 7, 7, 7, 7, 7, 7, 7, 7, 7, 7, 7, 7, 7, 7, 7, 8, 8, 8, 8, 8, 8, 8, 8, 8, 8, 8, 8, 8, 8, 8, 8, 8, 8, 8, 8, 8, 8, 8, 8, 8, 8, 8, 8, 8, 8, 8, 8, 8, 8, 8, 8, 8, 8, 8, 8, 8, 8, 8, 8, 8, 8, 8, 8, 8, 8, 8, 8, 8, 8, 8, 8, 8, 8, 8, 8, 8, 8, 8, 8, 8, 8, 8, 8, 8, 8, 8, 8, 8, 8, 8, 8, 8, 8, 8, 8, 8, 8, 8, 8, 8, 8, 8, 8, 8, 8, 8, 8, 8, 8, 8, 8, 8, 8, 8, 8, 8, 8, 8, 8, 8, 8, 8, 8, 8, 8, 8, 8, 8, 8, 8, 8, 8, 8, 8, 8, 8, 8, 8, 8, 8, 8, 8, 8]⟩))) (.t 21)) none), (PO.mk (some 23) (.conv .i64 (.t 22)) none), (PO.mk (some 24) (.bin .add (.t 19) (.t 23)) none), (PO.mk (some 2) (.mv (.t 24)) none)]) .ret)))))
-- regions [0, 1, 2, 3, 4, 5, 6, 7, 8, 9, 10, 11]
/- math/bits.Mul64 -/
def k118 (F : Fn) : PF := PF.mk 51 2 [(.t 4), (.t 5)] (.seq (.ops [(PO.mk (some 4) (.mv (.k (w64 0))) none), (PO.mk (some 5) (.mv (.k (w64 0))) none)]) (.seq (.ops [(PO.mk (some 14) (.mv (.t 0)) none), (PO.mk (some 15) (.bin .and (.t 14) (.k (w64 4294967295))) none), (PO.mk (some 6) (.mv (.t 15)) none)]) (.seq (.ops [(PO.mk (some 16) (.mv (.t 0)) none), (PO.mk (some 17) (.bin .shr (.t 16) (.k (w64 32))) none), (PO.mk (some 7) (.mv (.t 17)) none)]) (.seq (.ops [(PO.mk (some 18) (.mv (.t 1)) none), (PO.mk (some 19) (.bin .and (.t 18) (.k (w64 4294967295))) none), (PO.mk (some 8) (.mv (.t 19)) none)]) (.seq (.ops [(PO.mk (some 20) (.mv (.t 1)) none), (PO.mk (some 21) (.bin .shr (.t 20) (.k (w64 32))) none), (PO.mk (some 9) (.mv (.t 21)) none)]) (.seq (.ops [(PO.mk (some 22) (.mv (.t 6)) none), (PO.mk (some 23) (.mv (.t 8)) none), (PO.mk (some 24) (.bin .mul (.t 22) (.t 23)) none), (PO.mk (some 10) (.mv (.t 24)) none)]) (.seq (.ops [(PO.mk (some 25) (.mv (.t 7)) none), (PO.mk (some 26) (.mv (.t 8)) none), (PO.mk (some 27) (.bin .mul (.t 25) (.t 26)) none), (PO.mk (some 28) (.mv (.t 10)) none), (PO.mk (some 29) (.bin .shr (.t 28) (.k (w64 32))) none), (PO.mk (some 30) (.bin .add (.t 27) (.t 29)) none), (PO.mk (some 11) (.mv (.t 30)) none)]) (.seq (.ops [(PO.mk (some 31) (.mv (.t 11)) none), (PO.mk (some 32) (.bin .and (.t 31) (.k (w64 4294967295))) none), (PO.mk (some 12) (.mv (.t 32)) none)]) (.seq (.ops [(PO.mk (some 33) (.mv (.t 11)) none), (PO.mk (some 34) (.bin .shr (.t 33) (.k (w64 32))) none), (PO.mk (some 13) (.mv (.t 34)) none)]) (.seq (.ops [(PO.mk (some 35) (.mv (.t 12)) none), (PO.mk (some 36) (.mv (.t 6)) none), (PO.mk (some 37) (.mv (.t 9)) none), (PO.mk (some 38) (.bin .mul (.t 36) (.t 37)) none), (PO.mk (some 39) (.bin .add (.t 35) (.t 38)) none), (PO.mk (some 12) (.mv (.t 39)) none)]) (.seq (.ops [(PO.mk (some 40) (.mv (.t 7)) none), (PO.mk (some 41) (.mv (.t 9)) none), (PO.mk (some 42) (.bin .mul (.t 40) (.t 41)) none), (PO.mk (some 43) (.mv (.t 13)) none), (PO.mk (some 44) (.bin .add (.t 42) (.t 43)) none), (PO.mk (some 45) (.mv (.t 12)) none), (PO.mk (some 46) (.bin .shr (.t 45) (.k (w64 32))) none), (PO.mk (some 47) (.bin .add (.t 44) (.t 46)) none), (PO.mk (some 4) (.mv (.t 47)) none)]) (.seq (.ops [(PO.mk (some 48) (.mv (.t 0)) none), (PO.mk (some 49) (.mv (.t 1)) none), (PO.mk (some 50) (.bin .mul (.t 48) (.t 49)) none), (PO.mk (some 5) (.mv (.t 50)) none)]) .ret))))))))))))
structure OkNum (P : Program) (F : Fn) : Prop where
  mixed : P.follows .mixedOrders = true
  h105 : compFn P ⟨[], [], [], [], []⟩ (F 105) = some (k105 F)
  h106 : compFn P ⟨[], [], [], [], []⟩ (F 106) = some (k106 F)
  h107 : compFn P ⟨[], [], [], [], []⟩ (F 107) = some (k107 F)
  h108 : compFn P ⟨[], [], [], [], []⟩ (F 108) = some (k108 F)
  h109 : compFn P ⟨[], [], [], [], []⟩ (F 109) = some (k109 F)
  h110 : compFn P ⟨[], [], [], [], []⟩ (F 110) = some (k110 F)
  h111 : compFn P ⟨[], [], [], [], []⟩ (F 111) = some (k111 F)
  h112 : compFn P ⟨[], [], [], [], []⟩ (F 112) = some (k112 F)
  h113 : compFn P ⟨[], [], [], [], []⟩ (F 113) = some (k113 F)
  h114 : compFn P ⟨[], [], [], [], []⟩ (F 114) = some (k114 F)
  h116 : compFn P ⟨[], [], [], [], []⟩ (F 116) = some (k116 F)
  h117 : compFn P ⟨[], [], [], [], []⟩ (F 117) = some (k117 F)
  h115 : compFn P ⟨[], [], [], [], []⟩ (F 115) = some (k115 F)
  h118 : compFn P ⟨[], [], [], [], []⟩ (F 118) = some (k118 F)
end Go.Ab
/-
  num: numbers of 256 bits.
-/
set_option linter.unusedSimpArgs false
set_option linter.unusedVariables false
set_option maxRecDepth 10000
namespace Go.Ab
open Go Go.RowKit
section
variable {P : Program} {F : Fn}

/-- Of -/
theorem spec105 (ok : OkNum P F) (st : St) (x : W) : ACalls P (F 105) [w64 x] st fun v st' => v = nU (x.setWidth 256) ∧ st' = st := by
  refine shows_call ok.mixed ok.h105 (by simp [k105]) ?_
  have e : eU (x.setWidth 256) = [w64 x, w64 0, w64 0, w64 0] := by
    have : x.setWidth 256 = u4 x 0 0 0 := by
      apply BitVec.eq_of_toNat_eq
      have := x.isLt
      rw [u4_nat, BitVec.toNat_setWidth, Nat.mod_eq_of_lt (by omega)]
      simp
    rw [this, eU_u4]
  simp [k105, fillV, spliceV, nU, e]
  intro id hid
  simp [fillV, storeS, spliceV, St.seg, segOf]
  exact sub_upd hid

/-- Cmp -/
def cmpU (a b : U) : Int := if a.toNat < b.toNat then -1 else if a = b then 0 else 1
theorem cmpU_d {a b c d a' b' c' d' : W} (h : d ≠ d') : cmpU (u4 a b c d) (u4 a' b' c' d') = if d < d' then -1 else 1 := by
  have := a.isLt; have := b.isLt; have := c.isLt; have := a'.isLt; have := b'.isLt; have := c'.isLt
  have hne : u4 a b c d ≠ u4 a' b' c' d' := fun e => h (u4_inj e).2.2.2
  have hn : d.toNat ≠ d'.toNat := fun e => h (BitVec.eq_of_toNat_eq e)
  simp only [cmpU, hne, if_false, u4_nat, BitVec.lt_def]
  split <;> split <;> first | rfl | omega
theorem cmpU_c {a b c d a' b' c' : W} (h : c ≠ c') : cmpU (u4 a b c d) (u4 a' b' c' d) = if c < c' then -1 else 1 := by
  have := a.isLt; have := b.isLt; have := a'.isLt; have := b'.isLt
  have hne : u4 a b c d ≠ u4 a' b' c' d := fun e => h (u4_inj e).2.2.1
  have hn : c.toNat ≠ c'.toNat := fun e => h (BitVec.eq_of_toNat_eq e)
  simp only [cmpU, hne, if_false, u4_nat, BitVec.lt_def]
  split <;> split <;> first | rfl | omega
theorem cmpU_b {a b c d a' b' : W} (h : b ≠ b') : cmpU (u4 a b c d) (u4 a' b' c d) = if b < b' then -1 else 1 := by
  have := a.isLt; have := a'.isLt
  have hne : u4 a b c d ≠ u4 a' b' c d := fun e => h (u4_inj e).2.1
  have hn : b.toNat ≠ b'.toNat := fun e => h (BitVec.eq_of_toNat_eq e)
  simp only [cmpU, hne, if_false, u4_nat, BitVec.lt_def]
  split <;> split <;> first | rfl | omega
theorem cmpU_a {a b c d a' : W} (h : a ≠ a') : cmpU (u4 a b c d) (u4 a' b c d) = if a < a' then -1 else 1 := by
  have hne : u4 a b c d ≠ u4 a' b c d := fun e => h (u4_inj e).1
  have hn : a.toNat ≠ a'.toNat := fun e => h (BitVec.eq_of_toNat_eq e)
  simp only [cmpU, hne, if_false, u4_nat, BitVec.lt_def]
  split <;> split <;> first | rfl | omega
theorem sub_upd2 {st : St} {i j : Nat} {o p : AObj} (hi : st i = none) (hj : (st.upd i o) j = none) : St.sub st ((st.upd i o).upd j p) := sub_trans (sub_upd hi) (sub_upd hj)
theorem ne_upd {st : St} {i j : Nat} {o : AObj} (hj : (st.upd i o) j = none) : i ≠ j := by
  rintro rfl
  simp at hj
theorem upd_none {st : St} {i k : Nat} {o : AObj} (h : (st.upd i o) k = none) : i ≠ k ∧ st k = none := by
  by_cases e : k = i
  · subst e; simp at h
  · exact ⟨fun h => e h.symm, by simpa [e] using h⟩
theorem spec106 (ok : OkNum P F) (st : St) (x y : U) : ACalls P (F 106) [nU x, nU y] st fun v st' => v = .int .i64 (cmpU x y) ∧ st' = st := by
  refine shows_call ok.mixed ok.h106 (by simp [k106]) ?_
  obtain ⟨a, b, c, d, rfl⟩ := exists_u4 x
  obtain ⟨a', b', c', d', rfl⟩ := exists_u4 y
  simp only [k106, nU, eU_u4]
  simp
  intro i hi j hj
  have hij := ne_upd hj
  have hsub := sub_upd2 (p := .cells [w64 a', w64 b', w64 c', w64 d']) hi hj
  refine vc_unroll 5 ?_
  simp [unr_succ, hij, idxArrV, St.seg, segOf]
  by_cases h : d = d'
  · subst h
    simp [unr_succ, hij, idxArrV, St.seg, segOf]
    by_cases h : c = c'
    · subst h
      simp [unr_succ, hij, idxArrV, St.seg, segOf]
      by_cases h : b = b'
      · subst h
        simp [unr_succ, hij, idxArrV, St.seg, segOf]
        by_cases h : a = a'
        · subst h
          simp [unr_succ, hij, idxArrV, St.seg, segOf, cmpU, hsub]
        · have hb : (a != a') = true := by simp [h]
          by_cases hlt : a < a' <;> simp [unr_succ, hij, idxArrV, St.seg, segOf, hb, cmpU_a h, hlt, hsub]
      · have hb : (b != b') = true := by simp [h]
        by_cases hlt : b < b' <;> simp [unr_succ, hij, idxArrV, St.seg, segOf, hb, cmpU_b h, hlt, hsub]
    · have hb : (c != c') = true := by simp [h]
      by_cases hlt : c < c' <;> simp [unr_succ, hij, idxArrV, St.seg, segOf, hb, cmpU_c h, hlt, hsub]
  · have hb : (d != d') = true := by simp [h]
    by_cases hlt : d < d' <;> simp [unr_succ, hij, idxArrV, St.seg, segOf, hb, cmpU_d h, hlt, hsub]

/-- Zero -/
theorem eqL_u (x y : U) : eqL (eU x) (eU y) = some (decide (x = y)) := by
  obtain ⟨a, b, c, d, rfl⟩ := exists_u4 x
  obtain ⟨a', b', c', d', rfl⟩ := exists_u4 y
  have key : ∀ p q : W, ((p.toNat : Int) == (q.toNat : Int)) = decide (p = q) := fun p q => by
    rw [Bool.eq_iff_iff]
    simp only [beq_iff_eq, decide_eq_true_eq]
    exact ⟨fun h => BitVec.eq_of_toNat_eq (by omega), fun h => by rw [h]⟩
  simp only [eU_u4, w64, eqL, if_true, Option.map_some, key, Option.some.injEq]
  rw [Bool.eq_iff_iff]
  simp only [Bool.and_eq_true, decide_eq_true_eq]
  constructor
  · rintro ⟨h1, h2, h3, h4, _⟩
    rw [h1, h2, h3, h4]
  · intro h
    obtain ⟨h1, h2, h3, h4⟩ := u4_inj h
    exact ⟨h1, h2, h3, h4, trivial⟩
theorem eU_zero : [w64 0#64, w64 0#64, w64 0#64, w64 0#64] = eU 0#256 := by
  rw [show (0#256 : U) = u4 0#64 0#64 0#64 0#64 from rfl, eU_u4]
theorem segU (x : U) : segOf (eU x) 0 4 = some (eU x) := rfl
theorem spec107 (ok : OkNum P F) (st : St) (x : U) : ACalls P (F 107) [nU x] st fun v st' => v = .bool (decide (x = 0)) ∧ st' = st := by
  refine shows_call ok.mixed ok.h107 (by simp [k107]) ?_
  simp only [k107, nU, eU_zero]
  simp
  intro i hi
  have hl := eU_len x
  simp [St.seg, segU, fillV, eqK, hl, eU_zero, eqL_u]
  exact sub_upd hi

/-- Not -/
theorem not_u4 (a b c d : W) : ~~~(u4 a b c d) = u4 (~~~a) (~~~b) (~~~c) (~~~d) := by
  apply BitVec.eq_of_toNat_eq
  have := a.isLt; have := b.isLt; have := c.isLt; have := d.isLt
  rw [BitVec.toNat_not, u4_nat, u4_nat, BitVec.toNat_not, BitVec.toNat_not, BitVec.toNat_not, BitVec.toNat_not]
  omega
theorem spec111 (ok : OkNum P F) (st : St) (x : U) : ACalls P (F 111) [nU x] st fun v st' => v = nU (~~~x) ∧ st' = st := by
  refine shows_call ok.mixed ok.h111 (by simp [k111]) ?_
  obtain ⟨a, b, c, d, rfl⟩ := exists_u4 x
  simp only [k111, nU, not_u4, eU_u4]
  simp
  intro i hi
  simp
  intro j hj
  have hij := ne_upd hj
  have hsub := sub_upd2 (p := .cells [w64 0#64, w64 0#64, w64 0#64, w64 0#64]) hi hj
  simp [hij, idxArrV, St.seg, segOf, fillV, spliceV, storeS]
  exact sub_upd2 hi hj

/-- Sub -/
def subU (x y : U) : U := x - y
theorem sub_u4 (a b c d a' b' c' d' : W) :
    u4 a b c d - u4 a' b' c' d' = u4 (dif64 a a' false) (dif64 b b' (bor64 a a' false)) (dif64 c c' (bor64 b b' (bor64 a a' false))) (dif64 d d' (bor64 c c' (bor64 b b' (bor64 a a' false)))) ∧
    bor64 d d' (bor64 c c' (bor64 b b' (bor64 a a' false))) = decide ((u4 a b c d).toNat < (u4 a' b' c' d').toNat) := by
  have := a.isLt; have := b.isLt; have := c.isLt; have := d.isLt
  have := a'.isLt; have := b'.isLt; have := c'.isLt; have := d'.isLt
  constructor
  · apply BitVec.eq_of_toNat_eq
    rw [BitVec.toNat_sub, u4_nat, u4_nat, u4_nat, dif64_nat, dif64_nat, dif64_nat, dif64_nat]
    simp only [bor64, decide_eq_true_eq, Bool.false_eq_true, if_false]
    show (115792089237316195423570985008687907853269984665640564039457584007913129639936 - _ + _) % 115792089237316195423570985008687907853269984665640564039457584007913129639936 = _
    split <;> split <;> split <;> omega
  · rw [u4_nat, u4_nat]
    simp only [bor64, decide_eq_true_eq, Bool.false_eq_true, if_false]
    congr 1
    rw [eq_iff_iff]
    split <;> split <;> split <;> omega
@[simp high] theorem carry_sub (x y : W) (c : Bool) : carryV true (w64 x) (w64 y) (w64 (b64 c)) = some (.tup [w64 (dif64 x y c), w64 (b64 (bor64 x y c))]) := by
  have h1 := x.isLt
  have h2 := y.isLt
  have e1 := dif64_nat x y c
  have e2 : (b64 (bor64 x y c)).toNat = if x.toNat < y.toNat + (if c then 1 else 0) then 1 else 0 := by
    rw [b64_nat]
    simp only [bor64, decide_eq_true_eq]
  have e3 := b64_nat c
  generalize dif64 x y c = d at *
  generalize b64 (bor64 x y c) = r at *
  generalize b64 c = q at *
  simp only [carryV, w64]
  rw [if_pos (by split at e3 <;> omega)]
  simp only [Option.some.injEq, V.tup.injEq, List.cons.injEq, V.int.injEq, true_and, and_true, if_true, Int.toNat_natCast]
  rw [e1, e2, e3]
  cases c <;> simp <;> constructor <;> first | omega | (split <;> split <;> omega) | (split <;> omega)
@[simp high] theorem carry_add (x y : W) (c : Bool) : carryV false (w64 x) (w64 y) (w64 (b64 c)) = some (.tup [w64 (sum64 x y c), w64 (b64 (car64 x y c))]) := by
  have h1 := x.isLt
  have h2 := y.isLt
  have e1 := sum64_nat x y c
  have e2 : (b64 (car64 x y c)).toNat = if 18446744073709551616 ≤ x.toNat + y.toNat + (if c then 1 else 0) then 1 else 0 := by
    rw [b64_nat]
    simp only [car64, decide_eq_true_eq]
  have e3 := b64_nat c
  generalize sum64 x y c = d at *
  generalize b64 (car64 x y c) = r at *
  generalize b64 c = q at *
  simp only [carryV, w64]
  rw [if_pos (by split at e3 <;> omega)]
  simp only [Option.some.injEq, V.tup.injEq, List.cons.injEq, V.int.injEq, true_and, and_true, Bool.false_eq_true, if_false]
  rw [e1, e2, e3]
  cases c <;> simp <;> first | omega | (split <;> omega)
theorem zero_b64 : (0#64 : W) = b64 false := rfl
theorem b64_ne (c : Bool) : (b64 c != b64 false) = c := by cases c <;> rfl
theorem sub_ups {st s : St} {i : Nat} {o : AObj} (h : St.sub st s) (hi : st i = none) : St.sub st (s.upd i o) := fun j x hj => by
  have : j ≠ i := fun e => by rw [e, hi] at hj; cases hj
  simp [this, h j x hj]
theorem spec109 (ok : OkNum P F) (st : St) (x y : U) : ACalls P (F 109) [nU x, nU y] st fun v st' => v = .tup [nU (x - y), .bool (decide (x.toNat < y.toNat))] ∧ st' = st := by
  refine shows_call ok.mixed ok.h109 (by simp [k109]) ?_
  obtain ⟨a, b, c, d, rfl⟩ := exists_u4 x
  obtain ⟨a', b', c', d', rfl⟩ := exists_u4 y
  obtain ⟨e1, e2⟩ := sub_u4 a b c d a' b' c' d'
  rw [← e2, e1]
  simp only [k109, nU, eU_u4]
  simp
  intro i hi j hj
  have hij := ne_upd hj
  have hji := hij.symm
  simp
  intro k hk
  have hjk := ne_upd hk
  have hik := (upd_none (upd_none hk).2).1
  have hki := hik.symm
  have hkj := hjk.symm
  refine vc_unroll 5 ?_
  rw [zero_b64]
  simp [unr_succ, hij, hji, hjk, hkj, hik, hki, idxArrV, St.seg, segOf, storeS, spliceV, b64_ne]
  exact sub_ups (sub_ups (sub_ups (sub_ups (sub_ups (sub_self _) hi) (upd_none hj).2) (upd_none (upd_none hk).2).2) hi) (upd_none (upd_none hk).2).2
end
end Go.Ab
/-
  SHA-256, as a function of bytes.
-/
set_option linter.unusedSimpArgs false
set_option linter.unusedVariables false
namespace Go.Ab
open Go Go.RowKit

def shaK : List (BitVec 32) := [0x428a2f98, 0x71374491, 0xb5c0fbcf, 0xe9b5dba5, 0x3956c25b, 0x59f111f1, 0x923f82a4, 0xab1c5ed5, 0xd807aa98, 0x12835b01, 0x243185be, 0x550c7dc3, 0x72be5d74, 0x80deb1fe, 0x9bdc06a7, 0xc19bf174, 0xe49b69c1, 0xefbe4786, 0x0fc19dc6, 0x240ca1cc, 0x2de92c6f, 0x4a7484aa, 0x5cb0a9dc, 0x76f988da, 0x983e5152, 0xa831c66d, 0xb00327c8, 0xbf597fc7, 0xc6e00bf3, 0xd5a79147, 0x06ca6351, 0x14292967, 0x27b70a85, 0x2e1b2138, 0x4d2c6dfc, 0x53380d13, 0x650a7354, 0x766a0abb, 0x81c2c92e, 0x92722c85, 0xa2bfe8a1, 0xa81a664b, 0xc24b8b70, 0xc76c51a3, 0xd192e819, 0xd6990624, 0xf40e3585, 0x106aa070, 0x19a4c116, 0x1e376c08, 0x2748774c, 0x34b0bcb5, 0x391c0cb3, 0x4ed8aa4a, 0x5b9cca4f, 0x682e6ff3, 0x748f82ee, 0x78a5636f, 0x84c87814, 0x8cc70208, 0x90befffa, 0xa4506ceb, 0xbef9a3f7, 0xc67178f2]

def be4 (a b c d : UInt8) : BitVec 32 := a.toBitVec.setWidth 32 <<< 24 ||| b.toBitVec.setWidth 32 <<< 16 ||| c.toBitVec.setWidth 32 <<< 8 ||| d.toBitVec.setWidth 32
def words : List UInt8 → List (BitVec 32)
  | a :: b :: c :: d :: l => be4 a b c d :: words l
  | _ => []
def ror (x : BitVec 32) (n : Nat) : BitVec 32 := x >>> n ||| x <<< (32 - n)
def sg0 (x : BitVec 32) : BitVec 32 := ror x 7 ^^^ ror x 18 ^^^ x >>> 3
def sg1 (x : BitVec 32) : BitVec 32 := ror x 17 ^^^ ror x 19 ^^^ x >>> 10
def bg0 (x : BitVec 32) : BitVec 32 := ror x 2 ^^^ ror x 13 ^^^ ror x 22
def bg1 (x : BitVec 32) : BitVec 32 := ror x 6 ^^^ ror x 11 ^^^ ror x 25
/-- The next word. -/
def nextW (l : List (BitVec 32)) : BitVec 32 := l.getD (l.length - 16) 0 + sg0 (l.getD (l.length - 15) 0) + l.getD (l.length - 7) 0 + sg1 (l.getD (l.length - 2) 0)
def sched (m : List (BitVec 32)) : Nat → List (BitVec 32)
  | 0 => m
  | k + 1 => sched m k ++ [nextW (sched m k)]

structure V8 where
  a : BitVec 32
  b : BitVec 32
  c : BitVec 32
  d : BitVec 32
  e : BitVec 32
  f : BitVec 32
  g : BitVec 32
  h : BitVec 32
  deriving DecidableEq
def V8.list (v : V8) : List (BitVec 32) := [v.a, v.b, v.c, v.d, v.e, v.f, v.g, v.h]
def rnd (v : V8) (k w : BitVec 32) : V8 :=
  let t := v.h + bg1 v.e + (v.e &&& v.f ^^^ ~~~v.e &&& v.g) + k + w
  ⟨t + bg0 v.a + (v.a &&& v.b ^^^ v.a &&& v.c ^^^ v.b &&& v.c), v.a, v.b, v.c, v.d + t, v.e, v.f, v.g⟩
def rnds : List (BitVec 32) → List (BitVec 32) → V8 → V8
  | k :: ks, w :: ws, v => rnds ks ws (rnd v k w)
  | _, _, v => v
def addV (h v : V8) : V8 := ⟨h.a + v.a, h.b + v.b, h.c + v.c, h.d + v.d, h.e + v.e, h.f + v.f, h.g + v.g, h.h + v.h⟩
def blockM (h : V8) (b : List UInt8) : V8 := addV h (rnds shaK (sched (words b) 48) h)
def blocksM : Nat → V8 → List UInt8 → V8
  | 0, h, _ => h
  | n + 1, h, l => blocksM n (blockM h (l.take 64)) (l.drop 64)
def padM (l : List UInt8) : List UInt8 :=
  l ++ 0x80 :: (List.replicate ((119 - l.length % 64) % 64) 0 ++ [56, 48, 40, 32, 24, 16, 8, 0].map fun i => UInt8.ofBitVec (((BitVec.ofNat 64 l.length * 8) >>> i).setWidth 8))
def iv : V8 := ⟨0x6a09e667, 0xbb67ae85, 0x3c6ef372, 0xa54ff53a, 0x510e527f, 0x9b05688c, 0x1f83d9ab, 0x5be0cd19⟩
def out4 (x : BitVec 32) : List UInt8 := [UInt8.ofBitVec ((x >>> 24).setWidth 8), UInt8.ofBitVec ((x >>> 16).setWidth 8), UInt8.ofBitVec ((x >>> 8).setWidth 8), UInt8.ofBitVec (x.setWidth 8)]
def outV (v : V8) : List UInt8 := v.list.flatMap out4
theorem outV_len (v : V8) : (outV v).length = 32 := rfl
def shaL (l : List UInt8) : List UInt8 := outV (blocksM ((padM l).length / 64) iv (padM l))
theorem shaL_len (l : List UInt8) : (shaL l).length = 32 := rfl
def sha (l : List UInt8) : Id := ⟨⟨shaL l⟩, rfl⟩
def sha2 (l : List UInt8) : Id := sha (shaL l)
set_option maxRecDepth 100000 in
example : (shaL [97, 98, 99]).map (·.toNat) = [0xba, 0x78, 0x16, 0xbf, 0x8f, 0x01, 0xcf, 0xea, 0x41, 0x41, 0x40, 0xde, 0x5d, 0xae, 0x22, 0x23, 0xb0, 0x03, 0x61, 0xa3, 0x96, 0x17, 0x7a, 0x9c, 0xb4, 0x10, 0xff, 0x61, 0xf2, 0x00, 0x15, 0xad] := by decide +kernel
end Go.Ab
/-
  Targets, work and the bits behind so many, in whole numbers; and that both ways to reckon them are the same.
-/
set_option linter.unusedSimpArgs false
set_option linter.unusedVariables false
namespace Go.Ab
open Go Go.RowKit

abbrev W32 := BitVec 32
/-- The number that a size and a word mean. -/
def tgtV (size word : Nat) : Nat := if size ≤ 3 then word / 2 ^ (8 * (3 - size)) else word * 2 ^ (8 * (size - 3))
/-- What short bits mean. -/
def tgt (b : W32) : Option Nat :=
  if b.toNat % 16777216 = 0 ∨ 8388608 ≤ b.toNat % 16777216 then none
  else if tgtV (b.toNat / 16777216) (b.toNat % 16777216) = 0 ∨ 2 ^ 256 ≤ tgtV (b.toNat / 16777216) (b.toNat % 16777216) then none
  else some (tgtV (b.toNat / 16777216) (b.toNat % 16777216))
theorem tgt_lt {b : W32} {t : Nat} (h : tgt b = some t) : 0 < t ∧ t < 2 ^ 256 := by
  unfold tgt at h
  split at h
  · cases h
  · split at h
    · cases h
    · rename_i h1
      cases h
      omega
def workN (t : Nat) : Nat := 2 ^ 256 / (t + 1)
/-- The size and the word of a number's short form, as the document tells them. -/
def sizeN (t : Nat) : Nat := (bitlen t + 7) / 8 + (if 0 < bitlen t ∧ bitlen t % 8 = 0 then 1 else 0)
def wordN (t : Nat) : Nat := if sizeN t ≤ 3 then t * 2 ^ (8 * (3 - sizeN t)) else t / 2 ^ (8 * (sizeN t - 3))
def shortN (t : Nat) : W32 := BitVec.ofNat 32 (sizeN t * 16777216 + wordN t)

theorem lt_bitlen (t : Nat) : t < 2 ^ bitlen t := bitlen_le.1 (Nat.le_refl _)
theorem wordN_lt (t : Nat) : wordN t < 8388608 := by
  have h := lt_bitlen t
  obtain ⟨L, hL⟩ : ∃ L, L = bitlen t := ⟨_, rfl⟩
  rw [← hL] at h
  have hs : L < 8 * sizeN t ∨ L = 0 := by
    unfold sizeN
    rw [← hL]
    split <;> omega
  have e23 : (8388608 : Nat) = 2 ^ 23 := rfl
  unfold wordN
  split
  · rename_i h3
    rcases hs with hs | hs
    · calc t * 2 ^ (8 * (3 - sizeN t)) < 2 ^ L * 2 ^ (8 * (3 - sizeN t)) := Nat.mul_lt_mul_of_pos_right h (Nat.two_pow_pos _)
        _ = 2 ^ (L + 8 * (3 - sizeN t)) := (Nat.pow_add _ _ _).symm
        _ ≤ 2 ^ 23 := Nat.pow_le_pow_right (by omega) (by omega)
    · rw [hs] at h
      have : t = 0 := by omega
      rw [this]; simp
  · rename_i h3
    rw [Nat.div_lt_iff_lt_mul (Nat.two_pow_pos _), e23, ← Nat.pow_add]
    refine Nat.lt_of_lt_of_le h (Nat.pow_le_pow_right (by omega) ?_)
    omega

/-- The bits behind so many. -/
def clampT (took should : Int) : Nat := (max (should.tdiv 4) (min took (4 * should))).toNat
def nextT (t tk sh limit : Nat) : Nat :=
  let q := if t * tk < 2 ^ 256 then t * tk / sh else t / sh * tk
  if 2 ^ 256 ≤ q ∨ limit < q then limit else q
def nextN (b : W32) (took should : Int) (limit : Nat) : Option W32 :=
  match tgt b with
  | none => none
  | some t => if should < 1 ∨ 1099511627776 < should then none else some (shortN (nextT t (clampT took should) should.toNat limit))
theorem clampT_le {took should : Int} (h1 : 1 ≤ should) (h2 : should ≤ 1099511627776) : clampT took should ≤ 4398046511104 := by
  unfold clampT
  have : should.tdiv 4 ≤ should := by
    rw [Int.tdiv_eq_ediv_of_nonneg (by omega)]
    omega
  omega

/-! ### headers -/
structure Hdr where
  ver : W32
  prev : Id
  root : Id
  time : W32
  bits : W32
  nonce : W32
  deriving DecidableEq
def eHdr (h : Hdr) : List V := w32 h.ver :: (eId h.prev ++ (eId h.root ++ [w32 h.time, w32 h.bits, w32 h.nonce]))
theorem eHdr_len (h : Hdr) : (eHdr h).length = 68 := by simp [eHdr, eId_len]
def le4 (x : W32) : List UInt8 := [UInt8.ofBitVec (x.setWidth 8), UInt8.ofBitVec ((x >>> 8).setWidth 8), UInt8.ofBitVec ((x >>> 16).setWidth 8), UInt8.ofBitVec ((x >>> 24).setWidth 8)]
def hBytes (h : Hdr) : List UInt8 := le4 h.ver ++ (h.prev.toList ++ (h.root.toList ++ (le4 h.time ++ (le4 h.bits ++ le4 h.nonce))))
theorem hBytes_len (h : Hdr) : (hBytes h).length = 80 := by simp [hBytes, le4]
def hId (h : Hdr) : Id := sha2 (hBytes h)
/-- A sum as a number, its bytes the lowest first. -/
def leN : List UInt8 → Nat
  | [] => 0
  | b :: l => b.toNat + 256 * leN l
def idN (x : Id) : Nat := leN x.toList
theorem leN_lt : ∀ l : List UInt8, leN l < 256 ^ l.length
  | [] => by simp [leN]
  | b :: l => by
    have := leN_lt l
    have := b.toNat_lt
    simp only [leN, List.length_cons, Nat.pow_succ]
    omega
theorem idN_lt (x : Id) : idN x < 2 ^ 256 := by
  have := leN_lt x.toList
  rw [Vector.length_toList] at this
  exact this
/-- Does work stand behind a header: the error's number. -/
def provedN (h : Hdr) (limit : W32) : Int :=
  match tgt h.bits, tgt limit with
  | some a, some b => if b < a then 30 else if a < idN (hId h) then 50 else 0
  | _, _ => 30
/-- The first header behind which work stands. -/
def mineN (h : Hdr) (limit : W32) : Nat → Option Hdr
  | 0 => none
  | n + 1 => if provedN h limit = 0 then some h else mineN { h with nonce := h.nonce + 1 } limit n
end Go.Ab
/-
  SHA-256: numbers turned bit by bit.
-/
set_option linter.unusedSimpArgs false
set_option linter.unusedVariables false
namespace Go.Ab
open Go Go.RowKit

def turn1 (x : BitVec 32) : BitVec 32 := x / 2#32 + (x % 2#32) * 2147483648#32
def turnM : Nat → BitVec 32 → BitVec 32
  | 0, x => x
  | n + 1, x => turn1 (turnM n x)
theorem half32 (x : BitVec 32) : x / 2#32 = x >>> 1 := by
  apply BitVec.eq_of_toNat_eq
  simp [Nat.shiftRight_eq_div_pow]
theorem high32 (x : BitVec 32) : (x % 2#32) * 2147483648#32 = x <<< 31 := by
  apply BitVec.eq_of_toNat_eq
  rw [BitVec.toNat_mul, BitVec.toNat_umod, BitVec.toNat_shiftLeft, Nat.shiftLeft_eq]
  show x.toNat % 2 * 2147483648 % 4294967296 = x.toNat * 2147483648 % 4294967296
  omega
theorem turn1_ror (x : BitVec 32) : turn1 x = ror x 1 := by
  unfold turn1 ror
  rw [half32, high32]
  apply BitVec.add_eq_or_of_and_eq_zero
  apply BitVec.eq_of_getLsbD_eq
  intro i hi
  rw [BitVec.getLsbD_and, BitVec.getLsbD_ushiftRight, BitVec.getLsbD_shiftLeft]
  by_cases h : i < 31
  · simp [h]
  · have : x.getLsbD (1 + i) = false := BitVec.getLsbD_of_ge _ _ (by omega)
    simp [this]
theorem ror_bit (x : BitVec 32) (n i : Nat) (hn : n < 32) (hi : i < 32) : (ror x n).getLsbD i = if i < 32 - n then x.getLsbD (n + i) else x.getLsbD (i - (32 - n)) := by
  simp only [ror, BitVec.getLsbD_or, BitVec.getLsbD_ushiftRight, BitVec.getLsbD_shiftLeft]
  split
  · rename_i h
    simp [h]
  · rename_i h
    have e1 : x.getLsbD (n + i) = false := BitVec.getLsbD_of_ge _ _ (by omega)
    simp [e1, h, hi]
theorem ror_succ (x : BitVec 32) (n : Nat) (hn : n + 1 < 32) : ror (ror x n) 1 = ror x (n + 1) := by
  apply BitVec.eq_of_getLsbD_eq
  intro i hi
  rw [ror_bit _ _ _ (by omega) hi, ror_bit x _ _ hn hi]
  split
  · rw [ror_bit _ _ _ (by omega) (by omega)]
    split <;> split
    · congr 1; omega
    · omega
    · congr 1; omega
    · congr 1; omega
  · rw [ror_bit _ _ _ (by omega) (by omega)]
    split <;> split
    · omega
    · congr 1; omega
    · omega
    · congr 1; omega
theorem turnM_ror (x : BitVec 32) : ∀ n, n < 32 → turnM n x = ror x n
  | 0, _ => by
    apply BitVec.eq_of_toNat_eq
    simp [turnM, ror]
  | n + 1, h => by
    rw [turnM, turn1_ror, turnM_ror x n (by omega), ror_succ x n h]
def lowM : Nat → BitVec 32 → BitVec 32
  | 0, x => x
  | n + 1, x => lowM n x / 2#32
theorem lowM_shr (x : BitVec 32) : ∀ n, lowM n x = x >>> n
  | 0 => by simp [lowM]
  | n + 1 => by
    rw [lowM, lowM_shr x n]
    apply BitVec.eq_of_toNat_eq
    simp [Nat.shiftRight_eq_div_pow, Nat.pow_succ, Nat.div_div_eq_div_mul]

theorem be4_nat (a b c d : UInt8) : (be4 a b c d).toNat = ((a.toNat * 256 + b.toNat) * 256 + c.toNat) * 256 + d.toNat := by
  have ha := a.toNat_lt
  have hb := b.toNat_lt
  have hc := c.toNat_lt
  have hd := d.toNat_lt
  have e : ∀ (x : UInt8) (k : Nat), k ≤ 24 → (x.toBitVec.setWidth 32 <<< k).toNat = x.toNat <<< k := by
    intro x k hk
    have hx := x.toNat_lt
    rw [BitVec.toNat_shiftLeft]
    simp only [BitVec.toNat_setWidth, UInt8.toNat_toBitVec, Nat.shiftLeft_eq]
    rw [Nat.mod_eq_of_lt (show x.toNat < 2 ^ 32 by omega), Nat.mod_eq_of_lt]
    calc x.toNat * 2 ^ k < 2 ^ 8 * 2 ^ k := Nat.mul_lt_mul_of_pos_right hx (Nat.two_pow_pos k)
      _ ≤ 2 ^ 8 * 2 ^ 24 := Nat.mul_le_mul_left _ (Nat.pow_le_pow_right (by omega) hk)
      _ = 2 ^ 32 := rfl
  have e0 : (d.toBitVec.setWidth 32).toNat = d.toNat := by
    simp only [BitVec.toNat_setWidth, UInt8.toNat_toBitVec]
    exact Nat.mod_eq_of_lt (by omega)
  unfold be4
  rw [BitVec.toNat_or, BitVec.toNat_or, BitVec.toNat_or, e a 24 (by omega), e b 16 (by omega), e c 8 (by omega), e0]
  rw [← Nat.shiftLeft_add_eq_or_of_lt (i := 24) (by rw [Nat.shiftLeft_eq]; omega)]
  have h2 : a.toNat <<< 24 + b.toNat <<< 16 = (a.toNat * 256 + b.toNat) <<< 16 := by simp only [Nat.shiftLeft_eq]; omega
  rw [h2, ← Nat.shiftLeft_add_eq_or_of_lt (i := 16) (by rw [Nat.shiftLeft_eq]; omega)]
  have h3 : (a.toNat * 256 + b.toNat) <<< 16 + c.toNat <<< 8 = ((a.toNat * 256 + b.toNat) * 256 + c.toNat) <<< 8 := by simp only [Nat.shiftLeft_eq]; omega
  rw [h3, ← Nat.shiftLeft_add_eq_or_of_lt (i := 8) (by omega)]
  simp only [Nat.shiftLeft_eq]
def be4R (l : List UInt8) : BitVec 32 := l.foldl (fun x b => x * 256#32 + b.toBitVec.setWidth 32) 0#32
theorem be4R_eq (a b c d : UInt8) : be4R [a, b, c, d] = be4 a b c d := by
  have ha := a.toNat_lt
  have hb := b.toNat_lt
  have hc := c.toNat_lt
  have hd := d.toNat_lt
  apply BitVec.eq_of_toNat_eq
  rw [be4_nat]
  simp only [be4R, List.foldl_cons, List.foldl_nil, BitVec.toNat_add, BitVec.toNat_mul, BitVec.toNat_setWidth, UInt8.toNat_toBitVec]
  show ((((0 * 256 % 4294967296 + a.toNat % 4294967296) % 4294967296 * 256 % 4294967296 + b.toNat % 4294967296) % 4294967296 * 256 % 4294967296 + c.toNat % 4294967296) % 4294967296 * 256 % 4294967296 + d.toNat % 4294967296) % 4294967296 = _
  omega
theorem not_sub (x : BitVec 32) : 4294967295#32 - x = ~~~x := by
  apply BitVec.eq_of_toNat_eq
  have := x.isLt
  rw [BitVec.toNat_sub, BitVec.toNat_not]
  show (4294967296 - x.toNat + 4294967295) % 4294967296 = 4294967296 - 1 - x.toNat
  omega
theorem byte_mod (x : BitVec 32) : UInt8.ofBitVec ((x % 256#32).setWidth 8) = UInt8.ofBitVec (x.setWidth 8) := by
  congr 1
  apply BitVec.eq_of_toNat_eq
  rw [BitVec.toNat_setWidth, BitVec.toNat_setWidth, BitVec.toNat_umod]
  show x.toNat % 256 % 256 = x.toNat % 256
  omega
theorem div256 (x : BitVec 32) (n : Nat) : (x >>> n) / 256#32 = x >>> (n + 8) := by
  apply BitVec.eq_of_toNat_eq
  rw [BitVec.toNat_udiv, BitVec.toNat_ushiftRight, BitVec.toNat_ushiftRight, Nat.shiftRight_eq_div_pow, Nat.shiftRight_eq_div_pow, Nat.pow_add, ← Nat.div_div_eq_div_mul]
  rfl
end Go.Ab
/-
  The code of functions of the program in the small language.
-/
set_option linter.unusedVariables false
namespace Go.Ab
open Go
-- regions [0, 1]
/- tallystick/hash.word -/
def k100 (F : Fn) : PF := PF.mk 30 2 [(.t 4)] (.seq (.ops [(PO.mk (some 4) (.mv (.k (w32 0))) none)]) (.seq (.draw [(.e, (PO.mk (some 5) (.mv (.t 0)) none)), (.e, (PO.mk (some 6) (.mv (.t 1)) none)), (.e, (PO.mk (some 7) (.idxStr (.t 5) (.t 6)) none)), (.e, (PO.mk (some 8) (.conv .u32 (.t 7)) none)), (.e, (PO.mk (some 9) (.bin .shl (.t 8) (.k (w64 24))) none)), (.e, (PO.mk (some 10) (.mv (.t 0)) none)), (.e, (PO.mk (some 11) (.mv (.t 1)) none)), (.e, (PO.mk (some 12) (.bin .add (.t 11) (.k (.int .i64 1))) none)), (.e, (PO.mk (some 13) (.idxStr (.t 10) (.t 12)) none)), (.e, (PO.mk (some 14) (.conv .u32 (.t 13)) none)), (.e, (PO.mk (some 15) (.bin .shl (.t 14) (.k (w64 16))) none)), (.e, (PO.mk (some 16) (.bin .or (.t 9) (.t 15)) none)), (.e, (PO.mk (some 17) (.mv (.t 0)) none)), (.e, (PO.mk (some 18) (.mv (.t 1)) none)), (.e, (PO.mk (some 19) (.bin .add (.t 18) (.k (.int .i64 2))) none)), (.e, (PO.mk (some 20) (.idxStr (.t 17) (.t 19)) none)), (.e, (PO.mk (some 21) (.conv .u32 (.t 20)) none)), (.e, (PO.mk (some 22) (.bin .shl (.t 21) (.k (w64 8))) none)), (.e, (PO.mk (some 23) (.bin .or (.t 16) (.t 22)) none)), (.e, (PO.mk (some 24) (.mv (.t 0)) none)), (.e, (PO.mk (some 25) (.mv (.t 1)) none)), (.e, (PO.mk (some 26) (.bin .add (.t 25) (.k (.int .i64 3))) none)), (.e, (PO.mk (some 27) (.idxStr (.t 24) (.t 26)) none)), (.e, (PO.mk (some 28) (.conv .u32 (.t 27)) none)), (.e, (PO.mk (some 29) (.bin .or (.t 23) (.t 28)) none)), (.e, (PO.mk (some 4) (.mv (.t 29)) none))]) .ret))
-- regions [0, 1, 2, 3, 4, 5, 6, 7, 8, 10, 11, 12, 13, 9, 14, 15, 16, 17, 18, 19, 20, 21, 22, 23, 24, 25, 26, 27, 28, 29, 30]
/- tallystick/hash.block -/
def k101 (F : Fn) : PF := PF.mk 172 2 [(PR.cell 4 true 8)] (.seq (.ops [(PO.mk (some 2) (.box (.t 0)) none), (PO.mk (some 4) (.alloc [(w32 0), (w32 0), (w32 0), (w32 0), (w32 0), (w32 0), (w32 0), (w32 0)]) none)]) (.seq (.ops [(PO.mk (some 5) (.alloc zR64_w320) none)]) (.seq (.seq (.ops [(PO.mk (some 21) (.mv (.k (.int .i64 0))) none)]) (.block 0 (.loop (.seq (.ops [(PO.mk (some 22) (.bin .lss (.t 21) (.k (.int .i64 16))) none)]) (.seq (.cond (.t 22) .skip (.exit 0)) (.seq (.block 1 (.seq (.ops [(PO.mk (some 23) (.mv (.t 21)) none), (PO.mk (some 6) (.mv (.t 23)) none)]) (.ops [(PO.mk (some 24) (.mv (.t 6)) none), (PO.mk (some 25) (.mv (.t 1)) none), (PO.mk (some 26) (.mv (.t 6)) none), (PO.mk (some 27) (.bin .mul (.k (.int .i64 4)) (.t 26)) none), (PO.mk (some 28) (.call (F 100) [(.t 25), (.t 27)]) none), (PO.mk (some 29) (.idxArr 64 1 (.t 5) (.t 24)) none), (PO.mk none (.store 1 (.t 29) (.t 28)) none)]))) (.ops [(PO.mk (some 30) (.bin .add (.t 21) (.k (.int .i64 1))) none), (PO.mk (some 21) (.mv (.t 30)) none)]))))))) (.seq (.seq (.ops [(PO.mk (some 7) (.mv (.k (.int .i64 16))) none)]) (.block 2 (.loop (.seq (.seq (.ops [(PO.mk (some 31) (.mv (.t 7)) none), (PO.mk (some 32) (.bin .lss (.t 31) (.k (.int .i64 64))) none)]) (.cond (.t 32) .skip (.exit 2))) (.seq (.block 3 (.seq (.draw [(.e, (PO.mk (some 35) (.mv (.t 7)) none)), (.e, (PO.mk (some 36) (.bin .sub (.t 35) (.k (.int .i64 15))) none)), (.e, (PO.mk (some 37) (.idxArr 64 1 (.t 5) (.t 36)) none)), (.e, (PO.mk (some 39) (.mv (.t 7)) none)), (.e, (PO.mk (some 40) (.bin .sub (.t 39) (.k (.int .i64 2))) none)), (.e, (PO.mk (some 41) (.idxArr 64 1 (.t 5) (.t 40)) none)), (.s, (PO.mk (some 38) (.load false 1 (.t 37)) none)), (.e, (PO.mk (some 8) (.mv (.t 38)) none)), (.s, (PO.mk (some 42) (.load false 1 (.t 41)) none)), (.e, (PO.mk (some 9) (.mv (.t 42)) none))]) (.seq (.ops [(PO.mk (some 43) (.mv (.t 8)) none), (PO.mk (some 44) (.call (F 102) [(.t 43), (.k (.int .i64 (-7)))]) none), (PO.mk (some 45) (.mv (.t 8)) none), (PO.mk (some 46) (.call (F 102) [(.t 45), (.k (.int .i64 (-18)))]) none), (PO.mk (some 47) (.bin .xor (.t 44) (.t 46)) none), (PO.mk (some 48) (.mv (.t 8)) none), (PO.mk (some 49) (.bin .shr (.t 48) (.k (w64 3))) none), (PO.mk (some 50) (.bin .xor (.t 47) (.t 49)) none), (PO.mk (some 10) (.mv (.t 50)) none)]) (.seq (.ops [(PO.mk (some 51) (.mv (.t 9)) none), (PO.mk (some 52) (.call (F 102) [(.t 51), (.k (.int .i64 (-17)))]) none), (PO.mk (some 53) (.mv (.t 9)) none), (PO.mk (some 54) (.call (F 102) [(.t 53), (.k (.int .i64 (-19)))]) none), (PO.mk (some 55) (.bin .xor (.t 52) (.t 54)) none), (PO.mk (some 56) (.mv (.t 9)) none), (PO.mk (some 57) (.bin .shr (.t 56) (.k (w64 10))) none), (PO.mk (some 58) (.bin .xor (.t 55) (.t 57)) none), (PO.mk (some 11) (.mv (.t 58)) none)]) (.draw [(.e, (PO.mk (some 59) (.mv (.t 7)) none)), (.e, (PO.mk (some 60) (.mv (.t 7)) none)), (.e, (PO.mk (some 61) (.bin .sub (.t 60) (.k (.int .i64 16))) none)), (.e, (PO.mk (some 62) (.idxArr 64 1 (.t 5) (.t 61)) none)), (.e, (PO.mk (some 64) (.mv (.t 10)) none)), (.e, (PO.mk (some 66) (.mv (.t 7)) none)), (.e, (PO.mk (some 67) (.bin .sub (.t 66) (.k (.int .i64 7))) none)), (.e, (PO.mk (some 68) (.idxArr 64 1 (.t 5) (.t 67)) none)), (.e, (PO.mk (some 71) (.mv (.t 11)) none)), (.s, (PO.mk (some 63) (.load false 1 (.t 62)) none)), (.e, (PO.mk (some 65) (.bin .add (.t 63) (.t 64)) none)), (.s, (PO.mk (some 69) (.load false 1 (.t 68)) none)), (.e, (PO.mk (some 70) (.bin .add (.t 65) (.t 69)) none)), (.e, (PO.mk (some 72) (.bin .add (.t 70) (.t 71)) none)), (.e, (PO.mk (some 73) (.idxArr 64 1 (.t 5) (.t 59)) none)), (.x, (PO.mk none (.store 1 (.t 73) (.t 72)) none))]))))) (.ops [(PO.mk (some 33) (.mv (.t 7)) none), (PO.mk (some 34) (.bin .add (.t 33) (.k (.int .i64 1))) none), (PO.mk (some 7) (.mv (.t 34)) none)])))))) (.seq (.ops [(PO.mk (some 74) (.load true 8 (.t 2)) none), (PO.mk (some 12) (.alloc [(w32 0), (w32 0), (w32 0), (w32 0), (w32 0), (w32 0), (w32 0), (w32 0)]) none), (PO.mk none (.store 8 (.t 12) (.t 74)) none)]) (.seq (.seq (.ops [(PO.mk (some 75) (.mv (.k (.int .i64 0))) none)]) (.block 4 (.loop (.seq (.ops [(PO.mk (some 76) (.bin .lss (.t 75) (.k (.int .i64 64))) none)]) (.seq (.cond (.t 76) .skip (.exit 4)) (.seq (.block 5 (.seq (.ops [(PO.mk (some 77) (.mv (.t 75)) none), (PO.mk (some 13) (.mv (.t 77)) none)]) (.seq (.draw [(.e, (PO.mk (some 78) (.idxArr 8 1 (.t 12) (.k (.int .i64 0))) none)), (.e, (PO.mk (some 80) (.idxArr 8 1 (.t 12) (.k (.int .i64 4))) none)), (.s, (PO.mk (some 79) (.load false 1 (.t 78)) none)), (.e, (PO.mk (some 14) (.mv (.t 79)) none)), (.s, (PO.mk (some 81) (.load false 1 (.t 80)) none)), (.e, (PO.mk (some 15) (.mv (.t 81)) none))]) (.seq (.ops [(PO.mk (some 82) (.mv (.t 15)) none), (PO.mk (some 83) (.call (F 102) [(.t 82), (.k (.int .i64 (-6)))]) none), (PO.mk (some 84) (.mv (.t 15)) none), (PO.mk (some 85) (.call (F 102) [(.t 84), (.k (.int .i64 (-11)))]) none), (PO.mk (some 86) (.bin .xor (.t 83) (.t 85)) none), (PO.mk (some 87) (.mv (.t 15)) none), (PO.mk (some 88) (.call (F 102) [(.t 87), (.k (.int .i64 (-25)))]) none), (PO.mk (some 89) (.bin .xor (.t 86) (.t 88)) none), (PO.mk (some 16) (.mv (.t 89)) none)]) (.seq (.draw [(.e, (PO.mk (some 90) (.idxArr 8 1 (.t 12) (.k (.int .i64 7))) none)), (.e, (PO.mk (some 92) (.mv (.t 16)) none)), (.e, (PO.mk (some 94) (.mv (.t 15)) none)), (.e, (PO.mk (some 95) (.idxArr 8 1 (.t 12) (.k (.int .i64 5))) none)), (.e, (PO.mk (some 98) (.mv (.t 15)) none)), (.e, (PO.mk (some 99) (.inv (.t 98)) none)), (.e, (PO.mk (some 100) (.idxArr 8 1 (.t 12) (.k (.int .i64 6))) none)), (.e, (PO.mk (some 105) (.mv (.t 13)) none)), (.e, (PO.mk (some 106) (.bin .mul (.k (.int .i64 4)) (.t 105)) none)), (.e, (PO.mk (some 109) (.mv (.t 13)) none)), (.e, (PO.mk (some 110) (.idxArr 64 1 (.t 5) (.t 109)) none)), (.s, (PO.mk (some 91) (.load false 1 (.t 90)) none)), (.e, (PO.mk (some 93) (.bin .add (.t 91) (.t 92)) none)), (.s, (PO.mk (some 96) (.load false 1 (.t 95)) none)), (.e, (PO.mk (some 97) (.bin .and (.t 94) (.t 96)) none)), (.s, (PO.mk (some 101) (.load false 1 (.t 100)) none)), (.e, (PO.mk (some 102) (.bin .and (.t 99) (.t 101)) none)), (.e, (PO.mk (some 103) (.bin .xor (.t 97) (.t 102)) none)), (.e, (PO.mk (some 104) (.bin .add (.t 93) (.t 103)) none)), (.s, (PO.mk (some 107) (.call (F 100) [(.k (.str (ByteArray.mk ⟨[66, 138, 47, 152, 113, 55, 68, 145, 181, 192, 251, 207, 233, 181, 219, 165, 57, 86, 194, 91, 89, 241, 17, 241, 146, 63, 130, 164, 171, 28, 94, 213, 216, 7, 170, 152, 18, 131, 91, 1, 36, 49, 133, 190, 85, 12, 125, 195, 114, 190, 93, 116, 128, 222, 177, 254, 155, 220, 6, 167, 193, 155, 241, 116, 228, 155, 105, 193, 239, 190, 71, 134, 15, 193, 157, 198, 36, 12, 161, 204, 45, 233, 44, 111, 74, 116, 132, 170, 92, 176, 169, 220, 118, 249, 136, 218, 152, 62, 81, 82, 168, 49, 198, 109, 176, 3, 39, 200, 191, 89, 127, 199, 198, 224, 11, 243, 213, 167, 145, 71, 6, 202, 99, 81, 20, 41, 41, 103, 39, 183, 10, 133, 46, 27, 33, 56, 77, 44, 109, 252, 83, 56, 13, 19, 101, 10, 115, 84, 118, 106, 10, 187, 129, 194, 201, 46, 146, 114, 44, 133, 162, 191, 232, 161, 168, 26, 102, 75, 194, 75, 139, 112, 199, 108, 81, 163, 209, 146, 232, 25, 214, 153, 6, 36, 244, 14, 53, 133, 16, 106, 160, 112, 25, 164, 193, 22, 30, 55, 108, 8, 39, 72, 119, 76, 52, 176, 188, 181, 57, 28, 12, 179, 78, 216, 170, 74, 91, 156, 202, 79, 104, 46, 111, 243, 116, 143, 130, 238, 120, 165, 99, 111, 132, 200, 120, 20, 140, 199, 2, 8, 144, 190, 255, 250, 164, 80, 108, 235, 190, 249, 163, 247, 198, 113, 120, 242]⟩))), (.t 106)]) none)), (.e, (PO.mk (some 108) (.bin .add (.t 104) (.t 107)) none)), (.s, (PO.mk (some 111) (.load false 1 (.t 110)) none)), (.e, (PO.mk (some 112) (.bin .add (.t 108) (.t 111)) none)), (.e, (PO.mk (some 17) (.mv (.t 112)) none))]) (.seq (.ops [(PO.mk (some 113) (.mv (.t 14)) none), (PO.mk (some 114) (.call (F 102) [(.t 113), (.k (.int .i64 (-2)))]) none), (PO.mk (some 115) (.mv (.t 14)) none), (PO.mk (some 116) (.call (F 102) [(.t 115), (.k (.int .i64 (-13)))]) none), (PO.mk (some 117) (.bin .xor (.t 114) (.t 116)) none), (PO.mk (some 118) (.mv (.t 14)) none), (PO.mk (some 119) (.call (F 102) [(.t 118), (.k (.int .i64 (-22)))]) none), (PO.mk (some 120) (.bin .xor (.t 117) (.t 119)) none), (PO.mk (some 18) (.mv (.t 120)) none)]) (.seq (.ops [(PO.mk (some 121) (.mv (.t 14)) none), (PO.mk (some 122) (.idxArr 8 1 (.t 12) (.k (.int .i64 1))) none), (PO.mk (some 123) (.load false 1 (.t 122)) none), (PO.mk (some 124) (.bin .and (.t 121) (.t 123)) none), (PO.mk (some 125) (.mv (.t 14)) none), (PO.mk (some 126) (.idxArr 8 1 (.t 12) (.k (.int .i64 2))) none), (PO.mk (some 127) (.load false 1 (.t 126)) none), (PO.mk (some 128) (.bin .and (.t 125) (.t 127)) none), (PO.mk (some 129) (.bin .xor (.t 124) (.t 128)) none), (PO.mk (some 130) (.idxArr 8 1 (.t 12) (.k (.int .i64 1))) none), (PO.mk (some 131) (.load false 1 (.t 130)) none), (PO.mk (some 132) (.idxArr 8 1 (.t 12) (.k (.int .i64 2))) none), (PO.mk (some 133) (.load false 1 (.t 132)) none), (PO.mk (some 134) (.bin .and (.t 131) (.t 133)) none), (PO.mk (some 135) (.bin .xor (.t 129) (.t 134)) none), (PO.mk (some 19) (.mv (.t 135)) none)]) (.ops [(PO.mk (some 136) (.mv (.t 17)) none), (PO.mk (some 137) (.mv (.t 18)) none), (PO.mk (some 138) (.bin .add (.t 136) (.t 137)) none), (PO.mk (some 139) (.mv (.t 19)) none), (PO.mk (some 140) (.bin .add (.t 138) (.t 139)) none), (PO.mk (some 141) (.idxArr 8 1 (.t 12) (.k (.int .i64 0))) none), (PO.mk (some 142) (.load false 1 (.t 141)) none), (PO.mk (some 143) (.idxArr 8 1 (.t 12) (.k (.int .i64 1))) none), (PO.mk (some 144) (.load false 1 (.t 143)) none), (PO.mk (some 145) (.idxArr 8 1 (.t 12) (.k (.int .i64 2))) none), (PO.mk (some 146) (.load false 1 (.t 145)) none), (PO.mk (some 147) (.idxArr 8 1 (.t 12) (.k (.int .i64 3))) none), (PO.mk (some 148) (.load false 1 (.t 147)) none), (PO.mk (some 149) (.mv (.t 17)) none), (PO.mk (some 150) (.bin .add (.t 148) (.t 149)) none), (PO.mk (some 151) (.idxArr 8 1 (.t 12) (.k (.int .i64 4))) none), (PO.mk (some 152) (.load false 1 (.t 151)) none), (PO.mk (some 153) (.idxArr 8 1 (.t 12) (.k (.int .i64 5))) none), (PO.mk (some 154) (.load false 1 (.t 153)) none), (PO.mk (some 155) (.idxArr 8 1 (.t 12) (.k (.int .i64 6))) none), (PO.mk (some 156) (.load false 1 (.t 155)) none), (PO.mk (some 157) (.build [(w32 0), (w32 0), (w32 0), (w32 0), (w32 0), (w32 0), (w32 0), (w32 0)] [(0, (1, (.t 140))), (1, (1, (.t 142))), (2, (1, (.t 144))), (3, (1, (.t 146))), (4, (1, (.t 150))), (5, (1, (.t 152))), (6, (1, (.t 154))), (7, (1, (.t 156)))]) none), (PO.mk none (.store 8 (.t 12) (.t 157)) none)])))))))) (.ops [(PO.mk (some 158) (.bin .add (.t 75) (.k (.int .i64 1))) none), (PO.mk (some 75) (.mv (.t 158)) none)]))))))) (.seq (.seq (.ops [(PO.mk (some 159) (.mv (.k (.int .i64 0))) none)]) (.block 6 (.loop (.seq (.ops [(PO.mk (some 160) (.bin .lss (.t 159) (.k (.int .i64 8))) none)]) (.seq (.cond (.t 160) .skip (.exit 6)) (.seq (.block 7 (.seq (.ops [(PO.mk (some 161) (.mv (.t 159)) none), (PO.mk (some 20) (.mv (.t 161)) none)]) (.draw [(.e, (PO.mk (some 162) (.mv (.t 20)) none)), (.e, (PO.mk (some 163) (.idxArr 8 1 (.t 2) (.t 162)) none)), (.e, (PO.mk (some 165) (.mv (.t 20)) none)), (.e, (PO.mk (some 166) (.idxArr 8 1 (.t 12) (.t 165)) none)), (.s, (PO.mk (some 164) (.load false 1 (.t 163)) none)), (.s, (PO.mk (some 167) (.load false 1 (.t 166)) none)), (.e, (PO.mk (some 168) (.bin .add (.t 164) (.t 167)) none)), (.e, (PO.mk (some 169) (.idxArr 8 1 (.t 2) (.t 162)) none)), (.x, (PO.mk none (.store 1 (.t 169) (.t 168)) none))]))) (.ops [(PO.mk (some 170) (.bin .add (.t 159) (.k (.int .i64 1))) none), (PO.mk (some 159) (.mv (.t 170)) none)]))))))) (.seq (.ops [(PO.mk (some 171) (.load true 8 (.t 2)) none), (PO.mk none (.store 8 (.t 4) (.t 171)) none)]) .ret))))))))
-- regions [0, 1, 2, 3, 4, 5, 6, 7, 8, 9, 10, 11, 12, 14, 13, 15, 16, 17, 19, 18, 20, 21, 22, 23, 24, 25, 26]
/- tallystick/hash.Sum -/
def k103 (F : Fn) : PF := PF.mk 92 1 [(PR.cell 2 true 32)] (.seq (.ops [(PO.mk (some 2) (.alloc zR32_w80) none)]) (.seq (.ops [(PO.mk (some 3) (.mv (.k (.sl .nil [] 0))) none)]) (.seq (.seq (.ops [(PO.mk (some 13) (.mv (.t 0)) none), (PO.mk (some 14) (.lenSl (.t 13)) none), (PO.mk (some 15) (.mv (.k (.int .i64 0))) none)]) (.block 0 (.loop (.seq (.ops [(PO.mk (some 16) (.bin .lss (.t 15) (.t 14)) none)]) (.seq (.cond (.t 16) .skip (.exit 0)) (.seq (.block 1 (.seq (.ops [(PO.mk (some 17) (.idxSl 1 (.t 13) (.t 15)) none), (PO.mk (some 18) (.load false 1 (.t 17)) none), (PO.mk (some 5) (.mv (.t 18)) none)]) (.ops [(PO.mk (some 19) (.mv (.t 3)) none), (PO.mk (some 20) (.mv (.t 5)) none), (PO.mk (some 21) (.app 1 1 (.t 19) (.t 20)) none), (PO.mk (some 3) (.mv (.t 21)) none)]))) (.ops [(PO.mk (some 22) (.bin .add (.t 15) (.k (.int .i64 1))) none), (PO.mk (some 15) (.mv (.t 22)) none)]))))))) (.seq (.ops [(PO.mk (some 23) (.mv (.t 3)) none), (PO.mk (some 24) (.lenSl (.t 23)) none), (PO.mk (some 6) (.mv (.t 24)) none)]) (.seq (.ops [(PO.mk (some 25) (.mv (.t 3)) none), (PO.mk (some 26) (.bsl false 1 1 [(w8 0)] [(0, (1, (.k (w8 128))))]) none), (PO.mk (some 27) (.app 1 1 (.t 25) (.t 26)) none), (PO.mk (some 3) (.mv (.t 27)) none)]) (.seq (.block 2 (.loop (.seq (.seq (.ops [(PO.mk (some 28) (.mv (.t 3)) none), (PO.mk (some 29) (.lenSl (.t 28)) none), (PO.mk (some 30) (.bin .rem (.t 29) (.k (.int .i64 64))) none), (PO.mk (some 31) (.bin .neq (.t 30) (.k (.int .i64 56))) none)]) (.cond (.t 31) .skip (.exit 2))) (.block 3 (.ops [(PO.mk (some 32) (.mv (.t 3)) none), (PO.mk (some 33) (.bsl false 1 1 [(w8 0)] [(0, (1, (.k (w8 0))))]) none), (PO.mk (some 34) (.app 1 1 (.t 32) (.t 33)) none), (PO.mk (some 3) (.mv (.t 34)) none)]))))) (.seq (.seq (.ops [(PO.mk (some 7) (.mv (.k (.int .i64 56))) none)]) (.block 4 (.loop (.seq (.seq (.ops [(PO.mk (some 35) (.mv (.t 7)) none), (PO.mk (some 36) (.bin .geq (.t 35) (.k (.int .i64 0))) none)]) (.cond (.t 36) .skip (.exit 4))) (.seq (.block 5 (.ops [(PO.mk (some 39) (.mv (.t 3)) none), (PO.mk (some 40) (.mv (.t 6)) none), (PO.mk (some 41) (.conv .u64 (.t 40)) none), (PO.mk (some 42) (.bin .mul (.t 41) (.k (w64 8))) none), (PO.mk (some 43) (.mv (.t 7)) none), (PO.mk (some 44) (.bin .shr (.t 42) (.t 43)) none), (PO.mk (some 45) (.conv .u8 (.t 44)) none), (PO.mk (some 46) (.bsl false 1 1 [(w8 0)] [(0, (1, (.t 45)))]) none), (PO.mk (some 47) (.app 1 1 (.t 39) (.t 46)) none), (PO.mk (some 3) (.mv (.t 47)) none)])) (.ops [(PO.mk (some 37) (.mv (.t 7)) none), (PO.mk (some 38) (.bin .sub (.t 37) (.k (.int .i64 8))) none), (PO.mk (some 7) (.mv (.t 38)) none)])))))) (.seq (.ops [(PO.mk (some 48) (.build [(w32 0), (w32 0), (w32 0), (w32 0), (w32 0), (w32 0), (w32 0), (w32 0)] [(0, (1, (.k (w32 1779033703)))), (1, (1, (.k (w32 3144134277)))), (2, (1, (.k (w32 1013904242)))), (3, (1, (.k (w32 2773480762)))), (4, (1, (.k (w32 1359893119)))), (5, (1, (.k (w32 2600822924)))), (6, (1, (.k (w32 528734635)))), (7, (1, (.k (w32 1541459225))))]) none), (PO.mk (some 8) (.alloc [(w32 0), (w32 0), (w32 0), (w32 0), (w32 0), (w32 0), (w32 0), (w32 0)]) none), (PO.mk none (.store 8 (.t 8) (.t 48)) none)]) (.seq (.seq (.ops [(PO.mk (some 49) (.mv (.t 3)) none), (PO.mk (some 50) (.toStr (.t 49)) none), (PO.mk (some 9) (.mv (.t 50)) none)]) (.block 6 (.loop (.seq (.seq (.ops [(PO.mk (some 51) (.mv (.t 9)) none), (PO.mk (some 52) (.bin .neq (.t 51) (.k (.str (ByteArray.mk ⟨[]⟩)))) none)]) (.cond (.t 52) .skip (.exit 6))) (.seq (.block 7 (.draw [(.e, (PO.mk (some 56) (.mv (.t 9)) none)), (.e, (PO.mk (some 57) (.slStr (.t 56) none (some (.k (.int .i64 64)))) none)), (.s, (PO.mk (some 55) (.load true 8 (.t 8)) none)), (.x, (PO.mk (some 58) (.call (F 101) [(.t 55), (.t 57)]) none)), (.x, (PO.mk none (.store 8 (.t 8) (.t 58)) none))])) (.ops [(PO.mk (some 53) (.mv (.t 9)) none), (PO.mk (some 54) (.slStr (.t 53) (some (.k (.int .i64 64))) none) none), (PO.mk (some 9) (.mv (.t 54)) none)])))))) (.seq (.ops [(PO.mk (some 10) (.alloc zR32_w80) none)]) (.seq (.seq (.ops [(PO.mk (some 59) (.load true 8 (.t 8)) none), (PO.mk (some 60) (.mv (.k (.int .i64 0))) none)]) (.block 8 (.loop (.seq (.ops [(PO.mk (some 61) (.bin .lss (.t 60) (.k (.int .i64 8))) none)]) (.seq (.cond (.t 61) .skip (.exit 8)) (.seq (.block 9 (.seq (.ops [(PO.mk (some 62) (.mv (.t 60)) none), (PO.mk (some 63) (.idx 8 false 1 (.t 59) (.t 60)) none), (PO.mk (some 11) (.mv (.t 62)) none), (PO.mk (some 12) (.mv (.t 63)) none)]) (.ops [(PO.mk (some 64) (.mv (.t 11)) none), (PO.mk (some 65) (.bin .mul (.k (.int .i64 4)) (.t 64)) none), (PO.mk (some 66) (.mv (.t 11)) none), (PO.mk (some 67) (.bin .mul (.k (.int .i64 4)) (.t 66)) none), (PO.mk (some 68) (.bin .add (.t 67) (.k (.int .i64 1))) none), (PO.mk (some 69) (.mv (.t 11)) none), (PO.mk (some 70) (.bin .mul (.k (.int .i64 4)) (.t 69)) none), (PO.mk (some 71) (.bin .add (.t 70) (.k (.int .i64 2))) none), (PO.mk (some 72) (.mv (.t 11)) none), (PO.mk (some 73) (.bin .mul (.k (.int .i64 4)) (.t 72)) none), (PO.mk (some 74) (.bin .add (.t 73) (.k (.int .i64 3))) none), (PO.mk (some 75) (.mv (.t 12)) none), (PO.mk (some 76) (.bin .shr (.t 75) (.k (w64 24))) none), (PO.mk (some 77) (.conv .u8 (.t 76)) none), (PO.mk (some 78) (.mv (.t 12)) none), (PO.mk (some 79) (.bin .shr (.t 78) (.k (w64 16))) none), (PO.mk (some 80) (.conv .u8 (.t 79)) none), (PO.mk (some 81) (.mv (.t 12)) none), (PO.mk (some 82) (.bin .shr (.t 81) (.k (w64 8))) none), (PO.mk (some 83) (.conv .u8 (.t 82)) none), (PO.mk (some 84) (.mv (.t 12)) none), (PO.mk (some 85) (.conv .u8 (.t 84)) none), (PO.mk (some 86) (.idxArr 32 1 (.t 10) (.t 65)) none), (PO.mk none (.store 1 (.t 86) (.t 77)) none), (PO.mk (some 87) (.idxArr 32 1 (.t 10) (.t 68)) none), (PO.mk none (.store 1 (.t 87) (.t 80)) none), (PO.mk (some 88) (.idxArr 32 1 (.t 10) (.t 71)) none), (PO.mk none (.store 1 (.t 88) (.t 83)) none), (PO.mk (some 89) (.idxArr 32 1 (.t 10) (.t 74)) none), (PO.mk none (.store 1 (.t 89) (.t 85)) none)]))) (.ops [(PO.mk (some 90) (.bin .add (.t 60) (.k (.int .i64 1))) none), (PO.mk (some 60) (.mv (.t 90)) none)]))))))) (.seq (.ops [(PO.mk (some 91) (.load true 32 (.t 10)) none), (PO.mk none (.store 32 (.t 2) (.t 91)) none)]) .ret))))))))))))
-- regions [0, 1, 2]
/- tallystick/hash.Twice -/
def k104 (F : Fn) : PF := PF.mk 9 1 [(PR.cell 2 true 32)] (.seq (.ops [(PO.mk (some 2) (.alloc zR32_w80) none)]) (.seq (.ops [(PO.mk (some 4) (.mv (.t 0)) none), (PO.mk (some 5) (.call (F 103) [(.t 4)]) none), (PO.mk (some 3) (.alloc zR32_w80) none), (PO.mk none (.store 32 (.t 3) (.t 5)) none)]) (.seq (.seq (.frz [3]) (.ops [(PO.mk (some 6) (.slArr false 32 1 (.t 3) none none) none), (PO.mk (some 7) (.bsl false 1 1 [(.sl .nil [] 0)] [(0, (1, (.t 6)))]) none), (PO.mk (some 8) (.call (F 103) [(.t 7)]) none), (PO.mk none (.store 32 (.t 2) (.t 8)) none)])) .ret)))
-- regions [0, 1, 2]
/- math/bits.RotateLeft32 -/
def k102 (F : Fn) : PF := PF.mk 17 2 [(.t 4)] (.seq (.ops [(PO.mk (some 4) (.mv (.k (w32 0))) none)]) (.seq (.ops [(PO.mk (some 6) (.mv (.t 1)) none), (PO.mk (some 7) (.conv .u64 (.t 6)) none), (PO.mk (some 8) (.bin .and (.t 7) (.k (w64 31))) none), (PO.mk (some 5) (.mv (.t 8)) none)]) (.seq (.ops [(PO.mk (some 9) (.mv (.t 0)) none), (PO.mk (some 10) (.mv (.t 5)) none), (PO.mk (some 11) (.bin .shl (.t 9) (.t 10)) none), (PO.mk (some 12) (.mv (.t 0)) none), (PO.mk (some 13) (.mv (.t 5)) none), (PO.mk (some 14) (.bin .sub (.k (w64 32)) (.t 13)) none), (PO.mk (some 15) (.bin .shr (.t 12) (.t 14)) none), (PO.mk (some 16) (.bin .or (.t 11) (.t 15)) none), (PO.mk (some 4) (.mv (.t 16)) none)]) .ret)))
structure OkHash (P : Program) (F : Fn) : Prop where
  mixed : P.follows .mixedOrders = true
  h100 : compFn P ⟨[], [], [], [], []⟩ (F 100) = some (k100 F)
  h101 : compFn P ⟨[], [], [], [], []⟩ (F 101) = some (k101 F)
  h103 : compFn P ⟨[], [], [], [], []⟩ (F 103) = some (k103 F)
  h104 : compFn P ⟨[], [], [(2, [3])], [], []⟩ (F 104) = some (k104 F)
  h102 : compFn P ⟨[], [], [], [], []⟩ (F 102) = some (k102 F)
end Go.Ab
/-
  hash: numbers turned, words read, blocks.
-/
set_option linter.unusedSimpArgs false
set_option linter.unusedVariables false
set_option maxRecDepth 10000
namespace Go.Ab
open Go Go.RowKit
section
variable {P : Program} {F : Fn}

theorem turn_amt : ∀ n : Fin 32, (BitVec.ofInt 64 (-((n.val : Nat) : Int)) &&& 31#64) = BitVec.ofNat 64 ((32 - n.val) % 32) := by decide
/-- math/bits.RotateLeft32, to the right -/
theorem spec102 (ok : OkHash P F) (st : St) (x : BitVec 32) {n : Nat} (h0 : 0 < n) (hn : n < 32) {k : Int} (hk : k = -(n : Int)) : ACalls P (F 102) [w32 x, .int .i64 k] st fun v st' => v = w32 (ror x n) ∧ st' = st := by
  refine shows_call ok.mixed ok.h102 (by simp [k102]) ?_
  have h := turn_amt ⟨n, hn⟩
  simp only at h
  rw [← hk, show (32 - n) % 32 = 32 - n from Nat.mod_eq_of_lt (by omega)] at h
  have e1 : (32#64 - BitVec.ofNat 64 (32 - n)).toNat = n := by
    rw [BitVec.toNat_sub, BitVec.toNat_ofNat, BitVec.toNat_ofNat, Nat.mod_eq_of_lt (show 32 - n < 2 ^ 64 by omega)]
    show (18446744073709551616 - (32 - n) + 32) % 18446744073709551616 = n
    omega
  have e2 : (BitVec.ofNat 64 (32 - n)).toNat = 32 - n := by
    rw [BitVec.toNat_ofNat, Nat.mod_eq_of_lt (by omega)]
  simp only [k102]
  simp [h, e1, e2, -BitVec.toNat_sub, -BitVec.toNat_ofNat]
  have : ror x n = x <<< (32 - n) ||| x >>> n := by rw [ror, BitVec.or_comm]
  rw [this]

def strB (s : ByteArray) : List UInt8 := s.data.toList
theorem idxStr_w (s : ByteArray) (k : IntKind) {i : Nat} (h : i < (strB s).length) : idxStrV (.str s) (.int k (i : Int)) = some (w8 (strB s)[i]) := by
  have hlt : i < s.data.size := by simpa [strB] using h
  have : s[i]? = some s.data[i] := by
    show (if h : i < s.size then some s[i] else none) = _
    rw [dif_pos (show i < s.size from hlt)]
    rfl
  simp only [idxStrV]
  rw [if_pos (by omega), Int.toNat_natCast, this]
  simp [w8, strB]
/-- hash.word -/
theorem spec100 (ok : OkHash P F) (st : St) (s : ByteArray) {i : Nat} (h : i + 4 ≤ (strB s).length) (hs : (strB s).length ≤ 1000000) : ACalls P (F 100) [.str s, .int .i64 (i : Int)] st fun v st' => v = w32 (be4 (strB s)[i] (strB s)[i + 1] (strB s)[i + 2] (strB s)[i + 3]) ∧ st' = st := by
  refine shows_call ok.mixed ok.h100 (by simp [k100]) ?_
  have w1 : IntKind.i64.wrap ((i : Int) + 1) = ((i + 1 : Nat) : Int) := by rw [wrap64 (by omega) (by omega)]; simp
  have w2 : IntKind.i64.wrap ((i : Int) + 2) = ((i + 2 : Nat) : Int) := by rw [wrap64 (by omega) (by omega)]; simp
  have w3 : IntKind.i64.wrap ((i : Int) + 3) = ((i + 3 : Nat) : Int) := by rw [wrap64 (by omega) (by omega)]; simp
  have i0 := idxStr_w s .i64 (i := i) (by omega)
  have i1 : idxStrV (.str s) (.int .i64 ((i : Int) + 1)) = some (w8 (strB s)[i + 1]) := idxStr_w s .i64 (i := i + 1) (by omega)
  have i2 : idxStrV (.str s) (.int .i64 ((i : Int) + 2)) = some (w8 (strB s)[i + 2]) := idxStr_w s .i64 (i := i + 2) (by omega)
  have i3 : idxStrV (.str s) (.int .i64 ((i : Int) + 3)) = some (w8 (strB s)[i + 3]) := idxStr_w s .i64 (i := i + 3) (by omega)
  simp only [k100]
  simp [w1, w2, w3, i0, i1, i2, i3]
  rfl
end
end Go.Ab
/-
  num: sums, products, shifts, lengths.
-/
set_option linter.unusedSimpArgs false
set_option linter.unusedVariables false
set_option maxRecDepth 10000
namespace Go.Ab
open Go Go.RowKit
section
variable {P : Program} {F : Fn}

/-! ### Add -/
def ovU (s : Nat) : Bool := decide (2 ^ 256 ≤ s)
theorem add_u4 (a b c d a' b' c' d' : W) :
    (u4 (sum64 a a' false) (sum64 b b' (car64 a a' false)) (sum64 c c' (car64 b b' (car64 a a' false))) (sum64 d d' (car64 c c' (car64 b b' (car64 a a' false))))) = u4 a b c d + u4 a' b' c' d' ∧
    car64 d d' (car64 c c' (car64 b b' (car64 a a' false))) = ovU ((u4 a b c d).toNat + (u4 a' b' c' d').toNat) := by
  have := a.isLt; have := b.isLt; have := c.isLt; have := d.isLt
  have := a'.isLt; have := b'.isLt; have := c'.isLt; have := d'.isLt
  constructor
  · apply BitVec.eq_of_toNat_eq
    rw [BitVec.toNat_add, u4_nat, u4_nat, u4_nat, sum64_nat, sum64_nat, sum64_nat, sum64_nat]
    simp only [car64, decide_eq_true_eq, Bool.false_eq_true, if_false]
    show _ = (_ + _) % 115792089237316195423570985008687907853269984665640564039457584007913129639936
    split <;> split <;> split <;> omega
  · rw [u4_nat, u4_nat, ovU]
    simp only [car64, decide_eq_true_eq, Bool.false_eq_true, if_false]
    congr 1
    rw [eq_iff_iff]
    show _ ↔ 115792089237316195423570985008687907853269984665640564039457584007913129639936 ≤ _
    split <;> split <;> split <;> omega
def sumU (l : List U) : Nat := (l.map (·.toNat)).sum
theorem sumU_snoc (l : List U) (x : U) : sumU (l ++ [x]) = sumU l + x.toNat := by simp [sumU]
theorem over_step (s : Nat) (x : U) : (ovU s || ovU ((BitVec.ofNat 256 s).toNat + x.toNat)) = ovU (s + x.toNat) := by
  unfold ovU
  rw [BitVec.toNat_ofNat, Bool.eq_iff_iff]
  simp only [Bool.or_eq_true, decide_eq_true_eq]
  show 115792089237316195423570985008687907853269984665640564039457584007913129639936 ≤ s ∨ 115792089237316195423570985008687907853269984665640564039457584007913129639936 ≤ s % 115792089237316195423570985008687907853269984665640564039457584007913129639936 + _ ↔ 115792089237316195423570985008687907853269984665640564039457584007913129639936 ≤ _
  omega
set_option maxHeartbeats 1000000 in
theorem spec108 (ok : OkNum P F) (st : St) {s : V} {l : List U} (hs : Rd 4 eU s l st) (hl : l.length ≤ 1000) : ACalls P (F 108) [s] st fun v st' => v = .tup [nU (BitVec.ofNat 256 (sumU l)), .bool (ovU (sumU l))] ∧ st' = st := by
  refine shows_call ok.mixed ok.h108 (by simp [k108]) ?_
  simp only [k108]
  simp
  intro rid hrid
  simp
  intro oid hoid
  obtain ⟨hro, hoid⟩ := upd_none hoid
  have hlen := hs.len
  simp [hlen]
  rw [eU_zero]
  refine vc_loopJ (fun k env' st' => ∃ i, i ≤ l.length ∧ k = l.length - i ∧ env' 12 = .int .i64 (i : Nat) ∧ env' 5 = .bool (ovU (sumU (l.take i))) ∧ st' = (st.upd rid (.cells (eU 0#256))).upd oid (.cells (eU (BitVec.ofNat 256 (sumU (l.take i)))))) l.length
    ⟨0, by omega, by omega, rfl, by simp [sumU, ovU], by simp [sumU]⟩ ?_
  rintro J hJ k env' st' hsame ⟨i, hi, rfl, h12, h5, rfl⟩
  have g2 := hsame.get 2 rfl
  have g4 := hsame.get 4 rfl
  have g10 := hsame.get 10 rfl
  have g11 := hsame.get 11 rfl
  simp at g2 g4 g10 g11
  clear hsame
  have hsub : St.sub st ((st.upd rid (.cells (eU 0#256))).upd oid (.cells (eU (BitVec.ofNat 256 (sumU (l.take i)))))) := sub_ups (sub_ups (sub_self _) hrid) hoid
  have w1 : IntKind.i64.wrap ((i : Int) + 1) = (i : Int) + 1 := wrap64 (by omega) (by omega)
  by_cases hlt : i < l.length
  · obtain ⟨p, hp1, hp2⟩ := (hs.sub hsub).idx eU_len hlt .i64
    simp [g2, g4, g10, g11, h12, h5, hlt, hp1, hp2]
    intro bid hbid
    obtain ⟨hob, hbid⟩ := upd_none hbid
    obtain ⟨hrb, hbid⟩ := upd_none hbid
    have hbo := hob.symm
    have hbr := hrb.symm
    obtain ⟨a, b, c, d, hx⟩ := exists_u4 (BitVec.ofNat 256 (sumU (l.take i)))
    obtain ⟨a', b', c', d', hy⟩ := exists_u4 l[i]
    obtain ⟨e1, e2⟩ := add_u4 a b c d a' b' c' d'
    rw [hx, hy]
    simp [storeS, spliceV, eU_u4]
    rw [zero_b64]
    refine vc_unroll 5 ?_
    simp [unr_succ, g4, hob, hbo, idxArrV, St.seg, segOf, storeS, spliceV]
    have hov : (ovU (sumU (l.take i)) || car64 d d' (car64 c c' (car64 b b' (car64 a a' false)))) = ovU (sumU (l.take (i + 1))) := by
      rw [e2, ← hx, ← hy, List.take_succ_eq_append_getElem hlt, sumU_snoc]
      exact over_step _ _
    have hst : (((((st.upd rid (.cells (eU 0#256))).upd oid (.cells [w64 a, w64 b, w64 c, w64 d])).upd bid (.cells [w64 a', w64 b', w64 c', w64 d'])).upd oid (.cells [w64 (sum64 a a' false), w64 (sum64 b b' (car64 a a' false)), w64 (sum64 c c' (car64 b b' (car64 a a' false))), w64 (sum64 d d' (car64 c c' (car64 b b' (car64 a a' false))))]))) = ((st.upd rid (.cells (eU 0#256))).upd oid (.cells (eU (BitVec.ofNat 256 (sumU (l.take (i + 1))))))).upd bid (.cells [w64 a', w64 b', w64 c', w64 d']) := by
      have e3 : BitVec.ofNat 256 (sumU (l.take (i + 1))) = u4 a b c d + u4 a' b' c' d' := by
        rw [← hx, ← hy, List.take_succ_eq_append_getElem hlt, sumU_snoc, BitVec.ofNat_add, BitVec.ofNat_toNat, BitVec.setWidth_eq]
      rw [e3, ← e1, eU_u4]
      funext j
      by_cases h1 : j = oid <;> by_cases h2 : j = bid <;> simp [h1, h2, hob, hbo]
    have fin : ∀ env'', env'' 12 = .int .i64 ((i : Int) + 1) → env'' 5 = .bool (ovU (sumU (l.take (i + 1)))) → Round J (l.length - i) env'' (((((st.upd rid (.cells (eU 0#256))).upd oid (.cells [w64 a, w64 b, w64 c, w64 d])).upd bid (.cells [w64 a', w64 b', w64 c', w64 d'])).upd oid (.cells [w64 (sum64 a a' false), w64 (sum64 b b' (car64 a a' false)), w64 (sum64 c c' (car64 b b' (car64 a a' false))), w64 (sum64 d d' (car64 c c' (car64 b b' (car64 a a' false))))]))) := fun env'' q1 q2 => by
      rw [hst]
      refine Round.mk (l.length - (i + 1)) _ (by omega) (sub_upd (by simp [hob.symm, hrb.symm, hbid])) (hJ _ _ _ ⟨i + 1, by omega, rfl, by simpa using q1, q2, rfl⟩)
    obtain ⟨t, ht⟩ : ∃ t, t = ovU (sumU (l.take i)) := ⟨_, rfl⟩
    rw [← ht] at h5 hov
    cases t
    · simp [h5, h12, w1, b64_ne] at hov ⊢
      exact fin _ (by simp) (by simp [hov])
    · simp [h5, h12, w1, b64_ne] at hov ⊢
      exact fin _ (by simp) (by simp [← hov])
  · have : i = l.length := by omega
    subst this
    rw [List.take_length] at *
    have hl' : ¬ ((l.length : Int) < l.length) := by omega
    have hsp : ∀ x y : U, spliceV (eU x) 0 (eU y) = eU y := fun _ _ => rfl
    simp [g2, g4, g10, g11, h12, h5, St.seg, segU, storeS, hro, hro.symm, hsp, eU_len]
    exact ⟨sub_ups (sub_ups (sub_ups (sub_self _) hrid) hoid) hrid, rfl⟩

/-! ### Mul64, Mul -/
theorem spec118 (ok : OkNum P F) (st : St) (x y : W) : ACalls P (F 118) [w64 x, w64 y] st fun v st' => v = .tup [w64 (mulhi x y), w64 (x * y)] ∧ st' = st := by
  refine shows_call ok.mixed ok.h118 (by simp [k118]) ?_
  have h := mul64_hi x y
  simp only [k118]
  simp
  rw [← h]

/-- One word of a product: what comes to its place, and what is carried on. -/
def mlo (x n c : W) : W := sum64 (x * n) c false
def mhi (x n c : W) : W := mulhi x n + b64 (car64 (x * n) c false)
theorem m_nat (x n c : W) : (mlo x n c).toNat + (mhi x n c).toNat * 18446744073709551616 = x.toNat * n.toNat + c.toNat := by
  have h1 := x.isLt
  have h2 := n.isLt
  have h3 := c.isLt
  have hb : x.toNat * n.toNat ≤ 18446744073709551615 * 18446744073709551615 := Nat.mul_le_mul (by omega) (by omega)
  rw [mlo, mhi, sum64_nat, BitVec.toNat_add, b64_nat, mulhi, BitVec.toNat_ofNat, BitVec.toNat_mul]
  simp only [car64, decide_eq_true_eq, Bool.false_eq_true, if_false, BitVec.toNat_mul]
  generalize x.toNat * n.toNat = q at *
  show (q % 18446744073709551616 + c.toNat + 0) % 18446744073709551616 + (q / 18446744073709551616 % 18446744073709551616 + (if 18446744073709551616 ≤ q % 18446744073709551616 + c.toNat + 0 then 1 else 0)) % 18446744073709551616 * 18446744073709551616 = q + c.toNat
  split <;> omega
theorem mul_u4 (a b c d n : W) :
    u4 (mlo a n 0) (mlo b n (mhi a n 0)) (mlo c n (mhi b n (mhi a n 0))) (mlo d n (mhi c n (mhi b n (mhi a n 0)))) = BitVec.ofNat 256 ((u4 a b c d).toNat * n.toNat) ∧
    ((mhi d n (mhi c n (mhi b n (mhi a n 0)))) != 0#64) = ovU ((u4 a b c d).toNat * n.toNat) := by
  have e0 := m_nat a n 0
  have e1 := m_nat b n (mhi a n 0)
  have e2 := m_nat c n (mhi b n (mhi a n 0))
  have e3 := m_nat d n (mhi c n (mhi b n (mhi a n 0)))
  generalize hC0 : mhi a n 0 = C0 at *
  generalize hC1 : mhi b n C0 = C1 at *
  generalize hC2 : mhi c n C1 = C2 at *
  generalize hC3 : mhi d n C2 = C3 at *
  generalize mlo a n 0 = L0 at *
  generalize mlo b n C0 = L1 at *
  generalize mlo c n C1 = L2 at *
  generalize mlo d n C2 = L3 at *
  have i0 := L0.isLt; have i1 := L1.isLt; have i2 := L2.isLt; have i3 := L3.isLt
  have e0' : L0.toNat + C0.toNat * 18446744073709551616 = a.toNat * n.toNat := by simpa using e0
  have key : (u4 a b c d).toNat * n.toNat = L0.toNat + L1.toNat * 18446744073709551616 + L2.toNat * 340282366920938463463374607431768211456 + L3.toNat * 6277101735386680763835789423207666416102355444464034512896 + C3.toNat * 115792089237316195423570985008687907853269984665640564039457584007913129639936 := by
    rw [u4_nat, Nat.add_mul, Nat.add_mul, Nat.add_mul, Nat.mul_right_comm b.toNat, Nat.mul_right_comm c.toNat, Nat.mul_right_comm d.toNat]
    generalize a.toNat * n.toNat = qa at *
    generalize b.toNat * n.toNat = qb at *
    generalize c.toNat * n.toNat = qc at *
    generalize d.toNat * n.toNat = qd at *
    omega
  rw [key]
  constructor
  · apply BitVec.eq_of_toNat_eq
    rw [u4_nat, BitVec.toNat_ofNat]
    show _ = _ % 115792089237316195423570985008687907853269984665640564039457584007913129639936
    omega
  · unfold ovU
    have hz : (C3 != 0#64) = decide (0 < C3.toNat) := by
      rw [Bool.eq_iff_iff]
      simp only [bne_iff_ne, ne_eq, decide_eq_true_eq]
      constructor
      · intro h
        have : C3.toNat ≠ 0 := fun e => h (BitVec.eq_of_toNat_eq e)
        omega
      · rintro h rfl
        simp at h
    rw [hz]
    congr 1
    rw [eq_iff_iff]
    show _ ↔ 115792089237316195423570985008687907853269984665640564039457584007913129639936 ≤ _
    omega
set_option maxHeartbeats 1000000 in
theorem spec110 (ok : OkNum P F) (st : St) (x : U) (n : W) : ACalls P (F 110) [nU x, w64 n] st fun v st' => v = .tup [nU (BitVec.ofNat 256 (x.toNat * n.toNat)), .bool (ovU (x.toNat * n.toNat))] ∧ st' = st := by
  refine shows_call ok.mixed ok.h110 (by simp [k110]) ?_
  obtain ⟨a, b, c, d, rfl⟩ := exists_u4 x
  obtain ⟨e1, e2⟩ := mul_u4 a b c d n
  rw [← e1, ← e2]
  simp only [k110, nU, eU_u4]
  simp
  intro i hi
  simp
  intro j hj
  obtain ⟨hij, hj⟩ := upd_none hj
  have hji := hij.symm
  have call : ∀ (st : St) (y : W), ACalls P (F 118) [w64 y, w64 n] st fun v st' => v = .tup [w64 (mulhi y n), w64 (y * n)] ∧ st' = st := fun st y => spec118 ok st y n
  simp [hij, St.seg, segOf]
  refine vc_unroll 5 ?_
  have i0 : idxV 4 false 1 (.agg [w64 a, w64 b, w64 c, w64 d]) (.int .i64 0) = some (w64 a) := _root_.id rfl
  have i1 : idxV 4 false 1 (.agg [w64 a, w64 b, w64 c, w64 d]) (.int .i64 1) = some (w64 b) := _root_.id rfl
  have i2 : idxV 4 false 1 (.agg [w64 a, w64 b, w64 c, w64 d]) (.int .i64 2) = some (w64 c) := _root_.id rfl
  have i3 : idxV 4 false 1 (.agg [w64 a, w64 b, w64 c, w64 d]) (.int .i64 3) = some (w64 d) := _root_.id rfl
  have z0 : w64 0#64 = w64 (b64 false) := rfl
  have cs : ∀ p q : W, carryV false (w64 p) (w64 q) (w64 0#64) = some (.tup [w64 (sum64 p q false), w64 (b64 (car64 p q false))]) := fun p q => carry_add p q false
  simp [unr_succ, i0]
  refine (call _ a).mono ?_
  rintro v s ⟨rfl, rfl⟩
  simp [unr_succ, i1, cs, idxArrV, hij, hji, storeS, spliceV]
  refine (call _ b).mono ?_
  rintro v s ⟨rfl, rfl⟩
  simp [unr_succ, i2, cs, idxArrV, hij, hji, storeS, spliceV]
  refine (call _ c).mono ?_
  rintro v s ⟨rfl, rfl⟩
  simp [unr_succ, i3, cs, idxArrV, hij, hji, storeS, spliceV]
  refine (call _ d).mono ?_
  rintro v s ⟨rfl, rfl⟩
  simp [unr_succ, cs, idxArrV, hij, hji, storeS, spliceV, St.seg, segOf]
  refine ⟨sub_ups (sub_ups (sub_ups (sub_ups (sub_self _) hi) hj) hi) hj, ?_⟩
  simp [mlo, mhi]

/-! ### Len64, Len -/
def len8L : List UInt8 := [0, 1] ++ List.replicate 2 2 ++ List.replicate 4 3 ++ List.replicate 8 4 ++ List.replicate 16 5 ++ List.replicate 32 6 ++ List.replicate 64 7 ++ List.replicate 128 8
theorem len8_at : ∀ i : Fin 256, (len8L.getD i.val 0).toNat = bitlen i.val := by decide +kernel
theorem bitlen_shift {n k : Nat} (h : 2 ^ k ≤ n) : bitlen n = bitlen (n / 2 ^ k) + k := by
  have hp := Nat.two_pow_pos k
  have h1 : 0 < n / 2 ^ k := Nat.div_pos h hp
  apply Nat.le_antisymm
  · rw [bitlen_le, Nat.pow_add]
    have := lt_bitlen (n / 2 ^ k)
    exact (Nat.div_lt_iff_lt_mul hp).1 this
  · have h2 : 0 < bitlen (n / 2 ^ k) := bitlen_pos.2 h1
    have h3 : 2 ^ (bitlen (n / 2 ^ k) - 1) ≤ n / 2 ^ k := bitlen_lt.1 (by omega)
    have h4 : 2 ^ (bitlen (n / 2 ^ k) - 1 + k) ≤ n := by
      rw [Nat.pow_add]
      exact (Nat.le_div_iff_mul_le hp).1 h3
    have := bitlen_lt.2 h4
    omega
theorem spec115 (ok : OkNum P F) (st : St) (x : W) : ACalls P (F 115) [w64 x] st fun v st' => v = .int .i64 (bitlen x.toNat) ∧ st' = st := by
  refine shows_call ok.mixed ok.h115 (by simp [k115]) ?_
  simp only [k115]
  generalize hs : ByteArray.mk _ = tab
  have htab : strB tab = len8L := by rw [← hs]; rfl
  clear hs
  have at_ : ∀ y : W, y.toNat < 256 → idxStrV (.str tab) (w8 (UInt8.ofBitVec (y.setWidth 8))) = some (w8 (len8L.getD y.toNat 0)) := fun y hy => by
    have e : (UInt8.ofBitVec (y.setWidth 8)).toNat = y.toNat := by
      show (y.setWidth 8).toNat = _
      rw [BitVec.toNat_setWidth]
      exact Nat.mod_eq_of_lt hy
    have hl : y.toNat < (strB tab).length := by rw [htab]; exact hy
    have := idxStr_w tab .u8 hl
    rw [w8, e, this]
    congr 2
    simp only [htab]
    rw [List.getD_eq_getElem?_getD, List.getElem?_eq_getElem (show y.toNat < len8L.length from hy), Option.getD_some]
  have last : ∀ (y : W) (k : Nat), y.toNat < 256 → k ≤ 100 → idxStrV (.str tab) (w8 (UInt8.ofBitVec (y.setWidth 8))) = some (w8 (len8L.getD y.toNat 0)) ∧ IntKind.i64.wrap ((k : Int) + ((len8L.getD y.toNat 0).toNat : Int)) = ((bitlen y.toNat + k : Nat) : Int) := fun y k hy hk => by
    have h := len8_at ⟨y.toNat, hy⟩
    simp only at h
    have h2 : bitlen y.toNat ≤ 8 := bitlen_le.2 hy
    refine ⟨at_ y hy, ?_⟩
    rw [h, wrap64 (by omega) (by omega)]
    omega
  have hshr : ∀ (z : W) (k : Nat), (z >>> k).toNat = z.toNat / 2 ^ k := fun z k => by
    rw [BitVec.toNat_ushiftRight, Nat.shiftRight_eq_div_pow]
  have c32 : (4294967296#64).toNat = 2 ^ 32 := rfl
  have c16 : (65536#64).toNat = 2 ^ 16 := rfl
  have c8 : (256#64).toNat = 2 ^ 8 := rfl
  have hx := x.isLt
  -- one step: a number with at least so many bits
  have step : ∀ (z : W) (k : Nat), 2 ^ k ≤ z.toNat → bitlen z.toNat = bitlen (z >>> k).toNat + k := fun z k h => by
    rw [hshr]; exact bitlen_shift h
  simp
  by_cases h1 : 4294967296#64 ≤ x
  · have b1 := step x 32 (by rw [← c32]; exact BitVec.le_def.1 h1)
    have l1 : (x >>> 32).toNat < 2 ^ 32 := by rw [hshr]; omega
    simp [h1]
    generalize x >>> 32 = y at *
    by_cases h2 : 65536#64 ≤ y
    · have b2 := step y 16 (by rw [← c16]; exact BitVec.le_def.1 h2)
      have l2 : (y >>> 16).toNat < 2 ^ 16 := by rw [hshr]; omega
      simp [h2]
      generalize y >>> 16 = z at *
      by_cases h3 : 256#64 ≤ z
      · have b3 := step z 8 (by rw [← c8]; exact BitVec.le_def.1 h3)
        have l3 : (z >>> 8).toNat < 2 ^ 8 := by rw [hshr]; omega
        simp [h3]
        generalize z >>> 8 = t at *
        obtain ⟨q1, q2⟩ := last t 56 (by omega) (by omega)
        have q3 : bitlen x.toNat = bitlen t.toNat + 56 := by omega
        simp [q1, q3] at q2 ⊢
        exact q2
      · have l3 : z.toNat < 2 ^ 8 := by
          have := mt BitVec.le_def.2 h3
          rw [c8] at this
          omega
        simp [h3]
        obtain ⟨q1, q2⟩ := last z 48 (by omega) (by omega)
        have q3 : bitlen x.toNat = bitlen z.toNat + 48 := by omega
        simp [q1, q3] at q2 ⊢
        exact q2
    · have l2 : y.toNat < 2 ^ 16 := by
        have := mt BitVec.le_def.2 h2
        rw [c16] at this
        omega
      simp [h2]
      by_cases h3 : 256#64 ≤ y
      · have b3 := step y 8 (by rw [← c8]; exact BitVec.le_def.1 h3)
        have l3 : (y >>> 8).toNat < 2 ^ 8 := by rw [hshr]; omega
        simp [h3]
        generalize y >>> 8 = t at *
        obtain ⟨q1, q2⟩ := last t 40 (by omega) (by omega)
        have q3 : bitlen x.toNat = bitlen t.toNat + 40 := by omega
        simp [q1, q3] at q2 ⊢
        exact q2
      · have l3 : y.toNat < 2 ^ 8 := by
          have := mt BitVec.le_def.2 h3
          rw [c8] at this
          omega
        simp [h3]
        obtain ⟨q1, q2⟩ := last y 32 (by omega) (by omega)
        have q3 : bitlen x.toNat = bitlen y.toNat + 32 := by omega
        simp [q1, q3] at q2 ⊢
        exact q2
  · have l1 : x.toNat < 2 ^ 32 := by
      have := mt BitVec.le_def.2 h1
      rw [c32] at this
      omega
    simp [h1]
    by_cases h2 : 65536#64 ≤ x
    · have b2 := step x 16 (by rw [← c16]; exact BitVec.le_def.1 h2)
      have l2 : (x >>> 16).toNat < 2 ^ 16 := by rw [hshr]; omega
      simp [h2]
      generalize x >>> 16 = z at *
      by_cases h3 : 256#64 ≤ z
      · have b3 := step z 8 (by rw [← c8]; exact BitVec.le_def.1 h3)
        have l3 : (z >>> 8).toNat < 2 ^ 8 := by rw [hshr]; omega
        simp [h3]
        generalize z >>> 8 = t at *
        obtain ⟨q1, q2⟩ := last t 24 (by omega) (by omega)
        have q3 : bitlen x.toNat = bitlen t.toNat + 24 := by omega
        simp [q1, q3] at q2 ⊢
        exact q2
      · have l3 : z.toNat < 2 ^ 8 := by
          have := mt BitVec.le_def.2 h3
          rw [c8] at this
          omega
        simp [h3]
        obtain ⟨q1, q2⟩ := last z 16 (by omega) (by omega)
        have q3 : bitlen x.toNat = bitlen z.toNat + 16 := by omega
        simp [q1, q3] at q2 ⊢
        exact q2
    · have l2 : x.toNat < 2 ^ 16 := by
        have := mt BitVec.le_def.2 h2
        rw [c16] at this
        omega
      simp [h2]
      by_cases h3 : 256#64 ≤ x
      · have b3 := step x 8 (by rw [← c8]; exact BitVec.le_def.1 h3)
        have l3 : (x >>> 8).toNat < 2 ^ 8 := by rw [hshr]; omega
        simp [h3]
        generalize x >>> 8 = t at *
        obtain ⟨q1, q2⟩ := last t 8 (by omega) (by omega)
        have q3 : bitlen x.toNat = bitlen t.toNat + 8 := by omega
        simp [q1, q3] at q2 ⊢
        exact q2
      · have l3 : x.toNat < 2 ^ 8 := by
          have := mt BitVec.le_def.2 h3
          rw [c8] at this
          omega
        simp [h3]
        obtain ⟨q1, q2⟩ := last x 0 (by omega) (by omega)
        simp at q2
        simp [q1, q2]

end
end Go.Ab
/-
  num: lengths, shifts, quotients.
-/
set_option linter.unusedSimpArgs false
set_option linter.unusedVariables false
set_option maxRecDepth 10000
namespace Go.Ab
open Go Go.RowKit
section
variable {P : Program} {F : Fn}

/-- Len -/
theorem bitlen_add {n k m : Nat} (hm : m < 2 ^ k) (hn : 0 < n) : bitlen (n * 2 ^ k + m) = bitlen n + k := by
  have h1 : 2 ^ k ≤ n * 2 ^ k + m := Nat.le_add_right_of_le (Nat.le_mul_of_pos_left _ hn)
  have h2 := bitlen_shift h1
  rw [h2, Nat.add_comm (n * 2 ^ k), Nat.add_mul_div_right _ _ (Nat.two_pow_pos k), Nat.div_eq_of_lt hm, Nat.zero_add]
theorem u4_lo2 (a b : W) : (u4 a b 0#64 0#64).toNat = b.toNat * 2 ^ 64 + a.toNat := by
  have h : ∀ c d : W, c.toNat = 0 → d.toNat = 0 → (u4 a b c d).toNat = b.toNat * 18446744073709551616 + a.toNat := fun c d hc hd => by
    rw [u4_nat]; omega
  exact h _ _ rfl rfl
theorem u4_lo3 (a b c : W) : (u4 a b c 0#64).toNat = c.toNat * 2 ^ 128 + (a.toNat + b.toNat * 18446744073709551616) := by
  have h : ∀ d : W, d.toNat = 0 → (u4 a b c d).toNat = c.toNat * 340282366920938463463374607431768211456 + (a.toNat + b.toNat * 18446744073709551616) := fun d hd => by
    rw [u4_nat]; omega
  exact h _ rfl
theorem u4_hi (a b c d : W) : (u4 a b c d).toNat = d.toNat * 2 ^ 192 + (a.toNat + b.toNat * 18446744073709551616 + c.toNat * 340282366920938463463374607431768211456) := by
  rw [u4_nat, Nat.add_comm]
theorem w_pos {x : W} (h : x ≠ 0#64) : 0 < x.toNat := by
  have : x.toNat ≠ 0 := fun e => h (BitVec.eq_of_toNat_eq e)
  omega
theorem spec114 (ok : OkNum P F) (st : St) (x : U) : ACalls P (F 114) [nU x] st fun v st' => v = .int .i64 (bitlen x.toNat) ∧ st' = st := by
  refine shows_call ok.mixed ok.h114 (by simp [k114]) ?_
  obtain ⟨a, b, c, d, rfl⟩ := exists_u4 x
  have ha := a.isLt; have hb := b.isLt; have hc := c.isLt; have hd := d.isLt
  have e := u4_nat a b c d
  have bl : ∀ y : W, bitlen y.toNat ≤ 64 := fun y => bitlen_le.2 y.isLt
  simp only [k114, nU, eU_u4]
  simp
  intro i hi
  have call : ∀ (st : St) (y : W), ACalls P (F 115) [w64 y] st fun v st' => v = .int .i64 (bitlen y.toNat) ∧ st' = st := fun st y => spec115 ok st y
  refine vc_unroll 5 ?_
  simp [unr_succ, idxArrV, St.seg, segOf]
  by_cases h : d = 0#64
  · subst h
    simp [unr_succ, idxArrV, St.seg, segOf]
    by_cases h : c = 0#64
    · subst h
      simp [unr_succ, idxArrV, St.seg, segOf]
      by_cases h : b = 0#64
      · subst h
        simp [unr_succ, idxArrV, St.seg, segOf]
        by_cases h : a = 0#64
        · subst h
          simp [unr_succ, idxArrV, St.seg, segOf, e, bitlen]
          exact sub_upd hi
        · have hne : (a != 0#64) = true := by simp [h]
          simp [unr_succ, idxArrV, St.seg, segOf, hne]
          refine (call _ a).mono ?_
          rintro v s ⟨rfl, rfl⟩
          have := bl a
          have w : IntKind.i64.wrap (bitlen a.toNat : Int) = bitlen a.toNat := wrap64 (by omega) (by omega)
          simp [w, e]
          exact sub_upd hi
      · have hne : (b != 0#64) = true := by simp [h]
        simp [unr_succ, idxArrV, St.seg, segOf, hne]
        refine (call _ b).mono ?_
        rintro v s ⟨rfl, rfl⟩
        have := bl b
        have w : IntKind.i64.wrap (64 + (bitlen b.toNat : Int)) = 64 + bitlen b.toNat := wrap64 (by omega) (by omega)
        have q := bitlen_add (k := 64) ha (w_pos h)
        rw [u4_lo2, q]
        simp [w]
        exact ⟨sub_upd hi, by omega⟩
    · have hne : (c != 0#64) = true := by simp [h]
      simp [unr_succ, idxArrV, St.seg, segOf, hne]
      refine (call _ c).mono ?_
      rintro v s ⟨rfl, rfl⟩
      have := bl c
      have w : IntKind.i64.wrap (128 + (bitlen c.toNat : Int)) = 128 + bitlen c.toNat := wrap64 (by omega) (by omega)
      have q := bitlen_add (k := 128) (m := a.toNat + b.toNat * 18446744073709551616) (by show _ < 340282366920938463463374607431768211456; omega) (w_pos h)
      rw [u4_lo3, q]
      simp [w]
      exact ⟨sub_upd hi, by omega⟩
  · have hne : (d != 0#64) = true := by simp [h]
    simp [unr_succ, idxArrV, St.seg, segOf, hne]
    refine (call _ d).mono ?_
    rintro v s ⟨rfl, rfl⟩
    have := bl d
    have w : IntKind.i64.wrap (192 + (bitlen d.toNat : Int)) = 192 + bitlen d.toNat := wrap64 (by omega) (by omega)
    have q := bitlen_add (k := 192) (m := a.toNat + b.toNat * 18446744073709551616 + c.toNat * 340282366920938463463374607431768211456) (by show _ < 6277101735386680763835789423207666416102355444464034512896; omega) (w_pos h)
    rw [u4_hi, q]
    simp [w]
    exact ⟨sub_upd hi, by omega⟩
end
end Go.Ab
/-
  num: shifts.
-/
set_option linter.unusedSimpArgs false
set_option linter.unusedVariables false
set_option maxRecDepth 10000
namespace Go.Ab
open Go Go.RowKit
section
variable {P : Program} {F : Fn}

def hl (x y : W) (s : Nat) : W := x <<< s ||| y >>> (64 - s)
def hr (x y : W) (s : Nat) : W := x >>> s ||| y <<< (64 - s)
theorem pow64 {s : Nat} (hs : s ≤ 64) : 2 ^ s * 2 ^ (64 - s) = 18446744073709551616 := by
  rw [← Nat.pow_add, show s + (64 - s) = 64 by omega]
theorem shl_nat (x : W) (s : Nat) : (x <<< s).toNat = x.toNat * 2 ^ s % 18446744073709551616 := by
  rw [BitVec.toNat_shiftLeft, Nat.shiftLeft_eq]
theorem shr_nat64 (x : W) (s : Nat) : (x >>> s).toNat = x.toNat / 2 ^ s := by
  rw [BitVec.toNat_ushiftRight, Nat.shiftRight_eq_div_pow]
theorem or_disj (x y : Nat) (s : Nat) (hy : y < 2 ^ s) : (x * 2 ^ s ||| y) = x * 2 ^ s + y := by
  rw [← Nat.shiftLeft_eq, ← Nat.shiftLeft_add_eq_or_of_lt hy, Nat.shiftLeft_eq]
theorem mul_mod_pow (x s : Nat) (hs : s ≤ 64) : x * 2 ^ s % 18446744073709551616 = x % 2 ^ (64 - s) * 2 ^ s := by
  rw [← pow64 hs, Nat.mul_comm (2 ^ s), Nat.mul_mod_mul_right]
theorem mul_div_pow (x s : Nat) (hs : s ≤ 64) : x * 2 ^ s / 18446744073709551616 = x / 2 ^ (64 - s) := by
  rw [← pow64 hs, Nat.mul_comm (2 ^ s), Nat.mul_div_mul_right _ _ (Nat.two_pow_pos s)]
theorem hl_nat (x y : W) (s : Nat) (hs : s ≤ 64) : (hl x y s).toNat = x.toNat * 2 ^ s % 18446744073709551616 + y.toNat * 2 ^ s / 18446744073709551616 := by
  have hy := y.isLt
  rw [hl, BitVec.toNat_or, shl_nat, shr_nat64, mul_mod_pow _ _ hs, mul_div_pow _ _ hs]
  refine or_disj _ _ _ ?_
  rw [Nat.div_lt_iff_lt_mul (Nat.two_pow_pos _), pow64 hs]
  exact hy
theorem hr_nat (x y : W) (s : Nat) (hs : s ≤ 64) : (hr x y s).toNat = y.toNat * 2 ^ (64 - s) % 18446744073709551616 + x.toNat * 2 ^ (64 - s) / 18446744073709551616 := by
  have hx := x.isLt
  have e : 64 - (64 - s) = s := by omega
  rw [hr, BitVec.or_comm, BitVec.toNat_or, shl_nat, shr_nat64, mul_mod_pow _ _ (by omega), mul_div_pow _ _ (by omega), e]
  refine or_disj _ _ _ ?_
  rw [Nat.div_lt_iff_lt_mul (Nat.two_pow_pos _), Nat.mul_comm, pow64 hs]
  exact hx
theorem shl_u4 (a b c d : W) (s : Nat) (hs : s ≤ 64) : u4 a b c d <<< s = u4 (a <<< s) (hl b a s) (hl c b s) (hl d c s) := by
  apply BitVec.eq_of_toNat_eq
  have b1 := (hl b a s).isLt
  have b2 := (hl c b s).isLt
  have b3 := (hl d c s).isLt
  rw [hl_nat _ _ _ hs] at b1 b2 b3
  rw [BitVec.toNat_shiftLeft, Nat.shiftLeft_eq, u4_nat, u4_nat, shl_nat, hl_nat _ _ _ hs, hl_nat _ _ _ hs, hl_nat _ _ _ hs, Nat.add_mul, Nat.add_mul, Nat.add_mul, Nat.mul_right_comm b.toNat, Nat.mul_right_comm c.toNat, Nat.mul_right_comm d.toNat]
  generalize a.toNat * 2 ^ s = A at *
  generalize b.toNat * 2 ^ s = B at *
  generalize c.toNat * 2 ^ s = C at *
  generalize d.toNat * 2 ^ s = D at *
  show _ % 115792089237316195423570985008687907853269984665640564039457584007913129639936 = _
  omega
theorem shr_u4 (a b c d : W) (s : Nat) (hs : s ≤ 64) : u4 a b c d >>> s = u4 (hr a b s) (hr b c s) (hr c d s) (d >>> s) := by
  apply BitVec.eq_of_toNat_eq
  have hp := Nat.two_pow_pos (64 - s)
  have e : 64 - (64 - s) = s := by omega
  have hd : (d >>> s).toNat = d.toNat * 2 ^ (64 - s) / 18446744073709551616 := by
    rw [shr_nat64, mul_div_pow _ _ (by omega), e]
  rw [BitVec.toNat_ushiftRight, Nat.shiftRight_eq_div_pow, u4_nat, u4_nat, hd, hr_nat _ _ _ hs, hr_nat _ _ _ hs, hr_nat _ _ _ hs]
  rw [← Nat.mul_div_mul_right _ _ hp, pow64 hs, Nat.add_mul, Nat.add_mul, Nat.add_mul, Nat.mul_right_comm b.toNat, Nat.mul_right_comm c.toNat, Nat.mul_right_comm d.toNat]
  generalize a.toNat * 2 ^ (64 - s) = A
  generalize b.toNat * 2 ^ (64 - s) = B
  generalize c.toNat * 2 ^ (64 - s) = C
  generalize d.toNat * 2 ^ (64 - s) = D
  omega
theorem shl_word (a b c d : W) : u4 a b c d <<< 64 = u4 0#64 a b c := by
  have h : ∀ z : W, z.toNat = 0 → u4 a b c d <<< 64 = u4 z a b c := fun z hz => by
    have := a.isLt; have := b.isLt; have := c.isLt; have := d.isLt
    apply BitVec.eq_of_toNat_eq
    rw [BitVec.toNat_shiftLeft, Nat.shiftLeft_eq, u4_nat, u4_nat]
    show _ * 18446744073709551616 % 115792089237316195423570985008687907853269984665640564039457584007913129639936 = _
    omega
  exact h _ rfl
theorem shr_word (a b c d : W) : u4 a b c d >>> 64 = u4 b c d 0#64 := by
  have h : ∀ z : W, z.toNat = 0 → u4 a b c d >>> 64 = u4 b c d z := fun z hz => by
    have := a.isLt; have := b.isLt; have := c.isLt; have := d.isLt
    apply BitVec.eq_of_toNat_eq
    rw [BitVec.toNat_ushiftRight, Nat.shiftRight_eq_div_pow, u4_nat, u4_nat]
    show _ / 18446744073709551616 = _
    omega
  exact h _ rfl
def shlU (x : U) (n : Int) : U := if n < 0 ∨ 255 < n then 0#256 else x <<< n.toNat
def shrU (x : U) (n : Int) : U := if n < 0 ∨ 255 < n then 0#256 else x >>> n.toNat

theorem hl0 (x y : W) : hl x y 0 = x := by
  unfold hl
  rw [BitVec.shiftLeft_zero]
  have : y >>> (64 - 0) = 0#64 := by
    apply BitVec.eq_of_toNat_eq
    rw [shr_nat64, Nat.div_eq_of_lt y.isLt]; rfl
  rw [this, BitVec.or_zero]
theorem hr0 (x y : W) : hr x y 0 = x := by
  unfold hr
  rw [BitVec.ushiftRight_zero]
  have : y <<< (64 - 0) = 0#64 := by
    apply BitVec.eq_of_toNat_eq
    rw [shl_nat]
    exact Nat.mul_mod_left _ _
  rw [this, BitVec.or_zero]
set_option maxHeartbeats 2000000 in
theorem spec112 (ok : OkNum P F) (st : St) (x : U) (n : Int) : ACalls P (F 112) [nU x, .int .i64 n] st fun v st' => v = nU (shlU x n) ∧ st' = st := by
  refine shows_call ok.mixed ok.h112 (by simp [k112]) ?_
  obtain ⟨a, b, c, d, rfl⟩ := exists_u4 x
  simp only [k112, nU, eU_u4]
  simp
  intro i hi
  simp
  intro j hj
  obtain ⟨hij, hj⟩ := upd_none hj
  have hji := hij.symm
  by_cases h0 : n < 0
  · have e : shlU (u4 a b c d) n = u4 0#64 0#64 0#64 0#64 := by simp [shlU, h0]; rfl
    rw [e, eU_u4]
    simp [h0, fillV, storeS, spliceV, St.seg, segOf]
    repeat refine sub_ups ?_ (by assumption)
    exact St.sub_refl _
  by_cases h1 : 255 < n
  · have e : shlU (u4 a b c d) n = u4 0#64 0#64 0#64 0#64 := by simp [shlU, h1]; rfl
    rw [e, eU_u4]
    simp [h0, h1, fillV, storeS, spliceV, St.seg, segOf]
    repeat refine sub_ups ?_ (by assumption)
    exact St.sub_refl _
  obtain ⟨m, rfl⟩ := Int.eq_ofNat_of_zero_le (show 0 ≤ n by omega)
  have hm : m ≤ 255 := by omega
  obtain ⟨w, s, hs, rfl⟩ : ∃ w s, s < 64 ∧ m = 64 * w + s := ⟨m / 64, m % 64, Nat.mod_lt _ (by omega), by omega⟩
  have hq : Int.tdiv ((64 * w + s : Nat) : Int) 64 = (w : Int) := by
    rw [Int.tdiv_eq_ediv_of_nonneg (by omega)]; omega
  have hr' : Int.tmod ((64 * w + s : Nat) : Int) 64 = (s : Int) := by
    rw [Int.tmod_eq_emod_of_nonneg (by omega)]; omega
  have e : shlU (u4 a b c d) ((64 * w + s : Nat) : Int) = u4 a b c d <<< (64 * w + s) := by
    rw [shlU, if_neg (by omega), Int.toNat_natCast]
  rw [e]
  obtain ⟨S, hS⟩ : ∃ S : W, S = BitVec.ofInt 64 (s : Int) := ⟨_, rfl⟩
  have hSn : S.toNat = s := by
    rw [hS, BitVec.ofInt_natCast, BitVec.toNat_ofNat]
    exact Nat.mod_eq_of_lt (by omega)
  have hS2 : (64#64 - S).toNat = 64 - s := by
    rw [BitVec.toNat_sub, hSn]
    show (18446744073709551616 - s + 64) % 18446744073709551616 = 64 - s
    omega
  have hpos : decide (0#64 < S) = decide (0 < s) := by
    congr 1
    rw [BitVec.lt_def, hSn]
    rfl
  have hw : w ≤ 3 := by omega
  have ww : IntKind.i64.wrap (w : Int) = w := wrap64 (by omega) (by omega)
  have hcast : ((64 * w + s : Nat) : Int) = 64 * (w : Int) + s := by omega
  rw [hcast] at h0 h1 hq hr' ⊢
  simp [h0, h1]
  intro k hk
  obtain ⟨hjk, hk⟩ := upd_none hk
  obtain ⟨hik, hk⟩ := upd_none hk
  have hkj := hjk.symm
  have hki := hik.symm
  have fin : ∀ cs : List V, st.sub (((((st.upd i (AObj.cells [w64 a, w64 b, w64 c, w64 d])).upd j (AObj.cells [w64 0#64, w64 0#64, w64 0#64, w64 0#64])).upd k (AObj.cells [w64 0#64, w64 0#64, w64 0#64, w64 0#64])).upd k (AObj.cells cs)).upd j (AObj.cells cs)) := fun cs => sub_ups (sub_ups (sub_ups (sub_ups (sub_ups (sub_self _) hi) hj) hk) hk) hj
  have hconv : convV .u64 (.int .i64 (s : Int)) = some (w64 S) := by rw [hS, conv_i_64]
  simp [-conv_i_64, hq, hr', ww, hconv]
  clear hconv hS hq hr' hcast h0 h1 e ww
  refine vc_unroll 5 ?_
  have hw4 : w = 0 ∨ w = 1 ∨ w = 2 ∨ w = 3 := by omega
  by_cases hs0 : s = 0
  · have hpos' : decide (0#64 < S) = false := by rw [hpos]; simp [hs0]
    rcases hw4 with rfl | rfl | rfl | rfl
    · have r : u4 a b c d <<< (64 * 0 + s) = u4 a b c d := by simp [hs0]
      rw [r, eU_u4]
      simp [unr_succ, idxArrV, St.seg, segOf, hij, hji, hik, hki, hjk, hkj, storeS, spliceV, hSn, hpos', hs0]
      repeat refine sub_ups ?_ (by assumption)
      exact St.sub_refl _
    · have r : u4 a b c d <<< (64 * 1 + s) = u4 0#64 a b c := by rw [hs0]; exact shl_word a b c d
      rw [r, eU_u4]
      simp [unr_succ, idxArrV, St.seg, segOf, hij, hji, hik, hki, hjk, hkj, storeS, spliceV, hSn, hpos', hs0]
      repeat refine sub_ups ?_ (by assumption)
      exact St.sub_refl _
    · have r : u4 a b c d <<< (64 * 2 + s) = u4 0#64 0#64 a b := by rw [hs0, show 64 * 2 + 0 = 64 + 64 from rfl, BitVec.shiftLeft_add, shl_word, shl_word]
      rw [r, eU_u4]
      simp [unr_succ, idxArrV, St.seg, segOf, hij, hji, hik, hki, hjk, hkj, storeS, spliceV, hSn, hpos', hs0]
      repeat refine sub_ups ?_ (by assumption)
      exact St.sub_refl _
    · have r : u4 a b c d <<< (64 * 3 + s) = u4 0#64 0#64 0#64 a := by rw [hs0, show 64 * 3 + 0 = 64 + 64 + 64 from rfl, BitVec.shiftLeft_add, BitVec.shiftLeft_add, shl_word, shl_word, shl_word]
      rw [r, eU_u4]
      simp [unr_succ, idxArrV, St.seg, segOf, hij, hji, hik, hki, hjk, hkj, storeS, spliceV, hSn, hpos', hs0]
      repeat refine sub_ups ?_ (by assumption)
      exact St.sub_refl _
  · have hpos' : decide (0#64 < S) = true := by rw [hpos]; simp; omega
    rcases hw4 with rfl | rfl | rfl | rfl
    · have r : u4 a b c d <<< (64 * 0 + s) = u4 (a <<< s) (hl b a s) (hl c b s) (hl d c s) := by
        rw [show 64 * 0 + s = s by omega]; exact shl_u4 a b c d s (by omega)
      rw [r, eU_u4]
      simp [unr_succ, idxArrV, St.seg, segOf, hij, hji, hik, hki, hjk, hkj, storeS, spliceV, hSn, hpos', hS2, hl, -BitVec.toNat_sub]
      repeat refine sub_ups ?_ (by assumption)
      exact St.sub_refl _
    · have r : u4 a b c d <<< (64 * 1 + s) = u4 0#64 (a <<< s) (hl b a s) (hl c b s) := by
        rw [show 64 * 1 + s = s + 64 by omega, BitVec.shiftLeft_add, shl_u4 a b c d s (by omega), shl_word]
      rw [r, eU_u4]
      simp [unr_succ, idxArrV, St.seg, segOf, hij, hji, hik, hki, hjk, hkj, storeS, spliceV, hSn, hpos', hS2, hl, -BitVec.toNat_sub]
      repeat refine sub_ups ?_ (by assumption)
      exact St.sub_refl _
    · have r : u4 a b c d <<< (64 * 2 + s) = u4 0#64 0#64 (a <<< s) (hl b a s) := by
        rw [show 64 * 2 + s = s + 64 + 64 by omega, BitVec.shiftLeft_add, BitVec.shiftLeft_add, shl_u4 a b c d s (by omega), shl_word, shl_word]
      rw [r, eU_u4]
      simp [unr_succ, idxArrV, St.seg, segOf, hij, hji, hik, hki, hjk, hkj, storeS, spliceV, hSn, hpos', hS2, hl, -BitVec.toNat_sub]
      repeat refine sub_ups ?_ (by assumption)
      exact St.sub_refl _
    · have r : u4 a b c d <<< (64 * 3 + s) = u4 0#64 0#64 0#64 (a <<< s) := by
        rw [show 64 * 3 + s = s + 64 + 64 + 64 by omega, BitVec.shiftLeft_add, BitVec.shiftLeft_add, BitVec.shiftLeft_add, shl_u4 a b c d s (by omega), shl_word, shl_word, shl_word]
      rw [r, eU_u4]
      simp [unr_succ, idxArrV, St.seg, segOf, hij, hji, hik, hki, hjk, hkj, storeS, spliceV, hSn, hpos', hS2, hl, -BitVec.toNat_sub]
      repeat refine sub_ups ?_ (by assumption)
      exact St.sub_refl _
set_option maxHeartbeats 2000000 in
theorem spec113 (ok : OkNum P F) (st : St) (x : U) (n : Int) : ACalls P (F 113) [nU x, .int .i64 n] st fun v st' => v = nU (shrU x n) ∧ st' = st := by
  refine shows_call ok.mixed ok.h113 (by simp [k113]) ?_
  obtain ⟨a, b, c, d, rfl⟩ := exists_u4 x
  simp only [k113, nU, eU_u4]
  simp
  intro i hi
  simp
  intro j hj
  obtain ⟨hij, hj⟩ := upd_none hj
  have hji := hij.symm
  by_cases h0 : n < 0
  · have e : shrU (u4 a b c d) n = u4 0#64 0#64 0#64 0#64 := by simp [shrU, h0]; rfl
    rw [e, eU_u4]
    simp [h0, fillV, storeS, spliceV, St.seg, segOf]
    repeat refine sub_ups ?_ (by assumption)
    exact St.sub_refl _
  by_cases h1 : 255 < n
  · have e : shrU (u4 a b c d) n = u4 0#64 0#64 0#64 0#64 := by simp [shrU, h1]; rfl
    rw [e, eU_u4]
    simp [h0, h1, fillV, storeS, spliceV, St.seg, segOf]
    repeat refine sub_ups ?_ (by assumption)
    exact St.sub_refl _
  obtain ⟨m, rfl⟩ := Int.eq_ofNat_of_zero_le (show 0 ≤ n by omega)
  have hm : m ≤ 255 := by omega
  obtain ⟨w, s, hs, rfl⟩ : ∃ w s, s < 64 ∧ m = 64 * w + s := ⟨m / 64, m % 64, Nat.mod_lt _ (by omega), by omega⟩
  have hq : Int.tdiv ((64 * w + s : Nat) : Int) 64 = (w : Int) := by
    rw [Int.tdiv_eq_ediv_of_nonneg (by omega)]; omega
  have hr' : Int.tmod ((64 * w + s : Nat) : Int) 64 = (s : Int) := by
    rw [Int.tmod_eq_emod_of_nonneg (by omega)]; omega
  have e : shrU (u4 a b c d) ((64 * w + s : Nat) : Int) = u4 a b c d >>> (64 * w + s) := by
    rw [shrU, if_neg (by omega), Int.toNat_natCast]
  rw [e]
  obtain ⟨S, hS⟩ : ∃ S : W, S = BitVec.ofInt 64 (s : Int) := ⟨_, rfl⟩
  have hSn : S.toNat = s := by
    rw [hS, BitVec.ofInt_natCast, BitVec.toNat_ofNat]
    exact Nat.mod_eq_of_lt (by omega)
  have hS2 : (64#64 - S).toNat = 64 - s := by
    rw [BitVec.toNat_sub, hSn]
    show (18446744073709551616 - s + 64) % 18446744073709551616 = 64 - s
    omega
  have hpos : decide (0#64 < S) = decide (0 < s) := by
    congr 1
    rw [BitVec.lt_def, hSn]
    rfl
  have hw : w ≤ 3 := by omega
  have ww4 : IntKind.i64.wrap (4 - (w : Int)) = 4 - w := wrap64 (by omega) (by omega)
  have ww : IntKind.i64.wrap (w : Int) = w := wrap64 (by omega) (by omega)
  have hcast : ((64 * w + s : Nat) : Int) = 64 * (w : Int) + s := by omega
  rw [hcast] at h0 h1 hq hr' ⊢
  simp [h0, h1]
  intro k hk
  obtain ⟨hjk, hk⟩ := upd_none hk
  obtain ⟨hik, hk⟩ := upd_none hk
  have hkj := hjk.symm
  have hki := hik.symm
  have fin : ∀ cs : List V, st.sub (((((st.upd i (AObj.cells [w64 a, w64 b, w64 c, w64 d])).upd j (AObj.cells [w64 0#64, w64 0#64, w64 0#64, w64 0#64])).upd k (AObj.cells [w64 0#64, w64 0#64, w64 0#64, w64 0#64])).upd k (AObj.cells cs)).upd j (AObj.cells cs)) := fun cs => sub_ups (sub_ups (sub_ups (sub_ups (sub_ups (sub_self _) hi) hj) hk) hk) hj
  have hconv : convV .u64 (.int .i64 (s : Int)) = some (w64 S) := by rw [hS, conv_i_64]
  simp [-conv_i_64, hq, hr', ww, hconv]
  clear hconv hS hq hr' hcast h0 h1 e ww
  refine vc_unroll 5 ?_
  have hw4 : w = 0 ∨ w = 1 ∨ w = 2 ∨ w = 3 := by omega
  by_cases hs0 : s = 0
  · have hpos' : decide (0#64 < S) = false := by rw [hpos]; simp [hs0]
    rcases hw4 with rfl | rfl | rfl | rfl
    · have r : u4 a b c d >>> (64 * 0 + s) = u4 a b c d := by simp [hs0]
      rw [r, eU_u4]
      simp [unr_succ, idxArrV, St.seg, segOf, hij, hji, hik, hki, hjk, hkj, storeS, spliceV, hSn, hpos', hs0]
      repeat refine sub_ups ?_ (by assumption)
      exact St.sub_refl _
    · have r : u4 a b c d >>> (64 * 1 + s) = u4 b c d 0#64 := by rw [hs0, show 64 * 1 + 0 = 64 from rfl, shr_word]
      rw [r, eU_u4]
      simp [unr_succ, idxArrV, St.seg, segOf, hij, hji, hik, hki, hjk, hkj, storeS, spliceV, hSn, hpos', hs0]
      repeat refine sub_ups ?_ (by assumption)
      exact St.sub_refl _
    · have r : u4 a b c d >>> (64 * 2 + s) = u4 c d 0#64 0#64 := by rw [hs0, show 64 * 2 + 0 = 64 + 64 from rfl, BitVec.shiftRight_add, shr_word, shr_word]
      rw [r, eU_u4]
      simp [unr_succ, idxArrV, St.seg, segOf, hij, hji, hik, hki, hjk, hkj, storeS, spliceV, hSn, hpos', hs0]
      repeat refine sub_ups ?_ (by assumption)
      exact St.sub_refl _
    · have r : u4 a b c d >>> (64 * 3 + s) = u4 d 0#64 0#64 0#64 := by rw [hs0, show 64 * 3 + 0 = 64 + 64 + 64 from rfl, BitVec.shiftRight_add, BitVec.shiftRight_add, shr_word, shr_word, shr_word]
      rw [r, eU_u4]
      simp [unr_succ, idxArrV, St.seg, segOf, hij, hji, hik, hki, hjk, hkj, storeS, spliceV, hSn, hpos', hs0]
      repeat refine sub_ups ?_ (by assumption)
      exact St.sub_refl _
  · have hpos' : decide (0#64 < S) = true := by rw [hpos]; simp; omega
    rcases hw4 with rfl | rfl | rfl | rfl
    · have r : u4 a b c d >>> (64 * 0 + s) = u4 (hr a b s) (hr b c s) (hr c d s) (d >>> s) := by
        rw [show 64 * 0 + s = s by omega, shr_u4 a b c d s (by omega)]
      rw [r, eU_u4]
      simp [unr_succ, idxArrV, St.seg, segOf, hij, hji, hik, hki, hjk, hkj, storeS, spliceV, hSn, hpos', hS2, hr, -BitVec.toNat_sub]
      repeat refine sub_ups ?_ (by assumption)
      exact St.sub_refl _
    · have r : u4 a b c d >>> (64 * 1 + s) = u4 (hr b c s) (hr c d s) (d >>> s) 0#64 := by
        rw [show 64 * 1 + s = s + 64 by omega, BitVec.shiftRight_add, shr_u4 a b c d s (by omega), shr_word]
      rw [r, eU_u4]
      simp [unr_succ, idxArrV, St.seg, segOf, hij, hji, hik, hki, hjk, hkj, storeS, spliceV, hSn, hpos', hS2, hr, -BitVec.toNat_sub]
      repeat refine sub_ups ?_ (by assumption)
      exact St.sub_refl _
    · have r : u4 a b c d >>> (64 * 2 + s) = u4 (hr c d s) (d >>> s) 0#64 0#64 := by
        rw [show 64 * 2 + s = s + 64 + 64 by omega, BitVec.shiftRight_add, BitVec.shiftRight_add, shr_u4 a b c d s (by omega), shr_word, shr_word]
      rw [r, eU_u4]
      simp [unr_succ, idxArrV, St.seg, segOf, hij, hji, hik, hki, hjk, hkj, storeS, spliceV, hSn, hpos', hS2, hr, -BitVec.toNat_sub]
      repeat refine sub_ups ?_ (by assumption)
      exact St.sub_refl _
    · have r : u4 a b c d >>> (64 * 3 + s) = u4 (d >>> s) 0#64 0#64 0#64 := by
        rw [show 64 * 3 + s = s + 64 + 64 + 64 by omega, BitVec.shiftRight_add, BitVec.shiftRight_add, BitVec.shiftRight_add, shr_u4 a b c d s (by omega), shr_word, shr_word, shr_word]
      rw [r, eU_u4]
      simp [unr_succ, idxArrV, St.seg, segOf, hij, hji, hik, hki, hjk, hkj, storeS, spliceV, hSn, hpos', hS2, hr, -BitVec.toNat_sub]
      repeat refine sub_ups ?_ (by assumption)
      exact St.sub_refl _
end
end Go.Ab
/-
  hash.block.
-/
set_option linter.unusedSimpArgs false
set_option linter.unusedVariables false
set_option maxRecDepth 10000
namespace Go.Ab
open Go Go.RowKit
section
variable {P : Program} {F : Fn}

/-! ### arrays of one cell each -/
theorem arr_read {α : Type} {f : α → V} {st : St} {id : Nat} {xs : List α} (h : st id = some (.cells (xs.map f))) {i : Nat} (hi : i < xs.length) : st.seg id i 1 = some [f xs[i]] := by
  simp only [St.seg, h, segOf]
  rw [if_pos (by simp; omega), List.drop_eq_getElem_cons (by simpa using hi)]
  simp
theorem arr_store {α : Type} {f : α → V} {st : St} {id : Nat} {xs : List α} (h : st id = some (.cells (xs.map f))) {i : Nat} (hi : i < xs.length) {x : α} {v : V} (hv : v.cells? = some [f x]) : storeS st 1 (.ptr (some (id, i))) v = some (st.upd id (.cells ((xs.set i x).map f))) := by
  simp only [storeS, h, hv]
  rw [if_pos ⟨rfl, by simp; omega⟩]
  congr 3
  unfold spliceV
  rw [List.map_set, List.set_eq_take_append_cons_drop, if_pos (by simpa using hi)]
  simp
theorem set_fill {α : Type} (l : List α) (n : Nat) (z x : α) (h : l.length < n) : (l ++ List.replicate (n - l.length) z).set l.length x = l ++ [x] ++ List.replicate (n - (l.length + 1)) z := by
  rw [List.set_append_right _ _ (by omega), Nat.sub_self, show n - l.length = (n - (l.length + 1)) + 1 by omega, List.replicate_succ, List.set_cons_zero]
  simp

theorem idxArr_ptr (n id : Nat) {z : Int} {j : Nat} (hz : z = (j : Nat)) (hj : j < n) : idxArrV n 1 (.ptr (some (id, 0))) (.int .i64 z) = some (.ptr (some (id, j))) := by
  subst hz
  simp [idxArrV, hj]
theorem words_len : ∀ l : List UInt8, (words l).length = l.length / 4
  | a :: b :: c :: d :: l => by
    simp only [words, List.length_cons, words_len l]
    omega
  | [] => rfl
  | [_] => by simp [words]
  | [_, _] => by simp [words]
  | [_, _, _] => by simp [words]
theorem words_get : ∀ (l : List UInt8) (i : Nat) (h : 4 * i + 4 ≤ l.length), (words l)[i]'(by rw [words_len]; omega) = be4 l[4 * i] l[4 * i + 1] l[4 * i + 2] l[4 * i + 3]
  | a :: b :: c :: d :: l, 0, h => rfl
  | a :: b :: c :: d :: l, i + 1, h => by
    have := words_get l i (by simp at h; omega)
    simp only [words, List.getElem_cons_succ, this]
    congr 1
  | [], i, h => by simp at h
  | [_], i, h => by simp at h
  | [_, _], i, h => by simp at h
  | [_, _, _], i, h => by simp at h

theorem sched_len (m : List (BitVec 32)) : ∀ k, (sched m k).length = m.length + k
  | 0 => rfl
  | k + 1 => by simp [sched, sched_len m k]; omega
theorem rnds_snoc : ∀ (ks ws : List (BitVec 32)) (k w : BitVec 32) (v : V8), ks.length = ws.length → rnds (ks ++ [k]) (ws ++ [w]) v = rnd (rnds ks ws v) k w
  | [], [], k, w, v, _ => rfl
  | a :: ks, b :: ws, k, w, v, h => by
    simp only [List.cons_append, rnds]
    exact rnds_snoc ks ws k w _ (by simpa using h)
  | [], _ :: _, _, _, _, h => by simp at h
  | _ :: _, [], _, _, _, h => by simp at h

def cells8 (v : V8) : List V := v.list.map w32
theorem zR64_rep : zR64_w320 = (List.replicate 64 (0#32)).map w32 := rfl

def kBytes : List UInt8 := [66, 138, 47, 152, 113, 55, 68, 145, 181, 192, 251, 207, 233, 181, 219, 165, 57, 86, 194, 91, 89, 241, 17, 241, 146, 63, 130, 164, 171, 28, 94, 213, 216, 7, 170, 152, 18, 131, 91, 1, 36, 49, 133, 190, 85, 12, 125, 195, 114, 190, 93, 116, 128, 222, 177, 254, 155, 220, 6, 167, 193, 155, 241, 116, 228, 155, 105, 193, 239, 190, 71, 134, 15, 193, 157, 198, 36, 12, 161, 204, 45, 233, 44, 111, 74, 116, 132, 170, 92, 176, 169, 220, 118, 249, 136, 218, 152, 62, 81, 82, 168, 49, 198, 109, 176, 3, 39, 200, 191, 89, 127, 199, 198, 224, 11, 243, 213, 167, 145, 71, 6, 202, 99, 81, 20, 41, 41, 103, 39, 183, 10, 133, 46, 27, 33, 56, 77, 44, 109, 252, 83, 56, 13, 19, 101, 10, 115, 84, 118, 106, 10, 187, 129, 194, 201, 46, 146, 114, 44, 133, 162, 191, 232, 161, 168, 26, 102, 75, 194, 75, 139, 112, 199, 108, 81, 163, 209, 146, 232, 25, 214, 153, 6, 36, 244, 14, 53, 133, 16, 106, 160, 112, 25, 164, 193, 22, 30, 55, 108, 8, 39, 72, 119, 76, 52, 176, 188, 181, 57, 28, 12, 179, 78, 216, 170, 74, 91, 156, 202, 79, 104, 46, 111, 243, 116, 143, 130, 238, 120, 165, 99, 111, 132, 200, 120, 20, 140, 199, 2, 8, 144, 190, 255, 250, 164, 80, 108, 235, 190, 249, 163, 247, 198, 113, 120, 242]
theorem roundsB : ∀ i : Fin 64, be4 (kBytes.getD (4 * i.val) 0) (kBytes.getD (4 * i.val + 1) 0) (kBytes.getD (4 * i.val + 2) 0) (kBytes.getD (4 * i.val + 3) 0) = shaK.getD i.val 0 := by decide +kernel
theorem rounds_at (k : IntKind) {s : ByteArray} (hs : strB s = kBytes) {i : Nat} (hi : i < 64) (h : 4 * i + 4 ≤ (strB s).length) : be4 (strB s)[4 * i] (strB s)[4 * i + 1] (strB s)[4 * i + 2] (strB s)[4 * i + 3] = shaK[i]'hi := by
  have := roundsB ⟨i, hi⟩
  simp only [← hs, List.getD_eq_getElem?_getD] at this
  rw [List.getElem?_eq_getElem (by omega), List.getElem?_eq_getElem (by omega), List.getElem?_eq_getElem (by omega), List.getElem?_eq_getElem (by omega), List.getElem?_eq_getElem (show i < shaK.length from hi)] at this
  exact this
def addL (a b : List (BitVec 32)) : Nat → List (BitVec 32)
  | 0 => a
  | k + 1 => (addL a b k).set k (a.getD k 0 + b.getD k 0)
theorem addL_len (a b : List (BitVec 32)) : ∀ k, (addL a b k).length = a.length
  | 0 => rfl
  | k + 1 => by simp [addL, addL_len a b k]
theorem addL_get (a b : List (BitVec 32)) : ∀ (k j : Nat) (hj : j < a.length), k ≤ j → (addL a b k)[j]'(by rw [addL_len]; exact hj) = a[j]
  | 0, j, hj, _ => rfl
  | k + 1, j, hj, h => by
    simp only [addL]
    rw [List.getElem_set_ne (by omega)]
    exact addL_get a b k j hj (by omega)

set_option maxHeartbeats 2000000 in
/-- hash.block -/
theorem spec101 (ok : OkHash P F) (st : St) (h : V8) (s : ByteArray) (hs : (strB s).length = 64) : ACalls P (F 101) [.agg (cells8 h), .str s] st fun v st' => v = .agg (cells8 (blockM h (strB s))) := by
  refine shows_call ok.mixed ok.h101 (by simp [k101]) ?_
  simp only [k101]
  simp
  intro hid hhid
  have S := (Sep.new (L := []) (st := st) trivial hhid (.cells (cells8 h)))
  generalize st.upd hid _ = st1 at S ⊢
  intro rid hrid
  have S := S.new hrid (.cells [w32 0#32, w32 0#32, w32 0#32, w32 0#32, w32 0#32, w32 0#32, w32 0#32, w32 0#32])
  generalize st1.upd rid _ = st2 at S ⊢
  simp
  intro wid hwid
  have S := S.new hwid (.cells zR64_w320)
  generalize st2.upd wid _ = st3 at S ⊢
  rw [zR64_rep] at S
  simp
  obtain ⟨W, hW⟩ : ∃ W, W = words (strB s) := ⟨_, rfl⟩
  have hWl : W.length = 16 := by rw [hW, words_len, hs]
  refine vc_loopJ (fun k env' st' => ∃ i, i ≤ 16 ∧ k = 16 - i ∧ env' 21 = .int .i64 (i : Nat) ∧ Sep [pt wid (.cells ((W.take i ++ List.replicate (64 - (W.take i).length) (0#32)).map w32)), pt rid (.cells [w32 0#32, w32 0#32, w32 0#32, w32 0#32, w32 0#32, w32 0#32, w32 0#32, w32 0#32]), pt hid (.cells (cells8 h))] st') 16
    ⟨0, by omega, by omega, rfl, S⟩ ?_
  clear S
  rintro J hJ k env' st4 hsame ⟨i, hi, rfl, h21, S⟩
  have g1 : env' 1 = .str s := hsame.get 1 rfl
  have g2 : env' 2 = .ptr (some (hid, 0)) := hsame.get 2 rfl
  have g4 : env' 4 = .ptr (some (rid, 0)) := hsame.get 4 rfl
  have g5 : env' 5 = .ptr (some (wid, 0)) := hsame.get 5 rfl
  clear hsame
  have w2 : IntKind.i64.wrap ((i : Int) + 1) = (i : Int) + 1 := wrap64 (by omega) (by omega)
  have w4 : IntKind.i64.wrap (4 * (i : Int)) = 4 * (i : Int) := wrap64 (by omega) (by omega)
  by_cases hlt : i < 16
  · have hlt' : (i : Int) < 16 := by omega
    have hi64 : (i : Int) < 64 := by omega
    have htl : (W.take i).length = i := by simp; omega
    simp [g1, g2, g4, g5, h21, hlt', w4]
    have hsp : ACalls P (F 100) [.str s, .int .i64 (4 * (i : Int))] st4 _ := spec100 ok st4 s (i := 4 * i) (by omega) (by omega)
    refine hsp.mono ?_
    rintro v st5 ⟨rfl, rfl⟩
    have hwi : W[i] = be4 (strB s)[4 * i] (strB s)[4 * i + 1] (strB s)[4 * i + 2] (strB s)[4 * i + 3] := by
      have := words_get (strB s) i (by omega)
      rw [← this]
      congr 1
    rw [← hwi]
    obtain ⟨xs, hxs⟩ : ∃ xs, xs = W.take i ++ List.replicate (64 - (W.take i).length) (0#32) := ⟨_, rfl⟩
    have hxl : i < xs.length := by rw [hxs, htl]; simp; omega
    have hnx : xs.set i W[i] = W.take (i + 1) ++ List.replicate (64 - (W.take (i + 1)).length) (0#32) := by
      have hse := set_fill (W.take i) 64 0#32 W[i] (by omega)
      rw [hxs]
      rw [htl] at hse ⊢
      rw [hse, List.take_succ_eq_append_getElem (by omega), List.length_append, htl]
      rfl
    rw [← hxs] at S
    have hst := arr_store (f := w32) S.get hxl (x := W[i]) (v := w32 W[i]) rfl
    simp [-List.map_set, g5, idxArrV, hi64, hst, h21, w2]
    refine Round.mk (16 - (i + 1)) _ (by omega) (sub_self _) (hJ _ _ _ ⟨i + 1, by omega, rfl, by simp, ?_⟩)
    rw [← hnx]
    exact S.set _
  · have : i = 16 := by omega
    subst this
    rw [List.take_of_length_le (by omega)] at S
    simp [g1, g2, g4, g5, h21]
    clear hJ J
    refine vc_loopJ (fun k env' st' => ∃ i, i ≤ 48 ∧ k = 48 - i ∧ env' 7 = .int .i64 ((i : Int) + 16) ∧ Sep [pt wid (.cells ((sched W i ++ List.replicate (64 - (sched W i).length) (0#32)).map w32)), pt rid (.cells [w32 0#32, w32 0#32, w32 0#32, w32 0#32, w32 0#32, w32 0#32, w32 0#32, w32 0#32]), pt hid (.cells (cells8 h))] st') 48
      ⟨0, by omega, by omega, rfl, S⟩ ?_
    clear S
    rintro J hJ k env' st5 hsame ⟨i, hi, rfl, h7, S⟩
    have g1 : env' 1 = .str s := (hsame.get 1 rfl).trans g1
    have g2 : env' 2 = .ptr (some (hid, 0)) := (hsame.get 2 rfl).trans g2
    have g4 : env' 4 = .ptr (some (rid, 0)) := (hsame.get 4 rfl).trans g4
    have g5 : env' 5 = .ptr (some (wid, 0)) := (hsame.get 5 rfl).trans g5
    clear hsame
    have hsl := sched_len W i
    rw [hWl] at hsl
    by_cases hlt : i < 48
    · obtain ⟨xs, hxs⟩ : ∃ xs, xs = sched W i ++ List.replicate (64 - (sched W i).length) (0#32) := ⟨_, rfl⟩
      rw [← hxs] at S
      have hxl : xs.length = 64 := by rw [hxs]; simp; omega
      have hget : ∀ j (hj : j < 16 + i), xs[j] = (sched W i)[j] := fun j hj => by
        simp only [hxs]
        rw [List.getElem_append_left]
      have hD : ∀ j (hj : j < 16 + i), (sched W i).getD j 0 = xs[j] := fun j hj => by
        rw [hget j hj, List.getD_eq_getElem?_getD, List.getElem?_eq_getElem (by omega)]
        rfl
      have hnw : nextW (sched W i) = xs[i] + sg0 xs[i + 1] + xs[i + 9] + sg1 xs[i + 14] := by
        have e1 := hD i (by omega)
        have e2 := hD (i + 1) (by omega)
        have e3 := hD (i + 9) (by omega)
        have e4 := hD (i + 14) (by omega)
        rw [nextW, hsl, show 16 + i - 16 = i by omega, show 16 + i - 15 = i + 1 by omega, show 16 + i - 7 = i + 9 by omega, show 16 + i - 2 = i + 14 by omega]
        rw [e1, e2, e3, e4]
      have hnx : xs.set (i + 16) (nextW (sched W i)) = sched W (i + 1) ++ List.replicate (64 - (sched W (i + 1)).length) (0#32) := by
        have hse := set_fill (sched W i) 64 0#32 (nextW (sched W i)) (by omega)
        rw [hsl] at hse
        rw [hxs, hsl, show i + 16 = 16 + i by omega, hse, sched, List.length_append, hsl]
        rfl
      have r0 := arr_read (f := w32) S.get (i := i) (by omega)
      have r1 := arr_read (f := w32) S.get (i := i + 1) (by omega)
      have r9 := arr_read (f := w32) S.get (i := i + 9) (by omega)
      have r14 := arr_read (f := w32) S.get (i := i + 14) (by omega)
      have hst := arr_store (f := w32) S.get (i := i + 16) (by omega) (x := nextW (sched W i)) (v := w32 (nextW (sched W i))) rfl
      have b1 : IntKind.i64.wrap ((i : Int) + 16 - 15) = ((i + 1 : Nat) : Int) := by rw [wrap64 (by omega) (by omega)]; omega
      have b2 : IntKind.i64.wrap ((i : Int) + 16 - 2) = ((i + 14 : Nat) : Int) := by rw [wrap64 (by omega) (by omega)]; omega
      have b3 : IntKind.i64.wrap ((i : Int) + 16 - 16) = ((i : Nat) : Int) := by rw [wrap64 (by omega) (by omega)]; omega
      have b3' : IntKind.i64.wrap (i : Int) = (i : Int) := wrap64 (by omega) (by omega)
      have b4 : IntKind.i64.wrap ((i : Int) + 16 - 7) = ((i + 9 : Nat) : Int) := by rw [wrap64 (by omega) (by omega)]; omega
      have b5 : IntKind.i64.wrap ((i : Int) + 16 + 1) = (i : Int) + 17 := by rw [wrap64 (by omega) (by omega)]; omega
      have a1 := idxArr_ptr 64 wid (z := (i : Int) + 1) (j := i + 1) (by omega) (by omega)
      have a2 := idxArr_ptr 64 wid (z := (i : Int) + 14) (j := i + 14) (by omega) (by omega)
      have a3 := idxArr_ptr 64 wid (z := (i : Int)) (j := i) (by omega) (by omega)
      have a4 := idxArr_ptr 64 wid (z := (i : Int) + 9) (j := i + 9) (by omega) (by omega)
      have a5 := idxArr_ptr 64 wid (z := (i : Int) + 16) (j := i + 16) (by omega) (by omega)
      have hlt' : (i : Int) + 16 < 64 := by omega
      simp [g1, g2, g4, g5, h7, hlt', b1, b2, a1, a2, r1, r14]
      refine (spec102 ok _ xs[i + 1] (n := 7) (by omega) (by omega) rfl).mono ?_
      rintro v st6 ⟨rfl, rfl⟩
      simp
      refine (spec102 ok _ xs[i + 1] (n := 18) (by omega) (by omega) rfl).mono ?_
      rintro v st6 ⟨rfl, rfl⟩
      simp
      refine (spec102 ok _ xs[i + 14] (n := 17) (by omega) (by omega) rfl).mono ?_
      rintro v st6 ⟨rfl, rfl⟩
      simp
      refine (spec102 ok _ xs[i + 14] (n := 19) (by omega) (by omega) rfl).mono ?_
      rintro v st6 ⟨rfl, rfl⟩
      have e0 : ror xs[i + 1] 7 ^^^ ror xs[i + 1] 18 ^^^ xs[i + 1] >>> 3 = sg0 xs[i + 1] := rfl
      have e1 : ror xs[i + 14] 17 ^^^ ror xs[i + 14] 19 ^^^ xs[i + 14] >>> 10 = sg1 xs[i + 14] := rfl
      simp [-List.map_set, g5, h7, b3, b3', b4, b5, a3, a4, a5, r0, r9, e0, e1, ← hnw, hst]
      refine Round.mk (48 - (i + 1)) _ (show 48 - (i + 1) < 48 - i by omega) (sub_self _) (hJ _ _ _ ⟨i + 1, by omega, rfl, by simp; omega, ?_⟩)
      rw [← hnx]
      exact S.set _
    · have : i = 48 := by omega
      subst this
      obtain ⟨X, hX⟩ : ∃ X, X = sched W 48 := ⟨_, rfl⟩
      have hXl : X.length = 64 := by rw [hX, hsl]
      rw [← hX, hXl] at S
      simp only [Nat.sub_self, List.replicate_zero, List.append_nil] at S
      have oh := S.mem (i := hid) (o := .cells (cells8 h)) (by simp)
      have hcc : cells8 h = [w32 h.a, w32 h.b, w32 h.c, w32 h.d, w32 h.e, w32 h.f, w32 h.g, w32 h.h] := rfl
      have h64 : (48 : Int) + 16 = 64 := rfl
      simp [g1, g2, g4, g5, h7, St.seg, oh, hcc, segOf]
      intro vid hvid
      have S := S.new hvid (.cells (cells8 h))
      simp [storeS, spliceV]
      rw [hcc] at S
      generalize st5.upd vid _ = st6 at S ⊢
      rw [← hcc] at S
      clear hJ J
      refine vc_loopJ (fun k env' st' => ∃ i, i ≤ 64 ∧ k = 64 - i ∧ env' 75 = .int .i64 (i : Nat) ∧ Sep [pt vid (.cells (cells8 (rnds (shaK.take i) (X.take i) h))), pt wid (.cells (X.map w32)), pt rid (.cells [w32 0#32, w32 0#32, w32 0#32, w32 0#32, w32 0#32, w32 0#32, w32 0#32, w32 0#32]), pt hid (.cells (cells8 h))] st') 64
        ⟨0, by omega, by omega, rfl, S⟩ ?_
      clear S
      rintro J hJ k env' st7 hsame ⟨i, hi, rfl, h75, S⟩
      have g2 : env' 2 = .ptr (some (hid, 0)) := (hsame.get 2 rfl).trans g2
      have g4 : env' 4 = .ptr (some (rid, 0)) := (hsame.get 4 rfl).trans g4
      have g5 : env' 5 = .ptr (some (wid, 0)) := (hsame.get 5 rfl).trans g5
      have g12 : env' 12 = .ptr (some (vid, 0)) := hsame.get 12 rfl
      clear hsame
      have w2 : IntKind.i64.wrap ((i : Int) + 1) = (i : Int) + 1 := wrap64 (by omega) (by omega)
      have w4 : IntKind.i64.wrap (4 * (i : Int)) = 4 * (i : Int) := wrap64 (by omega) (by omega)
      obtain ⟨v, hv⟩ : ∃ v, v = rnds (shaK.take i) (X.take i) h := ⟨_, rfl⟩
      rw [← hv] at S
      have ov : st7 vid = some (.cells [w32 v.a, w32 v.b, w32 v.c, w32 v.d, w32 v.e, w32 v.f, w32 v.g, w32 v.h]) := S.get
      by_cases hlt : i < 64
      · have hlt' : (i : Int) < 64 := by omega
        simp [g2, g4, g5, g12, h75, hlt', idxArrV, St.seg, segOf, ov]
        refine (spec102 ok _ v.e (n := 6) (by omega) (by omega) rfl).mono ?_
        rintro y st8 ⟨rfl, rfl⟩
        simp
        refine (spec102 ok _ v.e (n := 11) (by omega) (by omega) rfl).mono ?_
        rintro y st8 ⟨rfl, rfl⟩
        simp
        refine (spec102 ok _ v.e (n := 25) (by omega) (by omega) rfl).mono ?_
        rintro y st8 ⟨rfl, rfl⟩
        have e1 : ror v.e 6 ^^^ ror v.e 11 ^^^ ror v.e 25 = bg1 v.e := rfl
        have rw0 := arr_read (f := w32) S.swap.get (i := i) (by omega)
        simp only [St.seg] at rw0
        simp [g2, g4, g5, g12, h75, hlt', idxArrV, St.seg, segOf, ov, w4, e1]
        have hk : strB ⟨⟨kBytes⟩⟩ = kBytes := rfl
        have hkl : kBytes.length = 256 := rfl
        have hw : ACalls P (F 100) [.str ⟨⟨kBytes⟩⟩, .int .i64 (4 * (i : Int))] st8 fun v' st' => v' = w32 (shaK[i]'hlt) ∧ st' = st8 := by
          have := spec100 ok st8 ⟨⟨kBytes⟩⟩ (i := 4 * i) (by rw [hk, hkl]; omega) (by rw [hk, hkl]; omega)
          rwa [rounds_at .i64 hk hlt] at this
        refine still_call _ _ _ _ (v := w32 (shaK[i]'hlt)) (by simp; exact hw) ?_
        simp [idxArrV, hlt', rw0, St.seg]
        refine (spec102 ok _ v.a (n := 2) (by omega) (by omega) rfl).mono ?_
        rintro y st9 ⟨rfl, rfl⟩
        simp
        refine (spec102 ok _ v.a (n := 13) (by omega) (by omega) rfl).mono ?_
        rintro y st9 ⟨rfl, rfl⟩
        simp
        refine (spec102 ok _ v.a (n := 22) (by omega) (by omega) rfl).mono ?_
        rintro y st9 ⟨rfl, rfl⟩
        have e0 : ror v.a 2 ^^^ ror v.a 13 ^^^ ror v.a 22 = bg0 v.a := rfl
        obtain ⟨t, ht⟩ : ∃ t, t = v.h + bg1 v.e + (v.e &&& v.f ^^^ ~~~v.e &&& v.g) + (shaK[i]'hlt) + X[i] := ⟨_, rfl⟩
        have hnx : rnds (shaK.take (i + 1)) (X.take (i + 1)) h = ⟨t + bg0 v.a + (v.a &&& v.b ^^^ v.a &&& v.c ^^^ v.b &&& v.c), v.a, v.b, v.c, v.d + t, v.e, v.f, v.g⟩ := by
          have hkl : shaK.length = 64 := rfl
          rw [List.take_succ_eq_append_getElem (show i < shaK.length from hlt), List.take_succ_eq_append_getElem (by omega), rnds_snoc _ _ _ _ _ (by simp; omega), ← hv, ht]
          rfl
        simp [g2, g4, g5, g12, idxArrV, St.seg, segOf, ov, e0, fillV, spliceV, ← ht, h75, w2, storeS]
        refine Round.mk (64 - (i + 1)) _ (show 64 - (i + 1) < 64 - i by omega) (sub_self _) (hJ _ _ _ ⟨i + 1, by omega, rfl, by simp, ?_⟩)
        rw [hnx]
        exact S.set _
      · have : i = 64 := by omega
        subst this
        have hkl : shaK.length = 64 := rfl
        rw [List.take_of_length_le (by omega), List.take_of_length_le (by omega)] at hv
        have hfin : blockM h (strB s) = addV h v := by rw [blockM, ← hW, ← hX, ← hv]
        rw [hfin]
        simp [g2, g4, g12, h75]
        clear hJ J ov
        have S : Sep [pt hid (.cells (cells8 h)), pt vid (.cells (cells8 v)), pt rid (.cells [w32 0#32, w32 0#32, w32 0#32, w32 0#32, w32 0#32, w32 0#32, w32 0#32, w32 0#32])] st7 := Sep.tail (fun r hr => Sep.tail (fun r hr => hr.drop) hr) (Sep.pull 3 _ S)
        refine vc_loopJ (fun k env' st' => ∃ i, i ≤ 8 ∧ k = 8 - i ∧ env' 159 = .int .i64 (i : Nat) ∧ Sep [pt hid (.cells ((addL h.list v.list i).map w32)), pt vid (.cells (cells8 v)), pt rid (.cells [w32 0#32, w32 0#32, w32 0#32, w32 0#32, w32 0#32, w32 0#32, w32 0#32, w32 0#32])] st') 8
          ⟨0, by omega, by omega, rfl, S⟩ ?_
        clear S
        rintro J hJ k env' st7 hsame ⟨i, hi, rfl, h159, S⟩
        have g2 : env' 2 = .ptr (some (hid, 0)) := (hsame.get 2 rfl).trans g2
        have g4 : env' 4 = .ptr (some (rid, 0)) := (hsame.get 4 rfl).trans g4
        have g12 : env' 12 = .ptr (some (vid, 0)) := (hsame.get 12 rfl).trans g12
        clear hsame
        have w2 : IntKind.i64.wrap ((i : Int) + 1) = (i : Int) + 1 := wrap64 (by omega) (by omega)
        have l1 : h.list.length = 8 := rfl
        have l2 : v.list.length = 8 := rfl
        have l3 := addL_len h.list v.list i
        by_cases hlt : i < 8
        · have hlt' : (i : Int) < 8 := by omega
          have d1 : (addL h.list v.list i)[i]'(by omega) = h.list.getD i 0 := by
            rw [addL_get _ _ _ _ (by omega) (Nat.le_refl _), List.getD_eq_getElem?_getD, List.getElem?_eq_getElem (by omega)]
            rfl
          have d2 : v.list[i]'(by omega) = v.list.getD i 0 := by
            rw [List.getD_eq_getElem?_getD, List.getElem?_eq_getElem (by omega)]
            rfl
          obtain ⟨A, hA⟩ : ∃ A, A = h.list.getD i 0 := ⟨_, rfl⟩
          obtain ⟨B, hB⟩ : ∃ B, B = v.list.getD i 0 := ⟨_, rfl⟩
          have r1 : st7.seg hid i 1 = some [w32 A] := (arr_read (f := w32) S.get (i := i) (by omega)).trans (congrArg (fun z => some [w32 z]) (d1.trans hA.symm))
          have r2 : st7.seg vid i 1 = some [w32 B] := (arr_read (f := w32) (xs := v.list) S.swap.get (i := i) (by omega)).trans (congrArg (fun z => some [w32 z]) (d2.trans hB.symm))
          have a1 := idxArr_ptr 8 hid (z := (i : Int)) (j := i) rfl hlt
          have a2 := idxArr_ptr 8 vid (z := (i : Int)) (j := i) rfl hlt
          have hst := arr_store (f := w32) S.get (i := i) (by omega) (x := A + B) (v := w32 (A + B)) rfl
          simp [-List.map_set, g2, g4, g12, h159, hlt', a1, a2, r1, r2, hst, w2]
          refine Round.mk (8 - (i + 1)) _ (show 8 - (i + 1) < 8 - i by omega) (sub_self _) (hJ _ _ _ ⟨i + 1, by omega, rfl, by simp, ?_⟩)
          have e : addL h.list v.list (i + 1) = (addL h.list v.list i).set i (A + B) := by
            rw [hA, hB, addL]
          rw [e]
          exact S.set _
        · have : i = 8 := by omega
          subst this
          have oh := S.get
          have or := S.mem (i := rid) (o := .cells [w32 0#32, w32 0#32, w32 0#32, w32 0#32, w32 0#32, w32 0#32, w32 0#32, w32 0#32]) (by simp)
          have e : (addL h.list v.list 8).map w32 = cells8 (addV h v) := rfl
          rw [e] at oh
          have hc : cells8 (addV h v) = [w32 (addV h v).a, w32 (addV h v).b, w32 (addV h v).c, w32 (addV h v).d, w32 (addV h v).e, w32 (addV h v).f, w32 (addV h v).g, w32 (addV h v).h] := rfl
          rw [hc] at oh ⊢
          simp [g2, g4, g12, h159, St.seg, oh, or, segOf, storeS, spliceV]
          exact ⟨_, sub_self _⟩
end
end Go.Ab

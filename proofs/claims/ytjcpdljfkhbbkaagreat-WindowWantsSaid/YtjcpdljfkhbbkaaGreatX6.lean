import Derived.Test.YtjcpdljfkhbbkaaGreatX5
import Derived.Test.YtjcpdljfkhbbkaaGreatX4
import Derived.Deep.Slices
import Derived.OpenShut
set_option linter.unusedVariables false
namespace Go.Ab
open Go
def k279 (F : Fn) : PF := PF.mk 9 1 [(.t 2)] (.seq (.ops [(po 2 (.mv (.k (.int .i64 0))))]) (.seq (.ops [(pm 3 0), (po 4 (.nilck (.t 3))), (po 5 (.fldA 1 (.t 4))), (po 6 (.load false 1 (.t 5))), (po 7 (.bin .shl (.k (.int .i64 20)) (.t 6))), (po 8 (.min [(.k (.int .i64 160)), (.t 7)])), (pm 2 8)]) .ret))
def k280 (F : Fn) : PF := PF.mk 8 1 [(.t 2)] (.seq (.ops [(po 2 (.mv (.k (.int .i64 0))))]) (.seq (.ops [(pm 3 0), (po 4 (.nilck (.t 3))), (po 5 (.fldA 0 (.t 4))), (po 6 (.load false 1 (.t 5))), (po 7 (.lenMap (.t 6))), (pm 2 7)]) .ret))
def k281 (F : Fn) : PF := PF.mk 24 2 [(.t 4)] (.seq (.ops [(po 4 (.mv (.k (.int .i64 0))))]) (.seq (.ops [(po 5 (.mv (.k (.int .i64 0))))]) (.seq (.seq (.ops [(pm 8 0), (po 9 (.nilck (.t 8))), (po 10 (.fldA 0 (.t 9))), (po 11 (.load false 1 (.t 10))), (po 12 (.rngMap (.t 11)))]) (.block 0 (.loop (.seq (.ops [(po 13 (.nextMap (.t 12))), (po 14 (.ext 0 (.t 13)))]) (.seq (.cond (.t 14) .skip (.exit 0)) (.block 1 (.seq (.ops [(po 15 (.entry (.t 12))), (po 16 (.ext 1 (.t 15))), (po 7 (.alloc [(.int .i64 0), (.int .i64 0)])), (PO.mk none (.store 2 (.t 7) (.t 16)) none)]) (.seq (.ops [(po 17 (.fldA 0 (.t 7))), (po 18 (.load false 1 (.t 17))), (pm 19 1), (po 20 (.bin .eql (.t 18) (.t 19)))]) (.cond (.t 20) (.ops [(pm 21 5), (po 22 (.bin .add (.t 21) (.k (.int .i64 1)))), (pm 5 22)]) .skip))))))))) (.seq (.seq (.frz [11]) (.ops [(pm 23 5), (pm 4 23)])) .ret))))
def k282 (F : Fn) : PF := PF.mk 20 2 [(.t 4), (.t 5)] (.seq (.ops [(po 4 (.mv (.k (.int .i64 0)))), (po 5 (.mv (.k (.bool false))))]) (.seq (.ops [(pm 9 0), (po 10 (.nilck (.t 9))), (po 11 (.fldA 0 (.t 10))), (po 12 (.load false 1 (.t 11))), (pm 13 1), (po 14 (.lookup .int (.agg [(.int .i64 0), (.int .i64 0)]) true (.t 12) (.t 13))), (pm 8 14), (po 15 (.ext 0 (.t 8))), (po 16 (.ext 1 (.t 8))), (po 6 (.alloc [(.int .i64 0), (.int .i64 0)])), (PO.mk none (.store 2 (.t 6) (.t 15)) none), (pm 7 16)]) (.seq (.ops [(po 17 (.fldA 0 (.t 6))), (po 18 (.load false 1 (.t 17))), (pm 19 7), (pm 4 18), (pm 5 19)]) .ret)))
def k283 (F : Fn) : PF := PF.mk 42 4 [(.t 8)] (.seq (.ops [(po 8 (.mv (.k (.int .i64 0))))]) (.seq (.seq (.ops [(pm 12 0), (po 13 (.nilck (.t 12))), (po 14 (.fldA 0 (.t 13))), (po 15 (.load false 1 (.t 14))), (pm 16 1), (po 17 (.lookup .int (.agg [(.int .i64 0), (.int .i64 0)]) true (.t 15) (.t 16))), (pm 11 17), (po 18 (.ext 0 (.t 11))), (po 19 (.ext 1 (.t 11))), (po 9 (.alloc [(.int .i64 0), (.int .i64 0)])), (PO.mk none (.store 2 (.t 9) (.t 18)) none), (pm 10 19)]) (.seq (.ops [(pm 20 10)]) (.cond (.t 20) (.seq (.ops [(po 8 (.mv (.k (.int .i64 5))))]) .ret) .skip))) (.seq (.seq (.ops [(pm 21 0), (pm 22 2), (po 23 (.call (F 281) [(.t 21), (.t 22)])), (po 24 (.bin .geq (.t 23) (.k (.int .i64 16))))]) (.cond (.t 24) (.seq (.ops [(po 8 (.mv (.k (.int .i64 3))))]) .ret) .skip)) (.seq (.seq (.ops [(pm 25 0), (po 26 (.nilck (.t 25))), (po 27 (.fldA 0 (.t 26))), (po 28 (.load false 1 (.t 27))), (po 29 (.eqa .map false (.t 28) (.k (.map none))))]) (.cond (.t 29) (.ops [(pm 30 0), (PO.mk (some 31) POp.mkmap none), (po 32 (.nilck (.t 30))), (po 33 (.fldA 0 (.t 32))), (PO.mk none (.store 1 (.t 33) (.t 31)) none)]) .skip)) (.seq (.ops [(pm 34 0), (po 35 (.nilck (.t 34))), (po 36 (.fldA 0 (.t 35))), (po 37 (.load false 1 (.t 36))), (pm 38 1), (pm 39 2), (pm 40 3), (po 41 (.build [(.int .i64 0), (.int .i64 0)] [(0, (1, (.t 39))), (1, (1, (.t 40)))])), (PO.mk none (.mset .int (.t 37) (.t 38) (.t 41)) none)]) (.seq (.ops [(po 8 (.mv (.k (.int .i64 0))))]) .ret))))))
def k288 (F : Fn) : PF := PF.mk 50 2 [(.t 4), (.t 5)] (.seq (.ops [(po 4 (.mv (.k (.int .i64 0)))), (po 5 (.mv (.k (.bool false))))]) (.seq (.ops [(po 6 (.mv (.k (.int .i64 0)))), (po 7 (.mv (.k (.bool false))))]) (.seq (.seq (.ops [(pm 10 0), (po 11 (.nilck (.t 10))), (po 12 (.fldA 0 (.t 11))), (po 13 (.load false 1 (.t 12))), (po 14 (.rngMap (.t 13)))]) (.block 0 (.loop (.seq (.ops [(po 15 (.nextMap (.t 14))), (po 16 (.ext 0 (.t 15)))]) (.seq (.cond (.t 16) .skip (.exit 0)) (.block 1 (.seq (.ops [(po 17 (.entry (.t 14))), (po 18 (.ext 1 (.t 17))), (po 9 (.alloc [(.int .i64 0), (.int .i64 0)])), (PO.mk none (.store 2 (.t 9) (.t 18)) none)]) (.seq (.draw [(.e, (pm 19 1)), (.e, (po 20 (.fldA 1 (.t 9)))), (.e, (pm 23 0)), (.s, (po 21 (.load false 1 (.t 20)))), (.e, (po 22 (.bin .sub (.t 19) (.t 21)))), (.s, (po 24 (.call (F 279) [(.t 23)]))), (.e, (po 25 (.bin .geq (.t 22) (.t 24)))), (.e, (pm 26 25)), (.e, (PO.mk (some 27) (.mv (.t 7)) (some (26, true)))), (.e, (PO.mk (some 28) (.not (.t 27)) (some (26, true)))), (.e, (PO.mk (some 29) (.mv (.t 28)) (some (26, true)))), (.e, (PO.mk (some 30) (.fldA 0 (.t 9)) (some (29, false)))), (.e, (PO.mk (some 32) (.mv (.t 6)) (some (29, false)))), (.s, (PO.mk (some 31) (.load false 1 (.t 30)) (some (29, false)))), (.e, (PO.mk (some 33) (.bin .lss (.t 31) (.t 32)) (some (29, false)))), (.e, (PO.mk (some 34) (.pick (.t 29) (.k (.bool true)) (.t 33)) (some (26, true)))), (.e, (po 35 (.pick (.t 26) (.t 34) (.k (.bool false)))))]) (.cond (.t 35) (.ops [(po 36 (.fldA 0 (.t 9))), (po 37 (.load false 1 (.t 36))), (pm 6 37), (po 7 (.mv (.k (.bool true))))]) .skip))))))))) (.seq (.seq (.seq (.frz [13]) (.ops [(pm 38 7)])) (.cond (.t 38) (.ops [(pm 39 0), (pm 40 0), (po 41 (.nilck (.t 40))), (po 42 (.fldA 1 (.t 41))), (po 43 (.load false 1 (.t 42))), (po 44 (.bin .add (.t 43) (.k (.int .i64 1)))), (po 45 (.min [(.t 44), (.k (.int .i64 3))])), (po 46 (.nilck (.t 39))), (po 47 (.fldA 1 (.t 46))), (PO.mk none (.store 1 (.t 47) (.t 45)) none)]) .skip)) (.seq (.ops [(pm 48 6), (pm 49 7), (pm 4 48), (pm 5 49)]) .ret)))))
def k289 (F : Fn) : PF := PF.mk 110 4 [(.t 8)] (.seq (.ops [(po 8 (.mv (.k (.sl .nil [] 0))))]) (.seq (.seq (.ops [(pm 17 3), (po 18 (.bin .lss (.t 17) (.k (.int .i64 0)))), (pm 19 18), (PO.mk (some 20) (.mv (.t 3)) (some (19, false))), (PO.mk (some 21) (.mv (.t 1)) (some (19, false))), (PO.mk (some 22) (.nilck (.t 21)) (some (19, false))), (PO.mk (some 23) (.fldA 0 (.t 22)) (some (19, false))), (PO.mk (some 24) (.load false 1 (.t 23)) (some (19, false))), (PO.mk (some 25) (.call (F 159) [(.t 24)]) (some (19, false))), (PO.mk (some 26) (.bin .geq (.t 20) (.t 25)) (some (19, false))), (po 27 (.pick (.t 19) (.k (.bool true)) (.t 26))), (pm 28 27), (PO.mk (some 29) (.mv (.t 1)) (some (28, false))), (PO.mk (some 30) (.nilck (.t 29)) (some (28, false))), (PO.mk (some 31) (.fldA 0 (.t 30)) (some (28, false))), (PO.mk (some 32) (.load false 1 (.t 31)) (some (28, false))), (PO.mk (some 33) (.mv (.t 3)) (some (28, false))), (PO.mk (some 34) (.call (F 161) [(.t 32), (.t 33)]) (some (28, false))), (PO.mk (some 35) (.fld false 107 1 (.t 34)) (some (28, false))), (po 36 (.pick (.t 28) (.k (.bool true)) (.t 35)))]) (.cond (.t 36) (.seq (.ops [(po 8 (.mv (.k (.sl .nil [] 0))))]) .ret) .skip)) (.seq (.draw [(.e, (pm 37 1)), (.e, (po 38 (.nilck (.t 37)))), (.e, (po 39 (.fldA 0 (.t 38)))), (.e, (pm 41 1)), (.s, (po 40 (.load false 1 (.t 39)))), (.s, (po 42 (.call (F 266) [(.t 41)]))), (.s, (po 43 (.call (F 161) [(.t 40), (.t 42)]))), (.e, (po 44 (.fld false 102 1 (.t 43)))), (.e, (po 45 (.bin .add (.t 44) (.k (.int .i64 1024))))), (.e, (pm 9 45))]) (.seq (.draw [(.e, (pm 46 1)), (.e, (po 47 (.nilck (.t 46)))), (.e, (po 48 (.fldA 0 (.t 47)))), (.e, (pm 50 1)), (.e, (pm 52 3)), (.s, (po 49 (.load false 1 (.t 48)))), (.s, (po 51 (.call (F 266) [(.t 50)]))), (.s, (po 53 (.call (F 228) [(.t 49), (.t 51), (.t 52)]))), (.e, (pm 10 53))]) (.seq (.ops [(pm 54 0), (pm 55 2), (po 56 (.call (F 281) [(.t 54), (.t 55)])), (po 57 (.bin .sub (.k (.int .i64 16)) (.t 56))), (pm 11 57)]) (.seq (.ops [(po 12 (.mv (.k (.sl .nil [] 0))))]) (.seq .skip (.seq (.seq (.ops [(pm 58 1), (po 59 (.nilck (.t 58))), (po 60 (.fldA 0 (.t 59))), (po 61 (.load false 1 (.t 60))), (pm 62 10), (pm 63 3), (po 64 (.call (F 229) [(.t 61), (.t 62), (.t 63)])), (po 65 (.lenSl (.t 64))), (po 66 (.mv (.k (.int .i64 0))))]) (.block 0 (.loop (.seq (.ops [(po 67 (.bin .lss (.t 66) (.t 65)))]) (.seq (.cond (.t 67) .skip (.exit 0)) (.seq (.block 1 (.seq (.ops [(po 68 (.idxSl 1 (.t 64) (.t 66))), (po 69 (.load false 1 (.t 68))), (pm 14 69)]) (.seq (.ops [(pm 71 0), (po 72 (.nilck (.t 71))), (po 73 (.fldA 0 (.t 72))), (po 74 (.load false 1 (.t 73))), (pm 75 14), (po 76 (.lookup .int (.agg [(.int .i64 0), (.int .i64 0)]) true (.t 74) (.t 75))), (pm 70 76), (po 77 (.ext 0 (.t 70))), (po 78 (.ext 1 (.t 70))), (po 15 (.alloc [(.int .i64 0), (.int .i64 0)])), (PO.mk none (.store 2 (.t 15) (.t 77)) none), (pm 16 78)]) (.block 2 (.seq (.ops [(pm 80 12), (po 81 (.lenSl (.t 80))), (pm 82 11), (po 83 (.bin .geq (.t 81) (.t 82))), (pm 84 83), (PO.mk (some 85) (.mv (.t 1)) (some (84, false))), (PO.mk (some 86) (.nilck (.t 85)) (some (84, false))), (PO.mk (some 87) (.fldA 0 (.t 86)) (some (84, false))), (PO.mk (some 88) (.load false 1 (.t 87)) (some (84, false))), (PO.mk (some 89) (.mv (.t 14)) (some (84, false))), (PO.mk (some 90) (.call (F 161) [(.t 88), (.t 89)]) (some (84, false))), (PO.mk (some 91) (.fld false 102 1 (.t 90)) (some (84, false))), (PO.mk (some 92) (.mv (.t 9)) (some (84, false))), (PO.mk (some 93) (.bin .gtr (.t 91) (.t 92)) (some (84, false))), (po 94 (.pick (.t 84) (.k (.bool true)) (.t 93))), (pm 79 94)]) (.cond (.t 79) (.exit 0) (.seq (.ops [(pm 96 16), (po 97 (.not (.t 96))), (pm 98 97), (PO.mk (some 99) (.mv (.t 1)) (some (98, true))), (PO.mk (some 100) (.mv (.t 14)) (some (98, true))), (PO.mk (some 101) (.call (F 268) [(.t 99), (.t 100)]) (some (98, true))), (PO.mk (some 102) (.not (.t 101)) (some (98, true))), (po 103 (.pick (.t 98) (.t 102) (.k (.bool false)))), (pm 95 103)]) (.cond (.t 95) (.ops [(pm 104 12), (pm 105 14), (po 106 (.bsl false 1 1 [(.int .i64 0)] [(0, (1, (.t 105)))])), (po 107 (.app 1 8 (.t 104) (.t 106))), (pm 12 107)]) .skip)))))))) (.ops [(po 108 (.bin .add (.t 66) (.k (.int .i64 1)))), (pm 66 108)]))))))) (.seq (.ops [(pm 109 12), (pm 8 109)]) .ret)))))))))
structure OkWindow (P : Program) (F : Fn) : Prop where
  mixed : P.follows .mixedOrders = true
  toOkChain : OkChain P F
  h279 : compFn P ⟨[], [], [], [], []⟩ (F 279) = some (k279 F)
  h280 : compFn P ⟨[], [], [], [], []⟩ (F 280) = some (k280 F)
  h281 : compFn P ⟨[], [], [(7, [11])], [], []⟩ (F 281) = some (k281 F)
  h282 : compFn P ⟨[], [], [], [], []⟩ (F 282) = some (k282 F)
  h283 : compFn P ⟨[], [], [], [], []⟩ (F 283) = some (k283 F)
  h288 : compFn P ⟨[], [], [(7, [13])], [], []⟩ (F 288) = some (k288 F)
  h289 : compFn P ⟨[], [], [], [], []⟩ (F 289) = some (k289 F)
end Go.Ab
set_option linter.unusedVariables false
namespace Go.Ab
open Go
def k290 (F : Fn) : PF := PF.mk 11 1 [(PR.cell 2 true 2)] (.seq (.ops [(po 2 (.alloc [(.sl .nil [] 0), (.sl .nil [] 0)]))]) (.seq (.ops [(po 3 (.call (F 197) [])), (pm 4 0), (po 5 (.bsl false 1 1 [(w8 0)] [(0, (1, (.t 4)))])), (po 6 (.build z34_1838 [(0, (33, (.t 3))), (33, (1, (.t 5)))])), (po 7 (.bsl false 34 1 z34_1838 [(0, (34, (.t 6)))])), (po 8 (.build z33_0be4 [(0, (1, (.k (.int .i64 50))))])), (po 9 (.bsl false 33 1 z33_0be4 [(0, (33, (.t 8)))])), (po 10 (.build [(.sl .nil [] 0), (.sl .nil [] 0)] [(0, (1, (.t 7))), (1, (1, (.t 9)))])), (PO.mk none (.store 2 (.t 2) (.t 10)) none)]) .ret))
def k291 (F : Fn) : PF := PF.mk 113 1 [(.t 2), (.t 3)] (.seq (.ops [(po 2 (.mv (.k (.ptr none)))), (po 3 (.mv (.k (.sl .nil [] 0))))]) (.seq (.ops [(po 13 (.build z68_39b1 [(66, (1, (.k (w32 545259519))))])), (po 14 (.call (F 290) [(.k (w8 0))])), (po 15 (.bsl false 2 1 [(.sl .nil [] 0), (.sl .nil [] 0)] [(0, (2, (.t 14)))])), (po 16 (.build z69_adc1 [(0, (68, (.t 13))), (68, (1, (.t 15)))])), (po 4 (.alloc z69_adc1)), (PO.mk none (.store 69 (.t 4) (.t 16)) none)]) (.seq (.ops [(po 18 (.fldA 68 (.t 4))), (po 19 (.load false 1 (.t 18))), (po 20 (.call (F 192) [(.t 19)])), (pm 17 20), (po 21 (.ext 0 (.t 17))), (po 22 (.ext 1 (.t 17))), (po 23 (.fldA 0 (.t 4))), (po 24 (.fldA 33 (.t 23))), (PO.mk none (.store 32 (.t 24) (.t 21)) none)]) (.seq (.ops [(po 26 (.load true 69 (.t 4))), (po 27 (.build z74_2f53 [(0, (1, (.k (w32 545259519)))), (2, (1, (.k (.int .i64 10)))), (3, (1, (.k (.int .i64 50)))), (5, (69, (.t 26)))])), (po 28 (.call (F 265) [(.t 27)])), (pm 25 28), (po 29 (.ext 0 (.t 25))), (po 30 (.ext 1 (.t 25))), (pm 5 29), (pm 6 30)]) (.seq (.seq (.ops [(pm 31 5), (po 32 (.eqa .ptr false (.t 31) (.k (.ptr none)))), (pm 33 32), (PO.mk (some 34) (.mv (.t 6)) (some (33, false))), (PO.mk (some 35) (.bin .neq (.t 34) (.k (.int .i64 0))) (some (33, false))), (po 36 (.pick (.t 33) (.k (.bool true)) (.t 35)))]) (.cond (.t 36) (.seq (.ops [(po 2 (.mv (.k (.ptr none)))), (po 3 (.mv (.k (.sl .nil [] 0))))]) .ret) .skip)) (.seq (.ops [(po 37 (.load true 69 (.t 4))), (po 38 (.bsl false 69 1 z69_adc1 [(0, (69, (.t 37)))])), (pm 7 38)]) (.seq (.seq (.ops [(pm 39 0), (po 40 (.lenSl (.t 39))), (po 41 (.mv (.k (.int .i64 0))))]) (.block 0 (.loop (.seq (.ops [(po 42 (.bin .lss (.t 41) (.t 40)))]) (.seq (.cond (.t 42) .skip (.exit 0)) (.seq (.block 1 (.seq (.ops [(pm 43 41), (po 44 (.idxSl 1 (.t 39) (.t 41))), (po 45 (.load false 1 (.t 44))), (pm 8 43), (pm 9 45)]) (.seq (.ops [(pm 46 9), (pm 47 5), (po 48 (.nilck (.t 47))), (po 49 (.fldA 0 (.t 48))), (po 50 (.load false 1 (.t 49))), (po 51 (.call (F 159) [(.t 50)])), (po 52 (.bin .sub (.t 51) (.k (.int .i64 1)))), (po 53 (.min [(.t 46), (.t 52)])), (po 54 (.max [(.k (.int .i64 0)), (.t 53)])), (pm 9 54)]) (.seq (.ops [(pm 55 8), (po 56 (.bin .add (.t 55) (.k (.int .i64 1)))), (po 57 (.conv .u8 (.t 56))), (po 58 (.call (F 290) [(.t 57)])), (po 59 (.bsl false 2 1 [(.sl .nil [] 0), (.sl .nil [] 0)] [(0, (2, (.t 58)))])), (po 60 (.build z69_adc1 [(68, (1, (.t 59)))])), (po 10 (.alloc z69_adc1)), (PO.mk none (.store 69 (.t 10) (.t 60)) none)]) (.seq (.draw [(.e, (pm 61 5)), (.e, (po 62 (.nilck (.t 61)))), (.e, (po 63 (.fldA 0 (.t 62)))), (.e, (pm 65 9)), (.e, (pm 68 5)), (.e, (po 69 (.nilck (.t 68)))), (.e, (po 70 (.fldA 0 (.t 69)))), (.e, (pm 72 9)), (.s, (po 64 (.load false 1 (.t 63)))), (.s, (po 66 (.call (F 161) [(.t 64), (.t 65)]))), (.e, (po 67 (.fld true 68 32 (.t 66)))), (.s, (po 71 (.load false 1 (.t 70)))), (.s, (po 73 (.call (F 161) [(.t 71), (.t 72)]))), (.e, (po 74 (.fld true 0 68 (.t 73)))), (.e, (po 75 (.fld false 65 1 (.t 74)))), (.e, (po 76 (.bin .add (.t 75) (.k (w32 1))))), (.e, (po 77 (.build z68_39b1 [(1, (32, (.t 67))), (65, (1, (.t 76))), (66, (1, (.k (w32 545259519))))]))), (.e, (po 78 (.fldA 0 (.t 10)))), (.x, (PO.mk none (.store 68 (.t 78) (.t 77)) none))]) (.seq (.ops [(po 80 (.fldA 68 (.t 10))), (po 81 (.load false 1 (.t 80))), (po 82 (.call (F 192) [(.t 81)])), (pm 79 82), (po 83 (.ext 0 (.t 79))), (po 84 (.ext 1 (.t 79))), (po 85 (.fldA 0 (.t 10))), (po 86 (.fldA 33 (.t 85))), (PO.mk none (.store 32 (.t 86) (.t 83)) none)]) (.seq (.ops [(po 88 (.fldA 0 (.t 10))), (po 89 (.load true 68 (.t 88))), (po 90 (.call (F 143) [(.t 89), (.k (w32 545259519)), (.k (.int .i64 1000))])), (pm 87 90), (po 91 (.ext 0 (.t 87))), (po 92 (.ext 1 (.t 87))), (po 93 (.fldA 0 (.t 10))), (PO.mk none (.store 68 (.t 93) (.t 91)) none)]) (.seq (.draw [(.e, (pm 95 5)), (.e, (po 96 (.nilck (.t 95)))), (.e, (po 97 (.fldA 0 (.t 96)))), (.e, (po 99 (.fldA 0 (.t 10)))), (.s, (po 98 (.load false 1 (.t 97)))), (.s, (po 100 (.load true 68 (.t 99)))), (.x, (po 101 (.call (F 169) [(.t 98), (.t 100), (.k (.int .i64 1099511627776))]))), (.e, (pm 94 101)), (.e, (po 102 (.ext 0 (.t 94)))), (.e, (po 103 (.ext 1 (.t 94)))), (.e, (pm 11 102)), (.e, (pm 12 103))]) (.seq (.ops [(pm 104 12), (po 105 (.bin .eql (.t 104) (.k (.int .i64 0))))]) (.cond (.t 105) (.ops [(pm 106 7), (po 107 (.load true 69 (.t 10))), (po 108 (.bsl false 69 1 z69_adc1 [(0, (69, (.t 107)))])), (po 109 (.app 69 104 (.t 106) (.t 108))), (pm 7 109)]) .skip)))))))))) (.ops [(po 110 (.bin .add (.t 41) (.k (.int .i64 1)))), (pm 41 110)]))))))) (.seq (.ops [(pm 111 5), (pm 112 7), (pm 2 111), (pm 3 112)]) .ret))))))))
def k292 (F : Fn) : PF := PF.mk 93 0 [(.t 0)] (.seq (.ops [(po 0 (.mv (.k (.bool false))))]) (.seq (.ops [(po 12 (.bsl false 1 2 [(.int .i64 0)] [(0, (1, (.k (.int .i64 0)))), (1, (1, (.k (.int .i64 1))))])), (po 13 (.call (F 291) [(.t 12)])), (pm 11 13), (po 14 (.ext 0 (.t 11))), (po 15 (.ext 1 (.t 11))), (pm 1 14), (pm 2 15)]) (.seq (.seq (.ops [(pm 16 1), (po 17 (.eqa .ptr false (.t 16) (.k (.ptr none)))), (pm 18 17), (PO.mk (some 19) (.mv (.t 1)) (some (18, false))), (PO.mk (some 20) (.nilck (.t 19)) (some (18, false))), (PO.mk (some 21) (.fldA 0 (.t 20)) (some (18, false))), (PO.mk (some 22) (.load false 1 (.t 21)) (some (18, false))), (PO.mk (some 23) (.call (F 159) [(.t 22)]) (some (18, false))), (PO.mk (some 24) (.bin .neq (.t 23) (.k (.int .i64 3))) (some (18, false))), (po 25 (.pick (.t 18) (.k (.bool true)) (.t 24)))]) (.cond (.t 25) (.seq (.ops [(po 0 (.mv (.k (.bool false))))]) .ret) .skip)) (.seq (.ops [(po 3 (.alloc [(.map none), (.int .i64 0)]))]) (.seq (.ops [(pm 26 1), (po 27 (.call (F 289) [(.t 3), (.t 26), (.k (.int .i64 1)), (.k (.int .i64 2))])), (pm 4 27)]) (.seq (.seq (.ops [(pm 28 4), (po 29 (.lenSl (.t 28))), (po 30 (.bin .neq (.t 29) (.k (.int .i64 2)))), (pm 31 30), (PO.mk (some 32) (.mv (.t 4)) (some (31, false))), (PO.mk (some 33) (.idxSl 1 (.t 32) (.k (.int .i64 0))) (some (31, false))), (PO.mk (some 34) (.load false 1 (.t 33)) (some (31, false))), (PO.mk (some 35) (.bin .neq (.t 34) (.k (.int .i64 1))) (some (31, false))), (po 36 (.pick (.t 31) (.k (.bool true)) (.t 35))), (pm 37 36), (PO.mk (some 38) (.call (F 283) [(.t 3), (.k (.int .i64 1)), (.k (.int .i64 1)), (.k (.int .i64 5))]) (some (37, false))), (PO.mk (some 39) (.bin .neq (.t 38) (.k (.int .i64 0))) (some (37, false))), (po 40 (.pick (.t 37) (.k (.bool true)) (.t 39))), (pm 41 40), (PO.mk (some 42) (.call (F 283) [(.t 3), (.k (.int .i64 1)), (.k (.int .i64 2)), (.k (.int .i64 5))]) (some (41, false))), (PO.mk (some 43) (.bin .neq (.t 42) (.k (.int .i64 5))) (some (41, false))), (po 44 (.pick (.t 41) (.k (.bool true)) (.t 43)))]) (.cond (.t 44) (.seq (.ops [(po 0 (.mv (.k (.bool false))))]) .ret) .skip)) (.seq (.ops [(po 46 (.call (F 282) [(.t 3), (.k (.int .i64 1))])), (pm 45 46), (po 47 (.ext 0 (.t 45))), (po 48 (.ext 1 (.t 45))), (pm 5 47), (pm 6 48)]) (.seq (.ops [(po 50 (.call (F 288) [(.t 3), (.k (.int .i64 24))])), (pm 49 50), (po 51 (.ext 0 (.t 49))), (po 52 (.ext 1 (.t 49))), (pm 7 51), (pm 8 52)]) (.seq (.ops [(po 54 (.call (F 288) [(.t 3), (.k (.int .i64 25))])), (pm 53 54), (po 55 (.ext 0 (.t 53))), (po 56 (.ext 1 (.t 53))), (pm 9 55), (pm 10 56)]) (.seq (.ops [(pm 57 6), (pm 58 57), (PO.mk (some 59) (.mv (.t 5)) (some (58, true))), (PO.mk (some 60) (.bin .eql (.t 59) (.k (.int .i64 1))) (some (58, true))), (po 61 (.pick (.t 58) (.t 60) (.k (.bool false)))), (pm 62 61), (PO.mk (some 63) (.mv (.t 8)) (some (62, true))), (PO.mk (some 64) (.not (.t 63)) (some (62, true))), (po 65 (.pick (.t 62) (.t 64) (.k (.bool false)))), (pm 66 65), (PO.mk (some 67) (.mv (.t 10)) (some (66, true))), (po 68 (.pick (.t 66) (.t 67) (.k (.bool false)))), (pm 69 68), (PO.mk (some 70) (.mv (.t 9)) (some (69, true))), (PO.mk (some 71) (.bin .eql (.t 70) (.k (.int .i64 1))) (some (69, true))), (po 72 (.pick (.t 69) (.t 71) (.k (.bool false)))), (pm 73 72), (PO.mk (some 74) (.call (F 280) [(.t 3)]) (some (73, true))), (PO.mk (some 75) (.bin .eql (.t 74) (.k (.int .i64 1))) (some (73, true))), (po 76 (.pick (.t 73) (.t 75) (.k (.bool false)))), (pm 77 76), (PO.mk (some 78) (.call (F 281) [(.t 3), (.k (.int .i64 1))]) (some (77, true))), (PO.mk (some 79) (.bin .eql (.t 78) (.k (.int .i64 1))) (some (77, true))), (po 80 (.pick (.t 77) (.t 79) (.k (.bool false)))), (pm 81 80), (PO.mk (some 82) (.call (F 279) [(.t 3)]) (some (81, true))), (PO.mk (some 83) (.bin .eql (.t 82) (.k (.int .i64 40))) (some (81, true))), (po 84 (.pick (.t 81) (.t 83) (.k (.bool false)))), (pm 85 84), (po 86 (.pick (.t 85) (.k (.bool true)) (.k (.bool false)))), (pm 87 86), (po 88 (.pick (.t 87) (.k (.bool true)) (.k (.bool false)))), (pm 89 88), (po 90 (.pick (.t 89) (.k (.bool true)) (.k (.bool false)))), (pm 91 90), (po 92 (.pick (.t 91) (.k (.bool true)) (.k (.bool false)))), (pm 0 92)]) .ret))))))))))
def k299 (F : Fn) : PF := PF.mk 193 3 [(.t 6)] (.seq (.ops [(po 6 (.mv (.k (.bool false))))]) (.seq (.seq (.ops [(po 24 (.call (F 292) [])), (po 25 (.not (.t 24)))]) (.cond (.t 25) (.seq (.ops [(po 6 (.mv (.k (.bool false))))]) .ret) .skip)) (.seq (.seq (.ops [(pm 26 0), (po 27 (.lenSl (.t 26))), (po 28 (.bin .gtr (.t 27) (.k (.int .i64 30)))), (pm 29 28), (PO.mk (some 30) (.mv (.t 1)) (some (29, false))), (PO.mk (some 31) (.lenSl (.t 30)) (some (29, false))), (PO.mk (some 32) (.bin .gtr (.t 31) (.k (.int .i64 40))) (some (29, false))), (po 33 (.pick (.t 29) (.k (.bool true)) (.t 32))), (pm 34 33), (PO.mk (some 35) (.mv (.t 2)) (some (34, false))), (PO.mk (some 36) (.lenSl (.t 35)) (some (34, false))), (PO.mk (some 37) (.bin .gtr (.t 36) (.k (.int .i64 60))) (some (34, false))), (po 38 (.pick (.t 34) (.k (.bool true)) (.t 37)))]) (.cond (.t 38) (.seq (.ops [(po 6 (.mv (.k (.bool true))))]) .ret) .skip)) (.seq (.ops [(pm 40 0), (po 41 (.call (F 291) [(.t 40)])), (pm 39 41), (po 42 (.ext 0 (.t 39))), (po 43 (.ext 1 (.t 39))), (pm 7 42), (pm 8 43)]) (.seq (.seq (.ops [(pm 44 7), (po 45 (.eqa .ptr false (.t 44) (.k (.ptr none))))]) (.cond (.t 45) (.seq (.ops [(po 6 (.mv (.k (.bool false))))]) .ret) .skip)) (.seq (.seq (.ops [(pm 46 1), (po 47 (.lenSl (.t 46))), (po 48 (.mv (.k (.int .i64 0))))]) (.block 0 (.loop (.seq (.ops [(po 49 (.bin .lss (.t 48) (.t 47)))]) (.seq (.cond (.t 49) .skip (.exit 0)) (.seq (.block 1 (.seq (.ops [(po 50 (.idxSl 1 (.t 46) (.t 48))), (po 51 (.load false 1 (.t 50))), (pm 10 51)]) (.seq (.ops [(pm 52 10), (po 53 (.bin .geq (.t 52) (.k (.int .i64 0)))), (pm 54 53), (PO.mk (some 55) (.mv (.t 10)) (some (54, true))), (PO.mk (some 56) (.mv (.t 8)) (some (54, true))), (PO.mk (some 57) (.lenSl (.t 56)) (some (54, true))), (PO.mk (some 58) (.bin .lss (.t 55) (.t 57)) (some (54, true))), (po 59 (.pick (.t 54) (.t 58) (.k (.bool false))))]) (.cond (.t 59) (.ops [(pm 60 7), (pm 61 8), (pm 62 10), (po 63 (.idxSl 69 (.t 61) (.t 62))), (po 64 (.load true 69 (.t 63))), (po 65 (.call (F 273) [(.t 60), (.t 64)]))]) .skip)))) (.ops [(po 66 (.bin .add (.t 48) (.k (.int .i64 1)))), (pm 48 66)]))))))) (.seq (.ops [(po 11 (.alloc [(.map none), (.int .i64 0)]))]) (.seq (.seq (.ops [(pm 67 2), (po 68 (.lenSl (.t 67))), (po 69 (.mv (.k (.int .i64 0))))]) (.block 2 (.loop (.seq (.ops [(po 70 (.bin .lss (.t 69) (.t 68)))]) (.seq (.cond (.t 70) .skip (.exit 2)) (.seq (.block 3 (.seq (.ops [(po 71 (.idxSl 2 (.t 67) (.t 69))), (po 72 (.load true 2 (.t 71))), (po 13 (.alloc [(.int .i64 0), (.int .i64 0)])), (PO.mk none (.store 2 (.t 13) (.t 72)) none)]) (.ops [(po 73 (.idxArr 2 1 (.t 13) (.k (.int .i64 0)))), (po 74 (.load false 1 (.t 73))), (po 75 (.idxArr 2 1 (.t 13) (.k (.int .i64 1)))), (po 76 (.load false 1 (.t 75))), (po 77 (.call (F 283) [(.t 11), (.t 74), (.t 76), (.k (.int .i64 0))]))]))) (.ops [(po 78 (.bin .add (.t 69) (.k (.int .i64 1)))), (pm 69 78)]))))))) (.seq (.seq (.ops [(po 14 (.mv (.k (.int .i64 (-1)))))]) (.block 4 (.loop (.seq (.seq (.ops [(pm 79 14), (pm 80 7), (po 81 (.nilck (.t 80))), (po 82 (.fldA 0 (.t 81))), (po 83 (.load false 1 (.t 82))), (po 84 (.call (F 159) [(.t 83)])), (po 85 (.bin .leq (.t 79) (.t 84)))]) (.cond (.t 85) .skip (.exit 4))) (.seq (.block 5 (.seq (.ops [(po 88 (.bsl false 1 2 [(.int .i64 0)] [(0, (1, (.k (.int .i64 1)))), (1, (1, (.k (.int .i64 2))))])), (po 89 (.lenSl (.t 88))), (po 90 (.mv (.k (.int .i64 0))))]) (.block 6 (.loop (.seq (.ops [(po 91 (.bin .lss (.t 90) (.t 89)))]) (.seq (.cond (.t 91) .skip (.exit 6)) (.seq (.block 7 (.seq (.ops [(po 92 (.idxSl 1 (.t 88) (.t 90))), (po 93 (.load false 1 (.t 92))), (pm 16 93)]) (.seq (.ops [(pm 94 7), (pm 95 16), (pm 96 14), (po 97 (.call (F 289) [(.t 11), (.t 94), (.t 95), (.t 96)])), (pm 17 97)]) (.seq (.seq (.ops [(pm 98 14), (po 99 (.bin .lss (.t 98) (.k (.int .i64 0)))), (pm 100 99), (PO.mk (some 101) (.mv (.t 14)) (some (100, false))), (PO.mk (some 102) (.mv (.t 7)) (some (100, false))), (PO.mk (some 103) (.nilck (.t 102)) (some (100, false))), (PO.mk (some 104) (.fldA 0 (.t 103)) (some (100, false))), (PO.mk (some 105) (.load false 1 (.t 104)) (some (100, false))), (PO.mk (some 106) (.call (F 159) [(.t 105)]) (some (100, false))), (PO.mk (some 107) (.bin .geq (.t 101) (.t 106)) (some (100, false))), (po 108 (.pick (.t 100) (.k (.bool true)) (.t 107)))]) (.cond (.t 108) (.seq (.seq (.ops [(pm 109 17), (po 110 (.lenSl (.t 109))), (po 111 (.bin .neq (.t 110) (.k (.int .i64 0))))]) (.cond (.t 111) (.seq (.ops [(po 6 (.mv (.k (.bool false))))]) .ret) .skip)) (.exit 7)) .skip)) (.seq (.seq (.ops [(pm 112 17), (po 113 (.lenSl (.t 112))), (pm 114 16), (po 115 (.call (F 281) [(.t 11), (.t 114)])), (po 116 (.bin .sub (.k (.int .i64 16)) (.t 115))), (po 117 (.max [(.k (.int .i64 0)), (.t 116)])), (po 118 (.bin .gtr (.t 113) (.t 117)))]) (.cond (.t 118) (.seq (.ops [(po 6 (.mv (.k (.bool false))))]) .ret) .skip)) (.seq (.ops [(po 18 (.mv (.k (.sl .nil [] 0))))]) (.seq (.seq (.ops [(po 19 (.mv (.k (.int .i64 1))))]) (.block 8 (.loop (.seq (.seq (.ops [(pm 119 19), (pm 120 7), (po 121 (.nilck (.t 120))), (po 122 (.fldA 0 (.t 121))), (po 123 (.load false 1 (.t 122))), (pm 124 14), (po 125 (.call (F 161) [(.t 123), (.t 124)])), (po 126 (.fld false 102 1 (.t 125))), (po 127 (.bin .leq (.t 119) (.t 126)))]) (.cond (.t 127) .skip (.exit 8))) (.seq (.block 9 (.seq (.ops [(pm 130 7), (po 131 (.nilck (.t 130))), (po 132 (.fldA 0 (.t 131))), (po 133 (.load false 1 (.t 132))), (pm 134 14), (pm 135 19), (po 136 (.call (F 158) [(.t 133), (.t 134), (.t 135)])), (pm 20 136)]) (.seq (.ops [(pm 138 20), (po 139 (.call (F 282) [(.t 11), (.t 138)])), (pm 137 139), (po 140 (.ext 0 (.t 137))), (po 141 (.ext 1 (.t 137))), (pm 21 140), (pm 22 141)]) (.seq (.ops [(pm 142 22), (po 143 (.not (.t 142))), (pm 144 143), (PO.mk (some 145) (.mv (.t 7)) (some (144, true))), (PO.mk (some 146) (.mv (.t 20)) (some (144, true))), (PO.mk (some 147) (.call (F 268) [(.t 145), (.t 146)]) (some (144, true))), (PO.mk (some 148) (.not (.t 147)) (some (144, true))), (po 149 (.pick (.t 144) (.t 148) (.k (.bool false)))), (pm 150 149), (PO.mk (some 151) (.mv (.t 18)) (some (150, true))), (PO.mk (some 152) (.lenSl (.t 151)) (some (150, true))), (PO.mk (some 153) (.mv (.t 16)) (some (150, true))), (PO.mk (some 154) (.call (F 281) [(.t 11), (.t 153)]) (some (150, true))), (PO.mk (some 155) (.bin .sub (.k (.int .i64 16)) (.t 154)) (some (150, true))), (PO.mk (some 156) (.bin .lss (.t 152) (.t 155)) (some (150, true))), (po 157 (.pick (.t 150) (.t 156) (.k (.bool false)))), (pm 158 157), (PO.mk (some 159) (.mv (.t 7)) (some (158, true))), (PO.mk (some 160) (.nilck (.t 159)) (some (158, true))), (PO.mk (some 161) (.fldA 0 (.t 160)) (some (158, true))), (PO.mk (some 162) (.load false 1 (.t 161)) (some (158, true))), (PO.mk (some 163) (.mv (.t 14)) (some (158, true))), (PO.mk (some 164) (.call (F 161) [(.t 162), (.t 163)]) (some (158, true))), (PO.mk (some 165) (.fld false 107 1 (.t 164)) (some (158, true))), (PO.mk (some 166) (.not (.t 165)) (some (158, true))), (po 167 (.pick (.t 158) (.t 166) (.k (.bool false))))]) (.cond (.t 167) (.ops [(pm 168 18), (pm 169 20), (po 170 (.bsl false 1 1 [(.int .i64 0)] [(0, (1, (.t 169)))])), (po 171 (.app 1 8 (.t 168) (.t 170))), (pm 18 171)]) .skip))))) (.ops [(pm 128 19), (po 129 (.bin .add (.t 128) (.k (.int .i64 1)))), (pm 19 129)])))))) (.seq (.seq (.ops [(pm 172 17), (po 173 (.lenSl (.t 172))), (pm 174 18), (po 175 (.lenSl (.t 174))), (po 176 (.bin .neq (.t 173) (.t 175)))]) (.cond (.t 176) (.seq (.ops [(po 6 (.mv (.k (.bool false))))]) .ret) .skip)) (.seq (.ops [(pm 177 17), (po 178 (.lenSl (.t 177))), (po 179 (.mv (.k (.int .i64 0))))]) (.block 10 (.loop (.seq (.ops [(po 180 (.bin .lss (.t 179) (.t 178)))]) (.seq (.cond (.t 180) .skip (.exit 10)) (.seq (.block 11 (.seq (.ops [(pm 181 179), (pm 23 181)]) (.seq (.draw [(.e, (pm 182 17)), (.e, (pm 183 23)), (.e, (po 184 (.idxSl 1 (.t 182) (.t 183)))), (.e, (pm 186 18)), (.e, (pm 187 23)), (.e, (po 188 (.idxSl 1 (.t 186) (.t 187)))), (.s, (po 185 (.load false 1 (.t 184)))), (.s, (po 189 (.load false 1 (.t 188)))), (.e, (po 190 (.bin .neq (.t 185) (.t 189))))]) (.cond (.t 190) (.seq (.ops [(po 6 (.mv (.k (.bool false))))]) .ret) .skip)))) (.ops [(po 191 (.bin .add (.t 179) (.k (.int .i64 1)))), (pm 179 191)]))))))))))))))) (.ops [(po 192 (.bin .add (.t 90) (.k (.int .i64 1)))), (pm 90 192)])))))))) (.ops [(pm 86 14), (po 87 (.bin .add (.t 86) (.k (.int .i64 1)))), (pm 14 87)])))))) (.seq (.ops [(po 6 (.mv (.k (.bool true))))]) .ret))))))))))
structure OkLaw18 (P : Program) (F : Fn) : Prop where
  mixed : P.follows .mixedOrders = true
  toOkWindow : OkWindow P F
  h290 : compFn P ⟨[], [], [], [], []⟩ (F 290) = some (k290 F)
  h291 : compFn P ⟨[], [], [], [], []⟩ (F 291) = some (k291 F)
  h292 : compFn P ⟨[], [], [], [], []⟩ (F 292) = some (k292 F)
  h299 : compFn P ⟨[], [], [], [], []⟩ (F 299) = some (k299 F)
end Go.Ab
set_option linter.unusedSimpArgs false
set_option linter.unusedVariables false
namespace Go.Ab
open Go Go.RowKit
def Gh.all (w : World) : Gh := { ι := fun _ => none, pm := fun b o => if b < w.heap.size then w.cell? ⟨b, o, none⟩ else none, N := 0, fresh := fun _ _ => rfl }
theorem stRel_all (w : World) : StRel w.heap.size w (Gh.all w) (fun _ => none) w := by
  refine ⟨Below.refl _ _, Nat.le_refl _, fun id b x h => (by cases h), fun b o v h => ?_, fun id ob h => (by cases h), fun id id' b x x' h => absurd rfl h⟩
  simp only [Gh.all] at h
  split at h
  · exact h
  · cases h
theorem calls_of_acalls {P : Program} {f : FuncId} {args : List V} {w : World} {xs : List Value} (h : ACalls P f args (fun _ => none) fun v _ => v = .bool true) (ha : LRel (Gh.all w) args xs) :
    Calls P f xs.toArray w fun e w' => e = .returned (.bool true) ∧ Below w.heap.size w w' := by
  refine (h (fun _ => none) (fun _ => .inl rfl) w.heap.size w (Gh.all w) w xs (by rw [St.add_none]; exact stRel_all w) ha).mono ?_
  rintro e w' ⟨v, x, G', st', rfl, h1, h2, h3, h4, rfl⟩
  cases h2
  exact ⟨rfl, h4.below⟩
end Go.Ab
set_option linter.unusedSimpArgs false
set_option linter.unusedVariables false
namespace Go.Ab
open Go Go.RowKit Go.ChangeShapes Go.WideShapes Go.Deep
def ofCellV : Value → V
  | .bool b => .bool b
  | .int k n => .int k n
  | .string s => .str s
  | _ => .junk
theorem ofCellV_rel (G : Gh) (x : Value) : VRel G (ofCellV x) x := by
  cases x <;> first | exact .bool _ | exact .int _ _ | exact .str _ | exact .junk _
def plainCell : Value → Bool
  | .bool _ | .int .. | .string _ | .slice .. => true
  | _ => false
theorem plainCell_one {x : Value} (h : plainCell x = true) : x.oneCell' = true := by
  cases x <;> first | rfl | cases h
def plainTy (P : Program) : Nat → TypeId → Option Nat
  | 0, _ => none
  | d + 1, t =>
    match P.underlying t with
    | some (.int _) | some .bool | some .string | some (.slice _) => some 1
    | some (.struct fs) => (flatFs P (plainTy P d) fs.toList 0).bind fun n => if P.cellsOf t = n then some n else none
    | some (.array len e) => (plainTy P d e).bind fun m => if P.cellsOf e = m ∧ P.cellsOf t = len * m then some (len * m) else none
    | _ => none
inductive Shape (P : Program) : TypeId → List V → Prop
  | int {t : TypeId} {k : IntKind} (hu : P.underlying t = some (.int k)) (n : Int) (hw : (Lit.int k n).wf = true) : Shape P t [.int k n]
  | bool {t : TypeId} (hu : P.underlying t = some .bool) (b : Bool) : Shape P t [.bool b]
  | str {t : TypeId} (hu : P.underlying t = some .string) (s : ByteArray) : Shape P t [.str s]
  | hole {t e : TypeId} (hu : P.underlying t = some (.slice e)) : Shape P t [.junk]
  | struct {t : TypeId} {fs : Array Field} (hu : P.underlying t = some (.struct fs)) (vs : List V) (h : ∀ (i : Nat) (f : Field), fs[i]? = some f → Shape P f.type ((vs.drop f.offset).take (P.cellsOf f.type))) : Shape P t vs
  | array {t : TypeId} {n : Nat} {e : TypeId} (hu : P.underlying t = some (.array n e)) (vs : List V) (h : ∀ i, i < n → Shape P e ((vs.drop (i * P.cellsOf e)).take (P.cellsOf e))) : Shape P t vs
section
variable {P : Program} {t : TypeId} {vs : List V}
theorem shape_elem {n : Nat} {e : TypeId} (hu : P.underlying t = some (.array n e)) (h : Shape P t vs) (i : Nat) (hi : i < n) : Shape P e ((vs.drop (i * P.cellsOf e)).take (P.cellsOf e)) := by
  cases h with
  | array hu' _ h => rw [hu] at hu'; cases hu'; exact h i hi
  | int hu' | bool hu' | str hu' | hole hu' | struct hu' => rw [hu] at hu'; cases hu'
theorem take_one {o c : Nat} {x : V} (h : (vs.drop o).take c = [x]) : vs[o]? = some x := by
  have := congrArg (fun m => m[0]?) h
  simp only [List.getElem?_take, List.getElem?_drop, List.getElem?_cons_zero, Nat.add_zero] at this
  split at this
  · exact this
  · cases this
theorem shape_int {k : IntKind} {o c : Nat} (hu : P.underlying t = some (.int k)) (h : Shape P t ((vs.drop o).take c)) : ∃ n, vs[o]? = some (.int k n) ∧ (Lit.int k n).wf = true := by
  generalize hx : (vs.drop o).take c = x at h
  cases h with
  | int hu' n hw => rw [hu] at hu'; cases hu'; exact ⟨n, take_one hx, hw⟩
  | bool hu' | str hu' | hole hu' | struct hu' | array hu' => rw [hu] at hu'; cases hu'
end
section
variable {H : Type} {enc : TypeId × Value → H} {P : Program} {w : World} {base : Nat} {spare : Nat → Bool} {held : Bool}
theorem flatFs_cover {g : TypeId → Option Nat} {Q : Nat → Prop} : ∀ (fs : List Field) (n0 n : Nat), flatFs P g fs n0 = some n → (∀ f ∈ fs, ∀ m, g f.type = some m → P.cellsOf f.type = m → ∀ j, j < m → Q (f.offset + j)) → ∀ j, n0 ≤ j → j < n → Q j
  | [], n0, n, h, _, j, h1, h2 => by
    simp only [flatFs, Option.some.injEq] at h
    omega
  | f :: fs, n0, n, h, hq, j, h1, h2 => by
    simp only [flatFs] at h
    split at h <;> try (cases h; done)
    rename_i hc
    obtain ⟨m, hm, h⟩ := Option.bind_eq_some_iff.1 h
    split at h <;> try (cases h; done)
    rename_i hsz
    have hcm : P.cellsOf f.type = m := by
      unfold szOf at hsz
      simp only [Program.cellsOf, hsz, Option.getD_some]
    have hoff : f.offset = n0 := by
      simp at hc
      exact hc.2
    by_cases hj : j < n0 + m
    · have := hq f (by simp) m hm hcm (j - n0) (by omega)
      rwa [hoff, show n0 + (j - n0) = j by omega] at this
    · exact flatFs_cover fs (n0 + m) n h (fun f hf => hq f (by simp [hf])) j (by omega) h2
theorem trod_plain : ∀ (d : Nat) (t : TypeId) (m : Nat), plainTy P d t = some m → ∀ {fuel : Nat} {cs : List Value} {x : DataW H × List MemPlace}, DataW.trod enc P w base spare held fuel t cs = some x →
    cs.length = m ∧ (∀ j, j < m → plainCell (cs.getD j undef) = true) ∧ Shape P t (cs.map ofCellV)
  | 0, t, m, hp, fuel, cs, x, h => by cases hp
  | d + 1, t, m, hp, fuel, cs, x, h => by
    simp only [plainTy] at hp
    split at hp
    · rename_i k hu
      cases hp
      obtain ⟨n, rfl, _, hwf⟩ := DataW.trod_int hu h
      refine ⟨rfl, fun j hj => ?_, .int hu n hwf⟩
      have : j = 0 := by omega
      subst this
      rfl
    · rename_i hu
      cases hp
      obtain ⟨b, rfl, _⟩ := DataW.trod_bool hu h
      refine ⟨rfl, fun j hj => ?_, .bool hu b⟩
      have : j = 0 := by omega
      subst this
      rfl
    · rename_i hu
      cases hp
      obtain ⟨s, rfl, _⟩ := DataW.trod_string hu h
      refine ⟨rfl, fun j hj => ?_, .str hu s⟩
      have : j = 0 := by omega
      subst this
      rfl
    · rename_i e hu
      cases hp
      obtain ⟨ao, len, cap, rfl⟩ : ∃ ao len cap, cs = [.slice ao len cap] := by
        rcases open_slice hu h with ⟨h0, _⟩ | ⟨a, len', cap', m, n, D, Pl, hcs, _⟩
        · exact ⟨_, _, _, h0⟩
        · exact ⟨_, _, _, hcs⟩
      refine ⟨rfl, fun j hj => ?_, .hole hu⟩
      have : j = 0 := by omega
      subst this
      rfl
    · rename_i fs hu
      obtain ⟨n, hf, hp⟩ := Option.bind_eq_some_iff.1 hp
      split at hp <;> cases hp
      rename_i hcm
      obtain ⟨xs, n', _, _, hlen, hxl, hg⟩ := DataW.trod_struct hu h
      have sub : ∀ (i : Nat) (f : Field), fs[i]? = some f → ∃ y, DataW.trod enc P w base spare held n' f.type ((cs.drop f.offset).take (P.cellsOf f.type)) = some y := fun i f hi => by
        have hlt : i < fs.size := (Array.getElem?_eq_some_iff.1 hi).1
        exact ⟨_, (hg i f hi).trans (List.getElem?_eq_getElem (by omega))⟩
      have inf : ∀ (i : Nat) (f : Field), fs[i]? = some f → ∃ m, plainTy P d f.type = some m := by
        have key : ∀ (l : List Field) (n0 n : Nat), flatFs P (plainTy P d) l n0 = some n → ∀ f ∈ l, ∃ m, plainTy P d f.type = some m := by
          intro l
          induction l with
          | nil => intro n0 n h f hf; cases hf
          | cons g l ih =>
            intro n0 n h f hf
            simp only [flatFs] at h
            split at h <;> try (cases h; done)
            obtain ⟨m, hm, h⟩ := Option.bind_eq_some_iff.1 h
            split at h <;> try (cases h; done)
            rcases List.mem_cons.1 hf with rfl | hf
            · exact ⟨m, hm⟩
            · exact ih _ _ h f hf
        intro i f hi
        exact key _ _ _ hf f (Array.mem_toList_iff.2 (Array.mem_of_getElem? hi))
      refine ⟨hlen.trans hcm, fun j hj => ?_, .struct hu _ fun i f hi => ?_⟩
      · refine flatFs_cover (P := P) (Q := fun j => plainCell (cs.getD j undef) = true) _ _ _ hf (fun f hf' m' hm' hcm' j hj => ?_) j (Nat.zero_le _) hj
        obtain ⟨i, hi⟩ := List.getElem?_of_mem hf'
        obtain ⟨y, hy⟩ := sub i f (by simpa using hi)
        obtain ⟨h1, h2, _⟩ := trod_plain d f.type m' hm' hy
        have := h2 j hj
        rw [List.length_take, List.length_drop, hcm'] at h1
        simp only [List.getD_eq_getElem?_getD, List.getElem?_take, List.getElem?_drop, hcm', if_pos hj] at this ⊢
        exact this
      · obtain ⟨m', hm'⟩ := inf i f hi
        obtain ⟨y, hy⟩ := sub i f hi
        have := (trod_plain d f.type m' hm' hy).2.2
        rwa [List.map_take, List.map_drop] at this
    · rename_i len e hu
      obtain ⟨m', hm', hp⟩ := Option.bind_eq_some_iff.1 hp
      split at hp <;> cases hp
      rename_i hc
      obtain ⟨hc1, hc2⟩ := hc
      obtain ⟨xs, n', _, _, hlen, hxl, hg⟩ := DataW.trod_array hu h
      have sub : ∀ i, i < len → ∃ y, DataW.trod enc P w base spare held n' e ((cs.drop (i * P.cellsOf e)).take (P.cellsOf e)) = some y := fun i hi => ⟨_, (hg i hi).trans (List.getElem?_eq_getElem (by omega))⟩
      refine ⟨hlen.trans hc2, fun j hj => ?_, .array hu _ fun i hi => ?_⟩
      · have hm0 : 0 < m' := by
          rcases Nat.eq_zero_or_pos m' with h0 | h0
          · subst h0; simp at hj
          · exact h0
        have hi : j / m' < len := (Nat.div_lt_iff_lt_mul hm0).2 hj
        obtain ⟨y, hy⟩ := sub _ hi
        have := (trod_plain d e m' hm' hy).2.1 (j % m') (Nat.mod_lt _ hm0)
        simp only [List.getD_eq_getElem?_getD, List.getElem?_take, List.getElem?_drop, hc1, if_pos (Nat.mod_lt _ hm0)] at this ⊢
        rwa [show j / m' * m' + j % m' = j by rw [Nat.mul_comm]; exact Nat.div_add_mod j m'] at this
      · obtain ⟨y, hy⟩ := sub i hi
        have := (trod_plain d e m' hm' hy).2.2
        rwa [List.map_take, List.map_drop] at this
    · cases hp
theorem choose_list {α : Type} {Q : Nat → α → Prop} : ∀ n : Nat, (∀ i, i < n → ∃ r, Q i r) → ∃ l : List α, l.length = n ∧ ∀ i (hi : i < l.length), Q i l[i]
  | 0, _ => ⟨[], rfl, fun i hi => by simp at hi⟩
  | n + 1, h => by
    obtain ⟨l, h1, h2⟩ := choose_list n fun i hi => h i (by omega)
    obtain ⟨r, hr⟩ := h n (by omega)
    refine ⟨l ++ [r], by simp [h1], fun i hi => ?_⟩
    by_cases e : i < l.length
    · rw [List.getElem_append_left e]
      exact h2 i e
    · have : i = n := by simp at hi; omega
      subst this
      rw [List.getElem_append_right (by omega)]
      simpa [h1] using hr
theorem rowsOf_at {α : Type} {f : α → List V} {sz : Nat} (hf : ∀ a, (f a).length = sz) : ∀ (l : List α) (i j : Nat) (hi : i < l.length), j < sz → (rowsOf f l).getD (i * sz + j) .junk = (f l[i]).getD j .junk
  | [], i, j, hi, hj => by simp at hi
  | a :: l, 0, j, hi, hj => by
    simp only [rowsOf, List.flatMap_cons, Nat.zero_mul, Nat.zero_add, List.getElem_cons_zero, List.getD_eq_getElem?_getD]
    rw [List.getElem?_append_left (by rw [hf]; exact hj)]
  | a :: l, i + 1, j, hi, hj => by
    have ih := rowsOf_at hf l i j (by simpa using hi) hj
    have e : (i + 1) * sz + j = (f a).length + (i * sz + j) := by rw [hf, Nat.succ_mul]; omega
    simp only [rowsOf, List.flatMap_cons, List.getElem_cons_succ, List.getD_eq_getElem?_getD] at ih ⊢
    rw [e, List.getElem?_append_right (by omega), Nat.add_sub_cancel_left]
    exact ih
theorem open_rows {α : Type} (f : α → List V) {sz d : Nat} (hsz : 0 < sz) (hf : ∀ a, (f a).length = sz) {t e : TypeId} (ht : P.underlying t = some (.slice e)) (hp : plainTy P d e = some sz) (hc : P.cellsOf e = sz) (hdec : ∀ vs, vs.length = sz → Shape P e vs → ∃ a, vs = f a)
    {fuel : Nat} {ao : Option Addr} {len cap : Nat} {x : DataW H × List MemPlace} (h : DataW.trod enc P w base spare held fuel t [.slice ao len cap] = some x) (hspot : ∀ a, ao = some a → a.spot = none) :
    ∃ l : List α, l.length = len ∧ VRel (Gh.all w) (.sl .any (rowsOf f l) l.length) (.slice ao len cap) := by
  rcases open_slice ht h with ⟨h0, _⟩ | ⟨a, len', cap', m, n, D, Pl, hcs, hb, hl, hm, hmm, hx, hi⟩
  · simp only [List.cons.injEq, Value.slice.injEq, and_true] at h0
    obtain ⟨rfl, rfl, rfl⟩ := h0
    exact ⟨[], rfl, .slnil _ (.inr rfl)⟩
  · simp only [List.cons.injEq, Value.slice.injEq, and_true] at hcs
    obtain ⟨rfl, rfl, rfl⟩ := hcs
    have hs := hspot a rfl
    obtain ⟨b, o, sp⟩ := a
    simp only at hs
    subst hs
    have hlm : len ≤ m := by rw [hmm]; split <;> omega
    have row : ∀ i, i < len → ∃ r : α, ∀ j, j < sz → ∃ y, w.cell? ⟨b, o + (i * sz + j), none⟩ = some y ∧ VRel (Gh.all w) ((f r).getD j .junk) y ∧ y.oneCell' = true := fun i hil => by
      obtain ⟨cs', h1, h2⟩ := hi i (by omega)
      obtain ⟨k1, k2, k3⟩ := trod_plain d e sz hp h2
      obtain ⟨r, hr⟩ := hdec _ (by simpa using k1) k3
      obtain ⟨_, hcl, hat⟩ := World.cells?_some h1
      refine ⟨r, fun j hj => ⟨cs'.getD j undef, ?_, ?_, plainCell_one (k2 j hj)⟩⟩
      · have := hat j (by omega)
        rw [hc, add_lit, add_lit] at this
        rw [show o + (i * sz + j) = o + i * sz + j by omega]
        have hlt : j < cs'.length := by omega
        rw [List.getD_eq_getElem?_getD, List.getElem?_eq_getElem hlt]
        rw [List.getElem?_eq_getElem hlt] at this
        simpa using this
      · rw [← hr]
        have hlt : j < cs'.length := by omega
        simp only [List.getD_eq_getElem?_getD, List.getElem?_map, List.getElem?_eq_getElem hlt, Option.map_some, Option.getD_some]
        exact ofCellV_rel _ _
    obtain ⟨l, hll, hrow⟩ := choose_list len row
    have cell : ∀ i, i < (rowsOf f l).length → ∃ y, (w.cell? ⟨b, o + i, none⟩).getD undef = y ∧ w.cell? ⟨b, o + i, none⟩ = some y ∧ VRel (Gh.all w) ((rowsOf f l).getD i .junk) y ∧ y.oneCell' = true := fun i hil => by
      rw [rowsOf_length hf] at hil
      have hq : i / sz < l.length := (Nat.div_lt_iff_lt_mul hsz).2 hil
      obtain ⟨y, h1, h2, h3⟩ := hrow (i / sz) hq (i % sz) (Nat.mod_lt _ hsz)
      have e : i / sz * sz + i % sz = i := by rw [Nat.mul_comm]; exact Nat.div_add_mod i sz
      have hg := rowsOf_at hf l (i / sz) (i % sz) hq (Nat.mod_lt _ hsz)
      rw [e] at hg h1
      exact ⟨y, by rw [h1]; rfl, h1, by rw [hg]; exact h2, h3⟩
    refine ⟨l, hll, ?_⟩
    rw [hll]
    refine .sl .any _ len b o cap (by simp) hl (fun e => by cases e) (fun i => (w.cell? ⟨b, o + i, none⟩).getD undef) (fun i hil => ?_) (fun i hil => ?_) (fun i hil => ?_) <;> obtain ⟨y, q1, q2, q3, q4⟩ := cell i hil
    · rw [q1]
      simp only [Gh.all]
      rw [if_pos (block_of_cell q2), q2]
    · rw [q1]; exact q3
    · rw [q1]; exact q4
theorem slice_spot {t e : TypeId} {r : Reach} {b0 : Nat} (ht : P.underlying t = some (.slice e)) {a : Option Addr} {len cap : Nat} (h : Value.okWide P w r b0 t (.slice a len cap)) : ∀ x, a = some x → x.spot = none := by
  rintro x rfl
  simp only [Value.okWide, ht, Cell.okWide, Cell.ok] at h
  exact h.2.2.2.1
theorem shape_one {t : TypeId} (hu : P.underlying t = some (.int .i64)) (vs : List V) (hl : vs.length = 1) (h : Shape P t vs) : ∃ n, vs = e1 n := by
  cases h with
  | int hu' n hw => rw [hu] at hu'; cases hu'; exact ⟨n, rfl⟩
  | bool hu' | str hu' | hole hu' | struct hu' | array hu' => rw [hu] at hu'; cases hu'
theorem shape_pair {t e : TypeId} (hu : P.underlying t = some (.array 2 e)) (he : P.underlying e = some (.int .i64)) (hc : P.cellsOf e = 1) (vs : List V) (hl : vs.length = 2) (h : Shape P t vs) : ∃ a b, vs = [.int .i64 a, .int .i64 b] := by
  obtain ⟨a, e0, _⟩ := shape_int he (shape_elem hu h 0 (by omega))
  obtain ⟨b, e1, _⟩ := shape_int he (shape_elem hu h 1 (by omega))
  rw [hc] at e1
  match vs, hl with
  | [x, y], _ =>
    simp at e0 e1
    exact ⟨a, b, by simp [e0, e1]⟩
end
end Go.Ab
set_option linter.unusedSimpArgs false
set_option linter.unusedVariables false
namespace Go.Ab
open Go Go.RowKit Go.ChangeShapes Go.WideShapes Go.Deep
section
variable {H : Type} {enc : TypeId × Value → H} {P : Program} {w : World} {base : Nat} {spare : Nat → Bool} {held : Bool}
end
end Go.Ab
set_option linter.unusedVariables false
namespace Go.Ab
open Go
end Go.Ab
set_option linter.unusedSimpArgs false
set_option linter.unusedVariables false
namespace Go.Ab
open Go Go.RowKit
abbrev W := BitVec 64
abbrev U := BitVec 256
def u4 (a b c d : W) : U := BitVec.ofNat 256 (a.toNat + b.toNat * 18446744073709551616 + c.toNat * 340282366920938463463374607431768211456 + d.toNat * 6277101735386680763835789423207666416102355444464034512896)
theorem u4_nat (a b c d : W) : (u4 a b c d).toNat = a.toNat + b.toNat * 18446744073709551616 + c.toNat * 340282366920938463463374607431768211456 + d.toNat * 6277101735386680763835789423207666416102355444464034512896 := by
  have := a.isLt; have := b.isLt; have := c.isLt; have := d.isLt
  rw [u4, BitVec.toNat_ofNat]
  exact Nat.mod_eq_of_lt (by omega)
def limb (x : U) (i : Nat) : W := BitVec.ofNat 64 (x.toNat / 18446744073709551616 ^ i)
theorem limb_nat (x : U) (i : Nat) : (limb x i).toNat = x.toNat / 18446744073709551616 ^ i % 18446744073709551616 := by
  rw [limb, BitVec.toNat_ofNat]
theorem u4_limb (x : U) : u4 (limb x 0) (limb x 1) (limb x 2) (limb x 3) = x := by
  apply BitVec.eq_of_toNat_eq
  have := x.isLt
  rw [u4_nat, limb_nat, limb_nat, limb_nat, limb_nat]
  omega
theorem exists_u4 (x : U) : ∃ a b c d, x = u4 a b c d := ⟨_, _, _, _, (u4_limb x).symm⟩
theorem limb0 (a b c d : W) : limb (u4 a b c d) 0 = a := by
  apply BitVec.eq_of_toNat_eq
  have := a.isLt; have := b.isLt; have := c.isLt; have := d.isLt
  rw [limb_nat, u4_nat]; omega
theorem limb1 (a b c d : W) : limb (u4 a b c d) 1 = b := by
  apply BitVec.eq_of_toNat_eq
  have := a.isLt; have := b.isLt; have := c.isLt; have := d.isLt
  rw [limb_nat, u4_nat]; omega
theorem limb2 (a b c d : W) : limb (u4 a b c d) 2 = c := by
  apply BitVec.eq_of_toNat_eq
  have := a.isLt; have := b.isLt; have := c.isLt; have := d.isLt
  rw [limb_nat, u4_nat]; omega
theorem limb3 (a b c d : W) : limb (u4 a b c d) 3 = d := by
  apply BitVec.eq_of_toNat_eq
  have := a.isLt; have := b.isLt; have := c.isLt; have := d.isLt
  rw [limb_nat, u4_nat]; omega
theorem u4_inj {a b c d a' b' c' d' : W} (h : u4 a b c d = u4 a' b' c' d') : a = a' ∧ b = b' ∧ c = c' ∧ d = d' := by
  refine ⟨?_, ?_, ?_, ?_⟩
  · have := congrArg (limb · 0) h; simpa [limb0] using this
  · have := congrArg (limb · 1) h; simpa [limb1] using this
  · have := congrArg (limb · 2) h; simpa [limb2] using this
  · have := congrArg (limb · 3) h; simpa [limb3] using this
def eU (x : U) : List V := [w64 (limb x 0), w64 (limb x 1), w64 (limb x 2), w64 (limb x 3)]
theorem eU_len (x : U) : (eU x).length = 4 := rfl
theorem eU_u4 (a b c d : W) : eU (u4 a b c d) = [w64 a, w64 b, w64 c, w64 d] := by simp [eU, limb0, limb1, limb2, limb3]
def nU (x : U) : V := .agg (eU x)
def natU (n : Nat) : U := BitVec.ofNat 256 n
theorem natU_nat {n : Nat} (h : n < 2 ^ 256) : (natU n).toNat = n := by
  rw [natU, BitVec.toNat_ofNat]; exact Nat.mod_eq_of_lt h
def b64 (b : Bool) : W := if b then 1#64 else 0#64
theorem b64_nat (b : Bool) : (b64 b).toNat = if b then 1 else 0 := by cases b <;> rfl
def sum64 (x y : W) (c : Bool) : W := x + y + b64 c
def car64 (x y : W) (c : Bool) : Bool := decide (18446744073709551616 ≤ x.toNat + y.toNat + (if c then 1 else 0))
theorem sum64_nat (x y : W) (c : Bool) : (sum64 x y c).toNat = (x.toNat + y.toNat + (if c then 1 else 0)) % 18446744073709551616 := by
  rw [sum64, BitVec.toNat_add, BitVec.toNat_add, b64_nat]
  show ((x.toNat + y.toNat) % 18446744073709551616 + _) % 18446744073709551616 = _
  omega
def dif64 (x y : W) (c : Bool) : W := x - y - b64 c
def bor64 (x y : W) (c : Bool) : Bool := decide (x.toNat < y.toNat + (if c then 1 else 0))
theorem dif64_nat (x y : W) (c : Bool) : (dif64 x y c).toNat = (36893488147419103232 + x.toNat - y.toNat - (if c then 1 else 0)) % 18446744073709551616 := by
  have h1 := x.isLt
  have h2 := y.isLt
  rw [dif64, BitVec.toNat_sub, BitVec.toNat_sub, b64_nat]
  show (18446744073709551616 - _ + (18446744073709551616 - y.toNat + x.toNat) % 18446744073709551616) % 18446744073709551616 = _
  cases c <;> simp <;> omega
def mulhi (x y : W) : W := BitVec.ofNat 64 (x.toNat * y.toNat / 18446744073709551616)
theorem mul64_hi (x y : W) : (x >>> 32) * (y >>> 32) + (((x >>> 32) * (y &&& 4294967295#64) + ((x &&& 4294967295#64) * (y &&& 4294967295#64)) >>> 32) >>> 32) + ((((x >>> 32) * (y &&& 4294967295#64) + ((x &&& 4294967295#64) * (y &&& 4294967295#64)) >>> 32) &&& 4294967295#64) + (x &&& 4294967295#64) * (y >>> 32)) >>> 32 = mulhi x y := by
  have hand : ∀ z : W, (z &&& 4294967295#64).toNat = z.toNat % 4294967296 := fun z => by
    rw [BitVec.toNat_and]
    exact Nat.and_two_pow_sub_one_eq_mod z.toNat 32
  have hshr : ∀ z : W, (z >>> 32).toNat = z.toNat / 4294967296 := fun z => by
    rw [BitVec.toNat_ushiftRight, Nat.shiftRight_eq_div_pow]
  have h1 := x.isLt
  have h2 := y.isLt
  apply BitVec.eq_of_toNat_eq
  simp only [BitVec.toNat_add, BitVec.toNat_mul, hand, hshr, mulhi, BitVec.toNat_ofNat]
  obtain ⟨x0, hx0⟩ : ∃ a, a = x.toNat % 4294967296 := ⟨_, rfl⟩
  obtain ⟨x1, hx1⟩ : ∃ a, a = x.toNat / 4294967296 := ⟨_, rfl⟩
  obtain ⟨y0, hy0⟩ : ∃ a, a = y.toNat % 4294967296 := ⟨_, rfl⟩
  obtain ⟨y1, hy1⟩ : ∃ a, a = y.toNat / 4294967296 := ⟨_, rfl⟩
  have ex : x.toNat = x1 * 4294967296 + x0 := by omega
  have ey : y.toNat = y1 * 4294967296 + y0 := by omega
  rw [← hx0, ← hx1, ← hy0, ← hy1, ex, ey]
  have bx0 : x0 ≤ 4294967295 := by omega
  have bx1 : x1 ≤ 4294967295 := by omega
  have by0 : y0 ≤ 4294967295 := by omega
  have by1 : y1 ≤ 4294967295 := by omega
  have p00 := Nat.mul_le_mul bx0 by0
  have p01 := Nat.mul_le_mul bx0 by1
  have p10 := Nat.mul_le_mul bx1 by0
  have p11 := Nat.mul_le_mul bx1 by1
  have e : (x1 * 4294967296 + x0) * (y1 * 4294967296 + y0) = x1 * y1 * 18446744073709551616 + x1 * y0 * 4294967296 + x0 * y1 * 4294967296 + x0 * y0 := by
    rw [Nat.add_mul, Nat.mul_add, Nat.mul_add]
    have a1 : x1 * 4294967296 * (y1 * 4294967296) = x1 * y1 * 18446744073709551616 := by
      rw [Nat.mul_mul_mul_comm]
    have a2 : x1 * 4294967296 * y0 = x1 * y0 * 4294967296 := by rw [Nat.mul_right_comm]
    have a3 : x0 * (y1 * 4294967296) = x0 * y1 * 4294967296 := by rw [Nat.mul_assoc]
    omega
  rw [e]
  generalize x0 * y0 = q00 at *
  generalize x0 * y1 = q01 at *
  generalize x1 * y0 = q10 at *
  generalize x1 * y1 = q11 at *
  show ((q11 % 18446744073709551616 + ((q10 % 18446744073709551616 + q00 % 18446744073709551616 / 4294967296) % 18446744073709551616 / 4294967296)) % 18446744073709551616 + ((q10 % 18446744073709551616 + q00 % 18446744073709551616 / 4294967296) % 18446744073709551616 % 4294967296 + q01 % 18446744073709551616) % 18446744073709551616 / 4294967296) % 18446744073709551616 = (q11 * 18446744073709551616 + q10 * 4294967296 + q01 * 4294967296 + q00) / 18446744073709551616 % 18446744073709551616
  omega
end Go.Ab
set_option linter.unusedSimpArgs false
set_option linter.unusedVariables false
namespace Go.Ab
open Go Go.RowKit
def eB (b : Bool) : List V := [.bool b]
def valB : List Bool → Nat
  | [] => 0
  | b :: l => b.toNat + 2 * valB l
def bitlen (n : Nat) : Nat := if n = 0 then 0 else n.log2 + 1
theorem bitlen_le {n k : Nat} : bitlen n ≤ k ↔ n < 2 ^ k := by
  unfold bitlen
  split
  · rename_i h; subst h
    simp [Nat.two_pow_pos]
  · rename_i h
    rw [← Nat.log2_lt h]
    omega
theorem bitlen_lt {n k : Nat} : k < bitlen n ↔ 2 ^ k ≤ n := by
  have := @bitlen_le n k
  omega
theorem bitlen_pos {n : Nat} : 0 < bitlen n ↔ 0 < n := by
  rw [bitlen_lt]; simp; omega
end Go.Ab
set_option linter.unusedSimpArgs false
set_option linter.unusedVariables false
namespace Go.Ab
open Go Go.RowKit
section
variable {P : Program} {c : PC} {Q : Ex → Env → St → Prop}
def unrK (K : Env → St → Prop) (Q : Ex → Env → St → Prop) : Ex → Env → St → Prop := fun e env st => match e with | .normal => K env st | e => Q e env st
@[simp] theorem unrK_n (K : Env → St → Prop) (env : Env) (st : St) : unrK K Q .normal env st = K env st := _root_.id rfl
@[simp] theorem unrK_e (K : Env → St → Prop) (i : Nat) (env : Env) (st : St) : unrK K Q (.exit i) env st = Q (.exit i) env st := _root_.id rfl
@[simp] theorem unrK_r (K : Env → St → Prop) (env : Env) (st : St) : unrK K Q .ret env st = Q .ret env st := _root_.id rfl
def unr (P : Program) (c : PC) (Q : Ex → Env → St → Prop) : Nat → Env → St → Prop
  | 0, _, _ => False
  | n + 1, env, st => vc P c (unrK (unr P c Q n) Q) env st
theorem unr_succ (n : Nat) (env : Env) (st : St) : unr P c Q (n + 1) env st = vc P c (unrK (unr P c Q n) Q) env st := _root_.id rfl
theorem vc_unroll {env : Env} {st : St} (n : Nat) (h : unr P c Q n env st) : vc P (.loop c) Q env st := by
  refine vc_loop (fun k env st => unr P c Q k env st) n h ?_
  intro k env' st' hs hu
  cases k with
  | zero => exact hu.elim
  | succ k =>
    refine vc_frame c _ _ env' st' (fun e env'' st'' _ hq => ?_) hu
    cases e with
    | normal => exact ⟨k, st'', Nat.lt_succ_self k, St.sub_refl _, hq⟩
    | exit id => exact hq
    | ret => exact hq
end
theorem Sep.appx' {α : Type} {f : α → List V} {sz : Nat} (hf : ∀ a, (f a).length = sz) (hsz : 0 < sz) {s : V} {l : List α} {L : List Asn} {st : St} (h : Sep (Slx sz f s l :: L) st) {b : Nat} (m : List α) {ys : List V} {n : Nat} (hys : ys = rowsOf f m) (hn : n = m.length) (hb : (l.length + n) * b ≤ 140737488355328) {K : V → St → Prop}
    (hK : ∀ s' st', Sep (Slx sz f s' (l ++ m) :: L) st' → K s' st') : appS sz b s (some (ys, n)) st K := by
  subst hys hn
  exact Sep.appx hf hsz h hb hK
theorem Sep.setAt {i : Nat} {o : AObj} (o' : AObj) : ∀ (n : Nat) {L : List Asn} {st : St}, Sep L st → L[n]? = some (pt i o) → Sep (L.set n (pt i o')) (st.upd i o')
  | 0, A :: L, st, h, e => by
    simp only [List.getElem?_cons_zero, Option.some.injEq] at e
    subst e
    exact h.set o'
  | n + 1, A :: L, st, h, e => by
    obtain ⟨a, r, h1, h2, h3, h4⟩ := h
    have e' : L[n]? = some (pt i o) := by simpa using e
    have hr : r i = some o := Sep.mem h4 (List.mem_of_getElem? e')
    have ih := Sep.setAt o' n h4 e'
    have hai : a i = none := (h1 i).resolve_right (by rw [hr]; simp)
    refine ⟨a, r.upd i o', fun j => ?_, fun j x hx => ?_, h3, ih⟩
    · by_cases ej : j = i
      · exact .inl (ej ▸ hai)
      · rcases h1 j with g | g
        · exact .inl g
        · exact .inr (by simpa [ej] using g)
    · by_cases ej : j = i
      · subst ej
        simpa [St.add, hai] using hx
      · simp only [St.add, st_upd, ej, if_false] at hx ⊢
        exact h2 j x hx
  | _, [], _, _, e => by simp at e
theorem Sep.neq {i j : Nat} {o o' : AObj} : ∀ {L : List Asn} {st : St} (n m : Nat), Sep L st → L[n]? = some (pt i o) → L[m]? = some (pt j o') → n < m → i ≠ j
  | [], _, _, _, _, e, _, _ => by simp at e
  | A :: L, st, 0, m + 1, h, e1, e2, _ => by
    simp only [List.getElem?_cons_zero, Option.some.injEq] at e1
    subst e1
    obtain ⟨a, r, h1, h2, h3, h4⟩ := h
    have hr : r j = some o' := Sep.mem h4 (List.mem_of_getElem? (by simpa using e2))
    rintro rfl
    rcases h1 i with g | g
    · rw [h3] at g; cases g
    · rw [hr] at g; cases g
  | A :: L, st, n + 1, m + 1, h, e1, e2, hlt => by
    obtain ⟨a, r, h1, h2, h3, h4⟩ := h
    exact Sep.neq n m h4 (by simpa using e1) (by simpa using e2) (by omega)
theorem Sep.was' {st0 st : St} {L : List Asn} (h : Sep L st) (hm : Was st0 ∈ L) : St.sub st0 st := by
  obtain ⟨h', k1, rfl⟩ := h.memA hm
  exact k1
theorem Sep.frzSl {α : Type} {f : α → List V} {sz : Nat} (hf : ∀ a, (f a).length = sz) {s : V} {l : List α} {L : List Asn} {st : St} (h : Sep (Sl sz f s l :: L) st) :
    ∃ k st', frzV st s = some (.sl k (rowsOf f l) l.length, st') ∧ Sep L st' ∧ (l ≠ [] → k = .some) := by
  obtain ⟨a, r, h1, h2, h3, h4⟩ := h
  have hsub : St.sub r st := sub_trans (sub_right h1) h2
  rcases h3 with ⟨hs | hs, rfl⟩ | ⟨sid, spare, rfl, h5, h6⟩
  · subst hs
    exact ⟨.nil, st, rfl, h4.sub hsub, fun h => absurd rfl h⟩
  · subst hs
    exact ⟨.full, st, rfl, h4.sub hsub, fun h => absurd rfl h⟩
  · have hsid := h2 _ _ (add_some h5)
    have hl := rowsOf_length hf l
    refine ⟨.some, st.upd sid (.ro (rowsOf f l ++ spare)), ?_, ?_, fun _ => rfl⟩
    · simp only [frzV, frzOb, hsid, Option.bind_some, St.seg, st_upd, if_true, segOf]
      rw [if_pos (by simp; omega), List.drop_zero, ← hl, List.take_left]
      rfl
    · refine h4.sub fun j o e => ?_
      have : j ≠ sid := fun e' => by
        subst e'
        rw [h1.some h5] at e
        cases e
      simp only [st_upd, this, if_false]
      exact hsub j o e
theorem frzP_one {t : Nat} {env : Env} {st st' : St} {v : V} {K : Env → St → Prop} (h : frzV st (env t) = some (v, st')) (hk : K (env.upd t v) st') : frzP [t] env st K := by
  simp only [frzP, h]
  exact hk
theorem condB_join {P : Program} {v : V} {a b c : PC} {Q : Ex → Env → St → Prop} {env : Env} {st : St} (M : Env → St → Prop)
    (h : condB P v a b (unrK M Q) env st) (k : ∀ env' st', Same (a.writes ++ b.writes) env env' → M env' st' → vc P c Q env' st') : condB P v a b (seqK P c Q) env st := by
  have e : ∀ R : Ex → Env → St → Prop, condB P v a b R env st = vc P (.cond (.k v) a b) R env st := fun R => _root_.id rfl
  rw [e] at h ⊢
  refine vc_frame (.cond (.k v) a b) _ _ env st (fun ex env' st' hs hq => ?_) h
  cases ex with
  | normal => exact k env' st' hs hq
  | exit i => exact hq
  | ret => exact hq
end Go.Ab
set_option linter.unusedSimpArgs false
set_option linter.unusedVariables false
set_option maxRecDepth 10000
namespace Go.Ab
open Go Go.RowKit
section
variable {P : Program} {F : Fn}
theorem spec105 (ok : OkNum P F) (st : St) (x : W) : ACalls P (F 105) [w64 x] st fun v st' => v = nU (x.setWidth 256) ∧ st' = st := by
  refine shows_call ok.mixed ok.h105 (by simp [k105]) ?_
  have e : eU (x.setWidth 256) = [w64 x, w64 0, w64 0, w64 0] := by
    have : x.setWidth 256 = u4 x 0 0 0 := by
      apply BitVec.eq_of_toNat_eq
      have := x.isLt
      rw [u4_nat, BitVec.toNat_setWidth, Nat.mod_eq_of_lt (by omega)]
      simp
    rw [this, eU_u4]
  simp [k105, fillV, spliceV, nU, e]
  intro id hid
  simp [fillV, storeS, spliceV, St.seg, segOf]
  exact sub_upd hid
def cmpU (a b : U) : Int := if a.toNat < b.toNat then -1 else if a = b then 0 else 1
theorem cmpU_d {a b c d a' b' c' d' : W} (h : d ≠ d') : cmpU (u4 a b c d) (u4 a' b' c' d') = if d < d' then -1 else 1 := by
  have := a.isLt; have := b.isLt; have := c.isLt; have := a'.isLt; have := b'.isLt; have := c'.isLt
  have hne : u4 a b c d ≠ u4 a' b' c' d' := fun e => h (u4_inj e).2.2.2
  have hn : d.toNat ≠ d'.toNat := fun e => h (BitVec.eq_of_toNat_eq e)
  simp only [cmpU, hne, if_false, u4_nat, BitVec.lt_def]
  split <;> split <;> first | rfl | omega
theorem cmpU_c {a b c d a' b' c' : W} (h : c ≠ c') : cmpU (u4 a b c d) (u4 a' b' c' d) = if c < c' then -1 else 1 := by
  have := a.isLt; have := b.isLt; have := a'.isLt; have := b'.isLt
  have hne : u4 a b c d ≠ u4 a' b' c' d := fun e => h (u4_inj e).2.2.1
  have hn : c.toNat ≠ c'.toNat := fun e => h (BitVec.eq_of_toNat_eq e)
  simp only [cmpU, hne, if_false, u4_nat, BitVec.lt_def]
  split <;> split <;> first | rfl | omega
theorem cmpU_b {a b c d a' b' : W} (h : b ≠ b') : cmpU (u4 a b c d) (u4 a' b' c d) = if b < b' then -1 else 1 := by
  have := a.isLt; have := a'.isLt
  have hne : u4 a b c d ≠ u4 a' b' c d := fun e => h (u4_inj e).2.1
  have hn : b.toNat ≠ b'.toNat := fun e => h (BitVec.eq_of_toNat_eq e)
  simp only [cmpU, hne, if_false, u4_nat, BitVec.lt_def]
  split <;> split <;> first | rfl | omega
theorem cmpU_a {a b c d a' : W} (h : a ≠ a') : cmpU (u4 a b c d) (u4 a' b c d) = if a < a' then -1 else 1 := by
  have hne : u4 a b c d ≠ u4 a' b c d := fun e => h (u4_inj e).1
  have hn : a.toNat ≠ a'.toNat := fun e => h (BitVec.eq_of_toNat_eq e)
  simp only [cmpU, hne, if_false, u4_nat, BitVec.lt_def]
  split <;> split <;> first | rfl | omega
theorem sub_upd2 {st : St} {i j : Nat} {o p : AObj} (hi : st i = none) (hj : (st.upd i o) j = none) : St.sub st ((st.upd i o).upd j p) := sub_trans (sub_upd hi) (sub_upd hj)
theorem ne_upd {st : St} {i j : Nat} {o : AObj} (hj : (st.upd i o) j = none) : i ≠ j := by
  rintro rfl
  simp at hj
theorem upd_none {st : St} {i k : Nat} {o : AObj} (h : (st.upd i o) k = none) : i ≠ k ∧ st k = none := by
  by_cases e : k = i
  · subst e; simp at h
  · exact ⟨fun h => e h.symm, by simpa [e] using h⟩
theorem spec106 (ok : OkNum P F) (st : St) (x y : U) : ACalls P (F 106) [nU x, nU y] st fun v st' => v = .int .i64 (cmpU x y) ∧ st' = st := by
  refine shows_call ok.mixed ok.h106 (by simp [k106]) ?_
  obtain ⟨a, b, c, d, rfl⟩ := exists_u4 x
  obtain ⟨a', b', c', d', rfl⟩ := exists_u4 y
  simp only [k106, nU, eU_u4]
  simp
  intro i hi j hj
  have hij := ne_upd hj
  have hsub := sub_upd2 (p := .cells [w64 a', w64 b', w64 c', w64 d']) hi hj
  refine vc_unroll 5 ?_
  simp [unr_succ, hij, idxArrV, St.seg, segOf]
  by_cases h : d = d'
  · subst h
    simp [unr_succ, hij, idxArrV, St.seg, segOf]
    by_cases h : c = c'
    · subst h
      simp [unr_succ, hij, idxArrV, St.seg, segOf]
      by_cases h : b = b'
      · subst h
        simp [unr_succ, hij, idxArrV, St.seg, segOf]
        by_cases h : a = a'
        · subst h
          simp [unr_succ, hij, idxArrV, St.seg, segOf, cmpU, hsub]
        · have hb : (a != a') = true := by simp [h]
          by_cases hlt : a < a' <;> simp [unr_succ, hij, idxArrV, St.seg, segOf, hb, cmpU_a h, hlt, hsub]
      · have hb : (b != b') = true := by simp [h]
        by_cases hlt : b < b' <;> simp [unr_succ, hij, idxArrV, St.seg, segOf, hb, cmpU_b h, hlt, hsub]
    · have hb : (c != c') = true := by simp [h]
      by_cases hlt : c < c' <;> simp [unr_succ, hij, idxArrV, St.seg, segOf, hb, cmpU_c h, hlt, hsub]
  · have hb : (d != d') = true := by simp [h]
    by_cases hlt : d < d' <;> simp [unr_succ, hij, idxArrV, St.seg, segOf, hb, cmpU_d h, hlt, hsub]
theorem eqL_u (x y : U) : eqL (eU x) (eU y) = some (decide (x = y)) := by
  obtain ⟨a, b, c, d, rfl⟩ := exists_u4 x
  obtain ⟨a', b', c', d', rfl⟩ := exists_u4 y
  have key : ∀ p q : W, ((p.toNat : Int) == (q.toNat : Int)) = decide (p = q) := fun p q => by
    rw [Bool.eq_iff_iff]
    simp only [beq_iff_eq, decide_eq_true_eq]
    exact ⟨fun h => BitVec.eq_of_toNat_eq (by omega), fun h => by rw [h]⟩
  simp only [eU_u4, w64, eqL, if_true, Option.map_some, key, Option.some.injEq]
  rw [Bool.eq_iff_iff]
  simp only [Bool.and_eq_true, decide_eq_true_eq]
  constructor
  · rintro ⟨h1, h2, h3, h4, _⟩
    rw [h1, h2, h3, h4]
  · intro h
    obtain ⟨h1, h2, h3, h4⟩ := u4_inj h
    exact ⟨h1, h2, h3, h4, trivial⟩
theorem eU_zero : [w64 0#64, w64 0#64, w64 0#64, w64 0#64] = eU 0#256 := by
  rw [show (0#256 : U) = u4 0#64 0#64 0#64 0#64 from rfl, eU_u4]
theorem segU (x : U) : segOf (eU x) 0 4 = some (eU x) := rfl
theorem spec107 (ok : OkNum P F) (st : St) (x : U) : ACalls P (F 107) [nU x] st fun v st' => v = .bool (decide (x = 0)) ∧ st' = st := by
  refine shows_call ok.mixed ok.h107 (by simp [k107]) ?_
  simp only [k107, nU, eU_zero]
  simp
  intro i hi
  have hl := eU_len x
  simp [St.seg, segU, fillV, eqK, hl, eU_zero, eqL_u]
  exact sub_upd hi
theorem not_u4 (a b c d : W) : ~~~(u4 a b c d) = u4 (~~~a) (~~~b) (~~~c) (~~~d) := by
  apply BitVec.eq_of_toNat_eq
  have := a.isLt; have := b.isLt; have := c.isLt; have := d.isLt
  rw [BitVec.toNat_not, u4_nat, u4_nat, BitVec.toNat_not, BitVec.toNat_not, BitVec.toNat_not, BitVec.toNat_not]
  omega
theorem spec111 (ok : OkNum P F) (st : St) (x : U) : ACalls P (F 111) [nU x] st fun v st' => v = nU (~~~x) ∧ st' = st := by
  refine shows_call ok.mixed ok.h111 (by simp [k111]) ?_
  obtain ⟨a, b, c, d, rfl⟩ := exists_u4 x
  simp only [k111, nU, not_u4, eU_u4]
  simp
  intro i hi
  simp
  intro j hj
  have hij := ne_upd hj
  have hsub := sub_upd2 (p := .cells [w64 0#64, w64 0#64, w64 0#64, w64 0#64]) hi hj
  simp [hij, idxArrV, St.seg, segOf, fillV, spliceV, storeS]
  exact sub_upd2 hi hj
theorem sub_u4 (a b c d a' b' c' d' : W) :
    u4 a b c d - u4 a' b' c' d' = u4 (dif64 a a' false) (dif64 b b' (bor64 a a' false)) (dif64 c c' (bor64 b b' (bor64 a a' false))) (dif64 d d' (bor64 c c' (bor64 b b' (bor64 a a' false)))) ∧
    bor64 d d' (bor64 c c' (bor64 b b' (bor64 a a' false))) = decide ((u4 a b c d).toNat < (u4 a' b' c' d').toNat) := by
  have := a.isLt; have := b.isLt; have := c.isLt; have := d.isLt
  have := a'.isLt; have := b'.isLt; have := c'.isLt; have := d'.isLt
  constructor
  · apply BitVec.eq_of_toNat_eq
    rw [BitVec.toNat_sub, u4_nat, u4_nat, u4_nat, dif64_nat, dif64_nat, dif64_nat, dif64_nat]
    simp only [bor64, decide_eq_true_eq, Bool.false_eq_true, if_false]
    show (115792089237316195423570985008687907853269984665640564039457584007913129639936 - _ + _) % 115792089237316195423570985008687907853269984665640564039457584007913129639936 = _
    split <;> split <;> split <;> omega
  · rw [u4_nat, u4_nat]
    simp only [bor64, decide_eq_true_eq, Bool.false_eq_true, if_false]
    congr 1
    rw [eq_iff_iff]
    split <;> split <;> split <;> omega
@[simp high] theorem carry_sub (x y : W) (c : Bool) : carryV true (w64 x) (w64 y) (w64 (b64 c)) = some (.tup [w64 (dif64 x y c), w64 (b64 (bor64 x y c))]) := by
  have h1 := x.isLt
  have h2 := y.isLt
  have e1 := dif64_nat x y c
  have e2 : (b64 (bor64 x y c)).toNat = if x.toNat < y.toNat + (if c then 1 else 0) then 1 else 0 := by
    rw [b64_nat]
    simp only [bor64, decide_eq_true_eq]
  have e3 := b64_nat c
  generalize dif64 x y c = d at *
  generalize b64 (bor64 x y c) = r at *
  generalize b64 c = q at *
  simp only [carryV, w64]
  rw [if_pos (by split at e3 <;> omega)]
  simp only [Option.some.injEq, V.tup.injEq, List.cons.injEq, V.int.injEq, true_and, and_true, if_true, Int.toNat_natCast]
  rw [e1, e2, e3]
  cases c <;> simp <;> constructor <;> first | omega | (split <;> split <;> omega) | (split <;> omega)
@[simp high] theorem carry_add (x y : W) (c : Bool) : carryV false (w64 x) (w64 y) (w64 (b64 c)) = some (.tup [w64 (sum64 x y c), w64 (b64 (car64 x y c))]) := by
  have h1 := x.isLt
  have h2 := y.isLt
  have e1 := sum64_nat x y c
  have e2 : (b64 (car64 x y c)).toNat = if 18446744073709551616 ≤ x.toNat + y.toNat + (if c then 1 else 0) then 1 else 0 := by
    rw [b64_nat]
    simp only [car64, decide_eq_true_eq]
  have e3 := b64_nat c
  generalize sum64 x y c = d at *
  generalize b64 (car64 x y c) = r at *
  generalize b64 c = q at *
  simp only [carryV, w64]
  rw [if_pos (by split at e3 <;> omega)]
  simp only [Option.some.injEq, V.tup.injEq, List.cons.injEq, V.int.injEq, true_and, and_true, Bool.false_eq_true, if_false]
  rw [e1, e2, e3]
  cases c <;> simp <;> first | omega | (split <;> omega)
theorem zero_b64 : (0#64 : W) = b64 false := rfl
theorem b64_ne (c : Bool) : (b64 c != b64 false) = c := by cases c <;> rfl
theorem sub_ups {st s : St} {i : Nat} {o : AObj} (h : St.sub st s) (hi : st i = none) : St.sub st (s.upd i o) := fun j x hj => by
  have : j ≠ i := fun e => by rw [e, hi] at hj; cases hj
  simp [this, h j x hj]
theorem spec109 (ok : OkNum P F) (st : St) (x y : U) : ACalls P (F 109) [nU x, nU y] st fun v st' => v = .tup [nU (x - y), .bool (decide (x.toNat < y.toNat))] ∧ st' = st := by
  refine shows_call ok.mixed ok.h109 (by simp [k109]) ?_
  obtain ⟨a, b, c, d, rfl⟩ := exists_u4 x
  obtain ⟨a', b', c', d', rfl⟩ := exists_u4 y
  obtain ⟨e1, e2⟩ := sub_u4 a b c d a' b' c' d'
  rw [← e2, e1]
  simp only [k109, nU, eU_u4]
  simp
  intro i hi j hj
  have hij := ne_upd hj
  have hji := hij.symm
  simp
  intro k hk
  have hjk := ne_upd hk
  have hik := (upd_none (upd_none hk).2).1
  have hki := hik.symm
  have hkj := hjk.symm
  refine vc_unroll 5 ?_
  rw [zero_b64]
  simp [unr_succ, hij, hji, hjk, hkj, hik, hki, idxArrV, St.seg, segOf, storeS, spliceV, b64_ne]
  exact sub_ups (sub_ups (sub_ups (sub_ups (sub_ups (sub_self _) hi) (upd_none hj).2) (upd_none (upd_none hk).2).2) hi) (upd_none (upd_none hk).2).2
end
end Go.Ab
set_option linter.unusedSimpArgs false
set_option linter.unusedVariables false
namespace Go.Ab
open Go Go.RowKit
def shaK : List (BitVec 32) := [0x428a2f98, 0x71374491, 0xb5c0fbcf, 0xe9b5dba5, 0x3956c25b, 0x59f111f1, 0x923f82a4, 0xab1c5ed5, 0xd807aa98, 0x12835b01, 0x243185be, 0x550c7dc3, 0x72be5d74, 0x80deb1fe, 0x9bdc06a7, 0xc19bf174, 0xe49b69c1, 0xefbe4786, 0x0fc19dc6, 0x240ca1cc, 0x2de92c6f, 0x4a7484aa, 0x5cb0a9dc, 0x76f988da, 0x983e5152, 0xa831c66d, 0xb00327c8, 0xbf597fc7, 0xc6e00bf3, 0xd5a79147, 0x06ca6351, 0x14292967, 0x27b70a85, 0x2e1b2138, 0x4d2c6dfc, 0x53380d13, 0x650a7354, 0x766a0abb, 0x81c2c92e, 0x92722c85, 0xa2bfe8a1, 0xa81a664b, 0xc24b8b70, 0xc76c51a3, 0xd192e819, 0xd6990624, 0xf40e3585, 0x106aa070, 0x19a4c116, 0x1e376c08, 0x2748774c, 0x34b0bcb5, 0x391c0cb3, 0x4ed8aa4a, 0x5b9cca4f, 0x682e6ff3, 0x748f82ee, 0x78a5636f, 0x84c87814, 0x8cc70208, 0x90befffa, 0xa4506ceb, 0xbef9a3f7, 0xc67178f2]
def be4 (a b c d : UInt8) : BitVec 32 := a.toBitVec.setWidth 32 <<< 24 ||| b.toBitVec.setWidth 32 <<< 16 ||| c.toBitVec.setWidth 32 <<< 8 ||| d.toBitVec.setWidth 32
def words : List UInt8 → List (BitVec 32)
  | a :: b :: c :: d :: l => be4 a b c d :: words l
  | _ => []
def ror (x : BitVec 32) (n : Nat) : BitVec 32 := x >>> n ||| x <<< (32 - n)
def sg0 (x : BitVec 32) : BitVec 32 := ror x 7 ^^^ ror x 18 ^^^ x >>> 3
def sg1 (x : BitVec 32) : BitVec 32 := ror x 17 ^^^ ror x 19 ^^^ x >>> 10
def bg0 (x : BitVec 32) : BitVec 32 := ror x 2 ^^^ ror x 13 ^^^ ror x 22
def bg1 (x : BitVec 32) : BitVec 32 := ror x 6 ^^^ ror x 11 ^^^ ror x 25
def nextW (l : List (BitVec 32)) : BitVec 32 := l.getD (l.length - 16) 0 + sg0 (l.getD (l.length - 15) 0) + l.getD (l.length - 7) 0 + sg1 (l.getD (l.length - 2) 0)
def sched (m : List (BitVec 32)) : Nat → List (BitVec 32)
  | 0 => m
  | k + 1 => sched m k ++ [nextW (sched m k)]
structure V8 where
  a : BitVec 32
  b : BitVec 32
  c : BitVec 32
  d : BitVec 32
  e : BitVec 32
  f : BitVec 32
  g : BitVec 32
  h : BitVec 32
  deriving DecidableEq
def V8.list (v : V8) : List (BitVec 32) := [v.a, v.b, v.c, v.d, v.e, v.f, v.g, v.h]
def rnd (v : V8) (k w : BitVec 32) : V8 :=
  let t := v.h + bg1 v.e + (v.e &&& v.f ^^^ ~~~v.e &&& v.g) + k + w
  ⟨t + bg0 v.a + (v.a &&& v.b ^^^ v.a &&& v.c ^^^ v.b &&& v.c), v.a, v.b, v.c, v.d + t, v.e, v.f, v.g⟩
def rnds : List (BitVec 32) → List (BitVec 32) → V8 → V8
  | k :: ks, w :: ws, v => rnds ks ws (rnd v k w)
  | _, _, v => v
def addV (h v : V8) : V8 := ⟨h.a + v.a, h.b + v.b, h.c + v.c, h.d + v.d, h.e + v.e, h.f + v.f, h.g + v.g, h.h + v.h⟩
def blockM (h : V8) (b : List UInt8) : V8 := addV h (rnds shaK (sched (words b) 48) h)
def blocksM : Nat → V8 → List UInt8 → V8
  | 0, h, _ => h
  | n + 1, h, l => blocksM n (blockM h (l.take 64)) (l.drop 64)
def padM (l : List UInt8) : List UInt8 :=
  l ++ 0x80 :: (List.replicate ((119 - l.length % 64) % 64) 0 ++ [56, 48, 40, 32, 24, 16, 8, 0].map fun i => UInt8.ofBitVec (((BitVec.ofNat 64 l.length * 8) >>> i).setWidth 8))
def iv : V8 := ⟨0x6a09e667, 0xbb67ae85, 0x3c6ef372, 0xa54ff53a, 0x510e527f, 0x9b05688c, 0x1f83d9ab, 0x5be0cd19⟩
def out4 (x : BitVec 32) : List UInt8 := [UInt8.ofBitVec ((x >>> 24).setWidth 8), UInt8.ofBitVec ((x >>> 16).setWidth 8), UInt8.ofBitVec ((x >>> 8).setWidth 8), UInt8.ofBitVec (x.setWidth 8)]
def outV (v : V8) : List UInt8 := v.list.flatMap out4
def shaL (l : List UInt8) : List UInt8 := outV (blocksM ((padM l).length / 64) iv (padM l))
def sha (l : List UInt8) : Id := ⟨⟨shaL l⟩, rfl⟩
def sha2 (l : List UInt8) : Id := sha (shaL l)
end Go.Ab
set_option linter.unusedSimpArgs false
set_option linter.unusedVariables false
namespace Go.Ab
open Go Go.RowKit
abbrev W32 := BitVec 32
def tgtV (size word : Nat) : Nat := if size ≤ 3 then word / 2 ^ (8 * (3 - size)) else word * 2 ^ (8 * (size - 3))
def tgt (b : W32) : Option Nat :=
  if b.toNat % 16777216 = 0 ∨ 8388608 ≤ b.toNat % 16777216 then none
  else if tgtV (b.toNat / 16777216) (b.toNat % 16777216) = 0 ∨ 2 ^ 256 ≤ tgtV (b.toNat / 16777216) (b.toNat % 16777216) then none
  else some (tgtV (b.toNat / 16777216) (b.toNat % 16777216))
theorem tgt_lt {b : W32} {t : Nat} (h : tgt b = some t) : 0 < t ∧ t < 2 ^ 256 := by
  unfold tgt at h
  split at h
  · cases h
  · split at h
    · cases h
    · rename_i h1
      cases h
      omega
def workN (t : Nat) : Nat := 2 ^ 256 / (t + 1)
def sizeN (t : Nat) : Nat := (bitlen t + 7) / 8 + (if 0 < bitlen t ∧ bitlen t % 8 = 0 then 1 else 0)
def wordN (t : Nat) : Nat := if sizeN t ≤ 3 then t * 2 ^ (8 * (3 - sizeN t)) else t / 2 ^ (8 * (sizeN t - 3))
def shortN (t : Nat) : W32 := BitVec.ofNat 32 (sizeN t * 16777216 + wordN t)
theorem lt_bitlen (t : Nat) : t < 2 ^ bitlen t := bitlen_le.1 (Nat.le_refl _)
def clampT (took should : Int) : Nat := (max (should.tdiv 4) (min took (4 * should))).toNat
def nextT (t tk sh limit : Nat) : Nat :=
  let q := if t * tk < 2 ^ 256 then t * tk / sh else t / sh * tk
  if 2 ^ 256 ≤ q ∨ limit < q then limit else q
def nextN (b : W32) (took should : Int) (limit : Nat) : Option W32 :=
  match tgt b with
  | none => none
  | some t => if should < 1 ∨ 1099511627776 < should then none else some (shortN (nextT t (clampT took should) should.toNat limit))
theorem clampT_le {took should : Int} (h1 : 1 ≤ should) (h2 : should ≤ 1099511627776) : clampT took should ≤ 4398046511104 := by
  unfold clampT
  have : should.tdiv 4 ≤ should := by
    rw [Int.tdiv_eq_ediv_of_nonneg (by omega)]
    omega
  omega
structure Hdr where
  ver : W32
  prev : Id
  root : Id
  time : W32
  bits : W32
  nonce : W32
  deriving DecidableEq
def eHdr (h : Hdr) : List V := w32 h.ver :: (eId h.prev ++ (eId h.root ++ [w32 h.time, w32 h.bits, w32 h.nonce]))
theorem eHdr_len (h : Hdr) : (eHdr h).length = 68 := by simp [eHdr, eId_len]
def le4 (x : W32) : List UInt8 := [UInt8.ofBitVec (x.setWidth 8), UInt8.ofBitVec ((x >>> 8).setWidth 8), UInt8.ofBitVec ((x >>> 16).setWidth 8), UInt8.ofBitVec ((x >>> 24).setWidth 8)]
def hBytes (h : Hdr) : List UInt8 := le4 h.ver ++ (h.prev.toList ++ (h.root.toList ++ (le4 h.time ++ (le4 h.bits ++ le4 h.nonce))))
theorem hBytes_len (h : Hdr) : (hBytes h).length = 80 := by simp [hBytes, le4]
def hId (h : Hdr) : Id := sha2 (hBytes h)
def leN : List UInt8 → Nat
  | [] => 0
  | b :: l => b.toNat + 256 * leN l
def idN (x : Id) : Nat := leN x.toList
theorem leN_lt : ∀ l : List UInt8, leN l < 256 ^ l.length
  | [] => by simp [leN]
  | b :: l => by
    have := leN_lt l
    have := b.toNat_lt
    simp only [leN, List.length_cons, Nat.pow_succ]
    omega
theorem idN_lt (x : Id) : idN x < 2 ^ 256 := by
  have := leN_lt x.toList
  rw [Vector.length_toList] at this
  exact this
def provedN (h : Hdr) (limit : W32) : Int :=
  match tgt h.bits, tgt limit with
  | some a, some b => if b < a then 30 else if a < idN (hId h) then 50 else 0
  | _, _ => 30
def mineN (h : Hdr) (limit : W32) : Nat → Option Hdr
  | 0 => none
  | n + 1 => if provedN h limit = 0 then some h else mineN { h with nonce := h.nonce + 1 } limit n
end Go.Ab
set_option linter.unusedSimpArgs false
set_option linter.unusedVariables false
namespace Go.Ab
open Go Go.RowKit
end Go.Ab
set_option linter.unusedSimpArgs false
set_option linter.unusedVariables false
set_option maxRecDepth 10000
namespace Go.Ab
open Go Go.RowKit
section
variable {P : Program} {F : Fn}
theorem turn_amt : ∀ n : Fin 32, (BitVec.ofInt 64 (-((n.val : Nat) : Int)) &&& 31#64) = BitVec.ofNat 64 ((32 - n.val) % 32) := by decide
theorem spec102 (ok : OkHash P F) (st : St) (x : BitVec 32) {n : Nat} (h0 : 0 < n) (hn : n < 32) {k : Int} (hk : k = -(n : Int)) : ACalls P (F 102) [w32 x, .int .i64 k] st fun v st' => v = w32 (ror x n) ∧ st' = st := by
  refine shows_call ok.mixed ok.h102 (by simp [k102]) ?_
  have h := turn_amt ⟨n, hn⟩
  simp only at h
  rw [← hk, show (32 - n) % 32 = 32 - n from Nat.mod_eq_of_lt (by omega)] at h
  have e1 : (32#64 - BitVec.ofNat 64 (32 - n)).toNat = n := by
    rw [BitVec.toNat_sub, BitVec.toNat_ofNat, BitVec.toNat_ofNat, Nat.mod_eq_of_lt (show 32 - n < 2 ^ 64 by omega)]
    show (18446744073709551616 - (32 - n) + 32) % 18446744073709551616 = n
    omega
  have e2 : (BitVec.ofNat 64 (32 - n)).toNat = 32 - n := by
    rw [BitVec.toNat_ofNat, Nat.mod_eq_of_lt (by omega)]
  simp only [k102]
  simp [h, e1, e2, -BitVec.toNat_sub, -BitVec.toNat_ofNat]
  have : ror x n = x <<< (32 - n) ||| x >>> n := by rw [ror, BitVec.or_comm]
  rw [this]
def strB (s : ByteArray) : List UInt8 := s.data.toList
theorem idxStr_w (s : ByteArray) (k : IntKind) {i : Nat} (h : i < (strB s).length) : idxStrV (.str s) (.int k (i : Int)) = some (w8 (strB s)[i]) := by
  have hlt : i < s.data.size := by simpa [strB] using h
  have : s[i]? = some s.data[i] := by
    show (if h : i < s.size then some s[i] else none) = _
    rw [dif_pos (show i < s.size from hlt)]
    rfl
  simp only [idxStrV]
  rw [if_pos (by omega), Int.toNat_natCast, this]
  simp [w8, strB]
theorem spec100 (ok : OkHash P F) (st : St) (s : ByteArray) {i : Nat} (h : i + 4 ≤ (strB s).length) (hs : (strB s).length ≤ 1000000) : ACalls P (F 100) [.str s, .int .i64 (i : Int)] st fun v st' => v = w32 (be4 (strB s)[i] (strB s)[i + 1] (strB s)[i + 2] (strB s)[i + 3]) ∧ st' = st := by
  refine shows_call ok.mixed ok.h100 (by simp [k100]) ?_
  have w1 : IntKind.i64.wrap ((i : Int) + 1) = ((i + 1 : Nat) : Int) := by rw [wrap64 (by omega) (by omega)]; simp
  have w2 : IntKind.i64.wrap ((i : Int) + 2) = ((i + 2 : Nat) : Int) := by rw [wrap64 (by omega) (by omega)]; simp
  have w3 : IntKind.i64.wrap ((i : Int) + 3) = ((i + 3 : Nat) : Int) := by rw [wrap64 (by omega) (by omega)]; simp
  have i0 := idxStr_w s .i64 (i := i) (by omega)
  have i1 : idxStrV (.str s) (.int .i64 ((i : Int) + 1)) = some (w8 (strB s)[i + 1]) := idxStr_w s .i64 (i := i + 1) (by omega)
  have i2 : idxStrV (.str s) (.int .i64 ((i : Int) + 2)) = some (w8 (strB s)[i + 2]) := idxStr_w s .i64 (i := i + 2) (by omega)
  have i3 : idxStrV (.str s) (.int .i64 ((i : Int) + 3)) = some (w8 (strB s)[i + 3]) := idxStr_w s .i64 (i := i + 3) (by omega)
  simp only [k100]
  simp [w1, w2, w3, i0, i1, i2, i3]
  rfl
end
end Go.Ab
set_option linter.unusedSimpArgs false
set_option linter.unusedVariables false
set_option maxRecDepth 10000
namespace Go.Ab
open Go Go.RowKit
section
variable {P : Program} {F : Fn}
def ovU (s : Nat) : Bool := decide (2 ^ 256 ≤ s)
theorem add_u4 (a b c d a' b' c' d' : W) :
    (u4 (sum64 a a' false) (sum64 b b' (car64 a a' false)) (sum64 c c' (car64 b b' (car64 a a' false))) (sum64 d d' (car64 c c' (car64 b b' (car64 a a' false))))) = u4 a b c d + u4 a' b' c' d' ∧
    car64 d d' (car64 c c' (car64 b b' (car64 a a' false))) = ovU ((u4 a b c d).toNat + (u4 a' b' c' d').toNat) := by
  have := a.isLt; have := b.isLt; have := c.isLt; have := d.isLt
  have := a'.isLt; have := b'.isLt; have := c'.isLt; have := d'.isLt
  constructor
  · apply BitVec.eq_of_toNat_eq
    rw [BitVec.toNat_add, u4_nat, u4_nat, u4_nat, sum64_nat, sum64_nat, sum64_nat, sum64_nat]
    simp only [car64, decide_eq_true_eq, Bool.false_eq_true, if_false]
    show _ = (_ + _) % 115792089237316195423570985008687907853269984665640564039457584007913129639936
    split <;> split <;> split <;> omega
  · rw [u4_nat, u4_nat, ovU]
    simp only [car64, decide_eq_true_eq, Bool.false_eq_true, if_false]
    congr 1
    rw [eq_iff_iff]
    show _ ↔ 115792089237316195423570985008687907853269984665640564039457584007913129639936 ≤ _
    split <;> split <;> split <;> omega
def sumU (l : List U) : Nat := (l.map (·.toNat)).sum
theorem sumU_snoc (l : List U) (x : U) : sumU (l ++ [x]) = sumU l + x.toNat := by simp [sumU]
theorem over_step (s : Nat) (x : U) : (ovU s || ovU ((BitVec.ofNat 256 s).toNat + x.toNat)) = ovU (s + x.toNat) := by
  unfold ovU
  rw [BitVec.toNat_ofNat, Bool.eq_iff_iff]
  simp only [Bool.or_eq_true, decide_eq_true_eq]
  show 115792089237316195423570985008687907853269984665640564039457584007913129639936 ≤ s ∨ 115792089237316195423570985008687907853269984665640564039457584007913129639936 ≤ s % 115792089237316195423570985008687907853269984665640564039457584007913129639936 + _ ↔ 115792089237316195423570985008687907853269984665640564039457584007913129639936 ≤ _
  omega
set_option maxHeartbeats 1000000 in
theorem spec108 (ok : OkNum P F) (st : St) {s : V} {l : List U} (hs : Rd 4 eU s l st) (hl : l.length ≤ 1000) : ACalls P (F 108) [s] st fun v st' => v = .tup [nU (BitVec.ofNat 256 (sumU l)), .bool (ovU (sumU l))] ∧ st' = st := by
  refine shows_call ok.mixed ok.h108 (by simp [k108]) ?_
  simp only [k108]
  simp
  intro rid hrid
  simp
  intro oid hoid
  obtain ⟨hro, hoid⟩ := upd_none hoid
  have hlen := hs.len
  simp [hlen]
  rw [eU_zero]
  refine vc_loopJ (fun k env' st' => ∃ i, i ≤ l.length ∧ k = l.length - i ∧ env' 12 = .int .i64 (i : Nat) ∧ env' 5 = .bool (ovU (sumU (l.take i))) ∧ st' = (st.upd rid (.cells (eU 0#256))).upd oid (.cells (eU (BitVec.ofNat 256 (sumU (l.take i)))))) l.length
    ⟨0, by omega, by omega, rfl, by simp [sumU, ovU], by simp [sumU]⟩ ?_
  rintro J hJ k env' st' hsame ⟨i, hi, rfl, h12, h5, rfl⟩
  have g2 := hsame.get 2 rfl
  have g4 := hsame.get 4 rfl
  have g10 := hsame.get 10 rfl
  have g11 := hsame.get 11 rfl
  simp at g2 g4 g10 g11
  clear hsame
  have hsub : St.sub st ((st.upd rid (.cells (eU 0#256))).upd oid (.cells (eU (BitVec.ofNat 256 (sumU (l.take i)))))) := sub_ups (sub_ups (sub_self _) hrid) hoid
  have w1 : IntKind.i64.wrap ((i : Int) + 1) = (i : Int) + 1 := wrap64 (by omega) (by omega)
  by_cases hlt : i < l.length
  · obtain ⟨p, hp1, hp2⟩ := (hs.sub hsub).idx eU_len hlt .i64
    simp [g2, g4, g10, g11, h12, h5, hlt, hp1, hp2]
    intro bid hbid
    obtain ⟨hob, hbid⟩ := upd_none hbid
    obtain ⟨hrb, hbid⟩ := upd_none hbid
    have hbo := hob.symm
    have hbr := hrb.symm
    obtain ⟨a, b, c, d, hx⟩ := exists_u4 (BitVec.ofNat 256 (sumU (l.take i)))
    obtain ⟨a', b', c', d', hy⟩ := exists_u4 l[i]
    obtain ⟨e1, e2⟩ := add_u4 a b c d a' b' c' d'
    rw [hx, hy]
    simp [storeS, spliceV, eU_u4]
    rw [zero_b64]
    refine vc_unroll 5 ?_
    simp [unr_succ, g4, hob, hbo, idxArrV, St.seg, segOf, storeS, spliceV]
    have hov : (ovU (sumU (l.take i)) || car64 d d' (car64 c c' (car64 b b' (car64 a a' false)))) = ovU (sumU (l.take (i + 1))) := by
      rw [e2, ← hx, ← hy, List.take_succ_eq_append_getElem hlt, sumU_snoc]
      exact over_step _ _
    have hst : (((((st.upd rid (.cells (eU 0#256))).upd oid (.cells [w64 a, w64 b, w64 c, w64 d])).upd bid (.cells [w64 a', w64 b', w64 c', w64 d'])).upd oid (.cells [w64 (sum64 a a' false), w64 (sum64 b b' (car64 a a' false)), w64 (sum64 c c' (car64 b b' (car64 a a' false))), w64 (sum64 d d' (car64 c c' (car64 b b' (car64 a a' false))))]))) = ((st.upd rid (.cells (eU 0#256))).upd oid (.cells (eU (BitVec.ofNat 256 (sumU (l.take (i + 1))))))).upd bid (.cells [w64 a', w64 b', w64 c', w64 d']) := by
      have e3 : BitVec.ofNat 256 (sumU (l.take (i + 1))) = u4 a b c d + u4 a' b' c' d' := by
        rw [← hx, ← hy, List.take_succ_eq_append_getElem hlt, sumU_snoc, BitVec.ofNat_add, BitVec.ofNat_toNat, BitVec.setWidth_eq]
      rw [e3, ← e1, eU_u4]
      funext j
      by_cases h1 : j = oid <;> by_cases h2 : j = bid <;> simp [h1, h2, hob, hbo]
    have fin : ∀ env'', env'' 12 = .int .i64 ((i : Int) + 1) → env'' 5 = .bool (ovU (sumU (l.take (i + 1)))) → Round J (l.length - i) env'' (((((st.upd rid (.cells (eU 0#256))).upd oid (.cells [w64 a, w64 b, w64 c, w64 d])).upd bid (.cells [w64 a', w64 b', w64 c', w64 d'])).upd oid (.cells [w64 (sum64 a a' false), w64 (sum64 b b' (car64 a a' false)), w64 (sum64 c c' (car64 b b' (car64 a a' false))), w64 (sum64 d d' (car64 c c' (car64 b b' (car64 a a' false))))]))) := fun env'' q1 q2 => by
      rw [hst]
      refine Round.mk (l.length - (i + 1)) _ (by omega) (sub_upd (by simp [hob.symm, hrb.symm, hbid])) (hJ _ _ _ ⟨i + 1, by omega, rfl, by simpa using q1, q2, rfl⟩)
    obtain ⟨t, ht⟩ : ∃ t, t = ovU (sumU (l.take i)) := ⟨_, rfl⟩
    rw [← ht] at h5 hov
    cases t
    · simp [h5, h12, w1, b64_ne] at hov ⊢
      exact fin _ (by simp) (by simp [hov])
    · simp [h5, h12, w1, b64_ne] at hov ⊢
      exact fin _ (by simp) (by simp [← hov])
  · have : i = l.length := by omega
    subst this
    rw [List.take_length] at *
    have hl' : ¬ ((l.length : Int) < l.length) := by omega
    have hsp : ∀ x y : U, spliceV (eU x) 0 (eU y) = eU y := fun _ _ => rfl
    simp [g2, g4, g10, g11, h12, h5, St.seg, segU, storeS, hro, hro.symm, hsp, eU_len]
    exact ⟨sub_ups (sub_ups (sub_ups (sub_self _) hrid) hoid) hrid, rfl⟩
theorem spec118 (ok : OkNum P F) (st : St) (x y : W) : ACalls P (F 118) [w64 x, w64 y] st fun v st' => v = .tup [w64 (mulhi x y), w64 (x * y)] ∧ st' = st := by
  refine shows_call ok.mixed ok.h118 (by simp [k118]) ?_
  have h := mul64_hi x y
  simp only [k118]
  simp
  rw [← h]
def mlo (x n c : W) : W := sum64 (x * n) c false
def mhi (x n c : W) : W := mulhi x n + b64 (car64 (x * n) c false)
theorem m_nat (x n c : W) : (mlo x n c).toNat + (mhi x n c).toNat * 18446744073709551616 = x.toNat * n.toNat + c.toNat := by
  have h1 := x.isLt
  have h2 := n.isLt
  have h3 := c.isLt
  have hb : x.toNat * n.toNat ≤ 18446744073709551615 * 18446744073709551615 := Nat.mul_le_mul (by omega) (by omega)
  rw [mlo, mhi, sum64_nat, BitVec.toNat_add, b64_nat, mulhi, BitVec.toNat_ofNat, BitVec.toNat_mul]
  simp only [car64, decide_eq_true_eq, Bool.false_eq_true, if_false, BitVec.toNat_mul]
  generalize x.toNat * n.toNat = q at *
  show (q % 18446744073709551616 + c.toNat + 0) % 18446744073709551616 + (q / 18446744073709551616 % 18446744073709551616 + (if 18446744073709551616 ≤ q % 18446744073709551616 + c.toNat + 0 then 1 else 0)) % 18446744073709551616 * 18446744073709551616 = q + c.toNat
  split <;> omega
theorem mul_u4 (a b c d n : W) :
    u4 (mlo a n 0) (mlo b n (mhi a n 0)) (mlo c n (mhi b n (mhi a n 0))) (mlo d n (mhi c n (mhi b n (mhi a n 0)))) = BitVec.ofNat 256 ((u4 a b c d).toNat * n.toNat) ∧
    ((mhi d n (mhi c n (mhi b n (mhi a n 0)))) != 0#64) = ovU ((u4 a b c d).toNat * n.toNat) := by
  have e0 := m_nat a n 0
  have e1 := m_nat b n (mhi a n 0)
  have e2 := m_nat c n (mhi b n (mhi a n 0))
  have e3 := m_nat d n (mhi c n (mhi b n (mhi a n 0)))
  generalize hC0 : mhi a n 0 = C0 at *
  generalize hC1 : mhi b n C0 = C1 at *
  generalize hC2 : mhi c n C1 = C2 at *
  generalize hC3 : mhi d n C2 = C3 at *
  generalize mlo a n 0 = L0 at *
  generalize mlo b n C0 = L1 at *
  generalize mlo c n C1 = L2 at *
  generalize mlo d n C2 = L3 at *
  have i0 := L0.isLt; have i1 := L1.isLt; have i2 := L2.isLt; have i3 := L3.isLt
  have e0' : L0.toNat + C0.toNat * 18446744073709551616 = a.toNat * n.toNat := by simpa using e0
  have key : (u4 a b c d).toNat * n.toNat = L0.toNat + L1.toNat * 18446744073709551616 + L2.toNat * 340282366920938463463374607431768211456 + L3.toNat * 6277101735386680763835789423207666416102355444464034512896 + C3.toNat * 115792089237316195423570985008687907853269984665640564039457584007913129639936 := by
    rw [u4_nat, Nat.add_mul, Nat.add_mul, Nat.add_mul, Nat.mul_right_comm b.toNat, Nat.mul_right_comm c.toNat, Nat.mul_right_comm d.toNat]
    generalize a.toNat * n.toNat = qa at *
    generalize b.toNat * n.toNat = qb at *
    generalize c.toNat * n.toNat = qc at *
    generalize d.toNat * n.toNat = qd at *
    omega
  rw [key]
  constructor
  · apply BitVec.eq_of_toNat_eq
    rw [u4_nat, BitVec.toNat_ofNat]
    show _ = _ % 115792089237316195423570985008687907853269984665640564039457584007913129639936
    omega
  · unfold ovU
    have hz : (C3 != 0#64) = decide (0 < C3.toNat) := by
      rw [Bool.eq_iff_iff]
      simp only [bne_iff_ne, ne_eq, decide_eq_true_eq]
      constructor
      · intro h
        have : C3.toNat ≠ 0 := fun e => h (BitVec.eq_of_toNat_eq e)
        omega
      · rintro h rfl
        simp at h
    rw [hz]
    congr 1
    rw [eq_iff_iff]
    show _ ↔ 115792089237316195423570985008687907853269984665640564039457584007913129639936 ≤ _
    omega
set_option maxHeartbeats 1000000 in
theorem spec110 (ok : OkNum P F) (st : St) (x : U) (n : W) : ACalls P (F 110) [nU x, w64 n] st fun v st' => v = .tup [nU (BitVec.ofNat 256 (x.toNat * n.toNat)), .bool (ovU (x.toNat * n.toNat))] ∧ st' = st := by
  refine shows_call ok.mixed ok.h110 (by simp [k110]) ?_
  obtain ⟨a, b, c, d, rfl⟩ := exists_u4 x
  obtain ⟨e1, e2⟩ := mul_u4 a b c d n
  rw [← e1, ← e2]
  simp only [k110, nU, eU_u4]
  simp
  intro i hi
  simp
  intro j hj
  obtain ⟨hij, hj⟩ := upd_none hj
  have hji := hij.symm
  have call : ∀ (st : St) (y : W), ACalls P (F 118) [w64 y, w64 n] st fun v st' => v = .tup [w64 (mulhi y n), w64 (y * n)] ∧ st' = st := fun st y => spec118 ok st y n
  simp [hij, St.seg, segOf]
  refine vc_unroll 5 ?_
  have i0 : idxV 4 false 1 (.agg [w64 a, w64 b, w64 c, w64 d]) (.int .i64 0) = some (w64 a) := _root_.id rfl
  have i1 : idxV 4 false 1 (.agg [w64 a, w64 b, w64 c, w64 d]) (.int .i64 1) = some (w64 b) := _root_.id rfl
  have i2 : idxV 4 false 1 (.agg [w64 a, w64 b, w64 c, w64 d]) (.int .i64 2) = some (w64 c) := _root_.id rfl
  have i3 : idxV 4 false 1 (.agg [w64 a, w64 b, w64 c, w64 d]) (.int .i64 3) = some (w64 d) := _root_.id rfl
  have z0 : w64 0#64 = w64 (b64 false) := rfl
  have cs : ∀ p q : W, carryV false (w64 p) (w64 q) (w64 0#64) = some (.tup [w64 (sum64 p q false), w64 (b64 (car64 p q false))]) := fun p q => carry_add p q false
  simp [unr_succ, i0]
  refine (call _ a).mono ?_
  rintro v s ⟨rfl, rfl⟩
  simp [unr_succ, i1, cs, idxArrV, hij, hji, storeS, spliceV]
  refine (call _ b).mono ?_
  rintro v s ⟨rfl, rfl⟩
  simp [unr_succ, i2, cs, idxArrV, hij, hji, storeS, spliceV]
  refine (call _ c).mono ?_
  rintro v s ⟨rfl, rfl⟩
  simp [unr_succ, i3, cs, idxArrV, hij, hji, storeS, spliceV]
  refine (call _ d).mono ?_
  rintro v s ⟨rfl, rfl⟩
  simp [unr_succ, cs, idxArrV, hij, hji, storeS, spliceV, St.seg, segOf]
  refine ⟨sub_ups (sub_ups (sub_ups (sub_ups (sub_self _) hi) hj) hi) hj, ?_⟩
  simp [mlo, mhi]
def len8L : List UInt8 := [0, 1] ++ List.replicate 2 2 ++ List.replicate 4 3 ++ List.replicate 8 4 ++ List.replicate 16 5 ++ List.replicate 32 6 ++ List.replicate 64 7 ++ List.replicate 128 8
theorem len8_at : ∀ i : Fin 256, (len8L.getD i.val 0).toNat = bitlen i.val := by decide +kernel
theorem bitlen_shift {n k : Nat} (h : 2 ^ k ≤ n) : bitlen n = bitlen (n / 2 ^ k) + k := by
  have hp := Nat.two_pow_pos k
  have h1 : 0 < n / 2 ^ k := Nat.div_pos h hp
  apply Nat.le_antisymm
  · rw [bitlen_le, Nat.pow_add]
    have := lt_bitlen (n / 2 ^ k)
    exact (Nat.div_lt_iff_lt_mul hp).1 this
  · have h2 : 0 < bitlen (n / 2 ^ k) := bitlen_pos.2 h1
    have h3 : 2 ^ (bitlen (n / 2 ^ k) - 1) ≤ n / 2 ^ k := bitlen_lt.1 (by omega)
    have h4 : 2 ^ (bitlen (n / 2 ^ k) - 1 + k) ≤ n := by
      rw [Nat.pow_add]
      exact (Nat.le_div_iff_mul_le hp).1 h3
    have := bitlen_lt.2 h4
    omega
theorem spec115 (ok : OkNum P F) (st : St) (x : W) : ACalls P (F 115) [w64 x] st fun v st' => v = .int .i64 (bitlen x.toNat) ∧ st' = st := by
  refine shows_call ok.mixed ok.h115 (by simp [k115]) ?_
  simp only [k115]
  generalize hs : ByteArray.mk _ = tab
  have htab : strB tab = len8L := by rw [← hs]; rfl
  clear hs
  have at_ : ∀ y : W, y.toNat < 256 → idxStrV (.str tab) (w8 (UInt8.ofBitVec (y.setWidth 8))) = some (w8 (len8L.getD y.toNat 0)) := fun y hy => by
    have e : (UInt8.ofBitVec (y.setWidth 8)).toNat = y.toNat := by
      show (y.setWidth 8).toNat = _
      rw [BitVec.toNat_setWidth]
      exact Nat.mod_eq_of_lt hy
    have hl : y.toNat < (strB tab).length := by rw [htab]; exact hy
    have := idxStr_w tab .u8 hl
    rw [w8, e, this]
    congr 2
    simp only [htab]
    rw [List.getD_eq_getElem?_getD, List.getElem?_eq_getElem (show y.toNat < len8L.length from hy), Option.getD_some]
  have last : ∀ (y : W) (k : Nat), y.toNat < 256 → k ≤ 100 → idxStrV (.str tab) (w8 (UInt8.ofBitVec (y.setWidth 8))) = some (w8 (len8L.getD y.toNat 0)) ∧ IntKind.i64.wrap ((k : Int) + ((len8L.getD y.toNat 0).toNat : Int)) = ((bitlen y.toNat + k : Nat) : Int) := fun y k hy hk => by
    have h := len8_at ⟨y.toNat, hy⟩
    simp only at h
    have h2 : bitlen y.toNat ≤ 8 := bitlen_le.2 hy
    refine ⟨at_ y hy, ?_⟩
    rw [h, wrap64 (by omega) (by omega)]
    omega
  have hshr : ∀ (z : W) (k : Nat), (z >>> k).toNat = z.toNat / 2 ^ k := fun z k => by
    rw [BitVec.toNat_ushiftRight, Nat.shiftRight_eq_div_pow]
  have c32 : (4294967296#64).toNat = 2 ^ 32 := rfl
  have c16 : (65536#64).toNat = 2 ^ 16 := rfl
  have c8 : (256#64).toNat = 2 ^ 8 := rfl
  have hx := x.isLt
  -- one step: a number with at least so many bits
  have step : ∀ (z : W) (k : Nat), 2 ^ k ≤ z.toNat → bitlen z.toNat = bitlen (z >>> k).toNat + k := fun z k h => by
    rw [hshr]; exact bitlen_shift h
  simp
  by_cases h1 : 4294967296#64 ≤ x
  · have b1 := step x 32 (by rw [← c32]; exact BitVec.le_def.1 h1)
    have l1 : (x >>> 32).toNat < 2 ^ 32 := by rw [hshr]; omega
    simp [h1]
    generalize x >>> 32 = y at *
    by_cases h2 : 65536#64 ≤ y
    · have b2 := step y 16 (by rw [← c16]; exact BitVec.le_def.1 h2)
      have l2 : (y >>> 16).toNat < 2 ^ 16 := by rw [hshr]; omega
      simp [h2]
      generalize y >>> 16 = z at *
      by_cases h3 : 256#64 ≤ z
      · have b3 := step z 8 (by rw [← c8]; exact BitVec.le_def.1 h3)
        have l3 : (z >>> 8).toNat < 2 ^ 8 := by rw [hshr]; omega
        simp [h3]
        generalize z >>> 8 = t at *
        obtain ⟨q1, q2⟩ := last t 56 (by omega) (by omega)
        have q3 : bitlen x.toNat = bitlen t.toNat + 56 := by omega
        simp [q1, q3] at q2 ⊢
        exact q2
      · have l3 : z.toNat < 2 ^ 8 := by
          have := mt BitVec.le_def.2 h3
          rw [c8] at this
          omega
        simp [h3]
        obtain ⟨q1, q2⟩ := last z 48 (by omega) (by omega)
        have q3 : bitlen x.toNat = bitlen z.toNat + 48 := by omega
        simp [q1, q3] at q2 ⊢
        exact q2
    · have l2 : y.toNat < 2 ^ 16 := by
        have := mt BitVec.le_def.2 h2
        rw [c16] at this
        omega
      simp [h2]
      by_cases h3 : 256#64 ≤ y
      · have b3 := step y 8 (by rw [← c8]; exact BitVec.le_def.1 h3)
        have l3 : (y >>> 8).toNat < 2 ^ 8 := by rw [hshr]; omega
        simp [h3]
        generalize y >>> 8 = t at *
        obtain ⟨q1, q2⟩ := last t 40 (by omega) (by omega)
        have q3 : bitlen x.toNat = bitlen t.toNat + 40 := by omega
        simp [q1, q3] at q2 ⊢
        exact q2
      · have l3 : y.toNat < 2 ^ 8 := by
          have := mt BitVec.le_def.2 h3
          rw [c8] at this
          omega
        simp [h3]
        obtain ⟨q1, q2⟩ := last y 32 (by omega) (by omega)
        have q3 : bitlen x.toNat = bitlen y.toNat + 32 := by omega
        simp [q1, q3] at q2 ⊢
        exact q2
  · have l1 : x.toNat < 2 ^ 32 := by
      have := mt BitVec.le_def.2 h1
      rw [c32] at this
      omega
    simp [h1]
    by_cases h2 : 65536#64 ≤ x
    · have b2 := step x 16 (by rw [← c16]; exact BitVec.le_def.1 h2)
      have l2 : (x >>> 16).toNat < 2 ^ 16 := by rw [hshr]; omega
      simp [h2]
      generalize x >>> 16 = z at *
      by_cases h3 : 256#64 ≤ z
      · have b3 := step z 8 (by rw [← c8]; exact BitVec.le_def.1 h3)
        have l3 : (z >>> 8).toNat < 2 ^ 8 := by rw [hshr]; omega
        simp [h3]
        generalize z >>> 8 = t at *
        obtain ⟨q1, q2⟩ := last t 24 (by omega) (by omega)
        have q3 : bitlen x.toNat = bitlen t.toNat + 24 := by omega
        simp [q1, q3] at q2 ⊢
        exact q2
      · have l3 : z.toNat < 2 ^ 8 := by
          have := mt BitVec.le_def.2 h3
          rw [c8] at this
          omega
        simp [h3]
        obtain ⟨q1, q2⟩ := last z 16 (by omega) (by omega)
        have q3 : bitlen x.toNat = bitlen z.toNat + 16 := by omega
        simp [q1, q3] at q2 ⊢
        exact q2
    · have l2 : x.toNat < 2 ^ 16 := by
        have := mt BitVec.le_def.2 h2
        rw [c16] at this
        omega
      simp [h2]
      by_cases h3 : 256#64 ≤ x
      · have b3 := step x 8 (by rw [← c8]; exact BitVec.le_def.1 h3)
        have l3 : (x >>> 8).toNat < 2 ^ 8 := by rw [hshr]; omega
        simp [h3]
        generalize x >>> 8 = t at *
        obtain ⟨q1, q2⟩ := last t 8 (by omega) (by omega)
        have q3 : bitlen x.toNat = bitlen t.toNat + 8 := by omega
        simp [q1, q3] at q2 ⊢
        exact q2
      · have l3 : x.toNat < 2 ^ 8 := by
          have := mt BitVec.le_def.2 h3
          rw [c8] at this
          omega
        simp [h3]
        obtain ⟨q1, q2⟩ := last x 0 (by omega) (by omega)
        simp at q2
        simp [q1, q2]
end
end Go.Ab
set_option linter.unusedSimpArgs false
set_option linter.unusedVariables false
set_option maxRecDepth 10000
namespace Go.Ab
open Go Go.RowKit
section
variable {P : Program} {F : Fn}
theorem bitlen_add {n k m : Nat} (hm : m < 2 ^ k) (hn : 0 < n) : bitlen (n * 2 ^ k + m) = bitlen n + k := by
  have h1 : 2 ^ k ≤ n * 2 ^ k + m := Nat.le_add_right_of_le (Nat.le_mul_of_pos_left _ hn)
  have h2 := bitlen_shift h1
  rw [h2, Nat.add_comm (n * 2 ^ k), Nat.add_mul_div_right _ _ (Nat.two_pow_pos k), Nat.div_eq_of_lt hm, Nat.zero_add]
theorem u4_lo2 (a b : W) : (u4 a b 0#64 0#64).toNat = b.toNat * 2 ^ 64 + a.toNat := by
  have h : ∀ c d : W, c.toNat = 0 → d.toNat = 0 → (u4 a b c d).toNat = b.toNat * 18446744073709551616 + a.toNat := fun c d hc hd => by
    rw [u4_nat]; omega
  exact h _ _ rfl rfl
theorem u4_lo3 (a b c : W) : (u4 a b c 0#64).toNat = c.toNat * 2 ^ 128 + (a.toNat + b.toNat * 18446744073709551616) := by
  have h : ∀ d : W, d.toNat = 0 → (u4 a b c d).toNat = c.toNat * 340282366920938463463374607431768211456 + (a.toNat + b.toNat * 18446744073709551616) := fun d hd => by
    rw [u4_nat]; omega
  exact h _ rfl
theorem u4_hi (a b c d : W) : (u4 a b c d).toNat = d.toNat * 2 ^ 192 + (a.toNat + b.toNat * 18446744073709551616 + c.toNat * 340282366920938463463374607431768211456) := by
  rw [u4_nat, Nat.add_comm]
theorem w_pos {x : W} (h : x ≠ 0#64) : 0 < x.toNat := by
  have : x.toNat ≠ 0 := fun e => h (BitVec.eq_of_toNat_eq e)
  omega
theorem spec114 (ok : OkNum P F) (st : St) (x : U) : ACalls P (F 114) [nU x] st fun v st' => v = .int .i64 (bitlen x.toNat) ∧ st' = st := by
  refine shows_call ok.mixed ok.h114 (by simp [k114]) ?_
  obtain ⟨a, b, c, d, rfl⟩ := exists_u4 x
  have ha := a.isLt; have hb := b.isLt; have hc := c.isLt; have hd := d.isLt
  have e := u4_nat a b c d
  have bl : ∀ y : W, bitlen y.toNat ≤ 64 := fun y => bitlen_le.2 y.isLt
  simp only [k114, nU, eU_u4]
  simp
  intro i hi
  have call : ∀ (st : St) (y : W), ACalls P (F 115) [w64 y] st fun v st' => v = .int .i64 (bitlen y.toNat) ∧ st' = st := fun st y => spec115 ok st y
  refine vc_unroll 5 ?_
  simp [unr_succ, idxArrV, St.seg, segOf]
  by_cases h : d = 0#64
  · subst h
    simp [unr_succ, idxArrV, St.seg, segOf]
    by_cases h : c = 0#64
    · subst h
      simp [unr_succ, idxArrV, St.seg, segOf]
      by_cases h : b = 0#64
      · subst h
        simp [unr_succ, idxArrV, St.seg, segOf]
        by_cases h : a = 0#64
        · subst h
          simp [unr_succ, idxArrV, St.seg, segOf, e, bitlen]
          exact sub_upd hi
        · have hne : (a != 0#64) = true := by simp [h]
          simp [unr_succ, idxArrV, St.seg, segOf, hne]
          refine (call _ a).mono ?_
          rintro v s ⟨rfl, rfl⟩
          have := bl a
          have w : IntKind.i64.wrap (bitlen a.toNat : Int) = bitlen a.toNat := wrap64 (by omega) (by omega)
          simp [w, e]
          exact sub_upd hi
      · have hne : (b != 0#64) = true := by simp [h]
        simp [unr_succ, idxArrV, St.seg, segOf, hne]
        refine (call _ b).mono ?_
        rintro v s ⟨rfl, rfl⟩
        have := bl b
        have w : IntKind.i64.wrap (64 + (bitlen b.toNat : Int)) = 64 + bitlen b.toNat := wrap64 (by omega) (by omega)
        have q := bitlen_add (k := 64) ha (w_pos h)
        rw [u4_lo2, q]
        simp [w]
        exact ⟨sub_upd hi, by omega⟩
    · have hne : (c != 0#64) = true := by simp [h]
      simp [unr_succ, idxArrV, St.seg, segOf, hne]
      refine (call _ c).mono ?_
      rintro v s ⟨rfl, rfl⟩
      have := bl c
      have w : IntKind.i64.wrap (128 + (bitlen c.toNat : Int)) = 128 + bitlen c.toNat := wrap64 (by omega) (by omega)
      have q := bitlen_add (k := 128) (m := a.toNat + b.toNat * 18446744073709551616) (by show _ < 340282366920938463463374607431768211456; omega) (w_pos h)
      rw [u4_lo3, q]
      simp [w]
      exact ⟨sub_upd hi, by omega⟩
  · have hne : (d != 0#64) = true := by simp [h]
    simp [unr_succ, idxArrV, St.seg, segOf, hne]
    refine (call _ d).mono ?_
    rintro v s ⟨rfl, rfl⟩
    have := bl d
    have w : IntKind.i64.wrap (192 + (bitlen d.toNat : Int)) = 192 + bitlen d.toNat := wrap64 (by omega) (by omega)
    have q := bitlen_add (k := 192) (m := a.toNat + b.toNat * 18446744073709551616 + c.toNat * 340282366920938463463374607431768211456) (by show _ < 6277101735386680763835789423207666416102355444464034512896; omega) (w_pos h)
    rw [u4_hi, q]
    simp [w]
    exact ⟨sub_upd hi, by omega⟩
end
end Go.Ab
set_option linter.unusedSimpArgs false
set_option linter.unusedVariables false
set_option maxRecDepth 10000
namespace Go.Ab
open Go Go.RowKit
section
variable {P : Program} {F : Fn}
def hl (x y : W) (s : Nat) : W := x <<< s ||| y >>> (64 - s)
def hr (x y : W) (s : Nat) : W := x >>> s ||| y <<< (64 - s)
theorem pow64 {s : Nat} (hs : s ≤ 64) : 2 ^ s * 2 ^ (64 - s) = 18446744073709551616 := by
  rw [← Nat.pow_add, show s + (64 - s) = 64 by omega]
theorem shl_nat (x : W) (s : Nat) : (x <<< s).toNat = x.toNat * 2 ^ s % 18446744073709551616 := by
  rw [BitVec.toNat_shiftLeft, Nat.shiftLeft_eq]
theorem shr_nat64 (x : W) (s : Nat) : (x >>> s).toNat = x.toNat / 2 ^ s := by
  rw [BitVec.toNat_ushiftRight, Nat.shiftRight_eq_div_pow]
theorem or_disj (x y : Nat) (s : Nat) (hy : y < 2 ^ s) : (x * 2 ^ s ||| y) = x * 2 ^ s + y := by
  rw [← Nat.shiftLeft_eq, ← Nat.shiftLeft_add_eq_or_of_lt hy, Nat.shiftLeft_eq]
theorem mul_mod_pow (x s : Nat) (hs : s ≤ 64) : x * 2 ^ s % 18446744073709551616 = x % 2 ^ (64 - s) * 2 ^ s := by
  rw [← pow64 hs, Nat.mul_comm (2 ^ s), Nat.mul_mod_mul_right]
theorem mul_div_pow (x s : Nat) (hs : s ≤ 64) : x * 2 ^ s / 18446744073709551616 = x / 2 ^ (64 - s) := by
  rw [← pow64 hs, Nat.mul_comm (2 ^ s), Nat.mul_div_mul_right _ _ (Nat.two_pow_pos s)]
theorem hl_nat (x y : W) (s : Nat) (hs : s ≤ 64) : (hl x y s).toNat = x.toNat * 2 ^ s % 18446744073709551616 + y.toNat * 2 ^ s / 18446744073709551616 := by
  have hy := y.isLt
  rw [hl, BitVec.toNat_or, shl_nat, shr_nat64, mul_mod_pow _ _ hs, mul_div_pow _ _ hs]
  refine or_disj _ _ _ ?_
  rw [Nat.div_lt_iff_lt_mul (Nat.two_pow_pos _), pow64 hs]
  exact hy
theorem hr_nat (x y : W) (s : Nat) (hs : s ≤ 64) : (hr x y s).toNat = y.toNat * 2 ^ (64 - s) % 18446744073709551616 + x.toNat * 2 ^ (64 - s) / 18446744073709551616 := by
  have hx := x.isLt
  have e : 64 - (64 - s) = s := by omega
  rw [hr, BitVec.or_comm, BitVec.toNat_or, shl_nat, shr_nat64, mul_mod_pow _ _ (by omega), mul_div_pow _ _ (by omega), e]
  refine or_disj _ _ _ ?_
  rw [Nat.div_lt_iff_lt_mul (Nat.two_pow_pos _), Nat.mul_comm, pow64 hs]
  exact hx
theorem shl_u4 (a b c d : W) (s : Nat) (hs : s ≤ 64) : u4 a b c d <<< s = u4 (a <<< s) (hl b a s) (hl c b s) (hl d c s) := by
  apply BitVec.eq_of_toNat_eq
  have b1 := (hl b a s).isLt
  have b2 := (hl c b s).isLt
  have b3 := (hl d c s).isLt
  rw [hl_nat _ _ _ hs] at b1 b2 b3
  rw [BitVec.toNat_shiftLeft, Nat.shiftLeft_eq, u4_nat, u4_nat, shl_nat, hl_nat _ _ _ hs, hl_nat _ _ _ hs, hl_nat _ _ _ hs, Nat.add_mul, Nat.add_mul, Nat.add_mul, Nat.mul_right_comm b.toNat, Nat.mul_right_comm c.toNat, Nat.mul_right_comm d.toNat]
  generalize a.toNat * 2 ^ s = A at *
  generalize b.toNat * 2 ^ s = B at *
  generalize c.toNat * 2 ^ s = C at *
  generalize d.toNat * 2 ^ s = D at *
  show _ % 115792089237316195423570985008687907853269984665640564039457584007913129639936 = _
  omega
theorem shr_u4 (a b c d : W) (s : Nat) (hs : s ≤ 64) : u4 a b c d >>> s = u4 (hr a b s) (hr b c s) (hr c d s) (d >>> s) := by
  apply BitVec.eq_of_toNat_eq
  have hp := Nat.two_pow_pos (64 - s)
  have e : 64 - (64 - s) = s := by omega
  have hd : (d >>> s).toNat = d.toNat * 2 ^ (64 - s) / 18446744073709551616 := by
    rw [shr_nat64, mul_div_pow _ _ (by omega), e]
  rw [BitVec.toNat_ushiftRight, Nat.shiftRight_eq_div_pow, u4_nat, u4_nat, hd, hr_nat _ _ _ hs, hr_nat _ _ _ hs, hr_nat _ _ _ hs]
  rw [← Nat.mul_div_mul_right _ _ hp, pow64 hs, Nat.add_mul, Nat.add_mul, Nat.add_mul, Nat.mul_right_comm b.toNat, Nat.mul_right_comm c.toNat, Nat.mul_right_comm d.toNat]
  generalize a.toNat * 2 ^ (64 - s) = A
  generalize b.toNat * 2 ^ (64 - s) = B
  generalize c.toNat * 2 ^ (64 - s) = C
  generalize d.toNat * 2 ^ (64 - s) = D
  omega
theorem shl_word (a b c d : W) : u4 a b c d <<< 64 = u4 0#64 a b c := by
  have h : ∀ z : W, z.toNat = 0 → u4 a b c d <<< 64 = u4 z a b c := fun z hz => by
    have := a.isLt; have := b.isLt; have := c.isLt; have := d.isLt
    apply BitVec.eq_of_toNat_eq
    rw [BitVec.toNat_shiftLeft, Nat.shiftLeft_eq, u4_nat, u4_nat]
    show _ * 18446744073709551616 % 115792089237316195423570985008687907853269984665640564039457584007913129639936 = _
    omega
  exact h _ rfl
theorem shr_word (a b c d : W) : u4 a b c d >>> 64 = u4 b c d 0#64 := by
  have h : ∀ z : W, z.toNat = 0 → u4 a b c d >>> 64 = u4 b c d z := fun z hz => by
    have := a.isLt; have := b.isLt; have := c.isLt; have := d.isLt
    apply BitVec.eq_of_toNat_eq
    rw [BitVec.toNat_ushiftRight, Nat.shiftRight_eq_div_pow, u4_nat, u4_nat]
    show _ / 18446744073709551616 = _
    omega
  exact h _ rfl
def shlU (x : U) (n : Int) : U := if n < 0 ∨ 255 < n then 0#256 else x <<< n.toNat
def shrU (x : U) (n : Int) : U := if n < 0 ∨ 255 < n then 0#256 else x >>> n.toNat
theorem hl0 (x y : W) : hl x y 0 = x := by
  unfold hl
  rw [BitVec.shiftLeft_zero]
  have : y >>> (64 - 0) = 0#64 := by
    apply BitVec.eq_of_toNat_eq
    rw [shr_nat64, Nat.div_eq_of_lt y.isLt]; rfl
  rw [this, BitVec.or_zero]
theorem hr0 (x y : W) : hr x y 0 = x := by
  unfold hr
  rw [BitVec.ushiftRight_zero]
  have : y <<< (64 - 0) = 0#64 := by
    apply BitVec.eq_of_toNat_eq
    rw [shl_nat]
    exact Nat.mul_mod_left _ _
  rw [this, BitVec.or_zero]
set_option maxHeartbeats 2000000 in
theorem spec112 (ok : OkNum P F) (st : St) (x : U) (n : Int) : ACalls P (F 112) [nU x, .int .i64 n] st fun v st' => v = nU (shlU x n) ∧ st' = st := by
  refine shows_call ok.mixed ok.h112 (by simp [k112]) ?_
  obtain ⟨a, b, c, d, rfl⟩ := exists_u4 x
  simp only [k112, nU, eU_u4]
  simp
  intro i hi
  simp
  intro j hj
  obtain ⟨hij, hj⟩ := upd_none hj
  have hji := hij.symm
  by_cases h0 : n < 0
  · have e : shlU (u4 a b c d) n = u4 0#64 0#64 0#64 0#64 := by simp [shlU, h0]; rfl
    rw [e, eU_u4]
    simp [h0, fillV, storeS, spliceV, St.seg, segOf]
    repeat refine sub_ups ?_ (by assumption)
    exact St.sub_refl _
  by_cases h1 : 255 < n
  · have e : shlU (u4 a b c d) n = u4 0#64 0#64 0#64 0#64 := by simp [shlU, h1]; rfl
    rw [e, eU_u4]
    simp [h0, h1, fillV, storeS, spliceV, St.seg, segOf]
    repeat refine sub_ups ?_ (by assumption)
    exact St.sub_refl _
  obtain ⟨m, rfl⟩ := Int.eq_ofNat_of_zero_le (show 0 ≤ n by omega)
  have hm : m ≤ 255 := by omega
  obtain ⟨w, s, hs, rfl⟩ : ∃ w s, s < 64 ∧ m = 64 * w + s := ⟨m / 64, m % 64, Nat.mod_lt _ (by omega), by omega⟩
  have hq : Int.tdiv ((64 * w + s : Nat) : Int) 64 = (w : Int) := by
    rw [Int.tdiv_eq_ediv_of_nonneg (by omega)]; omega
  have hr' : Int.tmod ((64 * w + s : Nat) : Int) 64 = (s : Int) := by
    rw [Int.tmod_eq_emod_of_nonneg (by omega)]; omega
  have e : shlU (u4 a b c d) ((64 * w + s : Nat) : Int) = u4 a b c d <<< (64 * w + s) := by
    rw [shlU, if_neg (by omega), Int.toNat_natCast]
  rw [e]
  obtain ⟨S, hS⟩ : ∃ S : W, S = BitVec.ofInt 64 (s : Int) := ⟨_, rfl⟩
  have hSn : S.toNat = s := by
    rw [hS, BitVec.ofInt_natCast, BitVec.toNat_ofNat]
    exact Nat.mod_eq_of_lt (by omega)
  have hS2 : (64#64 - S).toNat = 64 - s := by
    rw [BitVec.toNat_sub, hSn]
    show (18446744073709551616 - s + 64) % 18446744073709551616 = 64 - s
    omega
  have hpos : decide (0#64 < S) = decide (0 < s) := by
    congr 1
    rw [BitVec.lt_def, hSn]
    rfl
  have hw : w ≤ 3 := by omega
  have ww : IntKind.i64.wrap (w : Int) = w := wrap64 (by omega) (by omega)
  have hcast : ((64 * w + s : Nat) : Int) = 64 * (w : Int) + s := by omega
  rw [hcast] at h0 h1 hq hr' ⊢
  simp [h0, h1]
  intro k hk
  obtain ⟨hjk, hk⟩ := upd_none hk
  obtain ⟨hik, hk⟩ := upd_none hk
  have hkj := hjk.symm
  have hki := hik.symm
  have fin : ∀ cs : List V, st.sub (((((st.upd i (AObj.cells [w64 a, w64 b, w64 c, w64 d])).upd j (AObj.cells [w64 0#64, w64 0#64, w64 0#64, w64 0#64])).upd k (AObj.cells [w64 0#64, w64 0#64, w64 0#64, w64 0#64])).upd k (AObj.cells cs)).upd j (AObj.cells cs)) := fun cs => sub_ups (sub_ups (sub_ups (sub_ups (sub_ups (sub_self _) hi) hj) hk) hk) hj
  have hconv : convV .u64 (.int .i64 (s : Int)) = some (w64 S) := by rw [hS, conv_i_64]
  simp [-conv_i_64, hq, hr', ww, hconv]
  clear hconv hS hq hr' hcast h0 h1 e ww
  refine vc_unroll 5 ?_
  have hw4 : w = 0 ∨ w = 1 ∨ w = 2 ∨ w = 3 := by omega
  by_cases hs0 : s = 0
  · have hpos' : decide (0#64 < S) = false := by rw [hpos]; simp [hs0]
    rcases hw4 with rfl | rfl | rfl | rfl
    · have r : u4 a b c d <<< (64 * 0 + s) = u4 a b c d := by simp [hs0]
      rw [r, eU_u4]
      simp [unr_succ, idxArrV, St.seg, segOf, hij, hji, hik, hki, hjk, hkj, storeS, spliceV, hSn, hpos', hs0]
      repeat refine sub_ups ?_ (by assumption)
      exact St.sub_refl _
    · have r : u4 a b c d <<< (64 * 1 + s) = u4 0#64 a b c := by rw [hs0]; exact shl_word a b c d
      rw [r, eU_u4]
      simp [unr_succ, idxArrV, St.seg, segOf, hij, hji, hik, hki, hjk, hkj, storeS, spliceV, hSn, hpos', hs0]
      repeat refine sub_ups ?_ (by assumption)
      exact St.sub_refl _
    · have r : u4 a b c d <<< (64 * 2 + s) = u4 0#64 0#64 a b := by rw [hs0, show 64 * 2 + 0 = 64 + 64 from rfl, BitVec.shiftLeft_add, shl_word, shl_word]
      rw [r, eU_u4]
      simp [unr_succ, idxArrV, St.seg, segOf, hij, hji, hik, hki, hjk, hkj, storeS, spliceV, hSn, hpos', hs0]
      repeat refine sub_ups ?_ (by assumption)
      exact St.sub_refl _
    · have r : u4 a b c d <<< (64 * 3 + s) = u4 0#64 0#64 0#64 a := by rw [hs0, show 64 * 3 + 0 = 64 + 64 + 64 from rfl, BitVec.shiftLeft_add, BitVec.shiftLeft_add, shl_word, shl_word, shl_word]
      rw [r, eU_u4]
      simp [unr_succ, idxArrV, St.seg, segOf, hij, hji, hik, hki, hjk, hkj, storeS, spliceV, hSn, hpos', hs0]
      repeat refine sub_ups ?_ (by assumption)
      exact St.sub_refl _
  · have hpos' : decide (0#64 < S) = true := by rw [hpos]; simp; omega
    rcases hw4 with rfl | rfl | rfl | rfl
    · have r : u4 a b c d <<< (64 * 0 + s) = u4 (a <<< s) (hl b a s) (hl c b s) (hl d c s) := by
        rw [show 64 * 0 + s = s by omega]; exact shl_u4 a b c d s (by omega)
      rw [r, eU_u4]
      simp [unr_succ, idxArrV, St.seg, segOf, hij, hji, hik, hki, hjk, hkj, storeS, spliceV, hSn, hpos', hS2, hl, -BitVec.toNat_sub]
      repeat refine sub_ups ?_ (by assumption)
      exact St.sub_refl _
    · have r : u4 a b c d <<< (64 * 1 + s) = u4 0#64 (a <<< s) (hl b a s) (hl c b s) := by
        rw [show 64 * 1 + s = s + 64 by omega, BitVec.shiftLeft_add, shl_u4 a b c d s (by omega), shl_word]
      rw [r, eU_u4]
      simp [unr_succ, idxArrV, St.seg, segOf, hij, hji, hik, hki, hjk, hkj, storeS, spliceV, hSn, hpos', hS2, hl, -BitVec.toNat_sub]
      repeat refine sub_ups ?_ (by assumption)
      exact St.sub_refl _
    · have r : u4 a b c d <<< (64 * 2 + s) = u4 0#64 0#64 (a <<< s) (hl b a s) := by
        rw [show 64 * 2 + s = s + 64 + 64 by omega, BitVec.shiftLeft_add, BitVec.shiftLeft_add, shl_u4 a b c d s (by omega), shl_word, shl_word]
      rw [r, eU_u4]
      simp [unr_succ, idxArrV, St.seg, segOf, hij, hji, hik, hki, hjk, hkj, storeS, spliceV, hSn, hpos', hS2, hl, -BitVec.toNat_sub]
      repeat refine sub_ups ?_ (by assumption)
      exact St.sub_refl _
    · have r : u4 a b c d <<< (64 * 3 + s) = u4 0#64 0#64 0#64 (a <<< s) := by
        rw [show 64 * 3 + s = s + 64 + 64 + 64 by omega, BitVec.shiftLeft_add, BitVec.shiftLeft_add, BitVec.shiftLeft_add, shl_u4 a b c d s (by omega), shl_word, shl_word, shl_word]
      rw [r, eU_u4]
      simp [unr_succ, idxArrV, St.seg, segOf, hij, hji, hik, hki, hjk, hkj, storeS, spliceV, hSn, hpos', hS2, hl, -BitVec.toNat_sub]
      repeat refine sub_ups ?_ (by assumption)
      exact St.sub_refl _
set_option maxHeartbeats 2000000 in
theorem spec113 (ok : OkNum P F) (st : St) (x : U) (n : Int) : ACalls P (F 113) [nU x, .int .i64 n] st fun v st' => v = nU (shrU x n) ∧ st' = st := by
  refine shows_call ok.mixed ok.h113 (by simp [k113]) ?_
  obtain ⟨a, b, c, d, rfl⟩ := exists_u4 x
  simp only [k113, nU, eU_u4]
  simp
  intro i hi
  simp
  intro j hj
  obtain ⟨hij, hj⟩ := upd_none hj
  have hji := hij.symm
  by_cases h0 : n < 0
  · have e : shrU (u4 a b c d) n = u4 0#64 0#64 0#64 0#64 := by simp [shrU, h0]; rfl
    rw [e, eU_u4]
    simp [h0, fillV, storeS, spliceV, St.seg, segOf]
    repeat refine sub_ups ?_ (by assumption)
    exact St.sub_refl _
  by_cases h1 : 255 < n
  · have e : shrU (u4 a b c d) n = u4 0#64 0#64 0#64 0#64 := by simp [shrU, h1]; rfl
    rw [e, eU_u4]
    simp [h0, h1, fillV, storeS, spliceV, St.seg, segOf]
    repeat refine sub_ups ?_ (by assumption)
    exact St.sub_refl _
  obtain ⟨m, rfl⟩ := Int.eq_ofNat_of_zero_le (show 0 ≤ n by omega)
  have hm : m ≤ 255 := by omega
  obtain ⟨w, s, hs, rfl⟩ : ∃ w s, s < 64 ∧ m = 64 * w + s := ⟨m / 64, m % 64, Nat.mod_lt _ (by omega), by omega⟩
  have hq : Int.tdiv ((64 * w + s : Nat) : Int) 64 = (w : Int) := by
    rw [Int.tdiv_eq_ediv_of_nonneg (by omega)]; omega
  have hr' : Int.tmod ((64 * w + s : Nat) : Int) 64 = (s : Int) := by
    rw [Int.tmod_eq_emod_of_nonneg (by omega)]; omega
  have e : shrU (u4 a b c d) ((64 * w + s : Nat) : Int) = u4 a b c d >>> (64 * w + s) := by
    rw [shrU, if_neg (by omega), Int.toNat_natCast]
  rw [e]
  obtain ⟨S, hS⟩ : ∃ S : W, S = BitVec.ofInt 64 (s : Int) := ⟨_, rfl⟩
  have hSn : S.toNat = s := by
    rw [hS, BitVec.ofInt_natCast, BitVec.toNat_ofNat]
    exact Nat.mod_eq_of_lt (by omega)
  have hS2 : (64#64 - S).toNat = 64 - s := by
    rw [BitVec.toNat_sub, hSn]
    show (18446744073709551616 - s + 64) % 18446744073709551616 = 64 - s
    omega
  have hpos : decide (0#64 < S) = decide (0 < s) := by
    congr 1
    rw [BitVec.lt_def, hSn]
    rfl
  have hw : w ≤ 3 := by omega
  have ww4 : IntKind.i64.wrap (4 - (w : Int)) = 4 - w := wrap64 (by omega) (by omega)
  have ww : IntKind.i64.wrap (w : Int) = w := wrap64 (by omega) (by omega)
  have hcast : ((64 * w + s : Nat) : Int) = 64 * (w : Int) + s := by omega
  rw [hcast] at h0 h1 hq hr' ⊢
  simp [h0, h1]
  intro k hk
  obtain ⟨hjk, hk⟩ := upd_none hk
  obtain ⟨hik, hk⟩ := upd_none hk
  have hkj := hjk.symm
  have hki := hik.symm
  have fin : ∀ cs : List V, st.sub (((((st.upd i (AObj.cells [w64 a, w64 b, w64 c, w64 d])).upd j (AObj.cells [w64 0#64, w64 0#64, w64 0#64, w64 0#64])).upd k (AObj.cells [w64 0#64, w64 0#64, w64 0#64, w64 0#64])).upd k (AObj.cells cs)).upd j (AObj.cells cs)) := fun cs => sub_ups (sub_ups (sub_ups (sub_ups (sub_ups (sub_self _) hi) hj) hk) hk) hj
  have hconv : convV .u64 (.int .i64 (s : Int)) = some (w64 S) := by rw [hS, conv_i_64]
  simp [-conv_i_64, hq, hr', ww, hconv]
  clear hconv hS hq hr' hcast h0 h1 e ww
  refine vc_unroll 5 ?_
  have hw4 : w = 0 ∨ w = 1 ∨ w = 2 ∨ w = 3 := by omega
  by_cases hs0 : s = 0
  · have hpos' : decide (0#64 < S) = false := by rw [hpos]; simp [hs0]
    rcases hw4 with rfl | rfl | rfl | rfl
    · have r : u4 a b c d >>> (64 * 0 + s) = u4 a b c d := by simp [hs0]
      rw [r, eU_u4]
      simp [unr_succ, idxArrV, St.seg, segOf, hij, hji, hik, hki, hjk, hkj, storeS, spliceV, hSn, hpos', hs0]
      repeat refine sub_ups ?_ (by assumption)
      exact St.sub_refl _
    · have r : u4 a b c d >>> (64 * 1 + s) = u4 b c d 0#64 := by rw [hs0, show 64 * 1 + 0 = 64 from rfl, shr_word]
      rw [r, eU_u4]
      simp [unr_succ, idxArrV, St.seg, segOf, hij, hji, hik, hki, hjk, hkj, storeS, spliceV, hSn, hpos', hs0]
      repeat refine sub_ups ?_ (by assumption)
      exact St.sub_refl _
    · have r : u4 a b c d >>> (64 * 2 + s) = u4 c d 0#64 0#64 := by rw [hs0, show 64 * 2 + 0 = 64 + 64 from rfl, BitVec.shiftRight_add, shr_word, shr_word]
      rw [r, eU_u4]
      simp [unr_succ, idxArrV, St.seg, segOf, hij, hji, hik, hki, hjk, hkj, storeS, spliceV, hSn, hpos', hs0]
      repeat refine sub_ups ?_ (by assumption)
      exact St.sub_refl _
    · have r : u4 a b c d >>> (64 * 3 + s) = u4 d 0#64 0#64 0#64 := by rw [hs0, show 64 * 3 + 0 = 64 + 64 + 64 from rfl, BitVec.shiftRight_add, BitVec.shiftRight_add, shr_word, shr_word, shr_word]
      rw [r, eU_u4]
      simp [unr_succ, idxArrV, St.seg, segOf, hij, hji, hik, hki, hjk, hkj, storeS, spliceV, hSn, hpos', hs0]
      repeat refine sub_ups ?_ (by assumption)
      exact St.sub_refl _
  · have hpos' : decide (0#64 < S) = true := by rw [hpos]; simp; omega
    rcases hw4 with rfl | rfl | rfl | rfl
    · have r : u4 a b c d >>> (64 * 0 + s) = u4 (hr a b s) (hr b c s) (hr c d s) (d >>> s) := by
        rw [show 64 * 0 + s = s by omega, shr_u4 a b c d s (by omega)]
      rw [r, eU_u4]
      simp [unr_succ, idxArrV, St.seg, segOf, hij, hji, hik, hki, hjk, hkj, storeS, spliceV, hSn, hpos', hS2, hr, -BitVec.toNat_sub]
      repeat refine sub_ups ?_ (by assumption)
      exact St.sub_refl _
    · have r : u4 a b c d >>> (64 * 1 + s) = u4 (hr b c s) (hr c d s) (d >>> s) 0#64 := by
        rw [show 64 * 1 + s = s + 64 by omega, BitVec.shiftRight_add, shr_u4 a b c d s (by omega), shr_word]
      rw [r, eU_u4]
      simp [unr_succ, idxArrV, St.seg, segOf, hij, hji, hik, hki, hjk, hkj, storeS, spliceV, hSn, hpos', hS2, hr, -BitVec.toNat_sub]
      repeat refine sub_ups ?_ (by assumption)
      exact St.sub_refl _
    · have r : u4 a b c d >>> (64 * 2 + s) = u4 (hr c d s) (d >>> s) 0#64 0#64 := by
        rw [show 64 * 2 + s = s + 64 + 64 by omega, BitVec.shiftRight_add, BitVec.shiftRight_add, shr_u4 a b c d s (by omega), shr_word, shr_word]
      rw [r, eU_u4]
      simp [unr_succ, idxArrV, St.seg, segOf, hij, hji, hik, hki, hjk, hkj, storeS, spliceV, hSn, hpos', hS2, hr, -BitVec.toNat_sub]
      repeat refine sub_ups ?_ (by assumption)
      exact St.sub_refl _
    · have r : u4 a b c d >>> (64 * 3 + s) = u4 (d >>> s) 0#64 0#64 0#64 := by
        rw [show 64 * 3 + s = s + 64 + 64 + 64 by omega, BitVec.shiftRight_add, BitVec.shiftRight_add, BitVec.shiftRight_add, shr_u4 a b c d s (by omega), shr_word, shr_word, shr_word]
      rw [r, eU_u4]
      simp [unr_succ, idxArrV, St.seg, segOf, hij, hji, hik, hki, hjk, hkj, storeS, spliceV, hSn, hpos', hS2, hr, -BitVec.toNat_sub]
      repeat refine sub_ups ?_ (by assumption)
      exact St.sub_refl _
end
end Go.Ab
set_option linter.unusedSimpArgs false
set_option linter.unusedVariables false
set_option maxRecDepth 10000
namespace Go.Ab
open Go Go.RowKit
section
variable {P : Program} {F : Fn}
theorem arr_read {α : Type} {f : α → V} {st : St} {id : Nat} {xs : List α} (h : st id = some (.cells (xs.map f))) {i : Nat} (hi : i < xs.length) : st.seg id i 1 = some [f xs[i]] := by
  simp only [St.seg, h, segOf]
  rw [if_pos (by simp; omega), List.drop_eq_getElem_cons (by simpa using hi)]
  simp
theorem arr_store {α : Type} {f : α → V} {st : St} {id : Nat} {xs : List α} (h : st id = some (.cells (xs.map f))) {i : Nat} (hi : i < xs.length) {x : α} {v : V} (hv : v.cells? = some [f x]) : storeS st 1 (.ptr (some (id, i))) v = some (st.upd id (.cells ((xs.set i x).map f))) := by
  simp only [storeS, h, hv]
  rw [if_pos ⟨rfl, by simp; omega⟩]
  congr 3
  unfold spliceV
  rw [List.map_set, List.set_eq_take_append_cons_drop, if_pos (by simpa using hi)]
  simp
theorem set_fill {α : Type} (l : List α) (n : Nat) (z x : α) (h : l.length < n) : (l ++ List.replicate (n - l.length) z).set l.length x = l ++ [x] ++ List.replicate (n - (l.length + 1)) z := by
  rw [List.set_append_right _ _ (by omega), Nat.sub_self, show n - l.length = (n - (l.length + 1)) + 1 by omega, List.replicate_succ, List.set_cons_zero]
  simp
theorem idxArr_ptr (n id : Nat) {z : Int} {j : Nat} (hz : z = (j : Nat)) (hj : j < n) : idxArrV n 1 (.ptr (some (id, 0))) (.int .i64 z) = some (.ptr (some (id, j))) := by
  subst hz
  simp [idxArrV, hj]
theorem words_len : ∀ l : List UInt8, (words l).length = l.length / 4
  | a :: b :: c :: d :: l => by
    simp only [words, List.length_cons, words_len l]
    omega
  | [] => rfl
  | [_] => by simp [words]
  | [_, _] => by simp [words]
  | [_, _, _] => by simp [words]
theorem words_get : ∀ (l : List UInt8) (i : Nat) (h : 4 * i + 4 ≤ l.length), (words l)[i]'(by rw [words_len]; omega) = be4 l[4 * i] l[4 * i + 1] l[4 * i + 2] l[4 * i + 3]
  | a :: b :: c :: d :: l, 0, h => rfl
  | a :: b :: c :: d :: l, i + 1, h => by
    have := words_get l i (by simp at h; omega)
    simp only [words, List.getElem_cons_succ, this]
    congr 1
  | [], i, h => by simp at h
  | [_], i, h => by simp at h
  | [_, _], i, h => by simp at h
  | [_, _, _], i, h => by simp at h
theorem sched_len (m : List (BitVec 32)) : ∀ k, (sched m k).length = m.length + k
  | 0 => rfl
  | k + 1 => by simp [sched, sched_len m k]; omega
theorem rnds_snoc : ∀ (ks ws : List (BitVec 32)) (k w : BitVec 32) (v : V8), ks.length = ws.length → rnds (ks ++ [k]) (ws ++ [w]) v = rnd (rnds ks ws v) k w
  | [], [], k, w, v, _ => rfl
  | a :: ks, b :: ws, k, w, v, h => by
    simp only [List.cons_append, rnds]
    exact rnds_snoc ks ws k w _ (by simpa using h)
  | [], _ :: _, _, _, _, h => by simp at h
  | _ :: _, [], _, _, _, h => by simp at h
def cells8 (v : V8) : List V := v.list.map w32
theorem zR64_rep : zR64_w320 = (List.replicate 64 (0#32)).map w32 := rfl
def kBytes : List UInt8 := [66, 138, 47, 152, 113, 55, 68, 145, 181, 192, 251, 207, 233, 181, 219, 165, 57, 86, 194, 91, 89, 241, 17, 241, 146, 63, 130, 164, 171, 28, 94, 213, 216, 7, 170, 152, 18, 131, 91, 1, 36, 49, 133, 190, 85, 12, 125, 195, 114, 190, 93, 116, 128, 222, 177, 254, 155, 220, 6, 167, 193, 155, 241, 116, 228, 155, 105, 193, 239, 190, 71, 134, 15, 193, 157, 198, 36, 12, 161, 204, 45, 233, 44, 111, 74, 116, 132, 170, 92, 176, 169, 220, 118, 249, 136, 218, 152, 62, 81, 82, 168, 49, 198, 109, 176, 3, 39, 200, 191, 89, 127, 199, 198, 224, 11, 243, 213, 167, 145, 71, 6, 202, 99, 81, 20, 41, 41, 103, 39, 183, 10, 133, 46, 27, 33, 56, 77, 44, 109, 252, 83, 56, 13, 19, 101, 10, 115, 84, 118, 106, 10, 187, 129, 194, 201, 46, 146, 114, 44, 133, 162, 191, 232, 161, 168, 26, 102, 75, 194, 75, 139, 112, 199, 108, 81, 163, 209, 146, 232, 25, 214, 153, 6, 36, 244, 14, 53, 133, 16, 106, 160, 112, 25, 164, 193, 22, 30, 55, 108, 8, 39, 72, 119, 76, 52, 176, 188, 181, 57, 28, 12, 179, 78, 216, 170, 74, 91, 156, 202, 79, 104, 46, 111, 243, 116, 143, 130, 238, 120, 165, 99, 111, 132, 200, 120, 20, 140, 199, 2, 8, 144, 190, 255, 250, 164, 80, 108, 235, 190, 249, 163, 247, 198, 113, 120, 242]
theorem roundsB : ∀ i : Fin 64, be4 (kBytes.getD (4 * i.val) 0) (kBytes.getD (4 * i.val + 1) 0) (kBytes.getD (4 * i.val + 2) 0) (kBytes.getD (4 * i.val + 3) 0) = shaK.getD i.val 0 := by decide +kernel
theorem rounds_at (k : IntKind) {s : ByteArray} (hs : strB s = kBytes) {i : Nat} (hi : i < 64) (h : 4 * i + 4 ≤ (strB s).length) : be4 (strB s)[4 * i] (strB s)[4 * i + 1] (strB s)[4 * i + 2] (strB s)[4 * i + 3] = shaK[i]'hi := by
  have := roundsB ⟨i, hi⟩
  simp only [← hs, List.getD_eq_getElem?_getD] at this
  rw [List.getElem?_eq_getElem (by omega), List.getElem?_eq_getElem (by omega), List.getElem?_eq_getElem (by omega), List.getElem?_eq_getElem (by omega), List.getElem?_eq_getElem (show i < shaK.length from hi)] at this
  exact this
def addL (a b : List (BitVec 32)) : Nat → List (BitVec 32)
  | 0 => a
  | k + 1 => (addL a b k).set k (a.getD k 0 + b.getD k 0)
theorem addL_len (a b : List (BitVec 32)) : ∀ k, (addL a b k).length = a.length
  | 0 => rfl
  | k + 1 => by simp [addL, addL_len a b k]
theorem addL_get (a b : List (BitVec 32)) : ∀ (k j : Nat) (hj : j < a.length), k ≤ j → (addL a b k)[j]'(by rw [addL_len]; exact hj) = a[j]
  | 0, j, hj, _ => rfl
  | k + 1, j, hj, h => by
    simp only [addL]
    rw [List.getElem_set_ne (by omega)]
    exact addL_get a b k j hj (by omega)
set_option maxHeartbeats 2000000 in
theorem spec101 (ok : OkHash P F) (st : St) (h : V8) (s : ByteArray) (hs : (strB s).length = 64) : ACalls P (F 101) [.agg (cells8 h), .str s] st fun v st' => v = .agg (cells8 (blockM h (strB s))) := by
  refine shows_call ok.mixed ok.h101 (by simp [k101]) ?_
  simp only [k101]
  simp
  intro hid hhid
  have S := (Sep.new (L := []) (st := st) trivial hhid (.cells (cells8 h)))
  generalize st.upd hid _ = st1 at S ⊢
  intro rid hrid
  have S := S.new hrid (.cells [w32 0#32, w32 0#32, w32 0#32, w32 0#32, w32 0#32, w32 0#32, w32 0#32, w32 0#32])
  generalize st1.upd rid _ = st2 at S ⊢
  simp
  intro wid hwid
  have S := S.new hwid (.cells zR64_w320)
  generalize st2.upd wid _ = st3 at S ⊢
  rw [zR64_rep] at S
  simp
  obtain ⟨W, hW⟩ : ∃ W, W = words (strB s) := ⟨_, rfl⟩
  have hWl : W.length = 16 := by rw [hW, words_len, hs]
  refine vc_loopJ (fun k env' st' => ∃ i, i ≤ 16 ∧ k = 16 - i ∧ env' 21 = .int .i64 (i : Nat) ∧ Sep [pt wid (.cells ((W.take i ++ List.replicate (64 - (W.take i).length) (0#32)).map w32)), pt rid (.cells [w32 0#32, w32 0#32, w32 0#32, w32 0#32, w32 0#32, w32 0#32, w32 0#32, w32 0#32]), pt hid (.cells (cells8 h))] st') 16
    ⟨0, by omega, by omega, rfl, S⟩ ?_
  clear S
  rintro J hJ k env' st4 hsame ⟨i, hi, rfl, h21, S⟩
  have g1 : env' 1 = .str s := hsame.get 1 rfl
  have g2 : env' 2 = .ptr (some (hid, 0)) := hsame.get 2 rfl
  have g4 : env' 4 = .ptr (some (rid, 0)) := hsame.get 4 rfl
  have g5 : env' 5 = .ptr (some (wid, 0)) := hsame.get 5 rfl
  clear hsame
  have w2 : IntKind.i64.wrap ((i : Int) + 1) = (i : Int) + 1 := wrap64 (by omega) (by omega)
  have w4 : IntKind.i64.wrap (4 * (i : Int)) = 4 * (i : Int) := wrap64 (by omega) (by omega)
  by_cases hlt : i < 16
  · have hlt' : (i : Int) < 16 := by omega
    have hi64 : (i : Int) < 64 := by omega
    have htl : (W.take i).length = i := by simp; omega
    simp [g1, g2, g4, g5, h21, hlt', w4]
    have hsp : ACalls P (F 100) [.str s, .int .i64 (4 * (i : Int))] st4 _ := spec100 ok st4 s (i := 4 * i) (by omega) (by omega)
    refine hsp.mono ?_
    rintro v st5 ⟨rfl, rfl⟩
    have hwi : W[i] = be4 (strB s)[4 * i] (strB s)[4 * i + 1] (strB s)[4 * i + 2] (strB s)[4 * i + 3] := by
      have := words_get (strB s) i (by omega)
      rw [← this]
      congr 1
    rw [← hwi]
    obtain ⟨xs, hxs⟩ : ∃ xs, xs = W.take i ++ List.replicate (64 - (W.take i).length) (0#32) := ⟨_, rfl⟩
    have hxl : i < xs.length := by rw [hxs, htl]; simp; omega
    have hnx : xs.set i W[i] = W.take (i + 1) ++ List.replicate (64 - (W.take (i + 1)).length) (0#32) := by
      have hse := set_fill (W.take i) 64 0#32 W[i] (by omega)
      rw [hxs]
      rw [htl] at hse ⊢
      rw [hse, List.take_succ_eq_append_getElem (by omega), List.length_append, htl]
      rfl
    rw [← hxs] at S
    have hst := arr_store (f := w32) S.get hxl (x := W[i]) (v := w32 W[i]) rfl
    simp [-List.map_set, g5, idxArrV, hi64, hst, h21, w2]
    refine Round.mk (16 - (i + 1)) _ (by omega) (sub_self _) (hJ _ _ _ ⟨i + 1, by omega, rfl, by simp, ?_⟩)
    rw [← hnx]
    exact S.set _
  · have : i = 16 := by omega
    subst this
    rw [List.take_of_length_le (by omega)] at S
    simp [g1, g2, g4, g5, h21]
    clear hJ J
    refine vc_loopJ (fun k env' st' => ∃ i, i ≤ 48 ∧ k = 48 - i ∧ env' 7 = .int .i64 ((i : Int) + 16) ∧ Sep [pt wid (.cells ((sched W i ++ List.replicate (64 - (sched W i).length) (0#32)).map w32)), pt rid (.cells [w32 0#32, w32 0#32, w32 0#32, w32 0#32, w32 0#32, w32 0#32, w32 0#32, w32 0#32]), pt hid (.cells (cells8 h))] st') 48
      ⟨0, by omega, by omega, rfl, S⟩ ?_
    clear S
    rintro J hJ k env' st5 hsame ⟨i, hi, rfl, h7, S⟩
    have g1 : env' 1 = .str s := (hsame.get 1 rfl).trans g1
    have g2 : env' 2 = .ptr (some (hid, 0)) := (hsame.get 2 rfl).trans g2
    have g4 : env' 4 = .ptr (some (rid, 0)) := (hsame.get 4 rfl).trans g4
    have g5 : env' 5 = .ptr (some (wid, 0)) := (hsame.get 5 rfl).trans g5
    clear hsame
    have hsl := sched_len W i
    rw [hWl] at hsl
    by_cases hlt : i < 48
    · obtain ⟨xs, hxs⟩ : ∃ xs, xs = sched W i ++ List.replicate (64 - (sched W i).length) (0#32) := ⟨_, rfl⟩
      rw [← hxs] at S
      have hxl : xs.length = 64 := by rw [hxs]; simp; omega
      have hget : ∀ j (hj : j < 16 + i), xs[j] = (sched W i)[j] := fun j hj => by
        simp only [hxs]
        rw [List.getElem_append_left]
      have hD : ∀ j (hj : j < 16 + i), (sched W i).getD j 0 = xs[j] := fun j hj => by
        rw [hget j hj, List.getD_eq_getElem?_getD, List.getElem?_eq_getElem (by omega)]
        rfl
      have hnw : nextW (sched W i) = xs[i] + sg0 xs[i + 1] + xs[i + 9] + sg1 xs[i + 14] := by
        have e1 := hD i (by omega)
        have e2 := hD (i + 1) (by omega)
        have e3 := hD (i + 9) (by omega)
        have e4 := hD (i + 14) (by omega)
        rw [nextW, hsl, show 16 + i - 16 = i by omega, show 16 + i - 15 = i + 1 by omega, show 16 + i - 7 = i + 9 by omega, show 16 + i - 2 = i + 14 by omega]
        rw [e1, e2, e3, e4]
      have hnx : xs.set (i + 16) (nextW (sched W i)) = sched W (i + 1) ++ List.replicate (64 - (sched W (i + 1)).length) (0#32) := by
        have hse := set_fill (sched W i) 64 0#32 (nextW (sched W i)) (by omega)
        rw [hsl] at hse
        rw [hxs, hsl, show i + 16 = 16 + i by omega, hse, sched, List.length_append, hsl]
        rfl
      have r0 := arr_read (f := w32) S.get (i := i) (by omega)
      have r1 := arr_read (f := w32) S.get (i := i + 1) (by omega)
      have r9 := arr_read (f := w32) S.get (i := i + 9) (by omega)
      have r14 := arr_read (f := w32) S.get (i := i + 14) (by omega)
      have hst := arr_store (f := w32) S.get (i := i + 16) (by omega) (x := nextW (sched W i)) (v := w32 (nextW (sched W i))) rfl
      have b1 : IntKind.i64.wrap ((i : Int) + 16 - 15) = ((i + 1 : Nat) : Int) := by rw [wrap64 (by omega) (by omega)]; omega
      have b2 : IntKind.i64.wrap ((i : Int) + 16 - 2) = ((i + 14 : Nat) : Int) := by rw [wrap64 (by omega) (by omega)]; omega
      have b3 : IntKind.i64.wrap ((i : Int) + 16 - 16) = ((i : Nat) : Int) := by rw [wrap64 (by omega) (by omega)]; omega
      have b3' : IntKind.i64.wrap (i : Int) = (i : Int) := wrap64 (by omega) (by omega)
      have b4 : IntKind.i64.wrap ((i : Int) + 16 - 7) = ((i + 9 : Nat) : Int) := by rw [wrap64 (by omega) (by omega)]; omega
      have b5 : IntKind.i64.wrap ((i : Int) + 16 + 1) = (i : Int) + 17 := by rw [wrap64 (by omega) (by omega)]; omega
      have a1 := idxArr_ptr 64 wid (z := (i : Int) + 1) (j := i + 1) (by omega) (by omega)
      have a2 := idxArr_ptr 64 wid (z := (i : Int) + 14) (j := i + 14) (by omega) (by omega)
      have a3 := idxArr_ptr 64 wid (z := (i : Int)) (j := i) (by omega) (by omega)
      have a4 := idxArr_ptr 64 wid (z := (i : Int) + 9) (j := i + 9) (by omega) (by omega)
      have a5 := idxArr_ptr 64 wid (z := (i : Int) + 16) (j := i + 16) (by omega) (by omega)
      have hlt' : (i : Int) + 16 < 64 := by omega
      simp [g1, g2, g4, g5, h7, hlt', b1, b2, a1, a2, r1, r14]
      refine (spec102 ok _ xs[i + 1] (n := 7) (by omega) (by omega) rfl).mono ?_
      rintro v st6 ⟨rfl, rfl⟩
      simp
      refine (spec102 ok _ xs[i + 1] (n := 18) (by omega) (by omega) rfl).mono ?_
      rintro v st6 ⟨rfl, rfl⟩
      simp
      refine (spec102 ok _ xs[i + 14] (n := 17) (by omega) (by omega) rfl).mono ?_
      rintro v st6 ⟨rfl, rfl⟩
      simp
      refine (spec102 ok _ xs[i + 14] (n := 19) (by omega) (by omega) rfl).mono ?_
      rintro v st6 ⟨rfl, rfl⟩
      have e0 : ror xs[i + 1] 7 ^^^ ror xs[i + 1] 18 ^^^ xs[i + 1] >>> 3 = sg0 xs[i + 1] := rfl
      have e1 : ror xs[i + 14] 17 ^^^ ror xs[i + 14] 19 ^^^ xs[i + 14] >>> 10 = sg1 xs[i + 14] := rfl
      simp [-List.map_set, g5, h7, b3, b3', b4, b5, a3, a4, a5, r0, r9, e0, e1, ← hnw, hst]
      refine Round.mk (48 - (i + 1)) _ (show 48 - (i + 1) < 48 - i by omega) (sub_self _) (hJ _ _ _ ⟨i + 1, by omega, rfl, by simp; omega, ?_⟩)
      rw [← hnx]
      exact S.set _
    · have : i = 48 := by omega
      subst this
      obtain ⟨X, hX⟩ : ∃ X, X = sched W 48 := ⟨_, rfl⟩
      have hXl : X.length = 64 := by rw [hX, hsl]
      rw [← hX, hXl] at S
      simp only [Nat.sub_self, List.replicate_zero, List.append_nil] at S
      have oh := S.mem (i := hid) (o := .cells (cells8 h)) (by simp)
      have hcc : cells8 h = [w32 h.a, w32 h.b, w32 h.c, w32 h.d, w32 h.e, w32 h.f, w32 h.g, w32 h.h] := rfl
      have h64 : (48 : Int) + 16 = 64 := rfl
      simp [g1, g2, g4, g5, h7, St.seg, oh, hcc, segOf]
      intro vid hvid
      have S := S.new hvid (.cells (cells8 h))
      simp [storeS, spliceV]
      rw [hcc] at S
      generalize st5.upd vid _ = st6 at S ⊢
      rw [← hcc] at S
      clear hJ J
      refine vc_loopJ (fun k env' st' => ∃ i, i ≤ 64 ∧ k = 64 - i ∧ env' 75 = .int .i64 (i : Nat) ∧ Sep [pt vid (.cells (cells8 (rnds (shaK.take i) (X.take i) h))), pt wid (.cells (X.map w32)), pt rid (.cells [w32 0#32, w32 0#32, w32 0#32, w32 0#32, w32 0#32, w32 0#32, w32 0#32, w32 0#32]), pt hid (.cells (cells8 h))] st') 64
        ⟨0, by omega, by omega, rfl, S⟩ ?_
      clear S
      rintro J hJ k env' st7 hsame ⟨i, hi, rfl, h75, S⟩
      have g2 : env' 2 = .ptr (some (hid, 0)) := (hsame.get 2 rfl).trans g2
      have g4 : env' 4 = .ptr (some (rid, 0)) := (hsame.get 4 rfl).trans g4
      have g5 : env' 5 = .ptr (some (wid, 0)) := (hsame.get 5 rfl).trans g5
      have g12 : env' 12 = .ptr (some (vid, 0)) := hsame.get 12 rfl
      clear hsame
      have w2 : IntKind.i64.wrap ((i : Int) + 1) = (i : Int) + 1 := wrap64 (by omega) (by omega)
      have w4 : IntKind.i64.wrap (4 * (i : Int)) = 4 * (i : Int) := wrap64 (by omega) (by omega)
      obtain ⟨v, hv⟩ : ∃ v, v = rnds (shaK.take i) (X.take i) h := ⟨_, rfl⟩
      rw [← hv] at S
      have ov : st7 vid = some (.cells [w32 v.a, w32 v.b, w32 v.c, w32 v.d, w32 v.e, w32 v.f, w32 v.g, w32 v.h]) := S.get
      by_cases hlt : i < 64
      · have hlt' : (i : Int) < 64 := by omega
        simp [g2, g4, g5, g12, h75, hlt', idxArrV, St.seg, segOf, ov]
        refine (spec102 ok _ v.e (n := 6) (by omega) (by omega) rfl).mono ?_
        rintro y st8 ⟨rfl, rfl⟩
        simp
        refine (spec102 ok _ v.e (n := 11) (by omega) (by omega) rfl).mono ?_
        rintro y st8 ⟨rfl, rfl⟩
        simp
        refine (spec102 ok _ v.e (n := 25) (by omega) (by omega) rfl).mono ?_
        rintro y st8 ⟨rfl, rfl⟩
        have e1 : ror v.e 6 ^^^ ror v.e 11 ^^^ ror v.e 25 = bg1 v.e := rfl
        have rw0 := arr_read (f := w32) S.swap.get (i := i) (by omega)
        simp only [St.seg] at rw0
        simp [g2, g4, g5, g12, h75, hlt', idxArrV, St.seg, segOf, ov, w4, e1]
        have hk : strB ⟨⟨kBytes⟩⟩ = kBytes := rfl
        have hkl : kBytes.length = 256 := rfl
        have hw : ACalls P (F 100) [.str ⟨⟨kBytes⟩⟩, .int .i64 (4 * (i : Int))] st8 fun v' st' => v' = w32 (shaK[i]'hlt) ∧ st' = st8 := by
          have := spec100 ok st8 ⟨⟨kBytes⟩⟩ (i := 4 * i) (by rw [hk, hkl]; omega) (by rw [hk, hkl]; omega)
          rwa [rounds_at .i64 hk hlt] at this
        refine still_call _ _ _ _ (v := w32 (shaK[i]'hlt)) (by simp; exact hw) ?_
        simp [idxArrV, hlt', rw0, St.seg]
        refine (spec102 ok _ v.a (n := 2) (by omega) (by omega) rfl).mono ?_
        rintro y st9 ⟨rfl, rfl⟩
        simp
        refine (spec102 ok _ v.a (n := 13) (by omega) (by omega) rfl).mono ?_
        rintro y st9 ⟨rfl, rfl⟩
        simp
        refine (spec102 ok _ v.a (n := 22) (by omega) (by omega) rfl).mono ?_
        rintro y st9 ⟨rfl, rfl⟩
        have e0 : ror v.a 2 ^^^ ror v.a 13 ^^^ ror v.a 22 = bg0 v.a := rfl
        obtain ⟨t, ht⟩ : ∃ t, t = v.h + bg1 v.e + (v.e &&& v.f ^^^ ~~~v.e &&& v.g) + (shaK[i]'hlt) + X[i] := ⟨_, rfl⟩
        have hnx : rnds (shaK.take (i + 1)) (X.take (i + 1)) h = ⟨t + bg0 v.a + (v.a &&& v.b ^^^ v.a &&& v.c ^^^ v.b &&& v.c), v.a, v.b, v.c, v.d + t, v.e, v.f, v.g⟩ := by
          have hkl : shaK.length = 64 := rfl
          rw [List.take_succ_eq_append_getElem (show i < shaK.length from hlt), List.take_succ_eq_append_getElem (by omega), rnds_snoc _ _ _ _ _ (by simp; omega), ← hv, ht]
          rfl
        simp [g2, g4, g5, g12, idxArrV, St.seg, segOf, ov, e0, fillV, spliceV, ← ht, h75, w2, storeS]
        refine Round.mk (64 - (i + 1)) _ (show 64 - (i + 1) < 64 - i by omega) (sub_self _) (hJ _ _ _ ⟨i + 1, by omega, rfl, by simp, ?_⟩)
        rw [hnx]
        exact S.set _
      · have : i = 64 := by omega
        subst this
        have hkl : shaK.length = 64 := rfl
        rw [List.take_of_length_le (by omega), List.take_of_length_le (by omega)] at hv
        have hfin : blockM h (strB s) = addV h v := by rw [blockM, ← hW, ← hX, ← hv]
        rw [hfin]
        simp [g2, g4, g12, h75]
        clear hJ J ov
        have S : Sep [pt hid (.cells (cells8 h)), pt vid (.cells (cells8 v)), pt rid (.cells [w32 0#32, w32 0#32, w32 0#32, w32 0#32, w32 0#32, w32 0#32, w32 0#32, w32 0#32])] st7 := Sep.tail (fun r hr => Sep.tail (fun r hr => hr.drop) hr) (Sep.pull 3 _ S)
        refine vc_loopJ (fun k env' st' => ∃ i, i ≤ 8 ∧ k = 8 - i ∧ env' 159 = .int .i64 (i : Nat) ∧ Sep [pt hid (.cells ((addL h.list v.list i).map w32)), pt vid (.cells (cells8 v)), pt rid (.cells [w32 0#32, w32 0#32, w32 0#32, w32 0#32, w32 0#32, w32 0#32, w32 0#32, w32 0#32])] st') 8
          ⟨0, by omega, by omega, rfl, S⟩ ?_
        clear S
        rintro J hJ k env' st7 hsame ⟨i, hi, rfl, h159, S⟩
        have g2 : env' 2 = .ptr (some (hid, 0)) := (hsame.get 2 rfl).trans g2
        have g4 : env' 4 = .ptr (some (rid, 0)) := (hsame.get 4 rfl).trans g4
        have g12 : env' 12 = .ptr (some (vid, 0)) := (hsame.get 12 rfl).trans g12
        clear hsame
        have w2 : IntKind.i64.wrap ((i : Int) + 1) = (i : Int) + 1 := wrap64 (by omega) (by omega)
        have l1 : h.list.length = 8 := rfl
        have l2 : v.list.length = 8 := rfl
        have l3 := addL_len h.list v.list i
        by_cases hlt : i < 8
        · have hlt' : (i : Int) < 8 := by omega
          have d1 : (addL h.list v.list i)[i]'(by omega) = h.list.getD i 0 := by
            rw [addL_get _ _ _ _ (by omega) (Nat.le_refl _), List.getD_eq_getElem?_getD, List.getElem?_eq_getElem (by omega)]
            rfl
          have d2 : v.list[i]'(by omega) = v.list.getD i 0 := by
            rw [List.getD_eq_getElem?_getD, List.getElem?_eq_getElem (by omega)]
            rfl
          obtain ⟨A, hA⟩ : ∃ A, A = h.list.getD i 0 := ⟨_, rfl⟩
          obtain ⟨B, hB⟩ : ∃ B, B = v.list.getD i 0 := ⟨_, rfl⟩
          have r1 : st7.seg hid i 1 = some [w32 A] := (arr_read (f := w32) S.get (i := i) (by omega)).trans (congrArg (fun z => some [w32 z]) (d1.trans hA.symm))
          have r2 : st7.seg vid i 1 = some [w32 B] := (arr_read (f := w32) (xs := v.list) S.swap.get (i := i) (by omega)).trans (congrArg (fun z => some [w32 z]) (d2.trans hB.symm))
          have a1 := idxArr_ptr 8 hid (z := (i : Int)) (j := i) rfl hlt
          have a2 := idxArr_ptr 8 vid (z := (i : Int)) (j := i) rfl hlt
          have hst := arr_store (f := w32) S.get (i := i) (by omega) (x := A + B) (v := w32 (A + B)) rfl
          simp [-List.map_set, g2, g4, g12, h159, hlt', a1, a2, r1, r2, hst, w2]
          refine Round.mk (8 - (i + 1)) _ (show 8 - (i + 1) < 8 - i by omega) (sub_self _) (hJ _ _ _ ⟨i + 1, by omega, rfl, by simp, ?_⟩)
          have e : addL h.list v.list (i + 1) = (addL h.list v.list i).set i (A + B) := by
            rw [hA, hB, addL]
          rw [e]
          exact S.set _
        · have : i = 8 := by omega
          subst this
          have oh := S.get
          have or := S.mem (i := rid) (o := .cells [w32 0#32, w32 0#32, w32 0#32, w32 0#32, w32 0#32, w32 0#32, w32 0#32, w32 0#32]) (by simp)
          have e : (addL h.list v.list 8).map w32 = cells8 (addV h v) := rfl
          rw [e] at oh
          have hc : cells8 (addV h v) = [w32 (addV h v).a, w32 (addV h v).b, w32 (addV h v).c, w32 (addV h v).d, w32 (addV h v).e, w32 (addV h v).f, w32 (addV h v).g, w32 (addV h v).h] := rfl
          rw [hc] at oh ⊢
          simp [g2, g4, g12, h159, St.seg, oh, or, segOf, storeS, spliceV]
          exact ⟨_, sub_self _⟩
end
end Go.Ab

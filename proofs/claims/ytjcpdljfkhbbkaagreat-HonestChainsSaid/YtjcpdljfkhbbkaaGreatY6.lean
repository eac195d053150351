import Derived.Test.YtjcpdljfkhbbkaaGreatY4
import Derived.Test.YtjcpdljfkhbbkaaGreatY5
set_option linter.unusedVariables false
set_option linter.unusedSimpArgs false
set_option linter.unusedSectionVars false
namespace Go.Ab
open Go
def k154 (F:Fn):PF:=PF.mk 60 1 [(.t 2)] (.seq (.ops [(po 1 (.box (.t 0))),(po 2 (.mv (.k (.int .i64 0))))]) (.seq (.seq (.ops [(po 6 (.fldA 0 (.t 1))),(po 7 (.load false 1 (.t 6))),(po 8 (.call (F 135) [(.t 7)])),(pm 5 8),(po 9 (.ext 0 (.t 5))),(po 10 (.ext 1 (.t 5))),(po 3 (.alloc [(w64 0),(w64 0),(w64 0),(w64 0)])),(PO.mk none (.store 4 (.t 3) (.t 9)) none),(pm 4 10)]) (.seq (.ops [(pm 11 4),(po 12 (.not (.t 11))),(pm 13 12),(PO.mk (some 14) (.fldA 5 (.t 1)) (some (13,false))),(PO.mk (some 15) (.fldA 0 (.t 14)) (some (13,false))),(PO.mk (some 16) (.fldA 66 (.t 15)) (some (13,false))),(PO.mk (some 17) (.load false 1 (.t 16)) (some (13,false))),(PO.mk (some 18) (.fldA 0 (.t 1)) (some (13,false))),(PO.mk (some 19) (.load false 1 (.t 18)) (some (13,false))),(PO.mk (some 20) (.bin .neq (.t 17) (.t 19)) (some (13,false))),(po 21 (.pick (.t 13) (.k (.bool true)) (.t 20)))]) (.cond (.t 21) (.seq (.ops [(po 2 (.mv (.k (.int .i64 30))))]) .ret) .skip))) (.seq (.seq (.ops [(po 22 (.fldA 1 (.t 1))),(po 23 (.load false 1 (.t 22))),(po 24 (.bin .lss (.t 23) (.k (.int .i64 0)))),(pm 25 24),(PO.mk (some 26) (.fldA 1 (.t 1)) (some (25,false))),(PO.mk (some 27) (.load false 1 (.t 26)) (some (25,false))),(PO.mk (some 28) (.bin .gtr (.t 27) (.k (.int .i64 1000))) (some (25,false))),(po 29 (.pick (.t 25) (.k (.bool true)) (.t 28))),(pm 30 29),(PO.mk (some 31) (.fldA 2 (.t 1)) (some (30,false))),(PO.mk (some 32) (.load false 1 (.t 31)) (some (30,false))),(PO.mk (some 33) (.bin .lss (.t 32) (.k (.int .i64 1))) (some (30,false))),(po 34 (.pick (.t 30) (.k (.bool true)) (.t 33))),(pm 35 34),(PO.mk (some 36) (.fldA 2 (.t 1)) (some (35,false))),(PO.mk (some 37) (.load false 1 (.t 36)) (some (35,false))),(PO.mk (some 38) (.bin .gtr (.t 37) (.k (.int .i64 1048576))) (some (35,false))),(po 39 (.pick (.t 35) (.k (.bool true)) (.t 38))),(pm 40 39),(PO.mk (some 41) (.fldA 3 (.t 1)) (some (40,false))),(PO.mk (some 42) (.load false 1 (.t 41)) (some (40,false))),(PO.mk (some 43) (.bin .lss (.t 42) (.k (.int .i64 0))) (some (40,false))),(po 44 (.pick (.t 40) (.k (.bool true)) (.t 43))),(pm 45 44),(PO.mk (some 46) (.fldA 3 (.t 1)) (some (45,false))),(PO.mk (some 47) (.load false 1 (.t 46)) (some (45,false))),(PO.mk (some 48) (.bin .gtr (.t 47) (.k (.int .i64 1125899906842624))) (some (45,false))),(po 49 (.pick (.t 45) (.k (.bool true)) (.t 48))),(pm 50 49),(PO.mk (some 51) (.fldA 4 (.t 1)) (some (50,false))),(PO.mk (some 52) (.load false 1 (.t 51)) (some (50,false))),(PO.mk (some 53) (.bin .lss (.t 52) (.k (.int .i64 0))) (some (50,false))),(po 54 (.pick (.t 50) (.k (.bool true)) (.t 53))),(pm 55 54),(PO.mk (some 56) (.fldA 4 (.t 1)) (some (55,false))),(PO.mk (some 57) (.load false 1 (.t 56)) (some (55,false))),(PO.mk (some 58) (.bin .gtr (.t 57) (.k (.int .i64 1000))) (some (55,false))),(po 59 (.pick (.t 55) (.k (.bool true)) (.t 58)))]) (.cond (.t 59) (.seq (.ops [(po 2 (.mv (.k (.int .i64 1))))]) .ret) .skip)) (.seq (.ops [(po 2 (.mv (.k (.int .i64 0))))]) .ret))))
def k155 (F:Fn):PF:=PF.mk 21 1 [(.t 2),(.t 3)] (.seq (.ops [(po 1 (.box (.t 0))),(po 2 (.mv (.k (.ptr none)))),(po 3 (.mv (.k (.int .i64 0))))]) (.seq (.seq (.ops [(po 6 (.load true 74 (.t 1))),(po 7 (.call (F 154) [(.t 6)])),(pm 4 7)]) (.seq (.ops [(pm 8 4),(po 9 (.bin .neq (.t 8) (.k (.int .i64 0))))]) (.cond (.t 9) (.seq (.ops [(pm 10 4),(po 2 (.mv (.k (.ptr none)))),(pm 3 10)]) .ret) .skip))) (.seq (.ops [(po 11 (.load true 74 (.t 1))),(PO.mk (some 12) POp.mkmap none),(po 13 (.build z76_2d2c [(0,(74,(.t 11))),(75,(1,(.t 12)))])),(po 14 (.box (.t 13))),(pm 5 14)]) (.seq (.ops [(pm 15 5),(po 16 (.fldA 5 (.t 1))),(po 17 (.fldA 0 (.t 16))),(po 18 (.load true 68 (.t 17))),(po 19 (.call (F 156) [(.t 15),(.t 18),(.k (.int .i64 (-1)))]))]) (.seq (.ops [(pm 20 5),(pm 2 20),(po 3 (.mv (.k (.int .i64 0))))]) .ret)))))
def k156 (F:Fn):PF:=PF.mk 79 3 [(.t 6)] (.seq (.ops [(po 4 (.box (.t 1))),(po 6 (.mv (.k (.int .i64 0))))]) (.seq (.draw [(.e,(pm 15 2)),(.s,(po 12 (.load true 68 (.t 4)))),(.s,(po 13 (.load true 68 (.t 4)))),(.s,(po 14 (.call (F 141) [(.t 13)]))),(.e,(po 16 (.build z108_9b14 [(0,(68,(.t 12))),(68,(32,(.t 14))),(100,(1,(.t 15)))]))),(.a,(po 7 (.alloc z108_9b14))),(.x,(PO.mk none (.store 108 (.t 7) (.t 16)) none))]) (.seq (.ops [(po 18 (.fldA 66 (.t 4))),(po 19 (.load false 1 (.t 18))),(po 20 (.call (F 135) [(.t 19)])),(pm 17 20),(po 21 (.ext 0 (.t 17))),(po 22 (.ext 1 (.t 17))),(po 8 (.alloc [(w64 0),(w64 0),(w64 0),(w64 0)])),(PO.mk none (.store 4 (.t 8) (.t 21)) none),(pm 9 22)]) (.seq (.ops [(po 23 (.load true 4 (.t 8))),(po 24 (.call (F 137) [(.t 23)])),(po 25 (.fldA 103 (.t 7))),(PO.mk none (.store 4 (.t 25) (.t 24)) none)]) (.seq (.seq (.ops [(pm 26 2),(po 27 (.bin .geq (.t 26) (.k (.int .i64 0))))]) (.cond (.t 27) (.seq (.ops [(pm 28 0),(po 29 (.nilck (.t 28))),(po 30 (.fldA 74 (.t 29))),(po 31 (.load false 1 (.t 30))),(pm 32 2),(po 33 (.idxSl 108 (.t 31) (.t 32))),(po 34 (.load true 108 (.t 33))),(po 10 (.alloc z108_9b14)),(PO.mk none (.store 108 (.t 10) (.t 34)) none)]) (.seq (.ops [(po 35 (.fldA 102 (.t 10))),(po 36 (.load false 1 (.t 35))),(po 37 (.bin .add (.t 36) (.k (.int .i64 1)))),(po 38 (.fldA 102 (.t 7))),(PO.mk none (.store 1 (.t 38) (.t 37)) none)]) (.seq (.ops [(po 40 (.fldA 103 (.t 7))),(po 41 (.load true 4 (.t 40))),(po 42 (.fldA 103 (.t 10))),(po 43 (.load true 4 (.t 42))),(po 44 (.bsl false 4 2 [(w64 0),(w64 0),(w64 0),(w64 0)] [(0,(4,(.t 41))),(4,(4,(.t 43)))])),(po 45 (.call (F 108) [(.t 44)])),(pm 39 45),(po 46 (.ext 0 (.t 39))),(po 47 (.ext 1 (.t 39))),(po 48 (.fldA 103 (.t 7))),(PO.mk none (.store 4 (.t 48) (.t 46)) none)]) (.ops [(pm 49 0),(pm 50 2),(po 51 (.fldA 102 (.t 7))),(po 52 (.load false 1 (.t 51))),(po 53 (.call (F 157) [(.t 52)])),(po 54 (.call (F 158) [(.t 49),(.t 50),(.t 53)])),(po 55 (.fldA 101 (.t 7))),(PO.mk none (.store 1 (.t 55) (.t 54)) none)])))) .skip)) (.seq (.ops [(pm 56 0),(po 57 (.nilck (.t 56))),(po 58 (.fldA 74 (.t 57))),(po 59 (.load false 1 (.t 58))),(po 60 (.lenSl (.t 59))),(pm 11 60)]) (.seq (.draw [(.e,(pm 61 0)),(.e,(pm 62 0)),(.e,(po 63 (.nilck (.t 62)))),(.e,(po 64 (.fldA 74 (.t 63)))),(.s,(po 65 (.load false 1 (.t 64)))),(.s,(po 66 (.load true 108 (.t 7)))),(.e,(po 67 (.bsl false 108 1 z108_9b14 [(0,(108,(.t 66)))]))),(.x,(po 68 (.app 108 176 (.t 65) (.t 67)))),(.e,(po 69 (.nilck (.t 61)))),(.e,(po 70 (.fldA 74 (.t 69)))),(.x,(PO.mk none (.store 1 (.t 70) (.t 68)) none))]) (.seq (.draw [(.e,(pm 71 0)),(.e,(po 72 (.nilck (.t 71)))),(.e,(po 73 (.fldA 75 (.t 72)))),(.e,(po 75 (.fldA 68 (.t 7)))),(.e,(pm 77 11)),(.s,(po 74 (.load false 1 (.t 73)))),(.s,(po 76 (.load true 32 (.t 75)))),(.x,(PO.mk none (.mset (.agg 32) (.t 74) (.t 76) (.t 77)) none))]) (.seq (.ops [(pm 78 11),(pm 6 78)]) .ret)))))))))
def k157 (F:Fn):PF:=PF.mk 20 1 [(.t 2)] (.seq (.ops [(po 2 (.mv (.k (.int .i64 0))))]) (.seq (.block 0 (.seq (.ops [(pm 4 0),(po 5 (.bin .lss (.t 4) (.k (.int .i64 2)))),(pm 3 5)]) (.cond (.t 3) (.seq (.ops [(po 2 (.mv (.k (.int .i64 0))))]) .ret) (.seq (.ops [(pm 7 0),(po 8 (.bin .rem (.t 7) (.k (.int .i64 2)))),(po 9 (.bin .eql (.t 8) (.k (.int .i64 1)))),(pm 6 9)]) (.cond (.t 6) (.seq (.ops [(pm 10 0),(po 11 (.bin .sub (.t 10) (.k (.int .i64 1)))),(pm 12 0),(po 13 (.bin .sub (.t 12) (.k (.int .i64 2)))),(po 14 (.bin .and (.t 11) (.t 13))),(po 15 (.bin .add (.t 14) (.k (.int .i64 1)))),(pm 2 15)]) .ret) .skip))))) (.seq (.ops [(pm 16 0),(pm 17 0),(po 18 (.bin .sub (.t 17) (.k (.int .i64 1)))),(po 19 (.bin .and (.t 16) (.t 18))),(pm 2 19)]) .ret)))
def k159 (F:Fn):PF:=PF.mk 8 1 [(.t 2)] (.seq (.ops [(po 2 (.mv (.k (.int .i64 0))))]) (.seq (.ops [(pm 3 0),(po 4 (.nilck (.t 3))),(po 5 (.fldA 74 (.t 4))),(po 6 (.load false 1 (.t 5))),(po 7 (.lenSl (.t 6))),(pm 2 7)]) .ret))
def k161 (F:Fn):PF:=PF.mk 23 2 [(PR.cell 4 true 108)] (.seq (.ops [(po 4 (.alloc z108_9b14))]) (.seq (.seq (.ops [(pm 5 1),(po 6 (.bin .lss (.t 5) (.k (.int .i64 0)))),(pm 7 6),(PO.mk (some 8) (.mv (.t 1)) (some (7,false))),(PO.mk (some 9) (.mv (.t 0)) (some (7,false))),(PO.mk (some 10) (.nilck (.t 9)) (some (7,false))),(PO.mk (some 11) (.fldA 74 (.t 10)) (some (7,false))),(PO.mk (some 12) (.load false 1 (.t 11)) (some (7,false))),(PO.mk (some 13) (.lenSl (.t 12)) (some (7,false))),(PO.mk (some 14) (.bin .geq (.t 8) (.t 13)) (some (7,false))),(po 15 (.pick (.t 7) (.k (.bool true)) (.t 14)))]) (.cond (.t 15) (.ops [(po 1 (.mv (.k (.int .i64 0))))]) .skip)) (.seq (.ops [(pm 16 0),(po 17 (.nilck (.t 16))),(po 18 (.fldA 74 (.t 17))),(po 19 (.load false 1 (.t 18))),(pm 20 1),(po 21 (.idxSl 108 (.t 19) (.t 20))),(po 22 (.load true 108 (.t 21))),(PO.mk none (.store 108 (.t 4) (.t 22)) none)]) .ret)))
def k158 (F:Fn):PF:=PF.mk 73 3 [(.t 6)] (.seq (.ops [(po 6 (.mv (.k (.int .i64 0))))]) (.seq (.seq (.ops [(pm 8 1),(po 9 (.bin .lss (.t 8) (.k (.int .i64 0)))),(pm 10 9),(PO.mk (some 11) (.mv (.t 1)) (some (10,false))),(PO.mk (some 12) (.mv (.t 0)) (some (10,false))),(PO.mk (some 13) (.nilck (.t 12)) (some (10,false))),(PO.mk (some 14) (.fldA 74 (.t 13)) (some (10,false))),(PO.mk (some 15) (.load false 1 (.t 14)) (some (10,false))),(PO.mk (some 16) (.lenSl (.t 15)) (some (10,false))),(PO.mk (some 17) (.bin .geq (.t 11) (.t 16)) (some (10,false))),(po 18 (.pick (.t 10) (.k (.bool true)) (.t 17))),(pm 19 18),(PO.mk (some 20) (.mv (.t 2)) (some (19,false))),(PO.mk (some 21) (.bin .lss (.t 20) (.k (.int .i64 0))) (some (19,false))),(po 22 (.pick (.t 19) (.k (.bool true)) (.t 21))),(pm 23 22),(PO.mk (some 24) (.mv (.t 2)) (some (23,false))),(PO.mk (some 25) (.mv (.t 0)) (some (23,false))),(PO.mk (some 26) (.nilck (.t 25)) (some (23,false))),(PO.mk (some 27) (.fldA 74 (.t 26)) (some (23,false))),(PO.mk (some 28) (.load false 1 (.t 27)) (some (23,false))),(PO.mk (some 29) (.mv (.t 1)) (some (23,false))),(PO.mk (some 30) (.idxSl 108 (.t 28) (.t 29)) (some (23,false))),(PO.mk (some 31) (.fldA 102 (.t 30)) (some (23,false))),(PO.mk (some 32) (.load false 1 (.t 31)) (some (23,false))),(PO.mk (some 33) (.bin .gtr (.t 24) (.t 32)) (some (23,false))),(po 34 (.pick (.t 23) (.k (.bool true)) (.t 33)))]) (.cond (.t 34) (.seq (.ops [(po 6 (.mv (.k (.int .i64 (-1)))))]) .ret) .skip)) (.seq (.block 0 (.loop (.seq (.seq (.ops [(pm 35 0),(po 36 (.nilck (.t 35))),(po 37 (.fldA 74 (.t 36))),(po 38 (.load false 1 (.t 37))),(pm 39 1),(po 40 (.idxSl 108 (.t 38) (.t 39))),(po 41 (.fldA 102 (.t 40))),(po 42 (.load false 1 (.t 41))),(pm 43 2),(po 44 (.bin .gtr (.t 42) (.t 43)))]) (.cond (.t 44) .skip (.exit 0))) (.block 1 (.seq (.ops [(pm 45 0),(po 46 (.nilck (.t 45))),(po 47 (.fldA 74 (.t 46))),(po 48 (.load false 1 (.t 47))),(pm 49 1),(po 50 (.idxSl 108 (.t 48) (.t 49))),(po 51 (.fldA 101 (.t 50))),(po 52 (.load false 1 (.t 51))),(pm 7 52)]) (.seq (.ops [(pm 53 0),(po 54 (.nilck (.t 53))),(po 55 (.fldA 74 (.t 54))),(po 56 (.load false 1 (.t 55))),(pm 57 7),(po 58 (.idxSl 108 (.t 56) (.t 57))),(po 59 (.fldA 102 (.t 58))),(po 60 (.load false 1 (.t 59))),(pm 61 2),(po 62 (.bin .geq (.t 60) (.t 61)))]) (.cond (.t 62) (.ops [(pm 63 7),(pm 1 63)]) (.ops [(pm 64 0),(po 65 (.nilck (.t 64))),(po 66 (.fldA 74 (.t 65))),(po 67 (.load false 1 (.t 66))),(pm 68 1),(po 69 (.idxSl 108 (.t 67) (.t 68))),(po 70 (.fldA 100 (.t 69))),(po 71 (.load false 1 (.t 70))),(pm 1 71)])))))))) (.seq (.ops [(pm 72 1),(pm 6 72)]) .ret))))
def k163 (F:Fn):PF:=PF.mk 33 3 [(.t 6)] (.seq (.ops [(po 6 (.mv (.k (.bool false))))]) (.seq (.ops [(pm 7 1),(po 8 (.bin .geq (.t 7) (.k (.int .i64 0)))),(pm 9 8),(PO.mk (some 10) (.mv (.t 1)) (some (9,true))),(PO.mk (some 11) (.mv (.t 0)) (some (9,true))),(PO.mk (some 12) (.nilck (.t 11)) (some (9,true))),(PO.mk (some 13) (.fldA 74 (.t 12)) (some (9,true))),(PO.mk (some 14) (.load false 1 (.t 13)) (some (9,true))),(PO.mk (some 15) (.lenSl (.t 14)) (some (9,true))),(PO.mk (some 16) (.bin .lss (.t 10) (.t 15)) (some (9,true))),(po 17 (.pick (.t 9) (.t 16) (.k (.bool false)))),(pm 18 17),(PO.mk (some 19) (.mv (.t 0)) (some (18,true))),(PO.mk (some 20) (.mv (.t 2)) (some (18,true))),(PO.mk (some 21) (.mv (.t 0)) (some (18,true))),(PO.mk (some 22) (.nilck (.t 21)) (some (18,true))),(PO.mk (some 23) (.fldA 74 (.t 22)) (some (18,true))),(PO.mk (some 24) (.load false 1 (.t 23)) (some (18,true))),(PO.mk (some 25) (.mv (.t 1)) (some (18,true))),(PO.mk (some 26) (.idxSl 108 (.t 24) (.t 25)) (some (18,true))),(PO.mk (some 27) (.fldA 102 (.t 26)) (some (18,true))),(PO.mk (some 28) (.load false 1 (.t 27)) (some (18,true))),(PO.mk (some 29) (.call (F 158) [(.t 19),(.t 20),(.t 28)]) (some (18,true))),(PO.mk (some 30) (.mv (.t 1)) (some (18,true))),(PO.mk (some 31) (.bin .eql (.t 29) (.t 30)) (some (18,true))),(po 32 (.pick (.t 18) (.t 31) (.k (.bool false)))),(pm 6 32)]) .ret))
def k164 (F:Fn):PF:=PF.mk 11 1 [(.t 2)] (.seq (.ops [(po 2 (.mv (.k (w32 0))))]) (.seq (.ops [(pm 3 0),(po 4 (.call (F 165) [(.t 3)]))]) (.seq (.ops [(pm 5 0),(pm 6 0),(po 7 (.lenSl (.t 6))),(po 8 (.bin .quo (.t 7) (.k (.int .i64 2)))),(po 9 (.idxSl 1 (.t 5) (.t 8))),(po 10 (.load false 1 (.t 9))),(pm 2 10)]) .ret)))
def k166 (F:Fn):PF:=PF.mk 44 2 [(.t 4)] (.seq (.ops [(po 4 (.mv (.k (w32 0))))]) (.seq (.ops [(po 5 (.mv (.k (.sl .nil [] 0))))]) (.seq (.seq (.ops [(pm 6 1),(pm 7 0),(po 8 (.nilck (.t 7))),(po 9 (.fldA 74 (.t 8))),(po 10 (.load false 1 (.t 9))),(po 11 (.lenSl (.t 10))),(po 12 (.bin .sub (.t 11) (.k (.int .i64 1)))),(po 13 (.min [(.t 6),(.t 12)])),(po 14 (.max [(.k (.int .i64 0)),(.t 13)])),(pm 1 14)]) (.block 0 (.loop (.seq (.seq (.ops [(pm 15 1),(po 16 (.bin .geq (.t 15) (.k (.int .i64 0)))),(pm 17 16),(PO.mk (some 18) (.mv (.t 5)) (some (17,true))),(PO.mk (some 19) (.lenSl (.t 18)) (some (17,true))),(PO.mk (some 20) (.bin .lss (.t 19) (.k (.int .i64 11))) (some (17,true))),(po 21 (.pick (.t 17) (.t 20) (.k (.bool false))))]) (.cond (.t 21) .skip (.exit 0))) (.seq (.block 1 (.ops [(pm 30 5),(pm 31 0),(po 32 (.nilck (.t 31))),(po 33 (.fldA 74 (.t 32))),(po 34 (.load false 1 (.t 33))),(pm 35 1),(po 36 (.idxSl 108 (.t 34) (.t 35))),(po 37 (.fldA 0 (.t 36))),(po 38 (.fldA 65 (.t 37))),(po 39 (.load false 1 (.t 38))),(po 40 (.bsl false 1 1 [(w32 0)] [(0,(1,(.t 39)))])),(po 41 (.app 1 4 (.t 30) (.t 40))),(pm 5 41)])) (.ops [(pm 22 0),(po 23 (.nilck (.t 22))),(po 24 (.fldA 74 (.t 23))),(po 25 (.load false 1 (.t 24))),(pm 26 1),(po 27 (.idxSl 108 (.t 25) (.t 26))),(po 28 (.fldA 100 (.t 27))),(po 29 (.load false 1 (.t 28))),(pm 1 29)])))))) (.seq (.ops [(pm 42 5),(po 43 (.call (F 164) [(.t 42)])),(pm 4 43)]) .ret))))
def k167 (F:Fn):PF:=PF.mk 100 2 [(.t 4)] (.seq (.ops [(po 4 (.mv (.k (w32 0))))]) (.seq (.ops [(pm 11 0),(pm 12 1),(po 13 (.call (F 161) [(.t 11),(.t 12)])),(po 5 (.alloc z108_9b14)),(PO.mk none (.store 108 (.t 5) (.t 13)) none)]) (.seq (.seq (.draw [(.e,(pm 14 0)),(.e,(po 15 (.nilck (.t 14)))),(.e,(po 16 (.fldA 0 (.t 15)))),(.e,(po 17 (.fldA 1 (.t 16)))),(.s,(po 18 (.load false 1 (.t 17)))),(.e,(po 19 (.bin .eql (.t 18) (.k (.int .i64 0))))),(.e,(pm 20 19)),(.e,(PO.mk (some 21) (.fldA 102 (.t 5)) (some (20,false)))),(.e,(PO.mk (some 24) (.mv (.t 0)) (some (20,false)))),(.e,(PO.mk (some 25) (.nilck (.t 24)) (some (20,false)))),(.e,(PO.mk (some 26) (.fldA 0 (.t 25)) (some (20,false)))),(.e,(PO.mk (some 27) (.fldA 1 (.t 26)) (some (20,false)))),(.s,(PO.mk (some 22) (.load false 1 (.t 21)) (some (20,false)))),(.e,(PO.mk (some 23) (.bin .add (.t 22) (.k (.int .i64 1))) (some (20,false)))),(.s,(PO.mk (some 28) (.load false 1 (.t 27)) (some (20,false)))),(.e,(PO.mk (some 29) (.bin .rem (.t 23) (.t 28)) (some (20,false)))),(.e,(PO.mk (some 30) (.bin .neq (.t 29) (.k (.int .i64 0))) (some (20,false)))),(.e,(po 31 (.pick (.t 20) (.k (.bool true)) (.t 30))))]) (.cond (.t 31) (.seq (.ops [(po 32 (.fldA 0 (.t 5))),(po 33 (.fldA 66 (.t 32))),(po 34 (.load false 1 (.t 33))),(pm 4 34)]) .ret) .skip)) (.seq (.draw [(.e,(pm 35 0)),(.e,(po 36 (.nilck (.t 35)))),(.e,(po 37 (.fldA 74 (.t 36)))),(.e,(pm 39 0)),(.e,(pm 40 1)),(.e,(pm 41 0)),(.e,(po 42 (.nilck (.t 41)))),(.e,(po 43 (.fldA 74 (.t 42)))),(.e,(po 49 (.fldA 102 (.t 5)))),(.e,(pm 52 0)),(.e,(po 53 (.nilck (.t 52)))),(.e,(po 54 (.fldA 0 (.t 53)))),(.e,(po 55 (.fldA 1 (.t 54)))),(.s,(po 38 (.load false 1 (.t 37)))),(.s,(po 44 (.load false 1 (.t 43)))),(.e,(po 45 (.lenSl (.t 44)))),(.e,(po 46 (.bin .sub (.t 45) (.k (.int .i64 1))))),(.e,(po 47 (.min [(.t 40),(.t 46)]))),(.e,(po 48 (.max [(.k (.int .i64 0)),(.t 47)]))),(.s,(po 50 (.load false 1 (.t 49)))),(.e,(po 51 (.bin .add (.t 50) (.k (.int .i64 1))))),(.s,(po 56 (.load false 1 (.t 55)))),(.e,(po 57 (.bin .sub (.t 51) (.t 56)))),(.e,(po 58 (.max [(.k (.int .i64 0)),(.t 57)]))),(.s,(po 59 (.call (F 158) [(.t 39),(.t 48),(.t 58)]))),(.e,(po 60 (.idxSl 108 (.t 38) (.t 59)))),(.s,(po 61 (.load true 108 (.t 60)))),(.a,(po 6 (.alloc z108_9b14))),(.x,(PO.mk none (.store 108 (.t 6) (.t 61)) none))]) (.seq (.ops [(pm 63 0),(po 64 (.nilck (.t 63))),(po 65 (.fldA 0 (.t 64))),(po 66 (.fldA 0 (.t 65))),(po 67 (.load false 1 (.t 66))),(po 68 (.call (F 135) [(.t 67)])),(pm 62 68),(po 69 (.ext 0 (.t 62))),(po 70 (.ext 1 (.t 62))),(po 7 (.alloc [(w64 0),(w64 0),(w64 0),(w64 0)])),(PO.mk none (.store 4 (.t 7) (.t 69)) none),(pm 8 70)]) (.seq (.draw [(.e,(po 72 (.fldA 0 (.t 5)))),(.e,(po 73 (.fldA 66 (.t 72)))),(.e,(po 75 (.fldA 0 (.t 5)))),(.e,(po 76 (.fldA 65 (.t 75)))),(.e,(po 79 (.fldA 0 (.t 6)))),(.e,(po 80 (.fldA 65 (.t 79)))),(.e,(pm 84 0)),(.e,(po 85 (.nilck (.t 84)))),(.e,(po 86 (.fldA 0 (.t 85)))),(.e,(po 87 (.fldA 1 (.t 86)))),(.e,(pm 89 0)),(.e,(po 90 (.nilck (.t 89)))),(.e,(po 91 (.fldA 0 (.t 90)))),(.e,(po 92 (.fldA 2 (.t 91)))),(.s,(po 74 (.load false 1 (.t 73)))),(.s,(po 77 (.load false 1 (.t 76)))),(.e,(po 78 (.conv .i64 (.t 77)))),(.s,(po 81 (.load false 1 (.t 80)))),(.e,(po 82 (.conv .i64 (.t 81)))),(.e,(po 83 (.bin .sub (.t 78) (.t 82)))),(.s,(po 88 (.load false 1 (.t 87)))),(.s,(po 93 (.load false 1 (.t 92)))),(.e,(po 94 (.bin .mul (.t 88) (.t 93)))),(.s,(po 95 (.load true 4 (.t 7)))),(.x,(po 96 (.call (F 138) [(.t 74),(.t 83),(.t 94),(.t 95)]))),(.e,(pm 71 96)),(.e,(po 97 (.ext 0 (.t 71)))),(.e,(po 98 (.ext 1 (.t 71)))),(.e,(pm 9 97)),(.e,(pm 10 98))]) (.seq (.ops [(pm 99 9),(pm 4 99)]) .ret)))))))
def k168 (F:Fn):PF:=PF.mk 61 4 [(.t 8)] (.seq (.ops [(po 5 (.box (.t 1))),(po 8 (.mv (.k (.int .i64 0))))]) (.seq (.seq (.ops [(pm 10 2),(po 11 (.bin .lss (.t 10) (.k (.int .i64 0)))),(pm 12 11),(PO.mk (some 13) (.mv (.t 2)) (some (12,false))),(PO.mk (some 14) (.mv (.t 0)) (some (12,false))),(PO.mk (some 15) (.nilck (.t 14)) (some (12,false))),(PO.mk (some 16) (.fldA 74 (.t 15)) (some (12,false))),(PO.mk (some 17) (.load false 1 (.t 16)) (some (12,false))),(PO.mk (some 18) (.lenSl (.t 17)) (some (12,false))),(PO.mk (some 19) (.bin .geq (.t 13) (.t 18)) (some (12,false))),(po 20 (.pick (.t 12) (.k (.bool true)) (.t 19)))]) (.cond (.t 20) (.seq (.ops [(po 8 (.mv (.k (.int .i64 100))))]) .ret) .skip)) (.seq (.seq (.draw [(.e,(pm 22 0)),(.e,(po 23 (.nilck (.t 22)))),(.e,(po 24 (.fldA 0 (.t 23)))),(.e,(po 25 (.fldA 0 (.t 24)))),(.s,(po 21 (.load true 68 (.t 5)))),(.s,(po 26 (.load false 1 (.t 25)))),(.x,(po 27 (.call (F 142) [(.t 21),(.t 26)]))),(.e,(pm 9 27))]) (.seq (.ops [(pm 28 9),(po 29 (.bin .neq (.t 28) (.k (.int .i64 0))))]) (.cond (.t 29) (.seq (.ops [(pm 30 9),(pm 8 30)]) .ret) .skip))) (.seq (.block 0 (.seq (.ops [(pm 32 0),(po 33 (.nilck (.t 32))),(po 34 (.fldA 74 (.t 33))),(po 35 (.load false 1 (.t 34))),(pm 36 2),(po 37 (.idxSl 108 (.t 35) (.t 36))),(po 38 (.fldA 107 (.t 37))),(po 39 (.load false 1 (.t 38))),(pm 31 39)]) (.cond (.t 31) (.seq (.ops [(po 8 (.mv (.k (.int .i64 101))))]) .ret) (.seq (.draw [(.e,(po 41 (.fldA 66 (.t 5)))),(.e,(pm 43 0)),(.e,(pm 44 2)),(.s,(po 42 (.load false 1 (.t 41)))),(.s,(po 45 (.call (F 167) [(.t 43),(.t 44)]))),(.e,(po 46 (.bin .neq (.t 42) (.t 45)))),(.e,(pm 40 46))]) (.cond (.t 40) (.seq (.ops [(po 8 (.mv (.k (.int .i64 30))))]) .ret) (.seq (.draw [(.e,(po 48 (.fldA 65 (.t 5)))),(.e,(pm 50 0)),(.e,(pm 51 2)),(.s,(po 49 (.load false 1 (.t 48)))),(.s,(po 52 (.call (F 166) [(.t 50),(.t 51)]))),(.e,(po 53 (.bin .leq (.t 49) (.t 52)))),(.e,(pm 47 53))]) (.cond (.t 47) (.seq (.ops [(po 8 (.mv (.k (.int .i64 102))))]) .ret) (.seq (.ops [(po 55 (.fldA 65 (.t 5))),(po 56 (.load false 1 (.t 55))),(po 57 (.conv .i64 (.t 56))),(po 58 (.bin .sub (.t 57) (.k (.int .i64 7200)))),(pm 59 3),(po 60 (.bin .gtr (.t 58) (.t 59))),(pm 54 60)]) (.cond (.t 54) (.seq (.ops [(po 8 (.mv (.k (.int .i64 103))))]) .ret) .skip))))))))) (.seq (.ops [(po 8 (.mv (.k (.int .i64 0))))]) .ret)))))
def k169 (F:Fn):PF:=PF.mk 55 3 [(.t 6),(.t 7)] (.seq (.ops [(po 4 (.box (.t 1))),(po 6 (.mv (.k (.int .i64 0)))),(po 7 (.mv (.k (.int .i64 0))))]) (.seq (.seq (.draw [(.e,(pm 14 0)),(.e,(po 15 (.nilck (.t 14)))),(.e,(po 16 (.fldA 75 (.t 15)))),(.s,(po 17 (.load false 1 (.t 16)))),(.s,(po 18 (.load true 68 (.t 4)))),(.s,(po 19 (.call (F 141) [(.t 18)]))),(.s,(po 20 (.lookup (.agg 32) (.int .i64 0) true (.t 17) (.t 19)))),(.e,(pm 13 20)),(.e,(po 21 (.ext 0 (.t 13)))),(.e,(po 22 (.ext 1 (.t 13)))),(.e,(pm 8 21)),(.e,(pm 9 22))]) (.seq (.ops [(pm 23 9)]) (.cond (.t 23) (.seq (.ops [(pm 24 8),(pm 6 24),(po 7 (.mv (.k (.int .i64 5))))]) .ret) .skip))) (.seq (.draw [(.e,(pm 26 0)),(.e,(po 27 (.nilck (.t 26)))),(.e,(po 28 (.fldA 75 (.t 27)))),(.e,(po 30 (.fldA 1 (.t 4)))),(.s,(po 29 (.load false 1 (.t 28)))),(.s,(po 31 (.load true 32 (.t 30)))),(.s,(po 32 (.lookup (.agg 32) (.int .i64 0) true (.t 29) (.t 31)))),(.e,(pm 25 32)),(.e,(po 33 (.ext 0 (.t 25)))),(.e,(po 34 (.ext 1 (.t 25)))),(.e,(pm 10 33)),(.e,(pm 11 34))]) (.seq (.seq (.ops [(pm 35 11),(po 36 (.not (.t 35)))]) (.cond (.t 36) (.seq (.ops [(po 6 (.mv (.k (.int .i64 (-1))))),(po 7 (.mv (.k (.int .i64 100))))]) .ret) .skip)) (.seq (.seq (.ops [(pm 37 0),(po 38 (.load true 68 (.t 4))),(pm 39 10),(pm 40 2),(po 41 (.call (F 168) [(.t 37),(.t 38),(.t 39),(.t 40)])),(pm 12 41)]) (.seq (.ops [(pm 42 12),(po 43 (.bin .neq (.t 42) (.k (.int .i64 0))))]) (.cond (.t 43) (.seq (.ops [(pm 44 12),(po 6 (.mv (.k (.int .i64 (-1))))),(pm 7 44)]) .ret) .skip))) (.seq (.seq (.ops [(pm 45 0),(po 46 (.nilck (.t 45))),(po 47 (.fldA 74 (.t 46))),(po 48 (.load false 1 (.t 47))),(po 49 (.lenSl (.t 48))),(po 50 (.bin .eql (.t 49) (.k (.int .i64 16384))))]) (.cond (.t 50) (.seq (.ops [(po 6 (.mv (.k (.int .i64 (-1))))),(po 7 (.mv (.k (.int .i64 3))))]) .ret) .skip)) (.seq (.ops [(pm 51 0),(po 52 (.load true 68 (.t 4))),(pm 53 10),(po 54 (.call (F 156) [(.t 51),(.t 52),(.t 53)])),(pm 6 54),(po 7 (.mv (.k (.int .i64 0))))]) .ret)))))))
def k170 (F:Fn):PF:=PF.mk 65 2 [(.t 4)] (.seq (.ops [(po 4 (.mv (.k (.int .i64 0))))]) (.seq (.seq (.ops [(pm 8 1),(po 9 (.bin .lss (.t 8) (.k (.int .i64 1)))),(pm 10 9),(PO.mk (some 11) (.mv (.t 1)) (some (10,false))),(PO.mk (some 12) (.mv (.t 0)) (some (10,false))),(PO.mk (some 13) (.nilck (.t 12)) (some (10,false))),(PO.mk (some 14) (.fldA 74 (.t 13)) (some (10,false))),(PO.mk (some 15) (.load false 1 (.t 14)) (some (10,false))),(PO.mk (some 16) (.lenSl (.t 15)) (some (10,false))),(PO.mk (some 17) (.bin .geq (.t 11) (.t 16)) (some (10,false))),(po 18 (.pick (.t 10) (.k (.bool true)) (.t 17)))]) (.cond (.t 18) (.seq (.ops [(po 4 (.mv (.k (.int .i64 0))))]) .ret) .skip)) (.seq (.ops [(po 5 (.mv (.k (.int .i64 0))))]) (.seq (.seq (.ops [(pm 19 1),(pm 6 19)]) (.block 0 (.loop (.seq (.seq (.ops [(pm 20 6),(pm 21 0),(po 22 (.nilck (.t 21))),(po 23 (.fldA 74 (.t 22))),(po 24 (.load false 1 (.t 23))),(po 25 (.lenSl (.t 24))),(po 26 (.bin .lss (.t 20) (.t 25)))]) (.cond (.t 26) .skip (.exit 0))) (.seq (.block 1 (.seq (.ops [(pm 29 0),(po 30 (.nilck (.t 29))),(po 31 (.fldA 74 (.t 30))),(po 32 (.load false 1 (.t 31))),(pm 33 6),(po 34 (.idxSl 108 (.t 32) (.t 33))),(pm 7 34)]) (.seq (.ops [(pm 35 7),(po 36 (.nilck (.t 35))),(po 37 (.fldA 107 (.t 36))),(po 38 (.load false 1 (.t 37))),(po 39 (.not (.t 38))),(pm 40 39),(PO.mk (some 41) (.mv (.t 6)) (some (40,true))),(PO.mk (some 42) (.mv (.t 1)) (some (40,true))),(PO.mk (some 43) (.bin .eql (.t 41) (.t 42)) (some (40,true))),(PO.mk (some 44) (.mv (.t 43)) (some (40,true))),(PO.mk (some 45) (.mv (.t 7)) (some (44,false))),(PO.mk (some 46) (.nilck (.t 45)) (some (44,false))),(PO.mk (some 47) (.fldA 100 (.t 46)) (some (44,false))),(PO.mk (some 48) (.load false 1 (.t 47)) (some (44,false))),(PO.mk (some 49) (.mv (.t 1)) (some (44,false))),(PO.mk (some 50) (.bin .geq (.t 48) (.t 49)) (some (44,false))),(PO.mk (some 51) (.mv (.t 50)) (some (44,false))),(PO.mk (some 52) (.mv (.t 0)) (some (51,true))),(PO.mk (some 53) (.mv (.t 1)) (some (51,true))),(PO.mk (some 54) (.mv (.t 6)) (some (51,true))),(PO.mk (some 55) (.call (F 163) [(.t 52),(.t 53),(.t 54)]) (some (51,true))),(PO.mk (some 56) (.pick (.t 51) (.t 55) (.k (.bool false))) (some (44,false))),(PO.mk (some 57) (.pick (.t 44) (.k (.bool true)) (.t 56)) (some (40,true))),(po 58 (.pick (.t 40) (.t 57) (.k (.bool false))))]) (.cond (.t 58) (.seq (.ops [(pm 59 7),(po 60 (.nilck (.t 59))),(po 61 (.fldA 107 (.t 60))),(PO.mk none (.store 1 (.t 61) (.k (.bool true))) none)]) (.ops [(pm 62 5),(po 63 (.bin .add (.t 62) (.k (.int .i64 1)))),(pm 5 63)])) .skip)))) (.ops [(pm 27 6),(po 28 (.bin .add (.t 27) (.k (.int .i64 1)))),(pm 6 28)])))))) (.seq (.ops [(pm 64 5),(pm 4 64)]) .ret)))))
def k165 (F:Fn):PF:=PF.mk 11 1 [] (.seq (.ops [(pm 3 0),(po 4 (.lenSl (.t 3))),(pm 2 4)]) (.ops [(pm 5 0),(pm 6 2),(pm 7 2),(po 8 (.conv .u64 (.t 7))),(po 9 (.call (F 171) [(.t 8)])),(po 10 (.call (F 172) [(.t 5),(.k (.int .i64 0)),(.t 6),(.t 9)]))]))
def k172 (F:Fn):PF:=PF.mk 134 4 [] (.seq (.ops [(po 8 (.mv (.k (.bool true))))]) (.seq (.ops [(po 9 (.mv (.k (.bool true))))]) (.block 0 (.loop (.block 1 (.seq (.ops [(pm 19 2),(pm 20 1),(po 21 (.bin .sub (.t 19) (.t 20))),(pm 10 21)]) (.seq (.seq (.ops [(pm 22 10),(po 23 (.bin .leq (.t 22) (.k (.int .i64 12))))]) (.cond (.t 23) (.seq (.ops [(pm 24 0),(pm 25 1),(pm 26 2),(po 27 (.call (F 173) [(.t 24),(.t 25),(.t 26)]))]) .ret) .skip)) (.seq (.seq (.ops [(pm 28 3),(po 29 (.bin .eql (.t 28) (.k (.int .i64 0))))]) (.cond (.t 29) (.seq (.ops [(pm 30 0),(pm 31 1),(pm 32 2),(po 33 (.call (F 174) [(.t 30),(.t 31),(.t 32)]))]) .ret) .skip)) (.seq (.seq (.ops [(pm 34 8),(po 35 (.not (.t 34)))]) (.cond (.t 35) (.seq (.ops [(pm 36 0),(pm 37 1),(pm 38 2),(po 39 (.call (F 175) [(.t 36),(.t 37),(.t 38)]))]) (.ops [(pm 40 3),(po 41 (.bin .sub (.t 40) (.k (.int .i64 1)))),(pm 3 41)])) .skip)) (.seq (.ops [(pm 43 0),(pm 44 1),(pm 45 2),(po 46 (.call (F 176) [(.t 43),(.t 44),(.t 45)])),(pm 42 46),(po 47 (.ext 0 (.t 42))),(po 48 (.ext 1 (.t 42))),(pm 11 47),(pm 12 48)]) (.seq (.seq (.ops [(pm 49 12),(po 50 (.bin .eql (.t 49) (.k (.int .i64 2))))]) (.cond (.t 50) (.seq (.ops [(pm 51 0),(pm 52 1),(pm 53 2),(po 54 (.call (F 177) [(.t 51),(.t 52),(.t 53)]))]) (.seq (.ops [(pm 55 2),(po 56 (.bin .sub (.t 55) (.k (.int .i64 1)))),(pm 57 11),(pm 58 1),(po 59 (.bin .sub (.t 57) (.t 58))),(po 60 (.bin .sub (.t 56) (.t 59))),(pm 11 60)]) (.ops [(po 12 (.mv (.k (.int .i64 1))))]))) .skip)) (.seq (.seq (.ops [(pm 61 8),(pm 62 61),(PO.mk (some 63) (.mv (.t 9)) (some (62,true))),(po 64 (.pick (.t 62) (.t 63) (.k (.bool false)))),(pm 65 64),(PO.mk (some 66) (.mv (.t 12)) (some (65,true))),(PO.mk (some 67) (.bin .eql (.t 66) (.k (.int .i64 1))) (some (65,true))),(po 68 (.pick (.t 65) (.t 67) (.k (.bool false))))]) (.cond (.t 68) (.seq (.ops [(pm 69 0),(pm 70 1),(pm 71 2),(po 72 (.call (F 178) [(.t 69),(.t 70),(.t 71)]))]) (.cond (.t 72) .ret .skip)) .skip)) (.seq (.seq (.draw [(.e,(pm 73 1)),(.e,(po 74 (.bin .gtr (.t 73) (.k (.int .i64 0))))),(.e,(pm 75 74)),(.e,(PO.mk (some 76) (.mv (.t 0)) (some (75,true)))),(.e,(PO.mk (some 77) (.mv (.t 1)) (some (75,true)))),(.e,(PO.mk (some 78) (.bin .sub (.t 77) (.k (.int .i64 1))) (some (75,true)))),(.e,(PO.mk (some 79) (.idxSl 1 (.t 76) (.t 78)) (some (75,true)))),(.e,(PO.mk (some 81) (.mv (.t 0)) (some (75,true)))),(.e,(PO.mk (some 82) (.mv (.t 11)) (some (75,true)))),(.e,(PO.mk (some 83) (.idxSl 1 (.t 81) (.t 82)) (some (75,true)))),(.s,(PO.mk (some 80) (.load false 1 (.t 79)) (some (75,true)))),(.s,(PO.mk (some 84) (.load false 1 (.t 83)) (some (75,true)))),(.x,(PO.mk (some 85) (.call (F 179) [(.t 80),(.t 84)]) (some (75,true)))),(.e,(PO.mk (some 86) (.not (.t 85)) (some (75,true)))),(.e,(po 87 (.pick (.t 75) (.t 86) (.k (.bool false)))))]) (.cond (.t 87) (.seq (.ops [(pm 88 0),(pm 89 1),(pm 90 2),(pm 91 11),(po 92 (.call (F 180) [(.t 88),(.t 89),(.t 90),(.t 91)])),(pm 13 92)]) (.seq (.ops [(pm 93 13),(pm 1 93)]) (.exit 1))) .skip)) (.seq (.ops [(pm 95 0),(pm 96 1),(pm 97 2),(pm 98 11),(po 99 (.call (F 181) [(.t 95),(.t 96),(.t 97),(.t 98)])),(pm 94 99),(po 100 (.ext 0 (.t 94))),(po 101 (.ext 1 (.t 94))),(pm 14 100),(pm 15 101)]) (.seq (.ops [(pm 102 15),(pm 9 102)]) (.seq (.ops [(pm 103 14),(pm 104 1),(po 105 (.bin .sub (.t 103) (.t 104))),(pm 106 2),(pm 107 14),(po 108 (.bin .sub (.t 106) (.t 107))),(pm 16 105),(pm 17 108)]) (.seq (.ops [(pm 109 10),(po 110 (.bin .quo (.t 109) (.k (.int .i64 8)))),(pm 18 110)]) (.seq (.ops [(pm 111 16),(pm 112 17),(po 113 (.bin .lss (.t 111) (.t 112)))]) (.cond (.t 113) (.seq (.ops [(pm 114 16),(pm 115 18),(po 116 (.bin .geq (.t 114) (.t 115))),(pm 8 116)]) (.seq (.ops [(pm 117 0),(pm 118 1),(pm 119 14),(pm 120 3),(po 121 (.call (F 172) [(.t 117),(.t 118),(.t 119),(.t 120)]))]) (.ops [(pm 122 14),(po 123 (.bin .add (.t 122) (.k (.int .i64 1)))),(pm 1 123)]))) (.seq (.ops [(pm 124 17),(pm 125 18),(po 126 (.bin .geq (.t 124) (.t 125))),(pm 8 126)]) (.seq (.ops [(pm 127 0),(pm 128 14),(po 129 (.bin .add (.t 128) (.k (.int .i64 1)))),(pm 130 2),(pm 131 3),(po 132 (.call (F 172) [(.t 127),(.t 129),(.t 130),(.t 131)]))]) (.ops [(pm 133 14),(pm 2 133)]))))))))))))))))))))))
def k173 (F:Fn):PF:=PF.mk 49 3 [] (.seq (.ops [(pm 8 1),(po 9 (.bin .add (.t 8) (.k (.int .i64 1)))),(pm 6 9)]) (.block 0 (.loop (.seq (.seq (.ops [(pm 10 6),(pm 11 2),(po 12 (.bin .lss (.t 10) (.t 11)))]) (.cond (.t 12) .skip (.exit 0))) (.seq (.block 1 (.seq (.ops [(pm 15 6),(pm 7 15)]) (.block 2 (.loop (.seq (.seq (.draw [(.e,(pm 16 7)),(.e,(pm 17 1)),(.e,(po 18 (.bin .gtr (.t 16) (.t 17)))),(.e,(pm 19 18)),(.e,(PO.mk (some 20) (.mv (.t 0)) (some (19,true)))),(.e,(PO.mk (some 21) (.mv (.t 7)) (some (19,true)))),(.e,(PO.mk (some 22) (.idxSl 1 (.t 20) (.t 21)) (some (19,true)))),(.e,(PO.mk (some 24) (.mv (.t 0)) (some (19,true)))),(.e,(PO.mk (some 25) (.mv (.t 7)) (some (19,true)))),(.e,(PO.mk (some 26) (.bin .sub (.t 25) (.k (.int .i64 1))) (some (19,true)))),(.e,(PO.mk (some 27) (.idxSl 1 (.t 24) (.t 26)) (some (19,true)))),(.s,(PO.mk (some 23) (.load false 1 (.t 22)) (some (19,true)))),(.s,(PO.mk (some 28) (.load false 1 (.t 27)) (some (19,true)))),(.x,(PO.mk (some 29) (.call (F 179) [(.t 23),(.t 28)]) (some (19,true)))),(.e,(po 30 (.pick (.t 19) (.t 29) (.k (.bool false)))))]) (.cond (.t 30) .skip (.exit 2))) (.seq (.block 3 (.draw [(.e,(pm 33 0)),(.e,(pm 34 7)),(.e,(pm 35 0)),(.e,(pm 36 7)),(.e,(po 37 (.bin .sub (.t 36) (.k (.int .i64 1))))),(.e,(pm 38 0)),(.e,(pm 39 7)),(.e,(po 40 (.bin .sub (.t 39) (.k (.int .i64 1))))),(.e,(po 41 (.idxSl 1 (.t 38) (.t 40)))),(.e,(pm 43 0)),(.e,(pm 44 7)),(.e,(po 45 (.idxSl 1 (.t 43) (.t 44)))),(.s,(po 42 (.load false 1 (.t 41)))),(.s,(po 46 (.load false 1 (.t 45)))),(.e,(po 47 (.idxSl 1 (.t 33) (.t 34)))),(.x,(PO.mk none (.store 1 (.t 47) (.t 42)) none)),(.e,(po 48 (.idxSl 1 (.t 35) (.t 37)))),(.x,(PO.mk none (.store 1 (.t 48) (.t 46)) none))])) (.ops [(pm 31 7),(po 32 (.bin .sub (.t 31) (.k (.int .i64 1)))),(pm 7 32)]))))))) (.ops [(pm 13 6),(po 14 (.bin .add (.t 13) (.k (.int .i64 1)))),(pm 6 14)]))))))
def k179 (F:Fn):PF:=PF.mk 17 2 [(.t 4)] (.seq (.ops [(po 4 (.mv (.k (.bool false))))]) (.seq (.ops [(pm 5 0),(po 6 (.call (F 182) [(.t 5)])),(pm 7 6),(PO.mk (some 8) (.mv (.t 1)) (some (7,true))),(PO.mk (some 9) (.call (F 182) [(.t 8)]) (some (7,true))),(PO.mk (some 10) (.not (.t 9)) (some (7,true))),(po 11 (.pick (.t 7) (.t 10) (.k (.bool false)))),(pm 12 11),(PO.mk (some 13) (.mv (.t 0)) (some (12,false))),(PO.mk (some 14) (.mv (.t 1)) (some (12,false))),(PO.mk (some 15) (.bin .lss (.t 13) (.t 14)) (some (12,false))),(po 16 (.pick (.t 12) (.k (.bool true)) (.t 15))),(pm 4 16)]) .ret))
def k182 (F:Fn):PF:=PF.mk 6 1 [(.t 2)] (.seq (.ops [(po 2 (.mv (.k (.bool false))))]) (.seq (.ops [(pm 3 0),(pm 4 0),(po 5 (.bin .neq (.t 3) (.t 4))),(pm 2 5)]) .ret))
def k171 (F:Fn):PF:=PF.mk 8 1 [(.t 2)] (.seq (.ops [(po 2 (.mv (.k (.int .i64 0))))]) (.seq (.cond (.k (.bool false)) (.seq (.ops [(pm 3 0),(po 4 (.conv .u32 (.t 3))),(po 5 (.call (F 183) [(.t 4)])),(pm 2 5)]) .ret) .skip) (.seq (.ops [(pm 6 0),(po 7 (.call (F 115) [(.t 6)])),(pm 2 7)]) .ret)))
structure OkIndex (P:Program) (F:Fn):Prop where
 mixed:P.follows .mixedOrders=true
 toOkHead:OkHead P F
 h154:compFn P ⟨[],[],[],[],[]⟩ (F 154)=some (k154 F)
 h155:compFn P ⟨[],[],[],[],[]⟩ (F 155)=some (k155 F)
 h156:compFn P ⟨[],[],[],[],[]⟩ (F 156)=some (k156 F)
 h157:compFn P ⟨[],[],[],[],[]⟩ (F 157)=some (k157 F)
 h159:compFn P ⟨[],[],[],[],[]⟩ (F 159)=some (k159 F)
 h161:compFn P ⟨[],[],[],[],[]⟩ (F 161)=some (k161 F)
 h158:compFn P ⟨[],[],[],[],[]⟩ (F 158)=some (k158 F)
 h163:compFn P ⟨[],[],[],[],[]⟩ (F 163)=some (k163 F)
 h164:compFn P ⟨[],[],[],[],[]⟩ (F 164)=some (k164 F)
 h166:compFn P ⟨[],[],[],[],[]⟩ (F 166)=some (k166 F)
 h167:compFn P ⟨[],[],[],[],[]⟩ (F 167)=some (k167 F)
 h168:compFn P ⟨[],[],[],[],[]⟩ (F 168)=some (k168 F)
 h169:compFn P ⟨[],[],[],[],[]⟩ (F 169)=some (k169 F)
 h170:compFn P ⟨[],[],[],[],[]⟩ (F 170)=some (k170 F)
 h165:compFn P ⟨[],[],[],[],[]⟩ (F 165)=some (k165 F)
 h172:compFn P ⟨[],[],[],[],[]⟩ (F 172)=some (k172 F)
 h173:compFn P ⟨[],[],[],[],[]⟩ (F 173)=some (k173 F)
 h179:compFn P ⟨[],[],[],[],[]⟩ (F 179)=some (k179 F)
 h182:compFn P ⟨[],[],[],[],[]⟩ (F 182)=some (k182 F)
 h171:compFn P ⟨[],[],[],[],[]⟩ (F 171)=some (k171 F)
end Go.Ab
namespace Go.Ab
open Go Go.RowKit
set_option maxRecDepth 10000
def eNd (x:Nd):List V:=eHdr x.hdr++(eId x.id++(.int .i64 x.parent::.int .i64 x.skip::.int .i64 x.height::(eU (natU x.work)++[.bool x.failed])))
theorem eNd_len (x:Nd):(eNd x).length=108:=by simp[eNd,eHdr_len,eId_len,eU_len]
def eRl (r:Rl):List V:=w32 r.limit::.int .i64 r.every::.int .i64 r.spacing::.int .i64 r.subsidy::.int .i64 r.work::(eHdr r.gen++[r.txs])
theorem eRl_len (r:Rl):(eRl r).length=74:=by simp[eRl,eHdr_len]
theorem eNd_drop68 (x:Nd):(eNd x).drop 68=eId x.id++(.int .i64 x.parent::.int .i64 x.skip::.int .i64 x.height::(eU (natU x.work)++[.bool x.failed])):=by
 rw[eNd,←eHdr_len x.hdr,List.drop_left]
theorem eNd_drop100 (x:Nd):(eNd x).drop 100=.int .i64 x.parent::.int .i64 x.skip::.int .i64 x.height::(eU (natU x.work)++[.bool x.failed]):=by
 rw[show 100=68+32 from rfl,←List.drop_drop,eNd_drop68]
 rw[show 32=(eId x.id).length from(eId_len _).symm,List.drop_left]
theorem nsegHdr (x:Nd):((eNd x).drop 0).take 68=eHdr x.hdr:=by rw[List.drop_zero,eNd,←eHdr_len x.hdr,List.take_left]
theorem nsegId (x:Nd):((eNd x).drop 68).take 32=eId x.id:=by rw[eNd_drop68,←eId_len x.id,List.take_left]
theorem nsegPar (x:Nd):((eNd x).drop 100).take 1=[.int .i64 x.parent]:=by rw[eNd_drop100];rfl
theorem nsegSkip (x:Nd):((eNd x).drop 101).take 1=[.int .i64 x.skip]:=by rw[show 101=100+1 from rfl,←List.drop_drop,eNd_drop100];rfl
theorem nsegHgt (x:Nd):((eNd x).drop 102).take 1=[.int .i64 x.height]:=by rw[show 102=100+2 from rfl,←List.drop_drop,eNd_drop100];rfl
theorem nsegWork (x:Nd):((eNd x).drop 103).take 4=eU (natU x.work):=by rw[show 103=100+3 from rfl,←List.drop_drop,eNd_drop100];rfl
theorem nsegFail (x:Nd):((eNd x).drop 107).take 1=[.bool x.failed]:=by rw[show 107=100+7 from rfl,←List.drop_drop,eNd_drop100];rfl
theorem take_drop_take {cs:List V}{a n o k:Nat}(h:o+k≤n):((cs.drop (a+o)).take k)=((((cs.drop a).take n).drop o).take k):=by
 rw[List.drop_take,List.drop_drop,List.take_take,Nat.min_eq_left (by omega)]
theorem nsegTime (x:Nd):((eNd x).drop 65).take 1=[w32 x.hdr.time]:=by
 have:=take_drop_take (cs:=eNd x) (a:=0) (n:=68) (o:=65) (k:=1) (by omega)
 rw[Nat.zero_add]at this
 rw[this,nsegHdr,hdrop65];rfl
theorem nsegBits (x:Nd):((eNd x).drop 66).take 1=[w32 x.hdr.bits]:=by
 have:=take_drop_take (cs:=eNd x) (a:=0) (n:=68) (o:=66) (k:=1) (by omega)
 rw[Nat.zero_add]at this
 rw[this,nsegHdr,hdrop66];rfl
section
variable {K A:Type} [DecidableEq K]
def lk (k:K)(l:List (K×A)):Option A:=l.lookup k
theorem lk_cons (k:K)(p:K×A)(l:List (K×A)):lk k (p::l)=if k=p.1 then some p.2 else lk k l:=by
 obtain⟨a,b⟩:=p
 unfold lk
 rw[List.lookup_cons]
 by_cases h:k=a
 ·have:(k==a)=true:=by simp[h]
  simp[h]
 ·have:(k==a)=false:=by simp[h]
  simp[h,this]
theorem lk_aSet (k k':K)(v:A)(l:List (K×A)):lk k (aSet k' v l)=if k=k' then some v else lk k l:=by
 induction l with
 | nil=>simp[aSet,lk_cons]
 | cons p l ih=>
   unfold aSet
   by_cases h1:k'=p.1
   ·rw[if_pos h1,lk_cons,lk_cons,←h1]
    by_cases h:k=k'<;>simp[h]
   ·rw[if_neg h1,lk_cons,lk_cons,ih]
    by_cases h2:k=p.1
    ·have:¬k=k':=by rw[h2];exact fun e=>h1 e.symm
     simp[h2,Ne.symm h1]
    ·simp[h2]
theorem lookup_lk {ek:K→V}{ev:A→V}{kk:KK}(hk:Keyed ek kk){st:St}{id:Nat}{l:List (K×A)}(h:st id=some (.mp (encM ek ev l)))(z:V)(k:K):
  lookupV st kk z true (.map (some id)) (ek k)=some (.tup [((lk k l).map ev).getD z,.bool (lk k l).isSome]):=by
 rw[lookup_enc hk h,if_pos rfl];rfl
end
structure TreeAt (tid sid mid:Nat) (spare:List V) (es:List (Id×Int)) (r:Rl) (l:List Nd) (st:St):Prop where
 top:st tid=some (.cells (eRl r++[.hsl sid 0 108 l.length,.map (some mid)]))
 rows:st sid=some (.cells (rowsOf eNd l++spare))
 by_:st mid=some (.mp (encM kId kInt es))
 room:108∣spare.length
 look: ∀k,lk k es=(findM l k).map fun(i:Nat)=>(i:Int)
def TreeR (tid:Nat)(r:Rl)(l:List Nd)(st:St):Prop:=∃sid mid spare es,TreeAt tid sid mid spare es r l st
theorem TreeAt.sub {tid sid mid:Nat}{spare:List V}{es:List (Id×Int)}{r:Rl}{l:List Nd}{st st':St}(h:TreeAt tid sid mid spare es r l st)(hs:St.sub st st'):TreeAt tid sid mid spare es r l st':=
 ⟨hs _ _ h.top,hs _ _ h.rows,hs _ _ h.by_,h.room,h.look⟩
theorem TreeR.sub {tid:Nat}{r:Rl}{l:List Nd}{st st':St}(h:TreeR tid r l st)(hs:St.sub st st'):TreeR tid r l st':=by
 obtain⟨sid,mid,spare,es,h⟩:=h
 exact⟨sid,mid,spare,es,h.sub hs⟩
theorem tree_seg74 (r:Rl)(a b:V):segOf (eRl r++[a,b]) 74 1=some [a]:=by
 have h:=eRl_len r
 unfold segOf
 rw[if_pos (by simp[h]),←h,List.drop_left];rfl
theorem tree_seg75 (r:Rl)(a b:V):segOf (eRl r++[a,b]) 75 1=some [b]:=by
 have h:=eRl_len r
 unfold segOf
 rw[if_pos (by simp[h]),show 75=74+1 from rfl,←List.drop_drop,←h,List.drop_left];rfl
theorem tree_seg0 (r:Rl)(a b:V):segOf (eRl r++[a,b]) 0 74=some (eRl r):=by
 have h:=eRl_len r
 unfold segOf
 rw[if_pos (by simp[h]),List.drop_zero,←h,List.take_left]
theorem tree_limit (r:Rl)(a b:V):segOf (eRl r++[a,b]) 0 1=some [w32 r.limit]:=by
 unfold segOf;rw[if_pos (by simp)];rfl
theorem tree_every (r:Rl)(a b:V):segOf (eRl r++[a,b]) 1 1=some [.int .i64 r.every]:=by
 unfold segOf;rw[if_pos (by simp[eRl])];rfl
theorem tree_spacing (r:Rl)(a b:V):segOf (eRl r++[a,b]) 2 1=some [.int .i64 r.spacing]:=by
 unfold segOf;rw[if_pos (by simp[eRl])];rfl
section
variable {l:List Nd} {i:Nat} {spare:List V}
theorem nd_part (hi:i<l.length){o n:Nat}(h:o+n≤108):segOf (rowsOf eNd l++spare) (i*108+o) n=some (((eNd l[i]).drop o).take n):=rowsOf_part eNd_len l spare hi h
theorem nd_all (hi:i<l.length):segOf (rowsOf eNd l++spare) (i*108) 108=some (eNd l[i]):=rowsOf_seg eNd_len l spare hi
theorem nd_par (hi:i<l.length):segOf (rowsOf eNd l++spare) (i*108+100) 1=some [.int .i64 l[i].parent]:=by rw[nd_part hi (by omega),nsegPar]
theorem nd_skip (hi:i<l.length):segOf (rowsOf eNd l++spare) (i*108+101) 1=some [.int .i64 l[i].skip]:=by rw[nd_part hi (by omega),nsegSkip]
theorem nd_hgt (hi:i<l.length):segOf (rowsOf eNd l++spare) (i*108+102) 1=some [.int .i64 l[i].height]:=by rw[nd_part hi (by omega),nsegHgt]
theorem nd_fail (hi:i<l.length):segOf (rowsOf eNd l++spare) (i*108+107) 1=some [.bool l[i].failed]:=by rw[nd_part hi (by omega),nsegFail]
theorem nd_time (hi:i<l.length):segOf (rowsOf eNd l++spare) (i*108+65) 1=some [w32 l[i].hdr.time]:=by rw[nd_part hi (by omega),nsegTime]
theorem hgt_at (hi:i<l.length):hgt l i=l[i].height:=by simp[hgt,hi]
theorem par_at (hi:i<l.length):par l i=l[i].parent.toNat:=by simp[par,hi]
end
theorem bits_and_nat {a b:Nat}(ha:a<2 ^ 62)(hb:b<2 ^ 62):bits .and .i64 (a:Int) (b:Int)=((a &&& b:Nat):Int):=by
 have h1:BitVec.ofInt IntKind.i64.bits (a:Int)=BitVec.ofNat 64 a:=BitVec.ofInt_natCast _ _
 have h2:BitVec.ofInt IntKind.i64.bits (b:Int)=BitVec.ofNat 64 b:=BitVec.ofInt_natCast _ _
 have h3:a &&& b≤a:=Nat.and_le_left
 unfold bits
 rw[h1,h2]
 show IntKind.i64.wrap (((BitVec.ofNat 64 a &&& BitVec.ofNat 64 b).toNat:Nat):Int)=_
 rw[BitVec.toNat_and,BitVec.toNat_ofNat,BitVec.toNat_ofNat,Nat.mod_eq_of_lt (by omega),Nat.mod_eq_of_lt (by omega)]
 exact wrap64 (by omega) (by omega)
section
variable {P:Program} {F:Fn}
theorem spec157 (ok:OkIndex P F)(st:St)(h:Nat)(hh:h<2 ^ 61):ACalls P (F 157) [.int .i64 (h:Nat)] st fun v st'=>v=.int .i64 (skipH h:Nat)∧st'=st:=by
 refine shows_call ok.mixed ok.h157 (by simp[k157]) ?_
 simp only[k157]
 by_cases h2:h<2
 ·have e:skipH h=0:=by simp[skipH,h2]
  have:(h:Int)<2:=by omega
  simp[this,e]
 ·obtain⟨m,rfl⟩: ∃m,h=m+2:=⟨h-2,by omega⟩
  have a1:¬((m:Int)+2<2):=by omega
  have w1:IntKind.i64.wrap ((m:Int)+2-1)=((m+1:Nat):Int):=by rw[wrap64 (by omega) (by omega)];omega
  have w2:IntKind.i64.wrap (m:Int)=(m:Int):=wrap64 (by omega) (by omega)
  have b1:bits .and .i64 ((m+1:Nat):Int) (m:Int)=((m+1 &&& m:Nat):Int):=bits_and_nat (by omega) (by omega)
  have b2:bits .and .i64 ((m:Int)+2) ((m+1:Nat):Int)=((m+2 &&& m+1:Nat):Int):=by
   have:=bits_and_nat (a:=m+2) (b:=m+1) (by omega) (by omega)
   rw[←this]
   congr 1
  have l1:m+1 &&& m≤m:=Nat.and_le_right
  have w3:IntKind.i64.wrap ((m+1 &&& m:Nat)+1)=((m+1 &&& m:Nat):Int)+1:=wrap64 (by omega) (by omega)
  obtain⟨A,hA⟩: ∃A,A=(m+1 &&& m):=⟨_,rfl⟩
  obtain⟨B,hB⟩: ∃B,B=(m+2 &&& m+1):=⟨_,rfl⟩
  obtain⟨M,hM⟩: ∃M,M=((m+1:Nat):Int):=⟨_,rfl⟩
  rw[←hA]at b1 w3
  rw[←hB]at b2
  rw[←hM]at w1 b1 b2
  have es:skipH (m+2)=if m % 2=1 then A+1 else B:=by
   unfold skipH
   rw[if_neg h2,hA,hB]
   have:(m+2) % 2=m % 2:=by omega
   rw[this]
   rfl
  have em:((m:Int)+2) % 2=((m % 2:Nat):Int):=by omega
  have e2:((m:Int)+2).tmod 2=((m % 2:Nat):Int):=by rw[Int.tmod_eq_emod_of_nonneg (by omega)];exact em
  have hm2:m % 2<2:=Nat.mod_lt _ (by omega)
  have wr:IntKind.i64.wrap (((m % 2:Nat)):Int)=((m % 2:Nat):Int):=wrap64 (by omega) (by omega)
  obtain⟨R,hR⟩: ∃R,R=m % 2:=⟨_,rfl⟩
  rw[←hR]at es em e2 wr hm2
  rw[es]
  by_cases hm:R=1
  ·subst hm
   simp[a1,em,e2,wr,w1,w2,b1,w3]
  ·have hz:R=0:=by omega
   subst hz
   simp[a1,em,e2,wr,w1,w2,b2,hm]
theorem spec159 (ok:OkIndex P F){st:St}{tid:Nat}{r:Rl}{l:List Nd}(h:TreeR tid r l st):ACalls P (F 159) [.ptr (some (tid,0))] st fun v st'=>v=.int .i64 (l.length:Nat)∧st'=st:=by
 obtain⟨sid,mid,spare,es,h⟩:=h
 refine shows_call ok.mixed ok.h159 (by simp[k159]) ?_
 simp only[k159]
 simp[St.seg,h.top,tree_seg74]
theorem nd_at {l:List Nd}{j:Nat}(hj:j<l.length):nd l j=l[j]:=by simp[nd,hj]
def inI (l:List Nd)(i:Int):Nat:=if i<0∨(l.length:Int)≤i then 0 else i.toNat
theorem spec161 (ok:OkIndex P F){st:St}{tid:Nat}{r:Rl}{l:List Nd}(h:TreeR tid r l st)(w:Wf l)(i:Int):ACalls P (F 161) [.ptr (some (tid,0)),.int .i64 i] st fun v st'=>v=.agg (eNd (nd l (inI l i)))∧st'=st:=by
 obtain⟨sid,mid,spare,es,h⟩:=h
 refine shows_call ok.mixed ok.h161 (by simp[k161]) ?_
 simp only[k161]
 simp
 intro i4 h4
 have hz:z108_9b14.length=108:=rfl
 have hsp: ∀x,spliceV z108_9b14 0 (eNd x)=eNd x:=fun x=>by simp[spliceV,eNd_len,hz]
 have hst: ∀(x:Nd),storeS (st.upd i4 (.cells z108_9b14)) 108 (.ptr (some (i4,0))) (.agg (eNd x))=some (st.upd i4 (.cells (eNd x))):=fun x=>by
  simp[storeS,eNd_len,hsp,hz]
 have hall': ∀x,segOf (eNd x) 0 108=some (eNd x):=fun x=>by
  unfold segOf
  rw[if_pos (by rw[eNd_len];omega),List.drop_zero,←eNd_len x,List.take_length]
 have h':=h.sub (sub_upd (o:=.cells z108_9b14) h4)
 generalize hst1:st.upd i4 (.cells z108_9b14)=st1 at h' hst⊢
 have o1:=h'.top
 have o2:=h'.rows
 simp[St.seg,o1,tree_seg74]
 have hl0:=w.ne
 have hsub: ∀x,St.sub st (st.upd i4 (.cells x)):=fun x=>sub_upd h4
 by_cases h1:i<0
 ·have e:inI l i=0:=by simp[inI,h1]
  have hall:=nd_all (spare:=spare) hl0
  simp at hall
  rw[e,nd_at hl0]
  simp[h1,e,hl0,o1,o2,hall,hst,St.seg,hall',hsub,tree_seg74]
 ·by_cases h2:(l.length:Int)≤i
  ·have e:inI l i=0:=by simp[inI,h2]
   have hall:=nd_all (spare:=spare) hl0
   simp at hall
   rw[e,nd_at hl0]
   simp[h1,h2,e,hl0,o1,o2,hall,hst,St.seg,hall',hsub,tree_seg74]
  ·obtain⟨n,rfl⟩: ∃n:Nat,i=n:=⟨i.toNat,by omega⟩
   have hn:n<l.length:=by omega
   have e:inI l n=n:=by simp[inI];omega
   have e2:¬l.length≤n:=by omega
   have hall:=nd_all (spare:=spare) hn
   rw[e,nd_at hn]
   simp[h1,e,e2,hn,o1,o2,hall,hst,St.seg,hall',hsub,tree_seg74]
theorem anc_step {l:List Nd}(w:Wf l){i h:Nat}(hi:i<l.length)(hh:h<hgt l i):
  ∃p s,l[i].parent=(p:Nat)∧l[i].skip=s∧p<i∧s≤p∧anc l p h=anc l i h∧h≤hgt l p∧(h≤hgt l s→anc l s h=anc l i h)∧s<l.length:=by
 have hp:=w.pos_of_hgt (i:=i) (by omega)
 have e:=List.getElem?_eq_getElem hi
 obtain⟨a,b,c⟩:=w.succ i _ hp e
 have d:=w.skip i _ hp e
 have hgi:=hgt_at hi
 refine⟨par l i,l[i].skip,?_,rfl,w.par_lt hp hi,?_,(w.anc_par hi hh).symm,?_,?_,?_⟩
 ·rw[par_at hi];omega
 ·rw[d,par_at hi];exact w.anc_le (by omega)
 ·have:=w.hgt_par hp hi;omega
 ·intro hs
  have hpp:=w.hgt_par hp hi
  have hlt:=w.par_lt hp hi
  have hk:=skipH_lt (h:=l[i].height) (by omega)
  have e2:l[i].skip=anc l (par l i) (skipH l[i].height):=by rw[d,par_at hi]
  rw[e2]at hs⊢
  have hh2:skipH l[i].height≤hgt l (par l i):=by omega
  rw[w.anc_hgt (by omega) hh2]at hs
  rw[w.anc_anc (by omega) hs hh2,←w.anc_par hi hh]
 ·have:=w.anc_lt (i:=l[i].parent.toNat) (h:=skipH l[i].height) (by omega)
  rw[d];exact this
theorem spec158 (ok:OkIndex P F){st:St}{tid:Nat}{r:Rl}{l:List Nd}(h:TreeR tid r l st)(w:Wf l)(i k:Int):ACalls P (F 158) [.ptr (some (tid,0)),.int .i64 i,.int .i64 k] st fun v st'=>v=.int .i64 (ancI l i k)∧st'=st:=by
 obtain⟨sid,mid,spare,es,h⟩:=h
 refine shows_call ok.mixed ok.h158 (by simp[k158]) ?_
 simp only[k158]
 have o1:=h.top
 have o2:=h.rows
 by_cases h1:i<0
 ·simp[h1,ancI]
 ·by_cases h2:(l.length:Int)≤i
  ·simp[h1,h2,ancI,St.seg,o1,tree_seg74]
  ·obtain⟨n,rfl⟩: ∃n:Nat,i=n:=⟨i.toNat,by omega⟩
   have hn:n<l.length:=by omega
   have e2:¬l.length≤n:=by omega
   by_cases h3:k<0
   ·simp[h1,h3,ancI,St.seg,o1,tree_seg74,e2]
   ·obtain⟨m,rfl⟩: ∃m:Nat,k=m:=⟨k.toNat,by omega⟩
    have eh:=hgt_at hn
    by_cases h4:l[n].height<m
    ·have:hgt l n<m:=by omega
     simp[h1,h3,ancI,St.seg,o1,o2,tree_seg74,e2,hn,nd_hgt hn,h4,this]
    ·have h4':¬hgt l n<m:=by omega
     have ea:ancI l n m=(anc l n m:Nat):=by simp[ancI,e2,h4',h1,h3]
     rw[ea]
     simp[h1,h3,St.seg,o1,o2,tree_seg74,e2,hn,nd_hgt hn,h4]
     refine vc_loopJ (fun c env' st'=>∃j,j=c∧j<l.length∧m≤hgt l j∧anc l j m=anc l n m∧env' 1=.int .i64 (j:Nat)∧st'=st) n ⟨n,rfl,hn,by omega,rfl,rfl,rfl⟩ ?_
     rintro J hJ c env' st2 hsame ⟨j,rfl,hj,hm,he,g1,rfl⟩
     have g0:=hsame.get 0 rfl
     have g2:=hsame.get 2 rfl
     simp at g0 g2
     clear hsame
     have ej:=hgt_at hj
     by_cases hlt:m<l[j].height
     ·obtain⟨p,s,p1,p2,p3,p4,p5,p6,p7,p8⟩:=anc_step w hj (h:=m) (by omega)
      have hp:p<l.length:=by omega
      have es:=hgt_at p8
      simp[g0,g1,g2,St.seg,o1,o2,tree_seg74,hj,nd_hgt hj,hlt,nd_skip hj,nd_par hj,p2,p8,nd_hgt p8]
      by_cases hs:m≤l[s].height
      ·simp[hs]
       exact Round.mk s _ (by omega) (sub_self _) (hJ _ _ _ ⟨s,rfl,p8,by omega,by rw[p7 (by omega),he],by simp,rfl⟩)
      ·simp[hs,g0,g1,g2,St.seg,o1,o2,tree_seg74,hj,nd_par hj,p1]
       exact Round.mk p _ (by omega) (sub_self _) (hJ _ _ _ ⟨p,rfl,hp,p6,by rw[p5,he],by simp,rfl⟩)
     ·have hm':hgt l j=m:=by omega
      have:anc l n m=j:=by rw[←he,←hm'];exact anc_self j
      simp[g0,g1,g2,St.seg,o1,o2,tree_seg74,hj,nd_hgt hj,hlt,this]
theorem spec163 (ok:OkIndex P F){st:St}{tid:Nat}{r:Rl}{l:List Nd}(h:TreeR tid r l st)(w:Wf l)(i tip:Int):ACalls P (F 163) [.ptr (some (tid,0)),.int .i64 i,.int .i64 tip] st fun v st'=>v=.bool (onB l i tip)∧st'=st:=by
 obtain⟨sid,mid,spare,es,h⟩:=h
 refine shows_call ok.mixed ok.h163 (by simp[k163]) ?_
 simp only[k163]
 have o1:=h.top
 have o2:=h.rows
 by_cases h1:0≤i
 ·by_cases h2:i< (l.length:Int)
  ·obtain⟨n,rfl⟩: ∃n:Nat,i=n:=⟨i.toNat,by omega⟩
   have hn:n<l.length:=by omega
   have eh:=hgt_at hn
   simp[St.seg,o1,o2,tree_seg74,hn,nd_hgt hn]
   refine(spec158 ok ⟨sid,mid,spare,es,h⟩ w tip (l[n].height:Nat)).mono ?_
   rintro v st' ⟨rfl,rfl⟩
   simp[onB,hn,eh]
  ·simp[h1,h2,onB,St.seg,o1,tree_seg74]
 ·simp[h1,onB]
end
def e32 (x:W32):List V:=[w32 x]
theorem e32_len (x:W32):(e32 x).length=1:=rfl
def UpTo (m:List W32)(i:Nat):Prop:=∀a b,a<b→b<i→m.getD a 0≤m.getD b 0
def UpBut (m:List W32)(i j:Nat):Prop:=(∀a b,a<b→b≤i→a≠j→b≠j→m.getD a 0≤m.getD b 0)∧∀k,j<k→k≤i→m.getD j 0≤m.getD k 0
theorem upBut_start {m:List W32}{i:Nat}(h:UpTo m i):UpBut m i i:=⟨fun a b h1 h2 h3 h4=>h a b h1 (by omega),fun k h1 h2=>by omega⟩
theorem upBut_end {m:List W32}{i j:Nat}(h:UpBut m i j)(hj:j=0∨m.getD (j-1) 0≤m.getD j 0)(hji:j≤i):UpTo m (i+1):=by
 intro a b h1 h2
 by_cases ha:a=j
 ·subst ha;exact h.2 b h1 (by omega)
 ·by_cases hb:b=j
  ·subst hb
   rcases hj with hj | hj
   ·omega
   ·by_cases e:a=b-1
    ·rw[e];exact hj
    ·exact Nat.le_trans (h.1 a (b-1) (by omega) (by omega) ha (by omega)) hj
  ·exact h.1 a b h1 (by omega) ha hb
theorem getD_swap {m:List W32}{j:Nat}(h0:0<j)(hj:j<m.length)(k:Nat):((m.set j (m.getD (j-1) 0)).set (j-1) (m.getD j 0)).getD k 0=if k=j then m.getD (j-1) 0 else if k=j-1 then m.getD j 0 else m.getD k 0:=by
 simp only[List.getD_eq_getElem?_getD,List.getElem?_set,List.length_set]
 by_cases h1:k=j
 ·subst h1
  simp[show¬(k-1=k) by omega,hj]
 ·by_cases h2:k=j-1
  ·subst h2
   simp[h1,show j-1<m.length by omega]
  ·simp[h1,h2,Ne.symm h1,Ne.symm h2]
theorem upBut_step {m:List W32}{i j:Nat}(h:UpBut m i j)(h0:0<j)(hj:j<m.length)(hji:j≤i)(hlt:m.getD j 0<m.getD (j-1) 0):
  UpBut ((m.set j (m.getD (j-1) 0)).set (j-1) (m.getD j 0)) i (j-1):=by
 have hle:m.getD j 0≤m.getD (j-1) 0:=Nat.le_of_lt hlt
 refine⟨fun a b h1 h2 h3 h4=>?_,fun k h1 h2=>?_⟩
 ·rw[getD_swap h0 hj,getD_swap h0 hj,if_neg h3,if_neg h4]
  by_cases ha:a=j
  ·have hb:b≠j:=by omega
   rw[if_pos ha,if_neg hb]
   exact h.1 (j-1) b (by omega) h2 (by omega) hb
  ·rw[if_neg ha]
   by_cases hb:b=j
   ·rw[if_pos hb]
    exact h.1 a (j-1) (by omega) (by omega) ha (by omega)
   ·rw[if_neg hb]
    exact h.1 a b h1 h2 ha hb
 ·rw[getD_swap h0 hj,getD_swap h0 hj,if_neg (by omega),if_pos rfl]
  by_cases hk:k=j
  ·rw[if_pos hk];exact hle
  ·rw[if_neg hk,if_neg (by omega)]
   exact h.2 k (by omega) h2
theorem swap_perm {m:List W32}{j:Nat}(h0:0<j)(hj:j<m.length):((m.set j (m.getD (j-1) 0)).set (j-1) (m.getD j 0)).Perm m:=by
 have e1:m.getD (j-1) 0=m[j-1]:=by simp[show j-1<m.length by omega]
 have e2:m.getD j 0=m[j]:=by simp[hj]
 rw[e1,e2]
 exact List.set_set_perm hj (by omega)
theorem sorted_of {m l:List W32}(h:UpTo m m.length)(hp:m.Perm l):m=sorted32 l:=by
 have hm:m.Pairwise (fun a b=>decide (a≤b)=true):=by
  rw[List.pairwise_iff_getElem]
  intro a b ha hb hab
  have:=h a b hab hb
  simpa[ha,hb]using this
 have hs:(sorted32 l).Pairwise (fun a b=>decide (a≤b)=true):=by
  refine List.pairwise_mergeSort (fun a b c h1 h2=>?_) (fun a b=>?_) l
  ·simp at h1 h2⊢;exact Nat.le_trans h1 h2
  ·simp;exact Nat.le_total a.toNat b.toNat
 refine List.Perm.eq_of_pairwise (le:=fun a b=>decide (a≤b)=true) ?_ hm hs (hp.trans (List.mergeSort_perm l _).symm)
 intro a b _ _ h1 h2
 simp at h1 h2
 exact BitVec.eq_of_toNat_eq (Nat.le_antisymm h1 h2)
theorem sorted32_length (l:List W32):(sorted32 l).length=l.length:=(List.mergeSort_perm l _).length_eq
section
variable {P:Program} {F:Fn}
theorem spec182 (ok:OkIndex P F)(st:St)(x:W32):ACalls P (F 182) [w32 x] st fun v st'=>v=.bool false∧st'=st:=by
 refine shows_call ok.mixed ok.h182 (by simp[k182]) ?_
 simp only[k182]
 simp
theorem spec179 (ok:OkIndex P F)(st:St)(x y:W32):ACalls P (F 179) [w32 x,w32 y] st fun v st'=>v=.bool (decide (x<y))∧st'=st:=by
 refine shows_call ok.mixed ok.h179 (by simp[k179]) ?_
 simp only[k179]
 simp
 refine(spec182 ok st x).mono ?_
 rintro v st ⟨rfl,rfl⟩
 simp
theorem spec173 (ok:OkIndex P F){st:St}{sid:Nat}{l:List W32}{spare:List V}(h:st sid=some (.cells (rowsOf e32 l++spare)))(hl:l.length≤1000)(hne:l≠[]):
  ACalls P (F 173) [.hsl sid 0 1 l.length,.int .i64 0,.int .i64 (l.length:Nat)] st fun v st'=>v=.tup []∧st'=st.upd sid (.cells (rowsOf e32 (sorted32 l)++spare)):=by
 refine shows_call ok.mixed ok.h173 (by simp[k173]) ?_
 simp only[k173]
 simp
 refine vc_loopJ (fun c env' st'=>∃(i:Nat) (m:List W32),0<i∧i≤l.length∧c=l.length-i∧m.Perm l∧UpTo m i∧env' 6=.int .i64 (i:Nat)∧st'=st.upd sid (.cells (rowsOf e32 m++spare))) (l.length-1) ⟨1,l,by omega,?_,rfl,.refl _,?_,by simp,?_⟩ ?_
 ·have:=List.length_pos_iff.2 hne;omega
 ·intro a b h1 h2;omega
 ·funext q
  by_cases e:q=sid
  ·subst e;simp[h]
  ·simp[e]
 ·rintro J hJ c env' st2 hsame ⟨i,m,h0,hi,rfl,hp,hu,g6,rfl⟩
  have g0:=hsame.get 0 rfl
  have g1:=hsame.get 1 rfl
  have g2:=hsame.get 2 rfl
  simp at g0 g1 g2
  clear hsame
  have hml:=hp.length_eq
  by_cases hlt:i<l.length
  ·simp[g0,g1,g2,g6,hlt]
   refine vc_loopJ (fun c env' st'=>∃(j:Nat) (m':List W32),j≤i∧c=j∧m'.Perm l∧UpBut m' i j∧env' 7=.int .i64 (j:Nat)∧st'=st.upd sid (.cells (rowsOf e32 m'++spare))) i ⟨i,m,Nat.le_refl _,rfl,hp,upBut_start hu,by simp,rfl⟩ ?_
   clear hu hp hml m
   rintro J2 hJ2 j env2 st2 hsame ⟨_,m,hj,rfl,hp,hu,g7,rfl⟩
   have e0:=hsame.get 0 rfl
   have e1:=hsame.get 1 rfl
   have e2:=hsame.get 2 rfl
   have e6:=hsame.get 6 rfl
   simp[g0,g1,g2,g6]at e0 e1 e2 e6
   clear hsame
   have hml:=hp.length_eq
   by_cases hj0:0<j
   ·have hjl:j<m.length:=by omega
    obtain⟨j',hj'⟩: ∃k,k=j-1:=⟨_,rfl⟩
    have hjl':j'<m.length:=by omega
    have s1:=rowsOf_seg e32_len m spare hjl
    have s2:=rowsOf_seg e32_len m spare hjl'
    obtain⟨x,hx⟩: ∃x,x=m.getD j 0:=⟨_,rfl⟩
    obtain⟨y,hy⟩: ∃y,y=m.getD (j-1) 0:=⟨_,rfl⟩
    have d1:m[j]=x:=by rw[hx];simp[hjl]
    have d2:m[j']=y:=by rw[hy,←hj'];simp[hjl']
    rw[d1,Nat.mul_one]at s1
    rw[d2,Nat.mul_one]at s2
    have hw:IntKind.i64.wrap ((j:Int)-1)=(j':Int):=by rw[wrap64 (by omega) (by omega)];omega
    have hl1:j<l.length:=by omega
    have hl2:j'<l.length:=by omega
    have hr:(rowsOf e32 m).length=l.length:=by rw[rowsOf_length e32_len,hml,Nat.mul_one]
    have p1:=rowsOf_splice e32_len m spare hjl (o:=0) (vs:=[w32 y]) (by simp) (a:=y) (by rw[d1];rfl)
    have p2:=rowsOf_splice e32_len (m.set j y) spare (i:=j') (by simpa using hjl') (o:=0) (vs:=[w32 x]) (by simp) (a:=x) (by rw[List.getElem_set_ne (by omega),d2];rfl)
    rw[Nat.mul_one,Nat.add_zero]at p1 p2
    have hr2:(rowsOf e32 (m.set j y)).length=l.length:=by rw[rowsOf_length e32_len,List.length_set,hml,Nat.mul_one]
    have sh1:(e32 x)=[w32 x]:=rfl
    have sh2:(e32 y)=[w32 y]:=rfl
    rw[sh1]at s1
    rw[sh2]at s2
    simp[e0,e1,g7,hj0,hw,St.seg,s1,s2,hl1,hl2]
    refine(spec179 ok _ x y).mono ?_
    rintro v st3 ⟨rfl,rfl⟩
    by_cases hxy:x<y
    ·simp[hxy,e0,e1,g7,hj0,hw,St.seg,s1,s2,hl1,hl2,storeS,p1,p2,hr,hr2,show j+1≤l.length+spare.length by omega,show j'+1≤l.length+spare.length by omega]
     refine Round.mk j' _ (by omega) (sub_self _) (hJ2 _ _ _ ⟨j',_,by omega,rfl,(swap_perm hj0 hjl).trans hp,?_,by simp,?_⟩)
     ·rw[hj']
      exact upBut_step hu hj0 hjl hj (by rw[←hx,←hy];exact hxy)
     ·rw[←hx,←hy,←hj']
    ·have hle:y≤x:=Nat.le_of_not_lt hxy
     have hu2:=upBut_end hu (.inr (by rw[←hx,←hy];exact hle)) hj
     have hw6:IntKind.i64.wrap ((i:Int)+1)=(i:Int)+1:=wrap64 (by omega) (by omega)
     simp[hxy,e6,hw6]
     exact Round.mk (l.length-(i+1)) _ (by omega) (sub_self _) (hJ _ _ _ ⟨i+1,m,by omega,by omega,rfl,hp,hu2,by simp,rfl⟩)
   ·have hjz:j=0:=by omega
    subst hjz
    have hu2:=upBut_end hu (.inl rfl) (by omega)
    have hw6:IntKind.i64.wrap ((i:Int)+1)=(i:Int)+1:=wrap64 (by omega) (by omega)
    simp[e0,e1,g7,e6,hw6]
    exact Round.mk (l.length-(i+1)) _ (by omega) (sub_self _) (hJ _ _ _ ⟨i+1,m,by omega,by omega,rfl,hp,hu2,by simp,rfl⟩)
  ·have hil:i=l.length:=by omega
   have hs:m=sorted32 l:=sorted_of (by rw[hml,←hil];exact hu) hp
   simp[g0,g1,g2,g6,hlt,hs]
theorem spec172 (ok:OkIndex P F){st:St}{sid:Nat}{l:List W32}{spare:List V}(h:st sid=some (.cells (rowsOf e32 l++spare)))(hl:l.length≤12)(hne:l≠[])(k:Int):
  ACalls P (F 172) [.hsl sid 0 1 l.length,.int .i64 0,.int .i64 (l.length:Nat),.int .i64 k] st fun v st'=>v=.tup []∧st'=st.upd sid (.cells (rowsOf e32 (sorted32 l)++spare)):=by
 refine shows_call ok.mixed ok.h172 (by simp[k172]) ?_
 simp only[k172]
 simp
 refine vc_unroll 1 ?_
 have hw:IntKind.i64.wrap (l.length:Int)=(l.length:Int):=wrap64 (by omega) (by omega)
 have h12:(l.length:Int)≤12:=by omega
 simp[unr_succ,hw,h12]
 refine(spec173 ok h (by omega) hne).mono ?_
 rintro v st' ⟨rfl,rfl⟩
 simp
theorem spec171 (ok:OkIndex P F)(st:St)(x:W):ACalls P (F 171) [w64 x] st fun v st'=>v=.int .i64 (bitlen x.toNat)∧st'=st:=by
 refine shows_call ok.mixed ok.h171 (by simp[k171]) ?_
 simp only[k171]
 simp
 refine(spec115 ok.toOkHead.toOkNum st x).mono ?_
 rintro v st' ⟨rfl,rfl⟩
 simp
theorem spec165 (ok:OkIndex P F){st:St}{sid:Nat}{l:List W32}{spare:List V}(h:st sid=some (.cells (rowsOf e32 l++spare)))(hl:l.length≤12)(hne:l≠[]):
  ACalls P (F 165) [.hsl sid 0 1 l.length] st fun v st'=>v=.tup []∧st'=st.upd sid (.cells (rowsOf e32 (sorted32 l)++spare)):=by
 refine shows_call ok.mixed ok.h165 (by simp[k165]) ?_
 simp only[k165]
 have hc:convV .u64 (.int .i64 (l.length:Nat))=some (w64 (BitVec.ofNat 64 l.length)):=by
  rw[conv_i_64];congr 2
 simp[-conv_i_64,hc]
 refine(spec171 ok st _).mono ?_
 rintro v st' ⟨rfl,rfl⟩
 simp
 refine(spec172 ok h hl hne _).mono ?_
 rintro v st' ⟨rfl,rfl⟩
 simp
theorem spec164 (ok:OkIndex P F){st:St}{sid:Nat}{l:List W32}{spare:List V}(h:st sid=some (.cells (rowsOf e32 l++spare)))(hl:l.length≤12)(hne:l≠[]):
  ACalls P (F 164) [.hsl sid 0 1 l.length] st fun v st'=>v=w32 (middle32 l)∧st'=st.upd sid (.cells (rowsOf e32 (sorted32 l)++spare)):=by
 refine shows_call ok.mixed ok.h164 (by simp[k164]) ?_
 simp only[k164]
 simp
 refine(spec165 ok h hl hne).mono ?_
 rintro v st' ⟨rfl,rfl⟩
 have hpos:=List.length_pos_iff.2 hne
 have hd:(l.length:Int).tdiv 2=((l.length / 2:Nat):Int):=by rw[Int.tdiv_eq_ediv_of_nonneg (by omega)];omega
 have hw:IntKind.i64.wrap ((l.length:Int) / 2)=((l.length / 2:Nat):Int):=by rw[wrap64 (by omega) (by omega)];omega
 have hlt:l.length / 2< (sorted32 l).length:=by rw[sorted32_length];omega
 have hs:=rowsOf_seg e32_len (sorted32 l) spare hlt
 have hm:(sorted32 l)[l.length / 2]=middle32 l:=by simp[middle32,hlt]
 rw[hm,Nat.mul_one,show e32 (middle32 l)=[w32 (middle32 l)]from rfl]at hs
 obtain⟨k,hk⟩: ∃k,k=l.length / 2:=⟨_,rfl⟩
 rw[←hk]at hd hw hs
 have hkl:k<l.length:=by omega
 simp[hw,hkl,St.seg,hs]
end
theorem hf8 (b:UInt8):fillV (repV [w8 0] 1) [(0,1,w8 b)]=some (rowsOf e8 [b]):=rfl
theorem hs8 (st:St)(b:UInt8):toStrV st (.sl .full (e8 b) 1)=some (sB [b]):=toStr_sB (.inl ⟨.full,rfl⟩) (by simp)
theorem splice_right {a t vs:List V}{n k:Nat}(ha:a.length=n):spliceV (a++t) (n+k) vs=a++spliceV t k vs:=by
 subst ha
 unfold spliceV
 rw[List.take_length_add_append,Nat.add_assoc,List.drop_length_add_append]
 simp only[List.append_assoc]
def eNpre (x:Nd):List V:=eHdr x.hdr++eId x.id
theorem eNpre_len (x:Nd):(eNpre x).length=100:=by simp[eNpre,eHdr_len,eId_len]
theorem eNd_pre (x:Nd):eNd x=eNpre x++(.int .i64 x.parent::.int .i64 x.skip::.int .i64 x.height::(eU (natU x.work)++[.bool x.failed])):=by simp[eNd,eNpre]
theorem spl_hdr (x:Nd)(h:Hdr):spliceV (eNd x) 0 (eHdr h)=eNd {x with hdr:=h}:=by
 unfold spliceV
 rw[List.take_zero,List.nil_append,Nat.zero_add,eHdr_len,eNd_drop68];rfl
theorem spl_id (x:Nd)(i:Id):spliceV (eNd x) 68 (eId i)=eNd {x with id:=i}:=by
 rw[eNd,show 68=68+0 from rfl,splice_right (eHdr_len _)]
 unfold spliceV
 rw[List.take_zero,List.nil_append,Nat.zero_add,show(eId i).length=(eId x.id).length by rw[eId_len,eId_len],List.drop_left];rfl
theorem spl_par (x:Nd)(n:Int):spliceV (eNd x) 100 [.int .i64 n]=eNd {x with parent:=n}:=by
 rw[eNd_pre,show 100=100+0 from rfl,splice_right (eNpre_len _),eNd_pre];rfl
theorem spl_skip (x:Nd)(n:Nat):spliceV (eNd x) 101 [.int .i64 n]=eNd {x with skip:=n}:=by
 rw[eNd_pre,show 101=100+1 from rfl,splice_right (eNpre_len _),eNd_pre];rfl
theorem spl_hgt (x:Nd)(n:Nat):spliceV (eNd x) 102 [.int .i64 n]=eNd {x with height:=n}:=by
 rw[eNd_pre,show 102=100+2 from rfl,splice_right (eNpre_len _),eNd_pre];rfl
theorem spl_work (x:Nd)(n:Nat):spliceV (eNd x) 103 (eU (natU n))=eNd {x with work:=n}:=by
 rw[eNd_pre,show 103=100+3 from rfl,splice_right (eNpre_len _),eNd_pre];rfl
theorem spl_fail (x:Nd)(b:Bool):spliceV (eNd x) 107 [.bool b]=eNd {x with failed:=b}:=by
 rw[eNd_pre,show 107=100+7 from rfl,splice_right (eNpre_len _),eNd_pre];rfl
def nd0:Nd:=⟨hdr0,id0,0,0,0,0,false⟩
theorem z108_eq:z108_9b14=eNd nd0:=by
 have:eU (natU 0)=[w64 0,w64 0,w64 0,w64 0]:=by rw[eU_zero0];rfl
 rw[eNd,show nd0.work=0 from rfl,this];rfl
theorem seg_of_take {cs ys:List V}{o n:Nat}(h:((cs.drop o).take n)=ys)(hl:o+n≤cs.length):segOf cs o n=some ys:=by
 unfold segOf
 rw[if_pos hl,h]
theorem osegAll (x:Nd):segOf (eNd x) 0 108=some (eNd x):=by
 refine seg_of_take ?_ (by rw[eNd_len];omega)
 rw[List.drop_zero,←eNd_len x,List.take_length]
theorem osegId (x:Nd):segOf (eNd x) 68 32=some (eId x.id):=seg_of_take (nsegId x) (by rw[eNd_len];omega)
theorem osegHgt (x:Nd):segOf (eNd x) 102 1=some [.int .i64 x.height]:=seg_of_take (nsegHgt x) (by rw[eNd_len];omega)
theorem osegWork (x:Nd):segOf (eNd x) 103 4=some (eU (natU x.work)):=seg_of_take (nsegWork x) (by rw[eNd_len];omega)
theorem osegTime (x:Nd):segOf (eNd x) 65 1=some [w32 x.hdr.time]:=seg_of_take (nsegTime x) (by rw[eNd_len];omega)
theorem osegBits (x:Nd):segOf (eNd x) 66 1=some [w32 x.hdr.bits]:=seg_of_take (nsegBits x) (by rw[eNd_len];omega)
def TreeS (tid:Nat)(r:Rl)(l:List Nd):Asn:=fun h=>∃s mid es,Sep [Sl 108 eNd s l,pt tid (.cells (eRl r++[s,.map (some mid)])),pt mid (.mp (encM kId kInt es))] h∧∀k,lk k es=(findM l k).map fun(i:Nat)=>(i:Int)
theorem TreeS.toR {tid:Nat}{r:Rl}{l:List Nd}{st:St}(h:TreeS tid r l st)(hl:l≠[]):TreeR tid r l st:=by
 obtain⟨s,mid,es,S,hk⟩:=h
 obtain⟨sid,spare,rfl,hs,S⟩:=S.slObj hl
 exact⟨sid,mid,spare,es,S.mem (i:=tid) (by simp),S.get,S.mem (i:=mid) (by simp),hs,hk⟩
theorem Sep.treeR {tid:Nat}{r:Rl}{l:List Nd}{L:List Asn}{st:St}(h:Sep (TreeS tid r l::L) st)(hl:l≠[]):TreeR tid r l st:=by
 obtain⟨h',h1,h2⟩:=h.part
 exact(h2.toR hl).sub h1
theorem splice74 (r:Rl)(a b c:V):spliceV (eRl r++[a,b]) 74 [c]=eRl r++[c,b]:=by
 rw[show 74=74+0 from rfl,splice_right (eRl_len r)];rfl
def putM (l:List Nd)(h:Hdr)(p:Int):Nd:=if p<0 then⟨h,hId h,p,0,0,workN ((tgt h.bits).getD 0),false⟩else ndOf l h p.toNat
theorem natU_add (a b:Nat):BitVec.ofNat 256 (sumU [natU a,natU b])=natU (a+b):=by
 apply BitVec.eq_of_toNat_eq
 simp[sumU,natU]
theorem tgtR_get (b:W32):tgtR b=.tup [nU (natU ((tgt b).getD 0)),.bool (tgt b).isSome]∧(natU ((tgt b).getD 0)).toNat=(tgt b).getD 0:=by
 unfold tgtR
 cases h:tgt b with
 | none=>exact⟨rfl,rfl⟩
 | some t=>exact⟨rfl,natU_nat (tgt_lt h).2⟩
section
variable {P:Program} {F:Fn}
set_option maxHeartbeats 2000000 in
theorem spec156 (ok:OkIndex P F){tid:Nat}{r:Rl}{l:List Nd}{g:St}(T:TreeS tid r l g)(w:l≠[]→Wf l)(hl:l.length≤16384)(h:Hdr)(p:Int)(hp:p=-1∨(0≤p∧p<l.length)):
  ACalls P (F 156) [.ptr (some (tid,0)),.agg (eHdr h),.int .i64 p] g fun v st'=>v=.int .i64 (l.length:Nat)∧TreeS tid r (l++[putM l h p]) st':=by
 have okh:=ok.toOkHead
 have okn:=okh.toOkNum
 obtain⟨s,mid,es,S,hlk⟩:=T
 refine shows_call ok.mixed ok.h156 (by simp[k156]) ?_
 simp only[k156,z108_eq,eU_zero0]
 simp
 intro i4 h4
 have S:=S.new h4 (.cells (eHdr h))
 generalize g.upd i4 _=st1 at S⊢
 have o4:=S.get
 have hfl:fillV (eNd nd0) [(0,68,.agg (eHdr h)),(68,32,.agg (eId (hId h))),(100,1,.int .i64 p)]=some (eNd {nd0 with hdr:=h,id:=hId h,parent:=p}):=by
  simp[fillV,eHdr_len,eId_len,eNd_len,spl_hdr,spl_id,spl_par]
 simp[St.seg,o4,hsegAll]
 refine⟨_,spec141 okh st1 h,?_⟩
 simp[hfl]
 intro i7 h7
 have S:=S.new h7 (.cells (eNd nd0))
 have hsp: ∀x y,spliceV (eNd x) 0 (eNd y)=eNd y:=fun x y=>by simp[spliceV,eNd_len]
 simp[storeS,eNd_len,hsp]
 have S:=S.setAt (.cells (eNd {nd0 with hdr:=h,id:=hId h,parent:=p})) 0 rfl
 simp at S
 generalize st1.upd i7 _=st2 at S⊢
 have o4:=S.mem (i:=i4) (o:=.cells (eHdr h)) (by simp)
 simp[St.seg,o4,hsegBits]
 refine(spec135 okh st2 h.bits).mono ?_
 rintro v st2 ⟨rfl,rfl⟩
 obtain⟨hA1,hA2⟩:=tgtR_get h.bits
 rw[hA1]
 obtain⟨T,hT⟩: ∃T,T=(tgt h.bits).getD 0:=⟨_,rfl⟩
 rw[←hT]at hA2⊢
 have hspU: ∀x y:U,spliceV (eU x) 0 (eU y)=eU y:=fun _ _=>rfl
 simp
 intro i8 h8
 have S:=S.new h8 (.cells (eU 0#256))
 simp[storeS,nU,eU_len,hspU]
 have S:=S.setAt (.cells (eU (natU T))) 0 rfl
 simp at S
 generalize st2.upd i8 _=st3 at S⊢
 have o8:=S.get
 have o7:=S.mem (i:=i7) (o:=.cells (eNd {nd0 with hdr:=h,id:=hId h,parent:=p})) (by simp)
 simp[St.seg,o8,segU]
 refine(spec137 okh st3 (natU T)).mono ?_
 rintro v st3 ⟨rfl,rfl⟩
 rw[hA2]
 obtain⟨W,hW⟩: ∃W,W=workN T:=⟨_,rfl⟩
 rw[←hW]
 have S:=S.setAt (.cells (eNd {nd0 with hdr:=h,id:=hId h,parent:=p,work:=W})) 1 rfl
 simp[storeS,o7,nU,eU_len,eNd_len,spl_work]
 simp at S
 generalize st3.upd i7 _=st4 at S⊢
 refine condB_join (fun env' st'=>env' 0=.ptr (some (tid,0))∧env' 7=.ptr (some (i7,0))∧Sep [pt i7 (.cells (eNd (putM l h p))),Sl 108 eNd s l,pt tid (.cells (eRl r++[s,.map (some mid)])),pt mid (.mp (encM kId kInt es))] st') ?_ ?_
 ·rcases hp with rfl | ⟨hp1,hp2⟩
  ·have e:putM l h (-1)={nd0 with hdr:=h,id:=hId h,parent:=-1,work:=W}:=by
     simp[putM,hW,hT,nd0]
   simp
   rw[e]
   exact Sep.tail (fun r hr=>hr.drop) S.drop
  ·obtain⟨q,rfl⟩: ∃q:Nat,p=q:=⟨p.toNat,by omega⟩
   have hq:q<l.length:=by omega
   have hne:l≠[]:=by rintro rfl;simp at hq
   have w:=w hne
   obtain⟨sid,spare,rfl,hsp1,S⟩:=(S.pull 3).slObj hne
   have TR:TreeAt tid sid mid spare es r l st4:=⟨S.mem (i:=tid) (by simp),S.get,S.mem (i:=mid) (by simp),hsp1,hlk⟩
   obtain⟨x1,hx1⟩: ∃x1:Nd,x1={nd0 with hdr:=h,id:=hId h,parent:=(q:Int),work:=W}:=⟨_,rfl⟩
   have f1:x1.work=W:=by rw[hx1]
   have f2:putM l h q={x1 with height:=hgt l q+1,work:=W+(nd l q).work,skip:=anc l q (skipH (hgt l q+1))}:=by
    rw[hx1];simp[putM,ndOf,hW,hT,nd0]
   rw[←hx1]at S
   clear hx1
   have o2:=TR.rows
   have o1:=TR.top
   have o7:=S.mem (i:=i7) (o:=.cells (eNd x1)) (by simp)
   have hg:=hgt_at hq
   have hgl:=w.hgt_le hq
   have hqi:(q:Int)<l.length:=by omega
   simp[St.seg,o1,o2,tree_seg74,hq,nd_all hq]
   intro i10 h10
   have S:=S.new h10 (.cells (eNd nd0))
   simp[storeS,eNd_len,hsp]
   have S:=S.setAt (.cells (eNd l[q])) 0 rfl
   simp at S
   generalize st4.upd i10 _=st5 at S⊢
   have o10:=S.get
   have o7:=S.mem (i:=i7) (o:=.cells (eNd x1)) (by simp)
   obtain⟨H,hH⟩: ∃H,H=l[q].height:=⟨_,rfl⟩
   obtain⟨pw,hpw⟩: ∃n,n=l[q].work:=⟨_,rfl⟩
   have hoH:=osegHgt l[q]
   have hoW:=osegWork l[q]
   rw[nd_at hq,hg]at f2
   rw[←hH]at hoH f2 hg
   rw[←hpw]at hoW f2
   have hw1:IntKind.i64.wrap ((H:Int)+1)=(H:Int)+1:=wrap64 (by omega) (by omega)
   obtain⟨x2,e1,e2,e3,f2⟩: ∃x2:Nd,spliceV (eNd x1) 102 [.int .i64 ((H:Int)+1)]=eNd x2∧x2.work=W∧x2.height=H+1∧putM l h q={x2 with work:=W+pw,skip:=anc l q (skipH (H+1))}:=⟨_,spl_hgt x1 (H+1),f1,rfl,f2⟩
   simp[storeS,St.seg,o10,o7,hoH,hw1,eNd_len,e1]
   have S:=S.setAt (.cells (eNd x2)) 3 rfl
   simp at S
   generalize st5.upd i7 _=st6 at S⊢
   have o10:=S.get
   have o7:=S.mem (i:=i7) (o:=.cells (eNd x2)) (by simp)
   have hoW2:=osegWork x2
   rw[e2]at hoW2
   have hfl2:fillV (repV (eU 0#256) 2) [(0,4,.agg (eU (natU W))),(4,4,.agg (eU (natU pw)))]=some (rowsOf eU [natU W,natU pw]):=rfl
   simp[St.seg,o10,o7,hoW,hoW2,hfl2]
   have rd2:Rd 4 eU (.sl .full (eU (natU W)++eU (natU pw)) 2) [natU W,natU pw] st6:=.inl ⟨.full,by simp[rowsOf]⟩
   refine(spec108 okn st6 rd2 (by simp)).mono ?_
   rintro v st6 ⟨rfl,rfl⟩
   rw[natU_add]
   obtain⟨x3,e4,e5,f2⟩: ∃x3:Nd,spliceV (eNd x2) 103 (eU (natU (W+pw)))=eNd x3∧x3.height=H+1∧putM l h q={x3 with skip:=anc l q (skipH (H+1))}:=⟨_,spl_work x2 (W+pw),e3,f2⟩
   simp[o7,nU,storeS,eNd_len,e4,eU_len]
   have S:=S.setAt (.cells (eNd x3)) 3 rfl
   simp at S
   generalize st6.upd i7 _=st7 at S⊢
   have o7:=S.mem (i:=i7) (o:=.cells (eNd x3)) (by simp)
   have ho3:=osegHgt x3
   rw[e5]at ho3
   simp[St.seg,o7,ho3]
   have TR:TreeR tid r l st7:=⟨sid,mid,spare,es,S.mem (i:=tid) (by simp),S.mem (i:=sid) (by simp),S.mem (i:=mid) (by simp),hsp1,hlk⟩
   refine(spec157 ok st7 (H+1) (by omega)).mono ?_
   rintro v st7 ⟨rfl,rfl⟩
   have hsk:=skipH_lt (h:=H+1) (by omega)
   refine(spec158 ok TR w q (skipH (H+1):Nat)).mono ?_
   rintro v st8 ⟨rfl,hst8⟩
   rw[hst8]
   clear hst8 st8
   have ea:ancI l q (skipH (H+1):Nat)=(anc l q (skipH (H+1)):Nat):=by
    have:¬l.length≤q:=by omega
    have h2:¬(H<skipH (H+1)):=by omega
    have h3:¬((q:Int)<0):=by omega
    have h4:¬((skipH (H+1):Int)<0):=by omega
    simp[ancI,this,hg,h2,h3,h4]
   rw[ea]
   have e6:=spl_skip x3 (anc l q (skipH (H+1)))
   rw[←f2]at e6
   simp[o7,storeS,eNd_len,e6]
   have S:=S.setAt (.cells (eNd (putM l h q))) 3 rfl
   simp at S
   generalize st7.upd i7 _=st8 at S⊢
   have S:=Sep.tail (fun r hr=>Sep.tail (fun r hr=>hr.drop) hr.drop) S.drop
   refine Sep.swap ?_
   have S:=Sep.ofObj S hsp1
   exact Sep.swap (Sep.tail (fun r hr=>hr) (Sep.swap S))
 ·rintro env' st9 hsame ⟨g0,g7,S⟩
  have g4:=hsame
  clear hsame
  have o1:=S.mem (i:=tid) (o:=.cells (eRl r++[s,.map (some mid)])) (by simp)
  have o7:=S.get
  have hlen:=(Sep.rd eNd_len S.swap).len
  have hfl3:fillV (repV (eNd nd0) 1) [(0,108,.agg (eNd (putM l h p)))]=some (eNd (putM l h p)):=by
   have:repV (eNd nd0) 1=eNd nd0:=by simp[repV]
   simp[this,fillV,eNd_len,spliceV]
  simp[g0,g7,St.seg,o1,tree_seg74,hlen,o7,osegAll,hfl3]
  have hel:elems st9 108 (V.sl SK.full (eNd (putM l h p)) 1)=some (eNd (putM l h p),1):=by simp[elems,eNd_len]
  rw[hel]
  refine Sep.app1 eNd_len (by omega) S.swap rfl (by omega) ?_
  intro s' st10 S
  obtain⟨sid,spare,rfl,hsp1,S⟩:=S.slObj (by simp)
  have o1:=S.mem (i:=tid) (o:=.cells (eRl r++[s,.map (some mid)])) (by simp)
  simp[g0,storeS,o1,splice74,eRl_len]
  have S:=S.setAt (.cells (eRl r++[.hsl sid 0 108 (l.length+1),.map (some mid)])) 2 rfl
  simp at S
  generalize st10.upd tid _=st11 at S⊢
  have o1:=S.mem (i:=tid) (o:=.cells (eRl r++[.hsl sid 0 108 (l.length+1),.map (some mid)])) (by simp)
  have o7:=S.mem (i:=i7) (o:=.cells (eNd (putM l h p))) (by simp)
  have om:=S.mem (i:=mid) (o:=.mp (encM kId kInt es)) (by simp)
  have hms:=mset_enc keyed_id om (hId h) (l.length:Int)
  have hpid:(putM l h p).id=hId h:=by unfold putM;split<;>rfl
  have hid:=osegId (putM l h p)
  rw[hpid]at hid
  simp only[kId,kInt]at hms
  simp[g0,g7,St.seg,o1,o7,tree_seg75,hid,hms]
  have S:=S.setAt (.mp (encM kId kInt (aSet (hId h) (l.length:Int) es))) 3 rfl
  simp at S
  refine⟨_,sub_self _,?_⟩
  have S:=Sep.tail (fun r hr=>hr.drop) S
  rw[show rowsOf eNd l++(eNd (putM l h p)++spare)=rowsOf eNd (l++[putM l h p])++spare by simp[rowsOf]]at S
  have S:=Sep.ofObj S hsp1
  rw[show(l++[putM l h p]).length=l.length+1 by simp]at S
  refine⟨_,mid,_,S,fun k=>?_⟩
  rw[lk_aSet,hlk,findM_append,hpid]
  by_cases e:k=hId h
  ·subst e;simp
  ·rw[if_neg e,if_neg (fun e'=>e e'.symm)]
end
def clI (l:List Nd)(i:Int):Nat:=(max 0 (min i ((l.length:Int)-1))).toNat
theorem clI_lt {l:List Nd}(w:Wf l)(i:Int):clI l i<l.length:=by
 have:=w.ne
 unfold clI;omega
theorem clI_of {l:List Nd}{n:Nat}(h:n<l.length):clI l n=n:=by unfold clI;omega
def timesI (l:List Nd)(n:Nat)(i:Int):List W32:=if i<0 then[]else timesM l n i.toNat
theorem timesM_succ {l:List Nd}{n i:Nat}(hi:i<l.length):timesM l (n+1) i=l[i].hdr.time::timesI l n l[i].parent:=by
 simp[timesM,hi,timesI]
theorem timesM_ne {l:List Nd}{n i:Nat}(hi:i<l.length):timesM l (n+1) i≠[]:=by simp[timesM,hi]
section
variable {P:Program} {F:Fn}
theorem spec166 (ok:OkIndex P F){st:St}{tid:Nat}{r:Rl}{l:List Nd}(h:TreeR tid r l st)(w:Wf l)(hl:l.length≤16384)(i:Int):ACalls P (F 166) [.ptr (some (tid,0)),.int .i64 i] st fun v st'=>v=w32 (medianM l (clI l i))∧st'=st:=by
 obtain⟨sid,mid,spare,es,h⟩:=h
 refine shows_call ok.mixed ok.h166 (by simp[k166]) ?_
 simp only[k166]
 have o1:=h.top
 have hne:=w.ne
 obtain⟨n,hn⟩: ∃n,n=clI l i:=⟨_,rfl⟩
 have hnl:n<l.length:=hn ▸clI_lt w i
 rw[←hn]
 have hw:IntKind.i64.wrap ((l.length:Int)-1)=(l.length:Int)-1:=wrap64 (by omega) (by omega)
 have hmn:foldV min2V (.int .i64 i) [.int .i64 ((l.length:Int)-1)]=some (.int .i64 (min i ((l.length:Int)-1))):=by
  simp only[foldV,min2V,if_true,Option.bind_some]
  congr 2
  split<;>omega
 have hmx:foldV max2V (.int .i64 0) [.int .i64 (min i ((l.length:Int)-1))]=some (.int .i64 (n:Int)):=by
  simp only[foldV,max2V,if_true,Option.bind_some]
  unfold clI at hn
  congr 2
  split<;>omega
 simp[St.seg,o1,tree_seg74,hw,hmn,hmx]
 refine vc_loopJ (fun c env' st'=>∃(acc:List W32) (j:Int) (s:V),c=11-acc.length∧acc.length≤11∧acc++timesI l (11-acc.length) j=timesM l 11 n∧(0≤j→j<l.length)∧env' 1=.int .i64 j∧env' 5=s∧Sep [Sl 1 e32 s acc,Was st] st') 11
  ⟨[],n,.sl .nil [] 0,rfl,by simp,?_,by omega,by simp,by simp,(Sep.start st).slNil⟩ ?_
 ·simp[timesI];omega
 ·rintro J hJ c env' st2 hsame ⟨acc,j,s,rfl,hal,he,hj,g1,g5,S⟩
  have g0:=hsame.get 0 rfl
  simp at g0
  clear hsame
  have hsub:=S.was' (st0:=st) (by simp)
  have h2:=h.sub hsub
  have o1:=h2.top
  have o2:=h2.rows
  have hlen:=(Sep.rd e32_len S).len
  have hfin:acc=timesM l 11 n→ACalls P (F 164) [s] st2 fun v st'=>v=w32 (medianM l n)∧St.sub st st':=by
   intro e
   have hne2:acc≠[]:=by rw[e];exact timesM_ne hnl
   obtain⟨sid2,spare2,rfl,hs2,S⟩:=S.slObj hne2
   refine(spec164 ok S.get (by omega) hne2).mono ?_
   rintro v st3 ⟨rfl,rfl⟩
   have S:=S.setAt (.cells (rowsOf e32 (sorted32 acc)++spare2)) 0 rfl
   have hsub:=S.was' (st0:=st) (by simp)
   have em:middle32 acc=medianM l n:=by rw[e];rfl
   exact⟨by rw[em],hsub⟩
  by_cases hj0:0≤j
  ·by_cases ha:(acc.length:Int)<11
   ·obtain⟨q,rfl⟩: ∃q:Nat,j=q:=⟨j.toNat,by omega⟩
    have hq:q<l.length:=by have:=hj hj0;omega
    simp[g0,g1,g5,hlen,ha,St.seg,o1,o2,tree_seg74,hq,nd_time hq]
    have hfl:fillV (repV [w32 0#32] 1) [(0,1,w32 l[q].hdr.time)]=some (e32 l[q].hdr.time):=rfl
    simp[hfl]
    have hel:elems st2 1 (.sl .full (e32 l[q].hdr.time) 1)=some (e32 l[q].hdr.time,1):=rfl
    rw[hel]
    refine Sep.app1 e32_len (by omega) S rfl (by omega) ?_
    intro s' st3 S
    have h3:=h.sub (S.was' (st0:=st) (by simp))
    have o1:=h3.top
    have o2:=h3.rows
    simp[g0,g1,St.seg,o1,o2,tree_seg74,hq,nd_par hq]
    have e11:11-acc.length=(11-(acc.length+1))+1:=by omega
    refine Round.mk (11-(acc++[l[q].hdr.time]).length) _ (by simp;omega) (sub_self _) (hJ _ _ _ ⟨acc++[l[q].hdr.time],l[q].parent,s',rfl,by simp;omega,?_,?_,by simp,by simp,S⟩)
    ·rw[←he]
     have:timesI l (11-acc.length) (q:Int)=l[q].hdr.time::timesI l (11-(acc.length+1)) l[q].parent:=by
      rw[e11,←timesM_succ hq];simp[timesI];omega
     rw[this];simp
    ·intro hp
     rcases Nat.eq_zero_or_pos q with e | e
     ·subst e
      have:=(w.zero _ (List.getElem?_eq_getElem hq)).1
      omega
     ·have:=(w.succ q _ e (List.getElem?_eq_getElem hq)).2.1
      omega
   ·have e11:acc.length=11:=by omega
    have e:acc=timesM l 11 n:=by
     rw[e11]at he
     rw[←he]
     have:timesI l (11-11) j=[]:=by unfold timesI;split<;>rfl
     rw[this];simp
    simp[g0,g1,g5,hlen,ha,hj0]
    refine(hfin e).mono ?_
    rintro v st3 ⟨rfl,hs3⟩
    simp[hs3]
  ·have e:acc=timesM l 11 n:=by
     rw[←he]
     have:timesI l (11-acc.length) j=[]:=by unfold timesI;rw[if_pos (by omega)]
     rw[this];simp
   simp[g0,g1,g5,hj0]
   refine(hfin e).mono ?_
   rintro v st3 ⟨rfl,hs3⟩
   simp[hs3]
theorem checkM_ok {r:Rl}(h:checkM r=0):tgt r.limit≠none∧r.gen.bits=r.limit∧0≤r.every∧r.every≤1000∧1≤r.spacing∧r.spacing≤1048576∧0≤r.subsidy∧r.subsidy≤1125899906842624∧0≤r.work∧r.work≤1000:=by
 unfold checkM at h
 split at h
 ·cases h
 ·rename_i h1
  split at h
  ·cases h
  ·rename_i h2
   have:r.gen.bits=r.limit:=by
    by_cases e:r.gen.bits=r.limit
    ·exact e
    ·exact absurd (.inr e) h1
   exact⟨fun e=>h1 (.inl e),this,by omega,by omega,by omega,by omega,by omega,by omega,by omega,by omega⟩
set_option maxHeartbeats 1000000 in
theorem spec167 (ok:OkIndex P F){st:St}{tid:Nat}{r:Rl}{l:List Nd}(h:TreeR tid r l st)(w:Wf l)(hl:l.length≤16384)(hr:checkM r=0){i:Nat}(hi:i<l.length):ACalls P (F 167) [.ptr (some (tid,0)),.int .i64 (i:Nat)] st fun v st'=>v=w32 (nextM r l i)∧st'=st:=by
 have okh:=ok.toOkHead
 obtain⟨hr1,hr2,hr3,hr4,hr5,hr6,-,-⟩:=checkM_ok hr
 have hR:=h
 obtain⟨sid,mid,spare,es,h⟩:=h
 refine shows_call ok.mixed ok.h167 (by simp[k167]) ?_
 simp only[k167,z108_eq,eU_zero0]
 simp
 refine(spec161 ok hR w i).mono ?_
 rintro v st ⟨rfl,rfl⟩
 have hin:inI l i=i:=by unfold inI;rw[if_neg (by omega)];omega
 rw[hin]
 obtain⟨x,hx⟩: ∃x,x=nd l i:=⟨_,rfl⟩
 have hxh:x.height=hgt l i:=by rw[hx,nd_at hi,hgt_at hi]
 have hgl:=w.hgt_le hi
 rw[←hx]
 simp
 intro i5 h5
 have S:=(Sep.start st).new h5 (.cells (eNd nd0))
 have hsp: ∀x y,spliceV (eNd x) 0 (eNd y)=eNd y:=fun x y=>by simp[spliceV,eNd_len]
 simp[storeS,eNd_len,hsp]
 have S:=S.setAt (.cells (eNd x)) 0 rfl
 simp at S
 generalize st.upd i5 _=st1 at S⊢
 have hs1:=S.was' (st0:=st) (by simp)
 have ht:=h.sub hs1
 have o1:=ht.top
 have o5:=S.get
 obtain⟨E,hE⟩: ∃E:Nat,r.every=E:=⟨r.every.toNat,by omega⟩
 obtain⟨H,hH⟩: ∃H,H=x.height:=⟨_,rfl⟩
 have ohH:=osegHgt x
 rw[←hH]at ohH hxh
 have tev:=tree_every r (.hsl sid 0 108 l.length) (.map (some mid))
 rw[hE]at tev
 have hw1:IntKind.i64.wrap ((H:Int)+1)=(H:Int)+1:=wrap64 (by omega) (by omega)
 simp[St.seg,o1,tev]
 have hnx:nextM r l i=if E=0∨(H+1) % E≠0 then x.hdr.bits else(nextN x.hdr.bits ((x.hdr.time.toNat:Int)-(nd l (anc l i (H+1-E))).hdr.time.toNat) (r.every*r.spacing) (limitN r)).getD 0:=by
  unfold nextM
  simp only[←hx,←hH,hE]
  have e1:((H:Int)+1).tmod (E:Int)=(((H+1) % E:Nat):Int):=by
   rw[Int.tmod_eq_emod_of_nonneg (by omega)];push_cast;rfl
  have e2:(max 0 ((H:Int)+1-E)).toNat=H+1-E:=by omega
  rw[e1,e2]
  have e3:((E:Int)=0∨(((H+1) % E:Nat):Int)≠0)↔(E=0∨(H+1) % E≠0):=by omega
  by_cases c:(E=0∨(H+1) % E≠0)
  ·rw[if_pos c,if_pos (e3.2 c)]
  ·rw[if_neg c,if_neg (fun h=>c (e3.1 h))]
 by_cases hE0:E=0
 ·have:nextM r l i=x.hdr.bits:=by rw[hnx,if_pos (.inl hE0)]
  rw[this]
  have hE0':((E:Int)==0)=true:=by simp[hE0]
  simp[hE0,o5,osegBits,St.seg,hs1]
 ·have hem:((H:Int)+1).tmod (E:Int)=(((H+1) % E:Nat):Int):=by
    rw[Int.tmod_eq_emod_of_nonneg (by omega)];push_cast;rfl
  obtain⟨M,hM⟩: ∃M,M=(H+1) % E:=⟨_,rfl⟩
  have hMl:M<E:=hM ▸Nat.mod_lt _ (by omega)
  rw[←hM]at hem hnx
  have hem2:IntKind.i64.wrap ((((H:Int)+1)) % (E:Int))=(M:Int):=by
   rw[←Int.tmod_eq_emod_of_nonneg (by omega),hem];exact wrap64 (by omega) (by omega)
  have hem3:IntKind.i64.wrap ((((H:Int)+1)).tmod (E:Int))=(M:Int):=by
   rw[hem];exact wrap64 (by omega) (by omega)
  have hEb:((E:Int)==0)=false:=by simp;omega
  simp[hEb,hE0,o5,ohH,osegBits,St.seg,hw1,o1,tev,hem2,hem3]
  by_cases hM0:M=0
  ·rw[if_neg (by omega)]at hnx
   rw[hnx]
   have htb:(((H:Int)+1).tmod (E:Int) != 0)=false:=by rw[hem,hM0];rfl
   have hl0:=w.ne
   have hmn1:foldV min2V (.int .i64 (i:Nat)) [.int .i64 ((l.length:Int)-1)]=some (.int .i64 (i:Nat)):=by
    simp only[foldV,min2V,if_true,Option.bind_some]
    congr 2
    split<;>omega
   have hmx1:foldV max2V (.int .i64 0) [.int .i64 (i:Nat)]=some (.int .i64 (i:Nat)):=by
    simp only[foldV,max2V,if_true,Option.bind_some]
    congr 2
    split<;>omega
   obtain⟨K,hK⟩: ∃K,K=H+1-E:=⟨_,rfl⟩
   rw[←hK]
   have hmx2:foldV max2V (.int .i64 0) [.int .i64 ((H:Int)+1-(E:Int))]=some (.int .i64 (K:Nat)):=by
    simp only[foldV,max2V,if_true,Option.bind_some]
    congr 2
    split<;>omega
   have hw2:IntKind.i64.wrap ((l.length:Int)-1)=(l.length:Int)-1:=wrap64 (by omega) (by omega)
   have hw3:IntKind.i64.wrap ((H:Int)+1-(E:Int))=(H:Int)+1-(E:Int):=wrap64 (by omega) (by omega)
   have hKh:K≤hgt l i:=by omega
   have hal:=w.anc_lt (i:=i) (h:=K) hi
   obtain⟨A,hA⟩: ∃A,A=anc l i K:=⟨_,rfl⟩
   have ea:ancI l i K=(A:Nat):=by
    have h1:¬l.length≤i:=by omega
    have h2:¬hgt l i<K:=by omega
    have h3:¬((i:Int)<0):=by omega
    have h4:¬((K:Int)<0):=by omega
    simp[ancI,h1,h2,h3,h4,hA]
   rw[←hA]at hal⊢
   have TR1:TreeR tid r l st1:=⟨sid,mid,spare,es,ht⟩
   have o2:=ht.rows
   simp[htb,St.seg,o1,o5,tree_seg74,tev,ohH,hw1,hw2,hw3,hmn1,hmx1,hmx2]
   refine⟨_,spec158 ok TR1 w i K,?_⟩
   rw[ea]
   have hall:=nd_all (spare:=spare) hal
   rw[←nd_at hal]at hall
   simp[o2,hal,hall,St.seg]
   intro i6 h6
   have S:=S.new h6 (.cells (eNd nd0))
   simp[storeS,eNd_len,hsp]
   have S:=S.setAt (.cells (eNd (nd l A))) 0 rfl
   simp at S
   generalize st1.upd i6 _=st2 at S⊢
   have ht:=h.sub (S.was' (st0:=st) (by simp))
   have o1:=ht.top
   simp[St.seg,o1,tree_limit]
   refine(spec135 okh st2 r.limit).mono ?_
   rintro v st2 ⟨rfl,rfl⟩
   obtain⟨hA1,hA2⟩:=tgtR_get r.limit
   rw[hA1]
   have hlim:(natU ((tgt r.limit).getD 0)).toNat=limitN r:=hA2
   obtain⟨T,hT⟩: ∃T,T=natU ((tgt r.limit).getD 0):=⟨_,rfl⟩
   rw[←hT]at hlim⊢
   have hspU: ∀x y:U,spliceV (eU x) 0 (eU y)=eU y:=fun _ _=>rfl
   simp
   intro i7 h7
   have S:=S.new h7 (.cells (eU 0#256))
   simp[storeS,nU,eU_len,hspU]
   have S:=S.setAt (.cells (eU T)) 0 rfl
   simp at S
   generalize st2.upd i7 _=st3 at S⊢
   have hs3:=S.was' (st0:=st) (by simp)
   have ht:=h.sub hs3
   have o1:=ht.top
   have o7:=S.get
   have o6:=S.mem (i:=i6) (o:=.cells (eNd (nd l A))) (by simp)
   have o5:=S.mem (i:=i5) (o:=.cells (eNd x)) (by simp)
   have tsp:=tree_spacing r (.hsl sid 0 108 l.length) (.map (some mid))
   obtain⟨SP,hSP⟩: ∃n:Nat,r.spacing=n:=⟨r.spacing.toNat,by omega⟩
   rw[hSP]at tsp
   have hm:E*SP≤1000*1048576:=Nat.mul_le_mul (by omega) (by omega)
   obtain⟨Q,hQ⟩: ∃n:Int,n=(E:Int)*(SP:Int):=⟨_,rfl⟩
   have hQb:0≤Q∧Q≤1000*1048576:=by
    have:Q=((E*SP:Nat):Int):=by rw[hQ];push_cast;rfl
    omega
   have hw4:IntKind.i64.wrap Q=Q:=wrap64 (by omega) (by omega)
   have hx1:=x.hdr.time.isLt
   have hx2:=(nd l A).hdr.time.isLt
   have hw5:IntKind.i64.wrap ((x.hdr.time.toNat:Int)-((nd l A).hdr.time.toNat:Int))=(x.hdr.time.toNat:Int)-((nd l A).hdr.time.toNat:Int):=wrap64 (by omega) (by omega)
   simp[St.seg,o1,o5,o6,o7,osegBits,osegTime,tev,tsp,segU,hw5,←hQ,hw4]
   refine(spec138 okh st3 x.hdr.bits _ Q T (by omega)).mono ?_
   rintro v st3 ⟨rfl,rfl⟩
   rw[hE,hSP,←hQ,hlim]
   unfold nextR
   cases nextN x.hdr.bits ((x.hdr.time.toNat:Int)-((nd l A).hdr.time.toNat:Int)) Q (limitN r)<;>simp[hs3]
  ·rw[if_pos (.inr hM0)]at hnx
   rw[hnx]
   have htb:(((H:Int)+1).tmod (E:Int) != 0)=true:=by rw[hem];simp;omega
   simp[htb,o5,osegBits,St.seg,hs1]
set_option maxHeartbeats 1000000 in
theorem spec168 (ok:OkIndex P F){st:St}{tid:Nat}{r:Rl}{l:List Nd}(h:TreeR tid r l st)(w:Wf l)(hl:l.length≤16384)(hr:checkM r=0)(x:Hdr)(p now:Int):ACalls P (F 168) [.ptr (some (tid,0)),.agg (eHdr x),.int .i64 p,.int .i64 now] st fun v st'=>v=.int .i64 (fitsM r l x p now)∧st'=st:=by
 have okh:=ok.toOkHead
 obtain⟨sid,mid,spare,es,h⟩:=h
 refine shows_call ok.mixed ok.h168 (by simp[k168]) ?_
 simp only[k168]
 simp
 intro i5 h5
 have S:=(Sep.start st).new h5 (.cells (eHdr x))
 generalize st.upd i5 _=st1 at S⊢
 have hs1:=S.was' (st0:=st) (by simp)
 have ht:=h.sub hs1
 have o1:=ht.top
 have o2:=ht.rows
 have o5:=S.get
 have TR1:TreeR tid r l st1:=⟨sid,mid,spare,es,ht⟩
 by_cases h1:p<0
 ·have e:fitsM r l x p now=100:=by simp[fitsM,h1]
  simp[h1,e,hs1]
 ·by_cases h2:(l.length:Int)≤p
  ·have e:fitsM r l x p now=100:=by simp[fitsM,h2]
   simp[h1,h2,e,hs1,St.seg,o1,tree_seg74]
  ·obtain⟨n,rfl⟩: ∃n:Nat,p=n:=⟨p.toNat,by omega⟩
   have hn:n<l.length:=by omega
   have h2':¬l.length≤n:=by omega
   simp[h1,h2',St.seg,o1,o5,tree_seg74,hsegAll,tree_limit]
   refine(spec142 okh st1 x r.limit).mono ?_
   rintro v st1 ⟨rfl,rfl⟩
   obtain⟨pv,hpv⟩: ∃pv,pv=provedN x r.limit:=⟨_,rfl⟩
   rw[←hpv]
   by_cases hp:pv=0
   ·subst hp
    simp[St.seg,o1,o2,tree_seg74,hn,nd_fail hn]
    cases hf:l[n].failed with
    | true=>
      have e:fitsM r l x n now=101:=by
       simp[fitsM,h1,h2',←hpv,nd_at hn,hf]
      simp[e,hs1]
    | false=>
      simp[St.seg,o5,hsegBits]
      refine⟨_,spec167 ok TR1 w hl hr hn,?_⟩
      simp
      by_cases hb:x.bits=nextM r l n
      ·have hbb:(x.bits != nextM r l n)=false:=by simp[hb]
       simp[hbb,St.seg,o5,hsegTime]
       refine⟨_,spec166 ok TR1 w hl n,?_⟩
       rw[clI_of hn]
       simp
       by_cases hm:x.time≤medianM l n
       ·have e:fitsM r l x n now=102:=by
          simp[fitsM,h1,h2',←hpv,nd_at hn,hf,hb,hm]
        simp[hm,e,hs1]
       ·have htl:=x.time.isLt
        have hw:IntKind.i64.wrap ((x.time.toNat:Int)-7200)=(x.time.toNat:Int)-7200:=wrap64 (by omega) (by omega)
        by_cases hnw:now< (x.time.toNat:Int)-7200
        ·have e:fitsM r l x n now=103:=by
           simp[fitsM,h1,h2',←hpv,nd_at hn,hf,hb,hm,hnw]
         simp[hm,St.seg,o5,hsegTime,hw,hnw,e,hs1]
        ·have e:fitsM r l x n now=0:=by
           simp[fitsM,h1,h2',←hpv,nd_at hn,hf,hb,hm,hnw]
         simp[hm,St.seg,o5,hsegTime,hw,hnw,e,hs1]
      ·have hbb:(x.bits != nextM r l n)=true:=by simp[hb]
       have e:fitsM r l x n now=30:=by
        simp[fitsM,h1,h2',←hpv,nd_at hn,hf,hb]
       simp[hbb,e,hs1]
   ·have e:fitsM r l x n now=pv:=by
      simp[fitsM,h1,h2',←hpv,hp]
    have hpb:(pv != 0)=true:=by simp[hp]
    simp[hpb,e,hs1]
end
theorem Wf.neNil {l:List Nd}(w:Wf l):l≠[]:=by
 have:=w.ne
 rintro rfl
 simp at this
def setF (f:Nat→Bool)(l:List Nd):List Nd:=l.mapIdx fun j x=>if f j then{x with failed:=true}else x
section
variable {f:Nat→Bool} {l:List Nd}
@[simp] theorem setF_length:(setF f l).length=l.length:=by simp[setF]
theorem setF_get {i:Nat}(hi:i<l.length):(setF f l)[i]'(by simpa using hi)=if f i then{l[i]with failed:=true}else l[i]:=by simp[setF]
theorem setF_get? (i:Nat):(setF f l)[i]? =(l[i]?).map fun x=>if f i then{x with failed:=true}else x:=by simp[setF]
theorem setF_hgt (i:Nat):hgt (setF f l) i=hgt l i:=by
 unfold hgt
 rw[setF_get?]
 cases l[i]? with
 | none=>rfl
 | some x=>simp only[Option.map_some,Option.getD_some];split<;>rfl
theorem setF_par (i:Nat):par (setF f l) i=par l i:=by
 unfold par
 rw[setF_get?]
 cases l[i]? with
 | none=>rfl
 | some x=>simp only[Option.map_some,Option.getD_some];split<;>rfl
theorem setF_upN (n i:Nat):upN (setF f l) n i=upN l n i:=by
 induction n generalizing i with
 | zero=>rfl
 | succ n ih=>rw[upN,upN,setF_par,ih]
theorem setF_anc (i h:Nat):anc (setF f l) i h=anc l i h:=by rw[anc,anc,setF_hgt,setF_upN]
theorem setF_ancI (i h:Int):ancI (setF f l) i h=ancI l i h:=by simp[ancI,setF_hgt,setF_anc]
theorem setF_onB (i t:Int):onB (setF f l) i t=onB l i t:=by simp[onB,setF_hgt,setF_ancI]
theorem setF_wf (w:Wf l):Wf (setF f l):=by
 refine⟨by simpa using w.ne,fun x hx=>?_,fun i x hi hx=>?_,fun i x hi hx=>?_⟩
 ·rw[setF_get?]at hx
  cases h:l[0]? with
  | none=>rw[h]at hx;cases hx
  | some y=>
    rw[h]at hx
    have:=w.zero y h
    simp at hx
    rw[←hx]
    split<;>exact this
 ·rw[setF_get?]at hx
  cases h:l[i]? with
  | none=>rw[h]at hx;cases hx
  | some y=>
    rw[h]at hx
    have:=w.succ i y hi h
    simp at hx
    rw[←hx,setF_hgt]
    split<;>exact this
 ·rw[setF_get?]at hx
  cases h:l[i]? with
  | none=>rw[h]at hx;cases hx
  | some y=>
    rw[h]at hx
    have:=w.skip i y hi h
    simp at hx
    rw[←hx,setF_anc]
    split<;>exact this
theorem setF_find (id:Id):findM (setF f l) id=findM l id:=by
 have: ∀(l:List Nd) (f:Nat→Bool),findM (setF f l) id=findM l id:=by
  intro l
  induction l with
  | nil=>intro f;rfl
  | cons x l ih=>
    intro f
    have e:setF f (x::l)=(if f 0 then{x with failed:=true}else x)::setF (fun j=>f (j+1)) l:=by simp[setF,List.mapIdx_cons]
    rw[e,findM,findM,ih]
    split
    ·rfl
    ·split<;>rfl
 exact this l f
theorem setF_set {f:Nat→Bool}{l:List Nd}{k:Nat}(hk:k<l.length){g:Nat→Bool}(hg: ∀j,g j=(f j||(j==k))):(setF f l).set k {(setF f l)[k]'(by simpa using hk)with failed:=true}=setF g l:=by
 apply List.ext_getElem?
 intro i
 rw[List.getElem?_set,setF_get?,setF_get?]
 by_cases e:k=i
 ·subst e
  simp only[if_true,setF_length,hk,setF_get hk,hg,List.getElem?_eq_getElem hk,Option.map_some,beq_self_eq_true,Bool.or_true]
  split<;>rfl
 ·have:(i==k)=false:=by simp;omega
  simp[e,hg,this]
theorem setF_none:setF (fun _=>false) l=l:=by
 apply List.ext_getElem?
 intro i
 rw[setF_get?]
 cases l[i]?<;>rfl
end
def failM (l:List Nd)(i:Int):List Nd×Nat:=
 if i<1∨(l.length:Int)≤i then(l,0)
 else(setF (fun k=>onB l i k) l,((List.range l.length).filter fun(k:Nat)=>onB l i k&&!(nd l k).failed).length)
def failTo (l:List Nd)(i:Int)(k:Nat):List Nd:=setF (fun j=>decide (j<k)&&onB l i j) l
def failN (l:List Nd)(i:Int)(k:Nat):Nat:=((List.range k).filter fun(k:Nat)=>onB l i k&&!(nd l k).failed).length
theorem onB_self {l:List Nd}{i:Nat}(hi:i<l.length):onB l i i=true:=by
 have h1:¬l.length≤i:=by omega
 have h3:¬((i:Int)<0):=by omega
 have h4:¬((hgt l i:Int)<0):=by omega
 simp[onB,hi,ancI,h1,h3,h4,anc_self]
theorem onB_nat {l:List Nd}{i k:Nat}(hi:i<l.length)(hk:k<l.length):onB l i k=decide (hgt l i≤hgt l k∧anc l k (hgt l i)=i):=by
 have h1:¬l.length≤k:=by omega
 have h3:¬((k:Int)<0):=by omega
 have h4:¬((hgt l i:Int)<0):=by omega
 by_cases h:hgt l i≤hgt l k
 ·have h2:¬hgt l k<hgt l i:=by omega
  simp[onB,hi,ancI,h1,h2,h3,h4,h]
  rw[Bool.eq_iff_iff];simp;omega
 ·have h2:hgt l k<hgt l i:=by omega
  have:¬((-1:Int)=i):=by omega
  simp[onB,hi,ancI,h1,h2,h3,h4,h,this]
theorem onB_lt {l:List Nd}(w:Wf l){i k:Nat}(hi:i<l.length)(hk:k<i):onB l i k=false:=by
 rw[onB_nat hi (by omega)]
 have:=w.anc_le (i:=k) (h:=hgt l i) (by omega)
 simp;omega
theorem onB_par {l:List Nd}(w:Wf l){i k:Nat}(hi:i<k)(hk:k<l.length)(h:onB l i k=true):(i:Int)≤l[k].parent:=by
 rw[onB_nat (by omega) hk]at h
 simp at h
 have hp:=w.succ k _ (by omega) (List.getElem?_eq_getElem hk)
 by_cases e:hgt l i<hgt l k
 ·have h2:=w.anc_par hk e
  have:=w.anc_le (i:=par l k) (h:=hgt l i) (by have:=w.par_lt (i:=k) (by omega) hk;omega)
  have e2:=par_at hk
  omega
 ·have:hgt l i=hgt l k:=by omega
  rw[this,anc_self]at h
  omega
theorem failTo_start {l:List Nd}(w:Wf l){n:Nat}(hn:n<l.length):failTo l n n=l:=by
 unfold failTo
 have:(fun j=>decide (j<n)&&onB l n (j:Nat))=fun _=>false:=by
  funext j
  by_cases h:j<n
  ·simp[h,onB_lt w hn h]
  ·simp[h]
 rw[this,setF_none]
theorem failTo_get {l:List Nd}{n:Int}{k:Nat}(hk:k<l.length):(failTo l n k)[k]'(by simpa[failTo]using hk)=l[k]:=by
 simp[failTo,setF_get hk]
theorem failTo_length (l:List Nd)(n:Int)(k:Nat):(failTo l n k).length=l.length:=by simp[failTo]
theorem failTo_on {l:List Nd}{n k:Nat}(hk:k<l.length)(h:onB l n k=true):(failTo l n k).set k {l[k]with failed:=true}=failTo l n (k+1):=by
 have:=setF_set (f:=fun j=>decide (j<k)&&onB l n (j:Nat)) hk (g:=fun j=>decide (j<k+1)&&onB l n (j:Nat)) (fun j=>by
  by_cases e:j=k
  ·subst e;simp[h]
  ·by_cases e2:j<k
   ·simp[e2,e,show j<k+1 by omega]
   ·simp[e2,e,show¬j<k+1 by omega])
 have e:=failTo_get (n:=(n:Int)) hk
 unfold failTo at e⊢
 rw[e]at this
 exact this
theorem failTo_off {l:List Nd}{n k:Nat}(hk:k<l.length)(h:onB l n k=false∨l[k].failed=true):failTo l n (k+1)=failTo l n k:=by
 apply List.ext_getElem?
 intro j
 unfold failTo
 rw[setF_get?,setF_get?]
 by_cases e:j=k
 ·subst e
  rw[List.getElem?_eq_getElem hk]
  rcases h with h | h
  ·simp[h]
  ·simp only[Option.map_some]
   have:{l[j]with failed:=true}=l[j]:=by
    cases hx:l[j];rw[hx]at h;simp at h;rw[h]
   rw[this]
   simp
 ·have:decide (j<k+1)=decide (j<k):=by
    rw[decide_eq_decide];omega
  rw[this]
theorem failN_start {l:List Nd}(w:Wf l){n:Nat}(hn:n<l.length):failN l n n=0:=by
 unfold failN
 rw[List.length_eq_zero_iff,List.filter_eq_nil_iff]
 intro k hk
 simp at hk
 simp[onB_lt w hn hk]
theorem failN_succ {l:List Nd}{n k:Nat}(hk:k<l.length):failN l n (k+1)=failN l n k+if onB l n k=true∧l[k].failed=false then 1 else 0:=by
 unfold failN
 rw[List.range_succ,List.filter_append,List.length_append]
 congr 1
 have e:=nd_at hk
 by_cases h1:onB l n k=true
 ·cases h2:l[k].failed<;>simp[h1,h2,e]
 ·simp[h1]
theorem failN_le (l:List Nd)(n:Int)(k:Nat):failN l n k≤k:=by
 unfold failN
 have:=List.length_filter_le (fun(k:Nat)=>onB l n k&&!(nd l k).failed) (List.range k)
 simpa using this
section
variable {P:Program} {F:Fn}
set_option maxHeartbeats 1000000 in
theorem spec169 (ok:OkIndex P F){g:St}{tid:Nat}{r:Rl}{l:List Nd}(T:TreeS tid r l g)(w:Wf l)(hl:l.length≤16384)(hr:checkM r=0)(x:Hdr)(now:Int):
  ACalls P (F 169) [.ptr (some (tid,0)),.agg (eHdr x),.int .i64 now] g fun v st'=>v=.tup [.int .i64 (addM r l x now).2.1,.int .i64 (addM r l x now).2.2]∧TreeS tid r (addM r l x now).1 st':=by
 have okh:=ok.toOkHead
 refine shows_call ok.mixed ok.h169 (by simp[k169]) ?_
 simp only[k169]
 simp
 intro i4 h4
 have S:=(Sep.one T).new h4 (.cells (eHdr x))
 generalize g.upd i4 _=st1 at S⊢
 have TR:=S.swap.treeR w.neNil
 obtain⟨sid,mid,spare,es,ht⟩:=id TR
 have o1:=ht.top
 have o4:=S.get
 have hfin: ∃s,St.sub s st1∧TreeS tid r l s:=by
  obtain⟨h',k1,k2⟩:=S.swap.part
  exact⟨h',k1,k2⟩
 have hlk:=fun k=>lookup_lk keyed_id (ev:=kInt) ht.by_ (.int .i64 0) k
 simp only[ht.look,kId]at hlk
 simp[St.seg,o1,o4,tree_seg75,hsegAll]
 refine⟨_,spec141 okh st1 x,?_⟩
 simp[hlk]
 cases hf:findM l (hId x)with
 | some i=>
   have e:addM r l x now=(l,(i:Int),5):=by simp[addM,hf]
   simp[e,kInt,hfin]
 | none=>
   simp[St.seg,o1,o4,tree_seg75,hsegPrev,hlk,kInt]
   cases hf2:findM l x.prev with
   | none=>
     have e:addM r l x now=(l,-1,100):=by simp[addM,hf,hf2]
     simp[e,hfin]
   | some p=>
     have hp:=findM_lt hf2
     simp[St.seg,o4,hsegAll]
     refine(spec168 ok TR w hl hr x p now).mono ?_
     rintro v st1 ⟨rfl,rfl⟩
     obtain⟨fv,hfv⟩: ∃fv,fv=fitsM r l x p now:=⟨_,rfl⟩
     rw[←hfv]
     by_cases hz:fv=0
     ·subst hz
      simp[St.seg,o1,tree_seg74]
      by_cases hfull:l.length=16384
      ·have e:addM r l x now=(l,-1,3):=by simp[addM,hf,hf2,←hfv,hfull]
       have hb:((l.length:Int)==16384)=true:=by simp[hfull]
       simp[hb,e,hfin]
      ·have e:addM r l x now=(l++[ndOf l x p],(l.length:Int),0):=by simp[addM,hf,hf2,←hfv,hfull]
       have hb:((l.length:Int)==16384)=false:=by simp;omega
       simp[hb,e,St.seg,o4,hsegAll]
       have hpi:(p:Int)=-1∨(0≤(p:Int)∧(p:Int)<l.length):=by omega
       have hpm:putM l x p=ndOf l x p:=by simp[putM];omega
       refine(Sep.call S.swap (fun h hh=>spec156 ok hh (fun _=>w) hl x p hpi)).mono ?_
       intro v st2 S2
       obtain⟨h',k1,rfl,k2⟩:=S2.part
       rw[hpm]at k2
       simp
       exact⟨h',k1,k2⟩
     ·have e:addM r l x now=(l,-1,fv):=by simp[addM,hf,hf2,←hfv,hz]
      have hb:(fv != 0)=true:=by simp[hz]
      simp[hb,e,hfin]
set_option maxHeartbeats 1000000 in
theorem spec170 (ok:OkIndex P F){g:St}{tid:Nat}{r:Rl}{l:List Nd}(T:TreeS tid r l g)(w:Wf l)(hl:l.length≤16384)(i:Int):
  ACalls P (F 170) [.ptr (some (tid,0)),.int .i64 i] g fun v st'=>v=.int .i64 ((failM l i).2:Nat)∧TreeS tid r (failM l i).1 st':=by
 refine shows_call ok.mixed ok.h170 (by simp[k170]) ?_
 simp only[k170]
 have TR:=T.toR w.neNil
 obtain⟨sid0,mid0,spare0,es0,ht⟩:=id TR
 have o1:=ht.top
 have hfin: ∃s,St.sub s g∧TreeS tid r l s:=⟨g,sub_self _,T⟩
 by_cases h1:i<1
 ·have e:failM l i=(l,0):=by simp[failM,h1]
  simp[h1,e,hfin]
 ·by_cases h2:(l.length:Int)≤i
  ·have e:failM l i=(l,0):=by simp[failM,h2]
   simp[h1,h2,St.seg,o1,tree_seg74,e,hfin]
  ·obtain⟨n,rfl⟩: ∃n:Nat,i=n:=⟨i.toNat,by omega⟩
   have hn:n<l.length:=by omega
   have h2':¬l.length≤n:=by omega
   have e:failM l n=(failTo l n l.length,failN l n l.length):=by
    unfold failM failTo failN
    rw[if_neg (by omega)]
    congr 1
    apply List.ext_getElem?
    intro k
    rw[setF_get?,setF_get?]
    cases h:l[k]? with
    | none=>rfl
    | some x=>
      have:=(List.getElem?_eq_some_iff.1 h).1
      simp[this]
   rw[e]
   simp[h1,h2',St.seg,o1,tree_seg74]
   clear ht o1 e hfin TR
   obtain⟨s,mid,es,S,hlk⟩:=T
   obtain⟨sid,spare,rfl,hsp1,S⟩:=S.slObj w.neNil
   refine vc_loopJ (fun c env' st'=>∃k:Nat,n≤k∧k≤l.length∧c=l.length-k∧env' 6=.int .i64 (k:Nat)∧env' 5=.int .i64 (failN l n k:Nat)∧Sep [pt sid (.cells (rowsOf eNd (failTo l n k)++spare)),pt tid (.cells (eRl r++[.hsl sid 0 108 l.length,.map (some mid)])),pt mid (.mp (encM kId kInt es))] st') (l.length-n)
    ⟨n,Nat.le_refl _,by omega,rfl,by simp,by simp[failN_start w hn],by rw[failTo_start w hn];exact S⟩ ?_
   clear S
   rintro J hJ c env' st2 hsame ⟨k,hnk,hkl,rfl,g6,g5,S⟩
   have g0:=hsame.get 0 rfl
   have g1:=hsame.get 1 rfl
   simp at g0 g1
   clear hsame
   have o1:=S.mem (i:=tid) (o:=.cells (eRl r++[.hsl sid 0 108 l.length,.map (some mid)])) (by simp)
   have o2:=S.get
   have hfl:=failTo_length l n k
   have hlk': ∀id,lk id es=(findM (failTo l n k) id).map fun(i:Nat)=>(i:Int):=fun id=>by rw[hlk];unfold failTo;rw[setF_find]
   have TR:TreeR tid r (failTo l n k) st2:=⟨sid,mid,spare,es,by rw[hfl];exact o1,o2,S.mem (i:=mid) (by simp),hsp1,hlk'⟩
   have wk:Wf (failTo l n k):=setF_wf w
   by_cases hlt:k<l.length
   ·have hkf:k< (failTo l n k).length:=by rw[hfl];exact hlt
    have ek:=failTo_get (n:=(n:Int)) hlt
    have s1:=nd_fail (spare:=spare) hkf
    have s2:=nd_par (spare:=spare) hkf
    rw[ek]at s1 s2
    have hsucc:=failN_succ (n:=n) hlt
    have hle:=failN_le l n k
    have hw6:IntKind.i64.wrap ((k:Int)+1)=(k:Int)+1:=wrap64 (by omega) (by omega)
    have hw5:IntKind.i64.wrap ((failN l n k:Int)+1)=(failN l n k:Int)+1:=wrap64 (by omega) (by omega)
    have hoff:(onB l n k=false∨l[k].failed=true)→J (l.length-(k+1))=J (l.length-(k+1))∧failTo l n (k+1)=failTo l n k∧failN l n (k+1)=failN l n k:=by
     intro h
     refine⟨rfl,failTo_off hlt h,?_⟩
     rw[hsucc]
     rcases h with h | h<;>simp[h]
    have honB: ∀t:Int,onB (failTo l n k) (n:Nat) t=onB l n t:=fun t=>setF_onB _ _
    have hrows:=rowsOf_length eNd_len (failTo l n k)
    have p1:=rowsOf_splice eNd_len (failTo l n k) spare hkf (o:=107) (vs:=[.bool true]) (by simp) (a:={l[k]with failed:=true}) (by rw[ek,spl_fail])
    have hst:storeS st2 1 (.ptr (some (sid,k*108+107))) (.bool true)=some (st2.upd sid (.cells (rowsOf eNd ((failTo l n k).set k {l[k]with failed:=true})++spare))):=by
     simp only[storeS,o2,cells_bool]
     rw[if_pos (by rw[List.length_append,hrows,hfl];simp;omega),p1]
    cases hf:l[k].failed with
    | true=>
      obtain⟨-,e1,e2⟩:=hoff (.inr hf)
      rw[hf]at s1
      simp[g0,g1,g6,hlt,St.seg,o1,o2,tree_seg74,s1,hw6]
      exact Round.mk (l.length-(k+1)) _ (by omega) (sub_self _) (hJ _ _ _ ⟨k+1,by omega,by omega,rfl,by simp,by simp[e2,g5],by rw[e1];exact S⟩)
    | false=>
      rw[hf]at s1
      have hon:onB l n k=true→Sep [pt sid (.cells (rowsOf eNd (failTo l n (k+1))++spare)),pt tid (.cells (eRl r++[.hsl sid 0 108 l.length,.map (some mid)])),pt mid (.mp (encM kId kInt es))] (st2.upd sid (.cells (rowsOf eNd ((failTo l n k).set k {l[k]with failed:=true})++spare)))∧failN l n (k+1)=failN l n k+1:=by
       intro h
       refine⟨?_,by rw[hsucc];simp[h,hf]⟩
       rw[←failTo_on hlt h]
       exact S.set _
      by_cases hkn:k=n
      ·obtain⟨S2,e2⟩:=hon (by rw[hkn];exact onB_self hn)
       have hb:((k:Int)==(n:Int))=true:=by simp[hkn]
       simp[g0,g1,g6,hlt,St.seg,o1,o2,tree_seg74,s1,hw6,hb,hst,g5,hw5]
       exact Round.mk (l.length-(k+1)) _ (by omega) (sub_self _) (hJ _ _ _ ⟨k+1,by omega,by omega,rfl,by simp,by simp[e2],S2⟩)
      ·have hb:((k:Int)==(n:Int))=false:=by simp;omega
       by_cases hpar:(n:Int)≤l[k].parent
       ·simp[g0,g1,g6,hlt,St.seg,o1,o2,tree_seg74,s1,s2,hw6,hb,hpar]
        refine(spec163 ok TR wk n k).mono ?_
        rintro v st2 ⟨rfl,rfl⟩
        rw[honB]
        cases hbn:onB l n k with
        | true=>
          obtain⟨S2,e2⟩:=hon hbn
          simp[hst,g5,g6,hw5,hw6]
          exact Round.mk (l.length-(k+1)) _ (by omega) (sub_self _) (hJ _ _ _ ⟨k+1,by omega,by omega,rfl,by simp,by simp[e2],S2⟩)
        | false=>
          obtain⟨-,e1,e2⟩:=hoff (.inl hbn)
          simp[g6,hw6]
          exact Round.mk (l.length-(k+1)) _ (by omega) (sub_self _) (hJ _ _ _ ⟨k+1,by omega,by omega,rfl,by simp,by simp[e2,g5],by rw[e1];exact S⟩)
       ·have hbn:onB l n k=false:=by
          cases h:onB l n k with
          | false=>rfl
          | true=>exact absurd (onB_par w (by omega) hlt h) hpar
        obtain⟨-,e1,e2⟩:=hoff (.inl hbn)
        simp[g0,g1,g6,hlt,St.seg,o1,o2,tree_seg74,s1,s2,hw6,hb,hpar]
        exact Round.mk (l.length-(k+1)) _ (by omega) (sub_self _) (hJ _ _ _ ⟨k+1,by omega,by omega,rfl,by simp,by simp[e2,g5],by rw[e1];exact S⟩)
   ·have hkl':k=l.length:=by omega
    subst hkl'
    simp[g0,g6,g5,St.seg,o1,tree_seg74]
    have hS:=Sep.ofObj S hsp1
    rw[hfl]at hS
    refine⟨_,sub_self _,_,mid,es,hS,hlk'⟩
end
theorem eRl_drop5 (r:Rl):(eRl r).drop 5=eHdr r.gen++[r.txs]:=rfl
theorem rseg (r:Rl){o n:Nat}{ys:List V}(h:((eRl r).drop o).take n=ys)(hl:o+n≤74):segOf (eRl r) o n=some ys:=by
 unfold segOf
 rw[if_pos (by rw[eRl_len];exact hl),h]
theorem rsegLimit (r:Rl):segOf (eRl r) 0 1=some [w32 r.limit]:=rseg r rfl (by omega)
theorem rsegEvery (r:Rl):segOf (eRl r) 1 1=some [.int .i64 r.every]:=rseg r rfl (by omega)
theorem rsegSpacing (r:Rl):segOf (eRl r) 2 1=some [.int .i64 r.spacing]:=rseg r rfl (by omega)
theorem rsegSubsidy (r:Rl):segOf (eRl r) 3 1=some [.int .i64 r.subsidy]:=rseg r rfl (by omega)
theorem rsegWork (r:Rl):segOf (eRl r) 4 1=some [.int .i64 r.work]:=rseg r rfl (by omega)
theorem rsegBits (r:Rl):segOf (eRl r) 71 1=some [w32 r.gen.bits]:=rseg r (by
 rw[show 71=5+66 from rfl,←List.drop_drop,eRl_drop5,List.drop_append_of_le_length (by rw[eHdr_len];omega),hdrop66];rfl) (by omega)
theorem rsegGen (r:Rl):segOf (eRl r) 5 68=some (eHdr r.gen):=rseg r (by
 rw[eRl_drop5,←eHdr_len r.gen,List.take_left]) (by omega)
theorem rsegAll (r:Rl):segOf (eRl r) 0 74=some (eRl r):=rseg r (by rw[List.drop_zero,←eRl_len r,List.take_length]) (by omega)
section
variable {P:Program} {F:Fn}
set_option maxHeartbeats 1000000 in
theorem spec154 (ok:OkIndex P F)(st:St)(r:Rl):ACalls P (F 154) [.agg (eRl r)] st fun v st'=>v=.int .i64 (checkM r)∧st'=st:=by
 have okh:=ok.toOkHead
 refine shows_call ok.mixed ok.h154 (by simp[k154]) ?_
 simp only[k154,eU_zero0]
 simp
 intro i1 h1
 have S:=(Sep.start st).new h1 (.cells (eRl r))
 generalize st.upd i1 _=st1 at S⊢
 have o1:=S.get
 simp[St.seg,o1,rsegLimit]
 refine(spec135 okh st1 r.limit).mono ?_
 rintro v st1 ⟨rfl,rfl⟩
 obtain⟨hA1,hA2⟩:=tgtR_get r.limit
 rw[hA1]
 have hspU: ∀x y:U,spliceV (eU x) 0 (eU y)=eU y:=fun _ _=>rfl
 simp
 intro i3 h3
 have S:=S.new h3 (.cells (eU 0#256))
 simp[storeS,nU,eU_len,hspU]
 have S:=S.setAt (.cells (eU (natU ((tgt r.limit).getD 0)))) 0 rfl
 simp at S
 generalize st1.upd i3 _=st2 at S⊢
 have o1:=S.mem (i:=i1) (o:=.cells (eRl r)) (by simp)
 have hs:=S.was' (st0:=st) (by simp)
 cases ht:tgt r.limit with
 | none=>
   have e:checkM r=30:=by simp[checkM,ht]
   simp[e,hs]
 | some T=>
   by_cases hb:r.gen.bits=r.limit
   ·have hbb:(r.gen.bits != r.limit)=false:=by simp[hb]
    by_cases c0:r.every<0
    ·have e:checkM r=1:=by simp[checkM,ht,hb,c0]
     simp[hbb,e,c0,St.seg,o1,rsegLimit,rsegEvery,rsegSpacing,rsegSubsidy,rsegWork,rsegBits,hs]
    by_cases c1:1000<r.every
    ·have e:checkM r=1:=by simp[checkM,ht,hb,c1]
     simp[hbb,e,c0,c1,St.seg,o1,rsegLimit,rsegEvery,rsegSpacing,rsegSubsidy,rsegWork,rsegBits,hs]
    by_cases c2:r.spacing<1
    ·have e:checkM r=1:=by simp[checkM,ht,hb,c2]
     simp[hbb,e,c0,c1,c2,St.seg,o1,rsegLimit,rsegEvery,rsegSpacing,rsegSubsidy,rsegWork,rsegBits,hs]
    by_cases c3:1048576<r.spacing
    ·have e:checkM r=1:=by simp[checkM,ht,hb,c3]
     simp[hbb,e,c0,c1,c2,c3,St.seg,o1,rsegLimit,rsegEvery,rsegSpacing,rsegSubsidy,rsegWork,rsegBits,hs]
    by_cases c4:r.subsidy<0
    ·have e:checkM r=1:=by simp[checkM,ht,hb,c4]
     simp[hbb,e,c0,c1,c2,c3,c4,St.seg,o1,rsegLimit,rsegEvery,rsegSpacing,rsegSubsidy,rsegWork,rsegBits,hs]
    by_cases c5:1125899906842624<r.subsidy
    ·have e:checkM r=1:=by simp[checkM,ht,hb,c5]
     simp[hbb,e,c0,c1,c2,c3,c4,c5,St.seg,o1,rsegLimit,rsegEvery,rsegSpacing,rsegSubsidy,rsegWork,rsegBits,hs]
    by_cases c6:r.work<0
    ·have e:checkM r=1:=by simp[checkM,ht,hb,c6]
     simp[hbb,e,c0,c1,c2,c3,c4,c5,c6,St.seg,o1,rsegLimit,rsegEvery,rsegSpacing,rsegSubsidy,rsegWork,rsegBits,hs]
    by_cases c7:1000<r.work
    ·have e:checkM r=1:=by simp[checkM,ht,hb,c7]
     simp[hbb,e,c0,c1,c2,c3,c4,c5,c6,c7,St.seg,o1,rsegLimit,rsegEvery,rsegSpacing,rsegSubsidy,rsegWork,rsegBits,hs]
    have e:checkM r=0:=by simp[checkM,ht,hb,c0,c1,c2,c3,c4,c5,c6,c7]
    simp[hbb,e,c0,c1,c2,c3,c4,c5,c6,c7,St.seg,o1,rsegLimit,rsegEvery,rsegSpacing,rsegSubsidy,rsegWork,rsegBits,hs]
   ·have hbb:(r.gen.bits != r.limit)=true:=by simp[hb]
    have e:checkM r=30:=by simp[checkM,hb]
    simp[hbb,e,St.seg,o1,rsegLimit,rsegBits,hs]
set_option maxHeartbeats 1000000 in
theorem spec155 (ok:OkIndex P F)(st:St)(r:Rl):ACalls P (F 155) [.agg (eRl r)] st fun v st'=>
  if checkM r=0 then∃tid,v=.tup [.ptr (some (tid,0)),.int .i64 0]∧Sep [TreeS tid r (newM r),Was st] st' else v=.tup [.ptr none,.int .i64 (checkM r)]∧st'=st:=by
 have okh:=ok.toOkHead
 refine shows_call ok.mixed ok.h155 (by simp[k155]) ?_
 simp only[k155]
 simp
 intro i1 h1
 have S:=(Sep.start st).new h1 (.cells (eRl r))
 generalize st.upd i1 _=st1 at S⊢
 have o1:=S.get
 have hs:=S.was' (st0:=st) (by simp)
 simp[St.seg,o1,rsegAll]
 refine(spec154 ok st1 r).mono ?_
 rintro v st1 ⟨rfl,rfl⟩
 by_cases hc:checkM r=0
 ·simp[hc,St.seg,o1,rsegAll]
  intro i12 h12
  have S:=S.new h12 (.mp [])
  generalize st1.upd i12 _=st2 at S⊢
  have hfl:fillV z76_2d2c [(0,74,.agg (eRl r)),(75,1,.map (some i12))]=some (eRl r++[.sl .nil [] 0,.map (some i12)]):=by
   have hz:z76_2d2c=z76_2d2c.take 74++[.sl .nil [] 0,.map none]:=rfl
   have hl:(z76_2d2c.take 74).length=74:=rfl
   have e1:spliceV z76_2d2c 0 (eRl r)=eRl r++[.sl .nil [] 0,.map none]:=by
    unfold spliceV
    rw[List.take_zero,List.nil_append,Nat.zero_add,eRl_len];rfl
   have e2:spliceV (eRl r++[.sl .nil [] 0,.map none]) 75 [.map (some i12)]=eRl r++[.sl .nil [] 0,.map (some i12)]:=by
    rw[show 75=74+1 from rfl,splice_right (eRl_len r)];rfl
   have hz2:z76_2d2c.length=76:=rfl
   simp[fillV,eRl_len,hz2,e1,e2]
  simp[hfl]
  intro i14 h14
  have S:=S.new h14 (.cells (eRl r++[.sl .nil [] 0,.map (some i12)]))
  generalize st2.upd i14 _=st3 at S⊢
  have o1:=S.mem (i:=i1) (o:=.cells (eRl r)) (by simp)
  have S:=Sep.slNil (sz:=108) (f:=eNd) S
  have S:Sep [All [Sl 108 eNd (.sl .nil [] 0) [],pt i14 (.cells (eRl r++[.sl .nil [] 0,.map (some i12)])),pt i12 (.mp [])],pt i1 (.cells (eRl r)),Was st] st3:=Sep.all (L1:=[_,_,_]) S
  have S:Sep [TreeS i14 r [],pt i1 (.cells (eRl r)),Was st] st3:=S.head fun h hh=>⟨_,i12,[],hh,fun k=>rfl⟩
  simp[St.seg,o1,rsegGen]
  refine(Sep.call S (fun h hh=>spec156 ok hh (fun h=>absurd rfl h) (by simp) r.gen (-1) (.inl rfl))).mono ?_
  intro v st4 S
  have S:=S.head (A':=TreeS i14 r (newM r)) fun h hh=>hh.2
  simp
  exact⟨_,sub_self _,Sep.tail (fun r hr=>hr.drop) S⟩
 ·have hcb:(checkM r != 0)=true:=by simp[hc]
  simp[hc,hcb,hs]
end
def rowP (sz:Nat)(s:V)(i:Nat):V:=(idxSlV sz s (.int .i64 (i:Int))).getD .junk
def fldP (o:Nat)(p:V):V:=(fldAV o p).getD .junk
section
variable {α:Type} {f:α→List V} {sz:Nat}
theorem Rd.row (hf: ∀a,(f a).length=sz){s:V}{l:List α}{st:St}(h:Rd sz f s l st){i:Nat}(hi:i<l.length):
  idxSlV sz s (.int .i64 (i:Int))=some (rowP sz s i)∧fldAV 0 (rowP sz s i)=some (rowP sz s i)∧ldCells st sz (rowP sz s i)=some (f l[i])∧
   ∀o n,o+n≤sz→fldAV o (rowP sz s i)=some (fldP o (rowP sz s i))∧ldCells st n (fldP o (rowP sz s i))=some (((f l[i]).drop o).take n):=by
 have hli:=hf l[i]
 rcases h with⟨k,rfl⟩ | ⟨sid,off,rfl,hs⟩
 ·have e:idxSlV sz (.sl k (rowsOf f l) l.length) (.int .i64 (i:Int))=some (.eptr ((rowsOf f l).drop (i*sz))):=by simp[hi]
  have er:rowP sz (.sl k (rowsOf f l) l.length) i=.eptr ((rowsOf f l).drop (i*sz)):=by rw[rowP,e];rfl
  have hd:(rowsOf f l).drop (i*sz)=f l[i]++rowsOf f (l.drop (i+1)):=by
   rw[rowsOf_drop hf,List.drop_eq_getElem_cons hi,rowsOf_cons]
  rw[er]
  refine⟨e,by simp,?_,fun o n hon=>⟨by simp[fldP],?_⟩⟩
  ·rw[ld_eptr,rowsOf_eptr hf l hi]
  ·simp only[fldP,fldAV,Option.getD_some,ld_eptr]
   unfold segOf
   rw[hd,if_pos (by simp;omega),List.drop_zero,List.drop_append_of_le_length (by omega),List.take_append_of_le_length (by simp;omega)]
 ·have e:idxSlV sz (.hsl sid off sz l.length) (.int .i64 (i:Int))=some (.ptr (some (sid,off+i*sz))):=by simp[hi]
  have er:rowP sz (.hsl sid off sz l.length) i=.ptr (some (sid,off+i*sz)):=by rw[rowP,e];rfl
  have hrow:st.seg sid (off+i*sz) sz=some (f l[i]):=by
   rw[seg_at hs hi]
   have:=rowsOf_row hf l [] hi
   rw[List.append_nil]at this
   rw[this]
  rw[er]
  refine⟨e,by simp,by rw[ld_ptr,hrow],fun o n hon=>⟨by simp[fldP],?_⟩⟩
  simp only[fldP,fldAV,Option.getD_some,ld_ptr]
  unfold St.seg at hrow⊢
  have key: ∀cs:List V,segOf cs (off+i*sz) sz=some (f l[i])→segOf cs (off+i*sz+o) n=some (((f l[i]).drop o).take n):=fun cs hc=>by
   unfold segOf at hc⊢
   split at hc
   ·rename_i hle
    have hx:=Option.some.inj hc
    rw[if_pos (by omega),←hx,List.drop_take,List.drop_drop,List.take_take,Nat.min_eq_left (by omega)]
   ·cases hc
  split at hrow<;>first | exact key _ hrow | cases hrow
end
abbrev Rw:=Nd×SK×List Bool
structure In1 where
 tx:Id
 ix:W32
 kk:SK
 key:List UInt8
structure Out1 where
 amt:Int
 lock:Id
structure Tx1 where
 ik:SK
 ins:List In1
 uk:SK
 outs:List Out1
def eIn (x:In1):List V:=eId x.tx++[w32 x.ix,keyV x.kk x.key]
def eOut (x:Out1):List V:=.int .i64 x.amt::eId x.lock
theorem eIn_len (x:In1):(eIn x).length=34:=by simp[eIn,eId_len]
theorem eOut_len (x:Out1):(eOut x).length=33:=by simp[eOut,eId_len]
def insV (t:Tx1):V:=.sl t.ik (rowsOf eIn t.ins) t.ins.length
def outsV (t:Tx1):V:=.sl t.uk (rowsOf eOut t.outs) t.outs.length
def eTx (t:Tx1):List V:=[insV t,outsV t]
theorem eTx_len (t:Tx1):(eTx t).length=2:=rfl
def inB (x:In1):List UInt8:=x.tx.toList++(putB 4 (x.ix.setWidth 64)++textB x.key)
def outB (x:Out1):List UInt8:=putB 8 (BitVec.ofInt 64 x.amt)++x.lock.toList
def txB (t:Tx1):List UInt8:=countB (BitVec.ofNat 64 t.ins.length)++(t.ins.flatMap inB++(countB (BitVec.ofNat 64 t.outs.length)++t.outs.flatMap outB))
def txIdM (t:Tx1):Id:=sha2 (txB t)
theorem rd_ins (t:Tx1)(st:St):Rd 34 eIn (insV t) t.ins st:=.inl ⟨t.ik,rfl⟩
theorem rd_outs (t:Tx1)(st:St):Rd 33 eOut (outsV t) t.outs st:=.inl ⟨t.uk,rfl⟩
theorem textB_len (l:List UInt8):(textB l).length≤l.length+9:=by
 have:=countB_len (BitVec.ofNat 64 l.length)
 rw[textB,List.length_append];omega
def Tx1.ok (t:Tx1)(n:Nat):Prop:=t.ins.length≤n∧t.outs.length≤n∧∀x∈t.ins,x.key.length≤1000
theorem fm_len {α β:Type}(f:α→List β)(n:Nat)(l:List α)(h: ∀x∈l,(f x).length≤n):(l.flatMap f).length≤l.length*n:=by
 induction l with
 | nil=>simp
 | cons a l ih=>
   have h1:=h a (by simp)
   have h2:=ih fun x hx=>h x (by simp[hx])
   rw[List.flatMap_cons,List.length_append,List.length_cons,Nat.add_mul]
   omega
theorem inB_len (x:In1)(h:x.key.length≤1000):(inB x).length≤1045:=by
 have:=textB_len x.key
 simp[inB,putB_len]
 omega
theorem outB_len (x:Out1):(outB x).length=40:=by simp[outB,putB_len]
theorem insegTx (x:In1):segOf (eIn x) 0 32=some (eId x.tx):=seg_of_drop (zs:=[w32 x.ix,keyV x.kk x.key]) rfl (eId_len _) (by omega)
theorem indrop (x:In1):(eIn x).drop 32=[w32 x.ix,keyV x.kk x.key]:=by rw[eIn,List.drop_left' (eId_len _)]
theorem insegKey (x:In1):segOf (eIn x) 33 1=some [keyV x.kk x.key]:=seg_of_drop (zs:=[]) (by rw[show 33=32+1 from rfl,←List.drop_drop,indrop];rfl) rfl (by omega)
theorem indrop33 (x:In1):(eIn x).drop 33=[keyV x.kk x.key]:=by rw[show 33=32+1 from rfl,←List.drop_drop,indrop];rfl
theorem idFill (x:Id):fillV (repV [V.sl SK.nil [] 0] 1) [(0,1,V.sl SK.full (List.take 32 (eId x)) 32)]=some [keyV .full x.toList]:=by
 have e:x.toList.length=32:=by simp
 rw[List.take_of_length_le (by rw[eId_len];omega),eId_rows,keyV,e]
 rfl
theorem ousegAmt (x:Out1):segOf (eOut x) 0 1=some [.int .i64 x.amt]:=by simp[segOf,eOut,eId_len]
section
variable {P:Program} {F:Fn}
theorem WrR.new {wid:Nat}{l:List UInt8}{L:List Asn}{st:St}(h:WrR wid l L st){i:Nat}(hi:st i=none)(o:AObj):WrR wid l (pt i o::L) (st.upd i o):=by
 obtain⟨s,S⟩:=h
 exact⟨s,(S.new hi o).swap.tail fun r h=>h.swap⟩
theorem WrR.mem {wid:Nat}{l:List UInt8}{L:List Asn}{st:St}(h:WrR wid l L st){i:Nat}{o:AObj}(hm:pt i o∈L):st i=some o:=by
 obtain⟨s,S⟩:=h
 exact S.mem (by simp[hm])
theorem WrR.setAt {wid:Nat}{l:List UInt8}{L:List Asn}{st:St}(h:WrR wid l L st){i:Nat}{o:AObj}(o':AObj)(n:Nat)(hn:L[n]? =some (pt i o)):WrR wid l (L.set n (pt i o')) (st.upd i o'):=by
 obtain⟨s,S⟩:=h
 exact⟨s,S.setAt o' (n+2) hn⟩
theorem WrR.tail {wid:Nat}{l:List UInt8}{L L':List Asn}{st:St}(h:WrR wid l L st)(hL: ∀r,Sep L r→Sep L' r):WrR wid l L' st:=by
 obtain⟨s,S⟩:=h
 exact⟨s,S.tail fun r h=>h.tail hL⟩
set_option maxHeartbeats 4000000 in
theorem spec201 (ok:OkTx P F){st:St}{wid:Nat}{l:List UInt8}{L:List Asn}(S:WrR wid l L st)(t:Tx1)(ht:t.ok 100)(hl:l.length≤400000):
  ACalls P (F 201) [.ptr (some (wid,0)),.agg (eTx t)] st fun v st'=>v=.tup []∧WrR wid (l++txB t) L st':=by
 refine shows_call ok.mixed ok.h201 (by simp[k201]) ?_
 simp only[k201]
 simp
 intro bid hb
 have S:=S.new hb (.cells (eTx t))
 generalize st.upd bid _=st1 at S⊢
 have o:=S.mem (i:=bid) (o:=.cells (eTx t)) (by simp)
 have hs0:segOf (eTx t) 0 1=some [insV t]:=rfl
 have hs1:segOf (eTx t) 1 1=some [outsV t]:=rfl
 have hn0:lenSlV (insV t)=some (.int .i64 t.ins.length):=rfl
 have hn1:lenSlV (outsV t)=some (.int .i64 t.outs.length):=rfl
 simp[St.seg,o,hs0,hn0]
 obtain⟨hti,hto,htk⟩:=ht
 have hc1:=countB_len (BitVec.ofNat 64 t.ins.length)
 have hc2:=countB_len (BitVec.ofNat 64 t.outs.length)
 refine(spec203 ok S (by omega) (BitVec.ofNat 64 t.ins.length)).mono ?_
 rintro v st2 ⟨rfl,S⟩
 have o:=S.mem (i:=bid) (o:=.cells (eTx t)) (by simp)
 simp[St.seg,o,hs0,hn0]
 have hfl: ∀i,((t.ins.take i).flatMap inB).length≤104500:=fun i=>by
  have:=fm_len inB 1045 (t.ins.take i) fun x hx=>inB_len x (htk x (List.mem_of_mem_take hx))
  rw[List.length_take]at this
  omega
 have hfo: ∀i,((t.outs.take i).flatMap outB).length≤4000:=fun i=>by
  have:=fm_len outB 40 (t.outs.take i) fun x hx=>by rw[outB_len];omega
  rw[List.length_take]at this
  omega
 refine vc_loopJ (fun c env' st'=>∃i,i≤t.ins.length∧c=t.ins.length-i∧env' 17=.int .i64 (i:Nat)∧WrR wid (l++countB (BitVec.ofNat 64 t.ins.length)++(t.ins.take i).flatMap inB) (pt bid (.cells (eTx t))::L) st') t.ins.length
  ⟨0,by omega,by omega,by simp,S.imp (by simp)⟩ ?_
 rintro J hJ c env' st3 hsame ⟨i,hi,rfl,h17,S⟩
 have g0:=(hsame.get 0 rfl).trans (by simp:_=V.ptr (some (wid,0)))
 have g3:=(hsame.get 3 rfl).trans (by simp:_=V.ptr (some (bid,0)))
 have g15:=(hsame.get 15 rfl).trans (by simp:_=insV t)
 have g16:=(hsame.get 16 rfl).trans (by simp:_=V.int .i64 (t.ins.length:Int))
 clear hsame
 by_cases hlt:i<t.ins.length
 ·have w1:IntKind.i64.wrap ((i:Int)+1)=(i:Int)+1:=wrap64 (by omega) (by omega)
  obtain⟨r1,r2,r3,r4⟩:=(rd_ins t st3).row eIn_len hlt
  obtain⟨A,hA⟩: ∃A,A=l++countB (BitVec.ofNat 64 t.ins.length)++(t.ins.take i).flatMap inB:=⟨_,rfl⟩
  have hAl:A.length≤505000:=by rw[hA,List.length_append,List.length_append];have:=hfl i;omega
  rw[←hA]at S
  obtain⟨x,hx⟩: ∃x,x=t.ins[i]:=⟨_,rfl⟩
  have hxk:=htk t.ins[i] (List.getElem_mem hlt)
  rw[←hx]at r3 hxk
  simp[g0,g3,g15,g16,h17,hlt,r1,r3]
  intro iid hiid
  have S:=S.new hiid (.cells z34_1838)
  have hst:storeS (st3.upd iid (.cells z34_1838)) 34 (.ptr (some (iid,0))) (.agg (eIn x))=some ((st3.upd iid (.cells z34_1838)).upd iid (.cells (spliceV z34_1838 0 (eIn x)))):=store_pt (by simp) rfl (eIn_len x) (by simp)
  rw[show spliceV z34_1838 0 (eIn x)=eIn x by simp[spliceV,eIn_len]]at hst
  have S:=S.setAt (.cells (eIn x)) 0 rfl
  simp[hst]
  simp at S
  generalize st3.upd iid (.cells (eIn x))=st4 at S⊢
  have o5:=S.mem (i:=iid) (o:=.cells (eIn x)) (by simp)
  have S:=S.setAt (.ro (eIn x)) 0 rfl
  simp[frzP,frzV,frzOb,o5]
  simp at S
  generalize st4.upd iid (.ro (eIn x))=st5 at S⊢
  have o5:=S.mem (i:=iid) (o:=.ro (eIn x)) (by simp)
  simp[slArrV,bounds,o5,insegTx,St.seg,g0]
  simp[idFill]
  have hxl:x.tx.toList.length=32:=by simp
  refine(spec204 ok S .full x.tx.toList (by omega)).mono ?_
  rintro v st6 ⟨rfl,S⟩
  have hsx:segOf [w32 x.ix,keyV x.kk x.key] 0 1=some [w32 x.ix]:=rfl
  have hsk:segOf [keyV x.kk x.key] 0 1=some [keyV x.kk x.key]:=rfl
  simp[g0,indrop,indrop33,hsx,hsk,w64_fill]
  refine(spec205 ok S (by rw[List.length_append];omega) 4 (by omega) (x.ix.setWidth 64)).mono ?_
  rintro v st7 ⟨rfl,S⟩
  simp[g0,indrop33,hsk]
  refine(spec206 ok S x.kk x.key (by rw[List.length_append,List.length_append,putB_len];omega)).mono ?_
  rintro v st8 ⟨rfl,S⟩
  simp[h17,w1]
  refine Round.mk (t.ins.length-(i+1)) _ (by omega) (sub_self _) (hJ _ _ _ ⟨i+1,by omega,rfl,by simp,?_⟩)
  refine WrR.imp (S.tail fun r h=>h.drop) ?_
  rw[List.take_succ_eq_append_getElem hlt,List.flatMap_append,List.flatMap_singleton,←hx,hA]
  simp[inB]
 ·have:i=t.ins.length:=by omega
  subst this
  have hni:¬((t.ins.length:Int)< (t.ins.length:Int)):=by omega
  rw[List.take_length]at S
  have hf1:=hfl t.ins.length
  rw[List.take_length]at hf1
  obtain⟨A,hA⟩: ∃A,A=l++countB (BitVec.ofNat 64 t.ins.length)++t.ins.flatMap inB:=⟨_,rfl⟩
  have hAl:A.length≤505000:=by rw[hA,List.length_append,List.length_append];omega
  rw[←hA]at S
  have o:=S.mem (i:=bid) (o:=.cells (eTx t)) (by simp)
  simp[g0,g3,g15,g16,h17,St.seg,o,hs1,hn1]
  refine(spec203 ok S (by omega) (BitVec.ofNat 64 t.outs.length)).mono ?_
  rintro v st4 ⟨rfl,S⟩
  have o:=S.mem (i:=bid) (o:=.cells (eTx t)) (by simp)
  simp[g3,St.seg,o,hs1,hn1]
  clear hJ J
  refine vc_loopJ (fun c env' st'=>∃i,i≤t.outs.length∧c=t.outs.length-i∧env' 48=.int .i64 (i:Nat)∧WrR wid (A++countB (BitVec.ofNat 64 t.outs.length)++(t.outs.take i).flatMap outB) (pt bid (.cells (eTx t))::L) st') t.outs.length
   ⟨0,by omega,by omega,by simp,S.imp (by simp)⟩ ?_
  rintro J hJ c env2 st5 hsame ⟨i,hi,rfl,h48,S⟩
  have q0:=(hsame.get 0 rfl).trans (by simp[g0]:_=V.ptr (some (wid,0)))
  have q46:=(hsame.get 46 rfl).trans (by simp:_=outsV t)
  have q47:=(hsame.get 47 rfl).trans (by simp:_=V.int .i64 (t.outs.length:Int))
  clear hsame
  by_cases hlt:i<t.outs.length
  ·have w1:IntKind.i64.wrap ((i:Int)+1)=(i:Int)+1:=wrap64 (by omega) (by omega)
   obtain⟨r1,r2,r3,r4⟩:=(rd_outs t st5).row eOut_len hlt
   obtain⟨x,hx⟩: ∃x,x=t.outs[i]:=⟨_,rfl⟩
   rw[←hx]at r3
   obtain⟨B,hB⟩: ∃B,B=A++countB (BitVec.ofNat 64 t.outs.length)++(t.outs.take i).flatMap outB:=⟨_,rfl⟩
   have hBl:B.length≤510000:=by rw[hB,List.length_append,List.length_append];have:=hfo i;omega
   rw[←hB]at S
   simp[q0,q46,q47,h48,hlt,r1,r3]
   intro iid hiid
   have S:=S.new hiid (.cells z33_0be4)
   have hst:storeS (st5.upd iid (.cells z33_0be4)) 33 (.ptr (some (iid,0))) (.agg (eOut x))=some ((st5.upd iid (.cells z33_0be4)).upd iid (.cells (spliceV z33_0be4 0 (eOut x)))):=store_pt (by simp) rfl (eOut_len x) (by simp)
   rw[show spliceV z33_0be4 0 (eOut x)=eOut x by simp[spliceV,eOut_len]]at hst
   have S:=S.setAt (.cells (eOut x)) 0 rfl
   simp[hst]
   simp at S
   generalize st5.upd iid (.cells (eOut x))=st6 at S⊢
   have o7:=S.mem (i:=iid) (o:=.cells (eOut x)) (by simp)
   simp[St.seg,o7,ousegAmt,w64_fill,q0]
   refine(spec205 ok S (by omega) 8 (by omega) (BitVec.ofInt 64 x.amt)).mono ?_
   rintro v st7 ⟨rfl,S⟩
   have o7:=S.mem (i:=iid) (o:=.cells (eOut x)) (by simp)
   have S:=S.setAt (.ro (eOut x)) 0 rfl
   simp[frzP,frzV,frzOb,o7]
   simp only[List.set_cons_zero]at S
   generalize st7.upd iid (.ro (eOut x))=st8 at S⊢
   have o7:=S.mem (i:=iid) (o:=.ro (eOut x)) (by simp)
   have hd1:(eOut x).tail=eId x.lock:=rfl
   have hsi:=segId0 x.lock
   simp[slArrV,bounds,o7,hd1,hsi,q0,idFill]
   have hxl:x.lock.toList.length=32:=by simp
   refine(spec204 ok S .full x.lock.toList (by rw[List.length_append,putB_len];omega)).mono ?_
   rintro v st9 ⟨rfl,S⟩
   simp[h48,w1]
   refine Round.mk (t.outs.length-(i+1)) _ (by omega) (sub_self _) (hJ _ _ _ ⟨i+1,by omega,rfl,by simp,?_⟩)
   refine WrR.imp (S.tail fun r h=>h.drop) ?_
   rw[List.take_succ_eq_append_getElem hlt,List.flatMap_append,List.flatMap_singleton,←hx,hB]
   simp[outB]
  ·have:i=t.outs.length:=by omega
   subst this
   simp[q0,q46,q47,h48]
   rw[List.take_length]at S
   exact⟨st5,sub_self _,WrR.imp (S.tail fun r h=>h.drop) (by rw[hA,txB];simp)⟩
end
theorem txB_len (t:Tx1)(h:t.ok 100):(txB t).length≤200000:=by
 have hc1:=countB_len (BitVec.ofNat 64 t.ins.length)
 have hc2:=countB_len (BitVec.ofNat 64 t.outs.length)
 have h1:=fm_len inB 1045 t.ins fun x hx=>inB_len x (h.2.2 x hx)
 have h2:=fm_len outB 40 t.outs fun x hx=>by rw[outB_len];omega
 have h3:=h.1
 have h4:=h.2.1
 rw[txB,List.length_append,List.length_append,List.length_append]
 omega
theorem partFill {s:V}(h:s.cells? =some [s]):fillV (repV [V.sl SK.nil [] 0] 1) [(0,1,s)]=some [s]:=by
 simp[fillV,h,spliceV,repV]
theorem idFill2 (a b:Id):fillV (repV [V.sl SK.nil [] 0] 2) [(0,1,V.sl SK.full (List.take 32 (eId a)) 32),(1,1,V.sl SK.full (List.take 32 (eId b)) 32)]=some [keyV .full a.toList,keyV .full b.toList]:=by
 have e1:a.toList.length=32:=by simp
 have e2:b.toList.length=32:=by simp
 rw[List.take_of_length_le (by rw[eId_len];omega),List.take_of_length_le (by rw[eId_len];omega),eId_rows,eId_rows,keyV,keyV,e1,e2]
 rfl
theorem Sep.ov {A:Asn}{L:List Asn}{st st':St}(h:Sep [A,Was st] st')(S:Sep L st):Sep (A::L) st':=by
 obtain⟨a,r,h1,h2,h3,h4⟩:=h
 exact⟨a,r,h1,h2,h3,S.sub (Sep.was h4)⟩
section
variable {P:Program} {F:Fn}
set_option maxHeartbeats 1000000 in
theorem spec200 (ok:OkTx P F)(st:St)(t:Tx1)(ht:t.ok 100):ACalls P (F 200) [.agg (eTx t)] st fun v st'=>Sep [Slx 1 e8 v (txB t),Was st] st':=by
 refine shows_call ok.mixed ok.h200 (by simp[k200]) ?_
 simp only[k200]
 simp
 intro bid hb
 have S:=(Sep.start st).new hb (.cells (eTx t))
 generalize st.upd bid _=st1 at S⊢
 simp
 intro wid hw
 have S:=S.slxNil (sz:=1) (f:=e8)
 have S:=S.new hw (.cells [.sl .nil [] 0])
 generalize st1.upd wid _=st2 at S⊢
 have o:=S.mem (i:=bid) (o:=.cells (eTx t)) (by simp)
 have hsg:segOf (eTx t) 0 2=some (eTx t):=rfl
 simp[St.seg,o,hsg]
 refine(spec201 ok ⟨_,S⟩ t ht (by simp)).mono ?_
 rintro v st3 ⟨rfl,S⟩
 simp
 have hl:=txB_len t ht
 refine(spec202 ok S (by simp;omega)).mono ?_
 rintro v st4 ⟨s,S⟩
 simp
 refine⟨st4,sub_self _,?_⟩
 simp at S
 exact S.tail fun r h=>h.drop.drop.drop
set_option maxHeartbeats 1000000 in
theorem spec198 (ok:OkTx P F)(st:St)(t:Tx1)(ht:t.ok 100):ACalls P (F 198) [.agg (eTx t)] st fun v st'=>v=.agg (eId (txIdM t))∧st'=st:=by
 refine shows_call ok.mixed ok.h198 (by simp[k198]) ?_
 simp only[k198]
 simp
 intro bid hb
 have S:=(Sep.start st).new hb (.cells (eTx t))
 generalize st.upd bid _=st1 at S⊢
 simp
 intro rid hr
 have S:=S.new hr (.cells zR32_w80)
 generalize st1.upd rid _=st2 at S⊢
 have o:=S.mem (i:=bid) (o:=.cells (eTx t)) (by simp)
 have hsg:segOf (eTx t) 0 2=some (eTx t):=rfl
 simp[St.seg,o,hsg]
 refine(spec200 ok st2 t ht).mono ?_
 rintro v st3 S1
 have S:=S1.ov S
 have hf:=partFill S.cells
 simp[hf]
 have hp:Parts st3 [v] [txB t]:=.cons (Sep.rd e8_len (S.head fun h hh=>hh.sl)) .nil
 have hl:=txB_len t ht
 refine(spec104 ok.toOkHead.toOkHash st3 hp .full (by simp;omega) (by simp)).mono ?_
 rintro v st4 ⟨rfl,rfl⟩
 have S:=S.drop
 have hst:=store_z32 S.get (txIdM t)
 have e:sha2 [txB t].flatten=txIdM t:=by simp[txIdM]
 rw[e]
 have S:=S.set (.cells (eId (txIdM t)))
 have hsg:=segId0 (txIdM t)
 simp[hst,St.seg,hsg]
 exact S.was' (by simp)
set_option maxHeartbeats 1000000 in
theorem spec207 (ok:OkTx P F)(st:St)(a b:Id):ACalls P (F 207) [.agg (eId a),.agg (eId b)] st fun v st'=>v=.agg (eId (sha2 (a.toList++b.toList)))∧st'=st:=by
 refine shows_call ok.mixed ok.h207 (by simp[k207]) ?_
 simp only[k207]
 simp
 intro i2 h2
 have S:=(Sep.start st).new h2 (.cells (eId a))
 generalize st.upd i2 _=st1 at S⊢
 simp
 intro i3 h3
 have S:=S.new h3 (.cells (eId b))
 generalize st1.upd i3 _=st2 at S⊢
 simp
 intro i4 h4
 have S:=S.new h4 (.cells zR32_w80)
 generalize st2.upd i4 _=st3 at S⊢
 have o2:=S.mem (i:=i2) (o:=.cells (eId a)) (by simp)
 have o3:=S.mem (i:=i3) (o:=.cells (eId b)) (by simp)
 have n32:=S.neq 1 2 rfl rfl (by omega)
 have S:=S.setAt (.ro (eId a)) 2 rfl
 have S:=S.setAt (.ro (eId b)) 1 rfl
 simp[frzP,frzV,frzOb,o2,o3,n32]
 simp only[List.set_cons_succ,List.set_cons_zero]at S
 generalize(st3.upd i2 (.ro (eId a))).upd i3 (.ro (eId b))=st5 at S⊢
 have ha:(eId a).length=32:=eId_len a
 have hb:(eId b).length=32:=eId_len b
 have hsa:=segId0 a
 have hsb:=segId0 b
 simp[slArrV,bounds,hsa,hsb]
 simp[idFill2]
 have hp:Parts st5 [keyV .full a.toList,keyV .full b.toList] [a.toList,b.toList]:=.cons (.inl ⟨.full,rfl⟩) (.cons (.inl ⟨.full,rfl⟩) .nil)
 refine(spec104 ok.toOkHead.toOkHash st5 hp .full (by simp) (by simp)).mono ?_
 rintro v st6 ⟨rfl,rfl⟩
 have e:[a.toList,b.toList].flatten=a.toList++b.toList:=by simp
 rw[e]
 obtain⟨x,hx⟩: ∃x,x=sha2 (a.toList++b.toList):=⟨_,rfl⟩
 rw[←hx]
 have hst:=store_z32 S.get x
 have S:=S.set (.cells (eId x))
 have hsg:=segId0 x
 simp[hst,St.seg,hsg]
 exact S.was' (by simp)
end
def pairM (a b:Id):Id:=sha2 (a.toList++b.toList)
def upM:List Id→List Id
 | a::b::r=>pairM a b::upM r
 | [a]=>[pairM a a]
 | []=>[]
def twinM:List Id→Bool
 | a::b::r=>decide (a=b)||twinM r
 | _=>false
theorem upM_len (l:List Id):(upM l).length=(l.length+1) / 2:=by
 fun_induction upM l with
 | case1 a b r ih=>simp[ih];omega
 | case2 a=>simp
 | case3=>simp
def rootF:Nat→List Id→Bool→Id×Bool
 | 0,l,tw=>(l.headD id0,tw)
 | n+1,l,tw=>if l.length≤1 then(l.headD id0,tw)else rootF n (upM l) (tw||twinM l)
theorem rootF_done (n:Nat)(l:List Id)(tw:Bool)(h:l.length≤1):rootF n l tw=(l.headD id0,tw):=by
 cases n with
 | zero=>rfl
 | succ n=>rw[rootF,if_pos h]
theorem rootF_more: ∀(n m:Nat) (l:List Id) (tw:Bool),l.length≤n+1→l.length≤m+1→rootF n l tw=rootF m l tw
 | 0,m,l,tw,h,_=>by rw[rootF_done _ _ _ (by omega),rootF_done _ _ _ (by omega)]
 | n+1,0,l,tw,_,h=>by rw[rootF_done _ _ _ (by omega),rootF_done _ _ _ (by omega)]
 | n+1,m+1,l,tw,h1,h2=>by
   rw[rootF,rootF]
   split
   ·rfl
   ·have:=upM_len l
    exact rootF_more n m _ _ (by omega) (by omega)
def rootM (l:List Id):Id×Bool:=rootF l.length l false
theorem rootF_step {n:Nat}{l:List Id}{tw:Bool}(h:1<l.length)(hn:l.length≤n+1):rootF n l tw=rootF n (upM l) (tw||twinM l):=by
 cases n with
 | zero=>omega
 | succ n=>
   have:=upM_len l
   rw[rootF,if_neg (by omega)]
   exact rootF_more _ _ _ _ (by omega) (by omega)
theorem splIdT (x:Id):spliceV zR32_w80 0 (eId x)=eId x:=by
 unfold spliceV
 rw[List.take_zero,List.nil_append,Nat.zero_add,eId_len,←zR32_w80_len,List.drop_length,List.append_nil]
theorem fillIdT (x:Id):fillV (repV zR32_w80 1) [(0,32,.agg (eId x))]=some (eId x):=by
 have h0:repV zR32_w80 1=zR32_w80:=by simp[repV]
 rw[h0]
 have hc:(V.agg (eId x)).cells? =some (eId x):=rfl
 simp only[fillV,hc]
 rw[if_pos ⟨eId_len x,by rw[zR32_w80_len];omega⟩,splIdT]
theorem fillNoT:fillV zR32_w80 []=some (eId id0):=rfl
section
variable {P:Program} {F:Fn}
set_option maxHeartbeats 4000000 in
theorem spec199 (ok:OkTx P F)(st:St){s:V}{l:List Id}(hr:Rd 32 eId s l st)(hl:l.length≤1000):ACalls P (F 199) [s] st fun v st'=>v=.tup [.agg (eId (rootM l).1),.bool (rootM l).2]∧st'=st:=by
 refine shows_call ok.mixed ok.h199 (by simp[k199]) ?_
 simp only[k199]
 have hlen:=hr.len
 simp
 intro rid hrid
 have S:=(Sep.start st).new hrid (.cells zR32_w80)
 generalize st.upd rid _=st1 at S⊢
 by_cases h0:l.length=0
 ·have hl0:l=[]:=List.length_eq_zero_iff.1 h0
  subst hl0
  simp[hlen,fillNoT]
  have hst:=store_z32 S.get id0
  have S:=S.set (.cells (eId id0))
  have hsg:=segId0 id0
  simp[hst,St.seg,hsg]
  exact⟨S.was' (by simp),rfl,rfl⟩
 ·have h0':((l.length:Int)==0)=false:=by rw[beq_eq_false_iff_ne];omega
  simp[hlen,h0']
  have hel:=(hr.sub (S.was' (st0:=st) (by simp))).elems eId_len
  have hf0:fillV (repV zR32_w80 0) []=some []:=rfl
  simp[hf0,hel]
  refine Sep.appx' (b:=32) eId_len (by omega) S.slxFull l rfl rfl (by simp;omega) ?_
  intro s1 st2 S
  rw[List.nil_append]at S
  simp
  refine vc_loopJ (fun c env' st'=>∃s5 row tw,c=row.length∧row≠[]∧row.length≤1000∧env' 5=s5∧env' 4=.bool tw∧rootF row.length row tw=rootM l∧Sep [Slx 32 eId s5 row,pt rid (.cells zR32_w80),Was st] st') l.length
   ⟨s1,l,false,rfl,fun e=>h0 (by rw[e];rfl),hl,by simp,by simp,rfl,S⟩ ?_
  rintro J hJ c env' st3 hsame ⟨s5,row,tw,rfl,hne,hrl,h5,h4,hrt,S⟩
  have g2:=(hsame.get 2 rfl).trans (by simp:_=V.ptr (some (rid,0)))
  clear hsame
  have rd5:=Sep.rd eId_len (S.head fun h hh=>hh.sl)
  have hln:=rd5.len
  by_cases h1:1<row.length
  ·have h1':(1:Int)<row.length:=by omega
   simp[h5,hln,h1']
   have hul:=upM_len row
   refine vc_loopJ (fun c env2 st'=>∃i s6 up tw',i≤row.length∧c=row.length-i∧env2 7=.int .i64 (i:Nat)∧env2 6=s6∧env2 4=.bool tw'∧up++upM (row.drop i)=upM row∧up.length≤1000∧(tw'||twinM (row.drop i))=(tw||twinM row)∧Sep [Slx 32 eId s6 up,Slx 32 eId s5 row,pt rid (.cells zR32_w80),Was st] st') row.length
    ⟨0,_,[],tw,by omega,by omega,by simp,by simp,by simp[h4],by simp,by simp,by simp,S.slxNil⟩ ?_
   clear S
   rintro J2 hJ2 c env2 st4 hsame ⟨i,s6,up,tw',hi,rfl,h7,h6,h4',hup,hupl,htw,S⟩
   have q2:=(hsame.get 2 rfl).trans (by simp[g2]:_=V.ptr (some (rid,0)))
   have q5:=(hsame.get 5 rfl).trans (by simp[h5]:_=s5)
   clear hsame
   have rd5:=Sep.rd eId_len (S.drop.head fun h hh=>hh.sl)
   have w1:IntKind.i64.wrap ((i:Int)+1)=(i:Int)+1:=wrap64 (by omega) (by omega)
   have w2:IntKind.i64.wrap ((i:Int)+2)=(i:Int)+2:=wrap64 (by omega) (by omega)
   by_cases hlt:i<row.length
   ·obtain⟨r1,r2,r3,r4⟩:=rd5.row eId_len hlt
    have hpa: ∀x y:Id,sha2 (x.toList++y.toList)=pairM x y:=fun _ _=>rfl
    by_cases hlast:i+1=row.length
    ·have hd:row.drop i=[row[i]]:=by rw[List.drop_eq_getElem_cons hlt,hlast,List.drop_length]
     rw[hd]at hup htw
     have he:((i:Int)+1==(row.length:Int))=true:=by rw[beq_iff_eq];omega
     simp[h7,q5,hln,hlt,w1,he,h6,r1,r3]
     refine(spec207 ok st4 row[i] row[i]).mono ?_
     rintro v st4 ⟨rfl,rfl⟩
     rw[hpa]
     have hel1:elems st4 32 (.sl .full (eId (pairM row[i] row[i])) 1)=some (rowsOf eId [pairM row[i] row[i]],1):=by simp[elems,eId_len]
     simp[fillIdT,hel1]
     refine Sep.appx' (b:=32) eId_len (by omega) S [pairM row[i] row[i]] (by simp) rfl (by rw[List.length_singleton];omega) ?_
     intro s7 st5 S
     simp
     have e:up++[pairM row[i] row[i]]=upM row:=by rw[←hup];rfl
     have et:tw'=(tw||twinM row):=by rw[←htw];simp[twinM]
     rw[e]at S
     refine Round.mk (upM row).length _ (by omega) (sub_self _) (hJ _ _ _ ⟨s7,upM row,tw',rfl,fun e=>by rw[e]at hul;simp at hul;omega,by omega,by simp,by simp[h4'],?_,S.tail fun r h=>h.drop⟩)
     rw[←hrt,et,rootF_step h1 (by omega)]
     exact rootF_more _ _ _ _ (by omega) (by omega)
    ·have hlt2:i+1<row.length:=by omega
     have hd:row.drop i=row[i]::row[i+1]::row.drop (i+2):=by rw[List.drop_eq_getElem_cons hlt,List.drop_eq_getElem_cons hlt2]
     rw[hd]at hup htw
     obtain⟨p1,p2,p3,p4⟩:=rd5.row eId_len hlt2
     rw[Int.natCast_add,Int.natCast_one]at p1
     have he:((i:Int)+1==(row.length:Int))=false:=by rw[beq_eq_false_iff_ne];omega
     have htw2:((tw'||decide (row[i]=row[i+1]))||twinM (row.drop (i+2)))=(tw||twinM row):=by
      rw[←htw,twinM,Bool.or_assoc]
     have hup2:(up++[pairM row[i] row[i+1]])++upM (row.drop (i+2))=upM row:=by rw[←hup,List.append_assoc];rfl
     have hul2:(up++[pairM row[i] row[i+1]]).length≤1000:=by
      have:=congrArg List.length hup2
      rw[List.length_append]at this
      omega
     have hel1:elems st4 32 (.sl .full (eId (pairM row[i] row[i+1])) 1)=some (rowsOf eId [pairM row[i] row[i+1]],1):=by simp[elems,eId_len]
     have hq:eqK (.agg 32) (.agg (eId row[i])) (.agg (eId row[i+1]))=some (decide (row[i]=row[i+1])):=by simp[eqK,eId_len,eqL_id]
     cases tw' with
     | true=>
       simp[h7,q5,hln,hlt,w1,he,h6,h4',r1,r3,p1,p3]
       refine(spec207 ok st4 row[i] row[i+1]).mono ?_
       rintro v st4 ⟨rfl,rfl⟩
       rw[hpa]
       simp[fillIdT,hel1]
       refine Sep.appx' (b:=32) eId_len (by omega) S [pairM row[i] row[i+1]] (by simp) rfl (by rw[List.length_singleton];omega) ?_
       intro s7 st5 S
       simp[h7,w2]
       exact Round.mk (row.length-(i+2)) _ (by omega) (sub_self _) (hJ2 _ _ _ ⟨i+2,s7,_,true,by omega,rfl,by simp,by simp,by simp[h4'],hup2,hul2,by simpa using htw2,S⟩)
     | false=>
       simp[h7,q5,hln,hlt,w1,he,h6,h4',r1,r3,p1,p3,hq]
       refine(spec207 ok st4 row[i] row[i+1]).mono ?_
       rintro v st4 ⟨rfl,rfl⟩
       rw[hpa]
       simp[fillIdT,hel1]
       refine Sep.appx' (b:=32) eId_len (by omega) S [pairM row[i] row[i+1]] (by simp) rfl (by rw[List.length_singleton];omega) ?_
       intro s7 st5 S
       simp[h7,w2]
       exact Round.mk (row.length-(i+2)) _ (by omega) (sub_self _) (hJ2 _ _ _ ⟨i+2,s7,_,decide (row[i]=row[i+1]),by omega,rfl,by simp,by simp,by simp,hup2,hul2,by simpa using htw2,S⟩)
   ·have:i=row.length:=by omega
    subst this
    rw[List.drop_length]at hup htw
    have e:up=upM row:=by rw[←hup];simp[upM]
    have et:tw'=(tw||twinM row):=by rw[←htw];simp[twinM]
    simp[h7,q5,hln,h6]
    rw[e]at S
    refine Round.mk (upM row).length _ (by omega) (sub_self _) (hJ _ _ _ ⟨s6,upM row,tw',rfl,fun e=>by rw[e]at hul;simp at hul;omega,by omega,by simp[h6],by simp[h4'],?_,S.tail fun r h=>h.drop⟩)
    rw[←hrt,et,rootF_step h1 (by omega)]
    exact rootF_more _ _ _ _ (by omega) (by omega)
  ·have h1':¬(1:Int)<row.length:=by omega
   have h0l:0<row.length:=List.length_pos_iff.2 hne
   obtain⟨r1,r2,r3,r4⟩:=rd5.row eId_len h0l
   have r1':idxSlV 32 s5 (.int .i64 0)=some (rowP 32 s5 0):=r1
   simp[h5,hln,h1',h4,g2,r1',r3]
   have hrm:rootM l=(row[0],tw):=by
    rw[←hrt,rootF_done _ _ _ (by omega)]
    congr 1
    cases row with
    | nil=>exact absurd rfl hne
    | cons a r=>rfl
   obtain⟨x,hx⟩: ∃x,x=row[0]:=⟨_,rfl⟩
   rw[hrm,←hx]
   have S:=S.drop
   have hst:=store_z32 S.get x
   have S:=S.set (.cells (eId x))
   have hsg:=segId0 x
   simp[hst,St.seg,hsg,g2]
   exact S.was' (st0:=st) (by simp)
theorem spec197 (ok:OkTx P F)(st:St):ACalls P (F 197) [] st fun v st'=>v=.agg (eId id0++[w32 4294967295#32])∧st'=st:=by
 refine shows_call ok.mixed ok.h197 (by simp[k197]) ?_
 simp only[k197]
 simp
 intro rid hrid
 have S:=(Sep.start st).new hrid (.cells z33_1371)
 generalize st.upd rid _=st1 at S⊢
 have hf:fillV z33_1371 [(32,1,w32 4294967295#32)]=some (eId id0++[w32 4294967295#32]):=rfl
 obtain⟨c,hc⟩: ∃c,c=eId id0++[w32 4294967295#32]:=⟨_,rfl⟩
 have hl:c.length=33:=by rw[hc,List.length_append,eId_len];rfl
 rw[←hc]at hf⊢
 have hst:=store_pt (sz:=33) (o:=0) S.get (v:=.agg c) (vs:=c) rfl hl (by simp)
 rw[show spliceV z33_1371 0 c=c by simp[spliceV,hl]]at hst
 have S:=S.set (.cells c)
 have hsg:segOf c 0 33=some c:=by simp[segOf,hl,List.take_of_length_le]
 simp[hf,hst,St.seg,hsg]
 exact S.was' (by simp)
end
section
variable {P:Program} {F:Fn}
def rowsIds (l:List Tx1):List Id:=l.map txIdM
set_option maxHeartbeats 4000000 in
theorem spec192 (ok:OkTx P F)(st:St){s:V}{l:List Tx1}(hr:Rd 2 eTx s l st)(hl:l.length≤1000)(ht: ∀t∈l,t.ok 100):ACalls P (F 192) [s] st fun v st'=>v=.tup [.agg (eId (rootM (rowsIds l)).1),.bool (rootM (rowsIds l)).2]∧st'=st:=by
 refine shows_call ok.mixed ok.h192 (by simp[k192]) ?_
 simp only[k192]
 have hlen:=hr.len
 simp
 intro rid hrid
 have S:=(Sep.start st).new hrid (.cells zR32_w80)
 generalize st.upd rid _=st1 at S⊢
 simp[hlen]
 refine vc_loopJ (fun c env' st'=>∃i s4,i≤l.length∧c=l.length-i∧env' 9=.int .i64 (i:Nat)∧env' 4=s4∧Sep [Slx 32 eId s4 (rowsIds (l.take i)),pt rid (.cells zR32_w80),Was st] st') l.length
  ⟨0,_,by omega,by omega,by simp,by simp,S.slxNil⟩ ?_
 rintro J hJ c env' st2 hsame ⟨i,s4,hi,rfl,h9,h4,S⟩
 have g2:=(hsame.get 2 rfl).trans (by simp:_=V.ptr (some (rid,0)))
 have g7:=(hsame.get 7 rfl).trans (by simp:_=s)
 have g8:=(hsame.get 8 rfl).trans (by simp:_=V.int .i64 (l.length:Int))
 clear hsame
 by_cases hlt:i<l.length
 ·have w1:IntKind.i64.wrap ((i:Int)+1)=(i:Int)+1:=wrap64 (by omega) (by omega)
  obtain⟨r1,r2,r3,r4⟩:=(hr.sub (S.was' (st0:=st) (by simp))).row eTx_len hlt
  have htx:=ht l[i] (List.getElem_mem hlt)
  have hmp:rowsIds (l.take (i+1))=rowsIds (l.take i)++[txIdM l[i]]:=by rw[rowsIds,List.take_succ_eq_append_getElem hlt,List.map_append];rfl
  have hml:(rowsIds (l.take i)).length=i:=by rw[rowsIds,List.length_map,List.length_take];omega
  obtain⟨x,hx⟩: ∃x,x=l[i]:=⟨_,rfl⟩
  rw[←hx]at r3 htx hmp
  simp[g7,g8,h9,hlt,r1,r3]
  intro iid hiid
  have S:=S.new hiid (.cells [.sl .nil [] 0,.sl .nil [] 0])
  have hst:=store_pt (id:=iid) (o:=0) (sz:=2) (v:=.agg (eTx x)) (vs:=eTx x) (S.mem (i:=iid) (o:=.cells [.sl .nil [] 0,.sl .nil [] 0]) (by simp)) rfl rfl (by simp)
  rw[show spliceV [V.sl .nil [] 0,V.sl .nil [] 0] 0 (eTx x)=eTx x from rfl]at hst
  have S:=S.setAt (.cells (eTx x)) 0 rfl
  simp[hst]at S⊢
  generalize st2.upd iid (.cells (eTx x))=st3 at S⊢
  have o6:=S.mem (i:=iid) (o:=.cells (eTx x)) (by simp)
  have hsg:segOf (eTx x) 0 2=some (eTx x):=rfl
  simp[h4,St.seg,o6,hsg]
  refine(spec198 ok st3 x htx).mono ?_
  rintro v st3 ⟨rfl,rfl⟩
  have hel1:elems st3 32 (.sl .full (eId (txIdM x)) 1)=some (rowsOf eId [txIdM x],1):=by simp[elems,eId_len]
  simp[fillIdT,hel1]
  refine Sep.appx' (b:=32) eId_len (by omega) S.drop [txIdM x] (by simp) rfl (by rw[hml,List.length_singleton];omega) ?_
  intro s7 st5 S
  rw[←hmp]at S
  simp[h9,w1]
  exact Round.mk (l.length-(i+1)) _ (by omega) (sub_self _) (hJ _ _ _ ⟨i+1,s7,by omega,rfl,by simp,by simp,S⟩)
 ·have:i=l.length:=by omega
  subst this
  rw[List.take_length]at S
  simp[g7,g8,h9,h4]
  have rd:=Sep.rd eId_len (S.head fun h hh=>hh.sl)
  refine(spec199 ok st2 rd (by rw[rowsIds,List.length_map];omega)).mono ?_
  rintro v st2 ⟨rfl,rfl⟩
  obtain⟨x,hx⟩: ∃x,x=(rootM (rowsIds l)).1:=⟨_,rfl⟩
  obtain⟨b,hb⟩: ∃b,b=(rootM (rowsIds l)).2:=⟨_,rfl⟩
  rw[←hx,←hb]
  have S:=S.drop
  have hst:=store_z32 S.get x
  have S:=S.set (.cells (eId x))
  have hsg:=segId0 x
  simp[hst,St.seg,hsg,g2]
  exact S.was' (st0:=st) (by simp)
end
end Go.Ab
namespace Go.Ab
open Go
def k188 (F:Fn):PF:=PF.mk 39 3 [(.t 6)] (.seq (.ops [(po 3 (.box (.t 0))),(po 6 (.mv (.k (.sl .nil [] 0))))]) (.seq (.ops [(po 11 (.fldA 5 (.t 3))),(po 12 (.load true 69 (.t 11))),(po 13 (.bsl false 69 1 z69_adc1 [(0,(69,(.t 12)))])),(pm 7 13)]) (.seq (.seq (.ops [(po 8 (.mv (.k (.int .i64 1))))]) (.block 0 (.loop (.seq (.seq (.ops [(pm 14 8),(pm 15 1),(po 16 (.bin .leq (.t 14) (.t 15)))]) (.cond (.t 16) .skip (.exit 0))) (.seq (.block 1 (.seq (.draw [(.e,(pm 21 7)),(.e,(pm 22 8)),(.e,(po 23 (.bin .sub (.t 22) (.k (.int .i64 1))))),(.e,(po 24 (.idxSl 69 (.t 21) (.t 23)))),(.e,(po 25 (.fldA 0 (.t 24)))),(.e,(pm 27 8)),(.e,(pm 28 2)),(.s,(po 20 (.load true 74 (.t 3)))),(.s,(po 26 (.load true 68 (.t 25)))),(.x,(po 29 (.call (F 189) [(.t 20),(.t 26),(.t 27),(.t 28),(.k (.sl .nil [] 0))]))),(.e,(pm 19 29)),(.e,(po 30 (.ext 0 (.t 19)))),(.e,(po 31 (.ext 1 (.t 19)))),(.a,(po 9 (.alloc z69_adc1))),(.x,(PO.mk none (.store 69 (.t 9) (.t 30)) none)),(.e,(pm 10 31))]) (.seq (.seq (.ops [(pm 32 10),(po 33 (.not (.t 32)))]) (.cond (.t 33) (.exit 0) .skip)) (.ops [(pm 34 7),(po 35 (.load true 69 (.t 9))),(po 36 (.bsl false 69 1 z69_adc1 [(0,(69,(.t 35)))])),(po 37 (.app 69 104 (.t 34) (.t 36))),(pm 7 37)])))) (.ops [(pm 17 8),(po 18 (.bin .add (.t 17) (.k (.int .i64 1)))),(pm 8 18)])))))) (.seq (.seq (.frz [7]) (.ops [(pm 38 7),(pm 6 38)])) .ret))))
def k190 (F:Fn):PF:=PF.mk 23 1 [(PR.cell 2 true 74)] (.seq (.ops [(po 2 (.alloc z74_2f53))]) (.seq (.ops [(pm 5 0),(po 6 (.build z74_2f53 [(0,(1,(.k (w32 545259519)))),(2,(1,(.k (.int .i64 10)))),(3,(1,(.k (.int .i64 50)))),(4,(1,(.t 5)))])),(po 3 (.alloc z74_2f53)),(PO.mk none (.store 74 (.t 3) (.t 6)) none)]) (.seq (.ops [(po 7 (.build z68_39b1 [(66,(1,(.k (w32 545259519))))])),(po 8 (.load true 74 (.t 3))),(po 9 (.call (F 191) [(.t 8),(.k (.int .i64 0)),(.k (w8 0))])),(po 10 (.bsl false 2 1 [(.sl .nil [] 0),(.sl .nil [] 0)] [(0,(2,(.t 9)))])),(po 11 (.build z69_adc1 [(0,(68,(.t 7))),(68,(1,(.t 10)))])),(po 4 (.alloc z69_adc1)),(PO.mk none (.store 69 (.t 4) (.t 11)) none)]) (.seq (.ops [(po 13 (.fldA 68 (.t 4))),(po 14 (.load false 1 (.t 13))),(po 15 (.call (F 192) [(.t 14)])),(pm 12 15),(po 16 (.ext 0 (.t 12))),(po 17 (.ext 1 (.t 12))),(po 18 (.fldA 0 (.t 4))),(po 19 (.fldA 33 (.t 18))),(PO.mk none (.store 32 (.t 19) (.t 16)) none)]) (.seq (.ops [(po 20 (.load true 69 (.t 4))),(po 21 (.fldA 5 (.t 3))),(PO.mk none (.store 69 (.t 21) (.t 20)) none)]) (.seq (.ops [(po 22 (.load true 74 (.t 3))),(PO.mk none (.store 74 (.t 2) (.t 22)) none)]) .ret))))))
def k193 (F:Fn):PF:=PF.mk 32 2 [(.t 4)] (.seq (.ops [(po 4 (.mv (.k (.ptr none))))]) (.seq (.ops [(pm 8 0),(po 9 (.bsl false 69 0 z69_adc1 [])),(pm 10 1),(po 11 (.appz 69 104 (.t 9) (.t 10))),(PO.mk (some 12) POp.mkmap none),(po 13 (.build [(w64 0),(.sl .nil [] 0),(.map none),(.bool false)] [(0,(1,(.t 8))),(1,(1,(.t 11))),(2,(1,(.t 12)))])),(po 14 (.box (.t 13))),(pm 5 14)]) (.seq (.seq (.ops [(pm 15 1),(po 16 (.lenSl (.t 15))),(po 17 (.mv (.k (.int .i64 0))))]) (.block 0 (.loop (.seq (.ops [(po 18 (.bin .lss (.t 17) (.t 16)))]) (.seq (.cond (.t 18) .skip (.exit 0)) (.seq (.block 1 (.seq (.ops [(pm 19 17),(po 20 (.idxSl 69 (.t 15) (.t 17))),(po 21 (.load true 69 (.t 20))),(po 7 (.alloc z69_adc1)),(pm 6 19),(PO.mk none (.store 69 (.t 7) (.t 21)) none)]) (.draw [(.e,(pm 22 5)),(.e,(po 23 (.nilck (.t 22)))),(.e,(po 24 (.fldA 2 (.t 23)))),(.e,(po 26 (.fldA 0 (.t 7)))),(.e,(pm 29 6)),(.s,(po 25 (.load false 1 (.t 24)))),(.s,(po 27 (.load true 68 (.t 26)))),(.s,(po 28 (.call (F 141) [(.t 27)]))),(.x,(PO.mk none (.mset (.agg 32) (.t 25) (.t 28) (.t 29)) none))]))) (.ops [(po 30 (.bin .add (.t 17) (.k (.int .i64 1)))),(pm 17 30)]))))))) (.seq (.ops [(pm 31 5),(pm 4 31)]) .ret))))
def k194 (F:Fn):PF:=PF.mk 93 2 [(.t 4)] (.seq (.ops [(po 3 (.box (.t 1))),(po 4 (.mv (.k (.sl .nil [] 0))))]) (.seq (.seq (.ops [(po 11 (.fldA 0 (.t 3))),(po 12 (.load false 1 (.t 11)))]) (.block 0 (.seq (.ops [(po 14 (.bin .eql (.t 12) (.k (.int .i64 1)))),(pm 13 14)]) (.cond (.t 13) (.seq (.seq (.ops [(pm 15 0),(po 16 (.nilck (.t 15))),(po 17 (.fldA 3 (.t 16))),(po 18 (.load false 1 (.t 17)))]) (.cond (.t 18) (.seq (.ops [(po 4 (.mv (.k (.sl .nil [] 0))))]) .ret) .skip)) (.seq (.ops [(pm 19 0),(po 20 (.nilck (.t 19))),(po 21 (.fldA 3 (.t 20))),(PO.mk none (.store 1 (.t 21) (.k (.bool true))) none)]) (.seq (.draw [(.e,(pm 22 0)),(.e,(po 23 (.nilck (.t 22)))),(.e,(po 24 (.fldA 0 (.t 23)))),(.e,(pm 26 0)),(.e,(po 27 (.nilck (.t 26)))),(.e,(po 28 (.fldA 1 (.t 27)))),(.e,(po 35 (.build z106_9145 [(0,(1,(.k (.int .i64 2))))]))),(.s,(po 25 (.load false 1 (.t 24)))),(.s,(po 29 (.load false 1 (.t 28)))),(.e,(po 30 (.lenSl (.t 29)))),(.e,(po 31 (.bin .sub (.t 30) (.k (.int .i64 1))))),(.e,(po 32 (.max [(.k (.int .i64 0)),(.t 31)]))),(.e,(po 33 (.conv .u32 (.t 32)))),(.e,(po 34 (.build z106_9145 [(0,(1,(.k (.int .i64 1)))),(1,(1,(.t 25))),(2,(1,(.t 33)))]))),(.e,(po 36 (.bsl false 106 2 z106_9145 [(0,(106,(.t 34))),(106,(106,(.t 35)))]))),(.e,(pm 4 36))]) .ret))) (.seq (.ops [(po 38 (.bin .eql (.t 12) (.k (.int .i64 3)))),(pm 37 38)]) (.cond (.t 37) (.seq (.ops [(pm 39 0),(po 40 (.load true 106 (.t 3))),(po 41 (.call (F 195) [(.t 39),(.t 40)])),(po 42 (.bsl false 106 1 z106_9145 [(0,(106,(.t 41)))])),(pm 4 42)]) .ret) (.seq (.ops [(po 44 (.bin .eql (.t 12) (.k (.int .i64 6)))),(pm 43 44)]) (.cond (.t 43) (.seq (.ops [(po 5 (.mv (.k (.sl .nil [] 0))))]) (.seq (.ops [(po 6 (.mv (.k (.sl .nil [] 0))))]) (.seq (.seq (.ops [(po 45 (.fldA 3 (.t 3))),(po 46 (.load false 1 (.t 45))),(po 47 (.lenSl (.t 46))),(po 48 (.mv (.k (.int .i64 0))))]) (.block 1 (.loop (.seq (.ops [(po 49 (.bin .lss (.t 48) (.t 47)))]) (.seq (.cond (.t 49) .skip (.exit 1)) (.seq (.block 2 (.seq (.ops [(po 50 (.idxSl 32 (.t 46) (.t 48))),(po 51 (.load true 32 (.t 50))),(po 8 (.alloc zR32_w80)),(PO.mk none (.store 32 (.t 8) (.t 51)) none)]) (.seq (.draw [(.e,(pm 53 0)),(.e,(po 54 (.nilck (.t 53)))),(.e,(po 55 (.fldA 2 (.t 54)))),(.s,(po 56 (.load false 1 (.t 55)))),(.s,(po 57 (.load true 32 (.t 8)))),(.s,(po 58 (.lookup (.agg 32) (.int .i64 0) true (.t 56) (.t 57)))),(.e,(pm 52 58)),(.e,(po 59 (.ext 0 (.t 52)))),(.e,(po 60 (.ext 1 (.t 52)))),(.e,(pm 9 59)),(.e,(pm 10 60))]) (.seq (.ops [(pm 61 10)]) (.cond (.t 61) (.ops [(pm 62 5),(pm 63 0),(po 64 (.nilck (.t 63))),(po 65 (.fldA 1 (.t 64))),(po 66 (.load false 1 (.t 65))),(pm 67 9),(po 68 (.idxSl 69 (.t 66) (.t 67))),(po 69 (.load true 69 (.t 68))),(po 70 (.build z106_9145 [(0,(1,(.k (.int .i64 7)))),(37,(69,(.t 69)))])),(po 71 (.bsl false 106 1 z106_9145 [(0,(106,(.t 70)))])),(po 72 (.app 106 208 (.t 62) (.t 71))),(pm 5 72)]) (.ops [(pm 73 6),(po 74 (.load true 32 (.t 8))),(po 75 (.bsl false 32 1 zR32_w80 [(0,(32,(.t 74)))])),(po 76 (.app 32 32 (.t 73) (.t 75))),(pm 6 76)])))))) (.ops [(po 77 (.bin .add (.t 48) (.k (.int .i64 1)))),(pm 48 77)]))))))) (.seq (.seq (.ops [(pm 78 6),(po 79 (.lenSl (.t 78))),(po 80 (.bin .gtr (.t 79) (.k (.int .i64 0))))]) (.cond (.t 80) (.ops [(pm 81 5),(pm 82 6),(po 83 (.build z106_9145 [(0,(1,(.k (.int .i64 8)))),(3,(1,(.t 82)))])),(po 84 (.bsl false 106 1 z106_9145 [(0,(106,(.t 83)))])),(po 85 (.app 106 208 (.t 81) (.t 84))),(pm 5 85)]) .skip)) (.seq (.ops [(pm 86 5),(pm 4 86)]) .ret))))) (.seq (.ops [(po 88 (.bin .eql (.t 12) (.k (.int .i64 9)))),(pm 87 88)]) (.cond (.t 87) (.seq (.ops [(po 89 (.fldA 1 (.t 3))),(po 90 (.load false 1 (.t 89))),(po 91 (.build z106_9145 [(0,(1,(.k (.int .i64 10)))),(1,(1,(.t 90)))])),(po 92 (.bsl false 106 1 z106_9145 [(0,(106,(.t 91)))])),(pm 4 92)]) .ret) .skip)))))))))) (.seq (.ops [(po 4 (.mv (.k (.sl .nil [] 0))))]) .ret)))
def k196 (F:Fn):PF:=PF.mk 8 1 [(.t 2)] (.seq (.ops [(po 2 (.mv (.k (.int .i64 0))))]) (.seq (.ops [(pm 3 0),(po 4 (.nilck (.t 3))),(po 5 (.fldA 1 (.t 4))),(po 6 (.load false 1 (.t 5))),(po 7 (.lenSl (.t 6))),(pm 2 7)]) .ret))
def k189 (F:Fn):PF:=PF.mk 55 5 [(PR.cell 10 true 69),(.t 11)] (.seq (.ops [(po 5 (.box (.t 0))),(po 6 (.box (.t 1))),(po 10 (.alloc z69_adc1)),(po 11 (.mv (.k (.bool false))))]) (.seq (.ops [(po 15 (.load true 74 (.t 5))),(pm 16 2),(pm 17 3),(po 18 (.call (F 191) [(.t 15),(.t 16),(.t 17)])),(po 19 (.bsl false 2 1 [(.sl .nil [] 0),(.sl .nil [] 0)] [(0,(2,(.t 18)))])),(pm 20 4),(po 21 (.appz 2 48 (.t 19) (.t 20))),(po 22 (.build z69_adc1 [(68,(1,(.t 21)))])),(po 12 (.alloc z69_adc1)),(PO.mk none (.store 69 (.t 12) (.t 22)) none)]) (.seq (.draw [(.e,(po 25 (.fldA 65 (.t 6)))),(.e,(po 27 (.fldA 2 (.t 5)))),(.e,(po 31 (.fldA 66 (.t 6)))),(.s,(po 23 (.load true 68 (.t 6)))),(.s,(po 24 (.call (F 141) [(.t 23)]))),(.s,(po 26 (.load false 1 (.t 25)))),(.s,(po 28 (.load false 1 (.t 27)))),(.e,(po 29 (.conv .u32 (.t 28)))),(.e,(po 30 (.bin .add (.t 26) (.t 29)))),(.s,(po 32 (.load false 1 (.t 31)))),(.e,(po 33 (.build z68_39b1 [(0,(1,(.k (w32 1)))),(1,(32,(.t 24))),(65,(1,(.t 30))),(66,(1,(.t 32)))]))),(.e,(po 34 (.fldA 0 (.t 12)))),(.x,(PO.mk none (.store 68 (.t 34) (.t 33)) none))]) (.seq (.ops [(po 36 (.fldA 68 (.t 12))),(po 37 (.load false 1 (.t 36))),(po 38 (.call (F 192) [(.t 37)])),(pm 35 38),(po 39 (.ext 0 (.t 35))),(po 40 (.ext 1 (.t 35))),(po 41 (.fldA 0 (.t 12))),(po 42 (.fldA 33 (.t 41))),(PO.mk none (.store 32 (.t 42) (.t 39)) none)]) (.seq (.ops [(po 44 (.fldA 0 (.t 12))),(po 45 (.load true 68 (.t 44))),(po 46 (.fldA 0 (.t 5))),(po 47 (.load false 1 (.t 46))),(po 48 (.call (F 143) [(.t 45),(.t 47),(.k (.int .i64 4096))])),(pm 43 48),(po 49 (.ext 0 (.t 43))),(po 50 (.ext 1 (.t 43))),(po 13 (.alloc z68_39b1)),(PO.mk none (.store 68 (.t 13) (.t 49)) none),(pm 14 50)]) (.seq (.ops [(po 51 (.load true 68 (.t 13))),(po 52 (.fldA 0 (.t 12))),(PO.mk none (.store 68 (.t 52) (.t 51)) none)]) (.seq (.ops [(po 53 (.load true 69 (.t 12))),(pm 54 14),(PO.mk none (.store 69 (.t 10) (.t 53)) none),(pm 11 54)]) .ret)))))))
def k191 (F:Fn):PF:=PF.mk 26 3 [(PR.cell 6 true 2)] (.seq (.ops [(po 3 (.box (.t 0))),(po 6 (.alloc [(.sl .nil [] 0),(.sl .nil [] 0)]))]) (.seq (.draw [(.e,(pm 8 1)),(.e,(po 9 (.conv .u8 (.t 8)))),(.e,(pm 10 1)),(.e,(po 11 (.bin .shr (.t 10) (.k (w64 8))))),(.e,(po 12 (.conv .u8 (.t 11)))),(.e,(pm 13 2)),(.e,(po 14 (.bsl false 1 3 [(w8 0)] [(0,(1,(.t 9))),(1,(1,(.t 12))),(2,(1,(.t 13)))]))),(.e,(po 17 (.fldA 3 (.t 3)))),(.e,(pm 19 2)),(.e,(po 20 (.bsl false 1 1 [(w8 0)] [(0,(1,(.t 19)))]))),(.e,(po 21 (.bsl false 1 1 [(.sl .nil [] 0)] [(0,(1,(.t 20)))]))),(.s,(po 7 (.call (F 197) []))),(.e,(po 15 (.build z34_1838 [(0,(33,(.t 7))),(33,(1,(.t 14)))]))),(.e,(po 16 (.bsl false 34 1 z34_1838 [(0,(34,(.t 15)))]))),(.s,(po 18 (.load false 1 (.t 17)))),(.s,(po 22 (.call (F 103) [(.t 21)]))),(.e,(po 23 (.build z33_0be4 [(0,(1,(.t 18))),(1,(32,(.t 22)))]))),(.e,(po 24 (.bsl false 33 1 z33_0be4 [(0,(33,(.t 23)))]))),(.e,(po 25 (.build [(.sl .nil [] 0),(.sl .nil [] 0)] [(0,(1,(.t 16))),(1,(1,(.t 24)))]))),(.x,(PO.mk none (.store 2 (.t 6) (.t 25)) none))]) .ret))
def k195 (F:Fn):PF:=PF.mk 75 2 [(PR.cell 4 true 106)] (.seq (.ops [(po 3 (.box (.t 1))),(po 4 (.alloc z106_9145))]) (.seq (.ops [(po 5 (.mv (.k (.int .i64 1))))]) (.seq (.seq (.ops [(po 12 (.fldA 3 (.t 3))),(po 13 (.load false 1 (.t 12))),(po 14 (.lenSl (.t 13))),(po 15 (.mv (.k (.int .i64 0))))]) (.block 0 (.loop (.seq (.ops [(po 16 (.bin .lss (.t 15) (.t 14)))]) (.seq (.cond (.t 16) .skip (.exit 0)) (.seq (.block 1 (.seq (.ops [(po 17 (.idxSl 32 (.t 13) (.t 15))),(po 18 (.load true 32 (.t 17))),(po 7 (.alloc zR32_w80)),(PO.mk none (.store 32 (.t 7) (.t 18)) none)]) (.seq (.draw [(.e,(pm 20 0)),(.e,(po 21 (.nilck (.t 20)))),(.e,(po 22 (.fldA 2 (.t 21)))),(.s,(po 23 (.load false 1 (.t 22)))),(.s,(po 24 (.load true 32 (.t 7)))),(.s,(po 25 (.lookup (.agg 32) (.int .i64 0) true (.t 23) (.t 24)))),(.e,(pm 19 25)),(.e,(po 26 (.ext 0 (.t 19)))),(.e,(po 27 (.ext 1 (.t 19)))),(.e,(pm 8 26)),(.e,(pm 9 27))]) (.seq (.ops [(pm 28 9)]) (.cond (.t 28) (.seq (.ops [(pm 29 8),(po 30 (.bin .add (.t 29) (.k (.int .i64 1)))),(pm 5 30)]) (.exit 0)) .skip))))) (.ops [(po 31 (.bin .add (.t 15) (.k (.int .i64 1)))),(pm 15 31)]))))))) (.seq (.ops [(po 32 (.build z106_9145 [(0,(1,(.k (.int .i64 4))))])),(po 10 (.alloc z106_9145)),(PO.mk none (.store 106 (.t 10) (.t 32)) none)]) (.seq (.seq (.ops [(pm 33 5),(pm 11 33)]) (.block 2 (.loop (.seq (.seq (.ops [(pm 34 11),(pm 35 0),(po 36 (.nilck (.t 35))),(po 37 (.fldA 1 (.t 36))),(po 38 (.load false 1 (.t 37))),(po 39 (.lenSl (.t 38))),(po 40 (.bin .lss (.t 34) (.t 39))),(pm 41 40),(PO.mk (some 42) (.fldA 36 (.t 10)) (some (41,true))),(PO.mk (some 43) (.load false 1 (.t 42)) (some (41,true))),(PO.mk (some 44) (.lenSl (.t 43)) (some (41,true))),(PO.mk (some 45) (.bin .lss (.t 44) (.k (.int .i64 32))) (some (41,true))),(po 46 (.pick (.t 41) (.t 45) (.k (.bool false))))]) (.cond (.t 46) .skip (.exit 2))) (.seq (.block 3 (.seq (.draw [(.e,(po 49 (.fldA 36 (.t 10)))),(.e,(pm 51 0)),(.e,(po 52 (.nilck (.t 51)))),(.e,(po 53 (.fldA 1 (.t 52)))),(.e,(pm 55 11)),(.s,(po 50 (.load false 1 (.t 49)))),(.s,(po 54 (.load false 1 (.t 53)))),(.e,(po 56 (.idxSl 69 (.t 54) (.t 55)))),(.e,(po 57 (.fldA 0 (.t 56)))),(.s,(po 58 (.load true 68 (.t 57)))),(.e,(po 59 (.bsl false 68 1 z68_39b1 [(0,(68,(.t 58)))]))),(.x,(po 60 (.app 68 80 (.t 50) (.t 59)))),(.e,(po 61 (.fldA 36 (.t 10)))),(.x,(PO.mk none (.store 1 (.t 61) (.t 60)) none))]) (.seq (.draw [(.e,(pm 62 0)),(.e,(po 63 (.nilck (.t 62)))),(.e,(po 64 (.fldA 1 (.t 63)))),(.e,(pm 66 11)),(.e,(po 71 (.fldA 4 (.t 3)))),(.s,(po 65 (.load false 1 (.t 64)))),(.e,(po 67 (.idxSl 69 (.t 65) (.t 66)))),(.e,(po 68 (.fldA 0 (.t 67)))),(.s,(po 69 (.load true 68 (.t 68)))),(.s,(po 70 (.call (F 141) [(.t 69)]))),(.s,(po 72 (.load true 32 (.t 71)))),(.e,(po 73 (.eqa (.agg 32) false (.t 70) (.t 72))))]) (.cond (.t 73) (.exit 2) .skip)))) (.ops [(pm 47 11),(po 48 (.bin .add (.t 47) (.k (.int .i64 1)))),(pm 11 48)])))))) (.seq (.ops [(po 74 (.load true 106 (.t 10))),(PO.mk none (.store 106 (.t 4) (.t 74)) none)]) .ret))))))
structure OkHonest (P:Program) (F:Fn):Prop where
 mixed:P.follows .mixedOrders=true
 toOkTx:OkTx P F
 h188:compFn P ⟨[],[],[(8,[7])],[],[]⟩ (F 188)=some (k188 F)
 h190:compFn P ⟨[],[],[],[],[]⟩ (F 190)=some (k190 F)
 h193:compFn P ⟨[],[],[],[],[11]⟩ (F 193)=some (k193 F)
 h194:compFn P ⟨[],[],[],[],[]⟩ (F 194)=some (k194 F)
 h196:compFn P ⟨[],[],[],[],[]⟩ (F 196)=some (k196 F)
 h189:compFn P ⟨[],[],[],[],[21]⟩ (F 189)=some (k189 F)
 h191:compFn P ⟨[],[],[],[],[]⟩ (F 191)=some (k191 F)
 h195:compFn P ⟨[],[],[],[],[]⟩ (F 195)=some (k195 F)
end Go.Ab

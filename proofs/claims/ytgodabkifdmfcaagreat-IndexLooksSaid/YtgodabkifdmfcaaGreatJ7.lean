import Derived.Test.YtgodabkifdmfcaaGreatJ4
import Derived.Test.YtgodabkifdmfcaaGreatJ6
import Derived.Test.YtgodabkifdmfcaaGreatJ5
/-
  The code of functions of the program in the small language.
-/
set_option linter.unusedVariables false
namespace Go.Ab
open Go
-- regions [0, 1, 2, 3, 4, 5, 6, 7, 8, 10, 11, 9, 12, 13, 14, 15, 17, 18, 19, 21, 22, 23, 25, 24, 26, 20, 27, 28, 30, 31, 32, 29, 33, 34, 35, 37, 38, 39, 40, 41, 36, 42, 43, 45, 44, 16, 46, 47, 48, 50, 51, 52, 54, 55, 53, 49, 56]
/- tallystick/tallystickref01.Sum -/
def k130 (F : Fn) : PF := PF.mk 306 1 [(PR.cell 2 true 32)] (.seq (.ops [(PO.mk (some 2) (.alloc zR32_w80) none)]) (.seq (.ops [(PO.mk (some 27) (.call (F 131) []) none), (PO.mk (some 3) (.mv (.t 27)) none)]) (.seq (.ops [(PO.mk (some 28) (.mv (.t 0)) none), (PO.mk (some 29) (.lenStr (.t 28)) none), (PO.mk (some 30) (.conv .u64 (.t 29)) none), (PO.mk (some 31) (.bin .mul (.t 30) (.k (w64 8))) none), (PO.mk (some 4) (.mv (.t 31)) none)]) (.seq (.ops [(PO.mk (some 32) (.mv (.t 0)) none), (PO.mk (some 33) (.bin .add (.t 32) (.k (.str (ByteArray.mk ⟨[128]⟩)))) none), (PO.mk (some 0) (.mv (.t 33)) none)]) (.seq (.block 0 (.loop (.seq (.seq (.ops [(PO.mk (some 34) (.mv (.t 0)) none), (PO.mk (some 35) (.lenStr (.t 34)) none), (PO.mk (some 36) (.bin .rem (.t 35) (.k (.int .i64 64))) none), (PO.mk (some 37) (.bin .neq (.t 36) (.k (.int .i64 56))) none)]) (.cond (.t 37) .skip (.exit 0))) (.block 1 (.ops [(PO.mk (some 38) (.mv (.t 0)) none), (PO.mk (some 39) (.bin .add (.t 38) (.k (.str (ByteArray.mk ⟨[0]⟩)))) none), (PO.mk (some 0) (.mv (.t 39)) none)]))))) (.seq (.ops [(PO.mk (some 5) (.mv (.k (.str (ByteArray.mk ⟨[]⟩)))) none)]) (.seq (.seq (.ops [(PO.mk (some 6) (.mv (.k (.int .i64 0))) none)]) (.block 2 (.loop (.seq (.seq (.ops [(PO.mk (some 40) (.mv (.t 6)) none), (PO.mk (some 41) (.bin .lss (.t 40) (.k (.int .i64 8))) none)]) (.cond (.t 41) .skip (.exit 2))) (.seq (.block 3 (.seq (.ops [(PO.mk (some 44) (.mv (.t 4)) none), (PO.mk (some 45) (.bin .rem (.t 44) (.k (w64 256))) none), (PO.mk (some 46) (.conv .u8 (.t 45)) none), (PO.mk (some 47) (.bsl false 1 1 [(w8 0)] [(0, (1, (.t 46)))]) none), (PO.mk (some 48) (.toStr (.t 47)) none), (PO.mk (some 49) (.mv (.t 5)) none), (PO.mk (some 50) (.bin .add (.t 48) (.t 49)) none), (PO.mk (some 5) (.mv (.t 50)) none)]) (.ops [(PO.mk (some 51) (.mv (.t 4)) none), (PO.mk (some 52) (.bin .quo (.t 51) (.k (w64 256))) none), (PO.mk (some 4) (.mv (.t 52)) none)]))) (.ops [(PO.mk (some 42) (.mv (.t 6)) none), (PO.mk (some 43) (.bin .add (.t 42) (.k (.int .i64 1))) none), (PO.mk (some 6) (.mv (.t 43)) none)])))))) (.seq (.ops [(PO.mk (some 53) (.mv (.t 0)) none), (PO.mk (some 54) (.mv (.t 5)) none), (PO.mk (some 55) (.bin .add (.t 53) (.t 54)) none), (PO.mk (some 0) (.mv (.t 55)) none)]) (.seq (.ops [(PO.mk (some 56) (.bsl true 1 8 [(w32 0)] [(0, (1, (.k (w32 1779033703)))), (1, (1, (.k (w32 3144134277)))), (2, (1, (.k (w32 1013904242)))), (3, (1, (.k (w32 2773480762)))), (4, (1, (.k (w32 1359893119)))), (5, (1, (.k (w32 2600822924)))), (6, (1, (.k (w32 528734635)))), (7, (1, (.k (w32 1541459225))))]) none), (PO.mk (some 7) (.mv (.t 56)) none)]) (.seq (.seq (.ops [(PO.mk (some 8) (.mv (.k (.int .i64 0))) none)]) (.block 4 (.loop (.seq (.seq (.ops [(PO.mk (some 57) (.mv (.t 8)) none), (PO.mk (some 58) (.mv (.t 0)) none), (PO.mk (some 59) (.lenStr (.t 58)) none), (PO.mk (some 60) (.bin .lss (.t 57) (.t 59)) none)]) (.cond (.t 60) .skip (.exit 4))) (.seq (.block 5 (.seq (.ops [(PO.mk (some 9) (.mv (.k (.sl .nil [] 0))) none)]) (.seq (.seq (.ops [(PO.mk (some 10) (.mv (.k (.int .i64 0))) none)]) (.block 6 (.loop (.seq (.seq (.ops [(PO.mk (some 63) (.mv (.t 10)) none), (PO.mk (some 64) (.bin .lss (.t 63) (.k (.int .i64 16))) none)]) (.cond (.t 64) .skip (.exit 6))) (.seq (.block 7 (.seq (.ops [(PO.mk (some 11) (.mv (.k (w32 0))) none)]) (.seq (.seq (.ops [(PO.mk (some 12) (.mv (.k (.int .i64 0))) none)]) (.block 8 (.loop (.seq (.seq (.ops [(PO.mk (some 67) (.mv (.t 12)) none), (PO.mk (some 68) (.bin .lss (.t 67) (.k (.int .i64 4))) none)]) (.cond (.t 68) .skip (.exit 8))) (.seq (.block 9 (.ops [(PO.mk (some 71) (.mv (.t 11)) none), (PO.mk (some 72) (.bin .mul (.t 71) (.k (w32 256))) none), (PO.mk (some 73) (.mv (.t 0)) none), (PO.mk (some 74) (.mv (.t 8)) none), (PO.mk (some 75) (.mv (.t 10)) none), (PO.mk (some 76) (.bin .mul (.k (.int .i64 4)) (.t 75)) none), (PO.mk (some 77) (.bin .add (.t 74) (.t 76)) none), (PO.mk (some 78) (.mv (.t 12)) none), (PO.mk (some 79) (.bin .add (.t 77) (.t 78)) none), (PO.mk (some 80) (.idxStr (.t 73) (.t 79)) none), (PO.mk (some 81) (.conv .u32 (.t 80)) none), (PO.mk (some 82) (.bin .add (.t 72) (.t 81)) none), (PO.mk (some 11) (.mv (.t 82)) none)])) (.ops [(PO.mk (some 69) (.mv (.t 12)) none), (PO.mk (some 70) (.bin .add (.t 69) (.k (.int .i64 1))) none), (PO.mk (some 12) (.mv (.t 70)) none)])))))) (.ops [(PO.mk (some 83) (.mv (.t 9)) none), (PO.mk (some 84) (.mv (.t 11)) none), (PO.mk (some 85) (.bsl false 1 1 [(w32 0)] [(0, (1, (.t 84)))]) none), (PO.mk (some 86) (.app 1 4 (.t 83) (.t 85)) none), (PO.mk (some 9) (.mv (.t 86)) none)])))) (.ops [(PO.mk (some 65) (.mv (.t 10)) none), (PO.mk (some 66) (.bin .add (.t 65) (.k (.int .i64 1))) none), (PO.mk (some 10) (.mv (.t 66)) none)])))))) (.seq (.seq (.ops [(PO.mk (some 13) (.mv (.k (.int .i64 16))) none)]) (.block 10 (.loop (.seq (.seq (.ops [(PO.mk (some 87) (.mv (.t 13)) none), (PO.mk (some 88) (.bin .lss (.t 87) (.k (.int .i64 64))) none)]) (.cond (.t 88) .skip (.exit 10))) (.seq (.block 11 (.seq (.draw [(.e, (PO.mk (some 91) (.mv (.t 9)) none)), (.e, (PO.mk (some 92) (.mv (.t 13)) none)), (.e, (PO.mk (some 93) (.bin .sub (.t 92) (.k (.int .i64 15))) none)), (.e, (PO.mk (some 94) (.idxSl 1 (.t 91) (.t 93)) none)), (.e, (PO.mk (some 97) (.mv (.t 9)) none)), (.e, (PO.mk (some 98) (.mv (.t 13)) none)), (.e, (PO.mk (some 99) (.bin .sub (.t 98) (.k (.int .i64 15))) none)), (.e, (PO.mk (some 100) (.idxSl 1 (.t 97) (.t 99)) none)), (.e, (PO.mk (some 104) (.mv (.t 9)) none)), (.e, (PO.mk (some 105) (.mv (.t 13)) none)), (.e, (PO.mk (some 106) (.bin .sub (.t 105) (.k (.int .i64 15))) none)), (.e, (PO.mk (some 107) (.idxSl 1 (.t 104) (.t 106)) none)), (.s, (PO.mk (some 95) (.load false 1 (.t 94)) none)), (.s, (PO.mk (some 96) (.call (F 132) [(.t 95), (.k (.int .i64 7))]) none)), (.s, (PO.mk (some 101) (.load false 1 (.t 100)) none)), (.s, (PO.mk (some 102) (.call (F 132) [(.t 101), (.k (.int .i64 18))]) none)), (.e, (PO.mk (some 103) (.bin .xor (.t 96) (.t 102)) none)), (.s, (PO.mk (some 108) (.load false 1 (.t 107)) none)), (.s, (PO.mk (some 109) (.call (F 133) [(.t 108), (.k (.int .i64 3))]) none)), (.e, (PO.mk (some 110) (.bin .xor (.t 103) (.t 109)) none)), (.e, (PO.mk (some 14) (.mv (.t 110)) none))]) (.seq (.draw [(.e, (PO.mk (some 111) (.mv (.t 9)) none)), (.e, (PO.mk (some 112) (.mv (.t 13)) none)), (.e, (PO.mk (some 113) (.bin .sub (.t 112) (.k (.int .i64 2))) none)), (.e, (PO.mk (some 114) (.idxSl 1 (.t 111) (.t 113)) none)), (.e, (PO.mk (some 117) (.mv (.t 9)) none)), (.e, (PO.mk (some 118) (.mv (.t 13)) none)), (.e, (PO.mk (some 119) (.bin .sub (.t 118) (.k (.int .i64 2))) none)), (.e, (PO.mk (some 120) (.idxSl 1 (.t 117) (.t 119)) none)), (.e, (PO.mk (some 124) (.mv (.t 9)) none)), (.e, (PO.mk (some 125) (.mv (.t 13)) none)), (.e, (PO.mk (some 126) (.bin .sub (.t 125) (.k (.int .i64 2))) none)), (.e, (PO.mk (some 127) (.idxSl 1 (.t 124) (.t 126)) none)), (.s, (PO.mk (some 115) (.load false 1 (.t 114)) none)), (.s, (PO.mk (some 116) (.call (F 132) [(.t 115), (.k (.int .i64 17))]) none)), (.s, (PO.mk (some 121) (.load false 1 (.t 120)) none)), (.s, (PO.mk (some 122) (.call (F 132) [(.t 121), (.k (.int .i64 19))]) none)), (.e, (PO.mk (some 123) (.bin .xor (.t 116) (.t 122)) none)), (.s, (PO.mk (some 128) (.load false 1 (.t 127)) none)), (.s, (PO.mk (some 129) (.call (F 133) [(.t 128), (.k (.int .i64 10))]) none)), (.e, (PO.mk (some 130) (.bin .xor (.t 123) (.t 129)) none)), (.e, (PO.mk (some 15) (.mv (.t 130)) none))]) (.draw [(.e, (PO.mk (some 131) (.mv (.t 9)) none)), (.e, (PO.mk (some 132) (.mv (.t 9)) none)), (.e, (PO.mk (some 133) (.mv (.t 13)) none)), (.e, (PO.mk (some 134) (.bin .sub (.t 133) (.k (.int .i64 16))) none)), (.e, (PO.mk (some 135) (.idxSl 1 (.t 132) (.t 134)) none)), (.e, (PO.mk (some 137) (.mv (.t 14)) none)), (.e, (PO.mk (some 139) (.mv (.t 9)) none)), (.e, (PO.mk (some 140) (.mv (.t 13)) none)), (.e, (PO.mk (some 141) (.bin .sub (.t 140) (.k (.int .i64 7))) none)), (.e, (PO.mk (some 142) (.idxSl 1 (.t 139) (.t 141)) none)), (.e, (PO.mk (some 145) (.mv (.t 15)) none)), (.s, (PO.mk (some 136) (.load false 1 (.t 135)) none)), (.e, (PO.mk (some 138) (.bin .add (.t 136) (.t 137)) none)), (.s, (PO.mk (some 143) (.load false 1 (.t 142)) none)), (.e, (PO.mk (some 144) (.bin .add (.t 138) (.t 143)) none)), (.e, (PO.mk (some 146) (.bin .add (.t 144) (.t 145)) none)), (.e, (PO.mk (some 147) (.bsl false 1 1 [(w32 0)] [(0, (1, (.t 146)))]) none)), (.x, (PO.mk (some 148) (.app 1 4 (.t 131) (.t 147)) none)), (.e, (PO.mk (some 9) (.mv (.t 148)) none))])))) (.ops [(PO.mk (some 89) (.mv (.t 13)) none), (PO.mk (some 90) (.bin .add (.t 89) (.k (.int .i64 1))) none), (PO.mk (some 13) (.mv (.t 90)) none)])))))) (.seq (.ops [(PO.mk (some 149) (.bsl false 1 0 [(w32 0)] []) none), (PO.mk (some 150) (.mv (.t 7)) none), (PO.mk (some 151) (.app 1 4 (.t 149) (.t 150)) none), (PO.mk (some 16) (.mv (.t 151)) none)]) (.seq (.seq (.ops [(PO.mk (some 17) (.mv (.k (.int .i64 0))) none)]) (.block 12 (.loop (.seq (.seq (.ops [(PO.mk (some 152) (.mv (.t 17)) none), (PO.mk (some 153) (.bin .lss (.t 152) (.k (.int .i64 64))) none)]) (.cond (.t 153) .skip (.exit 12))) (.seq (.block 13 (.seq (.draw [(.e, (PO.mk (some 156) (.mv (.t 16)) none)), (.e, (PO.mk (some 157) (.idxSl 1 (.t 156) (.k (.int .i64 4))) none)), (.e, (PO.mk (some 160) (.mv (.t 16)) none)), (.e, (PO.mk (some 161) (.idxSl 1 (.t 160) (.k (.int .i64 4))) none)), (.e, (PO.mk (some 165) (.mv (.t 16)) none)), (.e, (PO.mk (some 166) (.idxSl 1 (.t 165) (.k (.int .i64 4))) none)), (.s, (PO.mk (some 158) (.load false 1 (.t 157)) none)), (.s, (PO.mk (some 159) (.call (F 132) [(.t 158), (.k (.int .i64 6))]) none)), (.s, (PO.mk (some 162) (.load false 1 (.t 161)) none)), (.s, (PO.mk (some 163) (.call (F 132) [(.t 162), (.k (.int .i64 11))]) none)), (.e, (PO.mk (some 164) (.bin .xor (.t 159) (.t 163)) none)), (.s, (PO.mk (some 167) (.load false 1 (.t 166)) none)), (.s, (PO.mk (some 168) (.call (F 132) [(.t 167), (.k (.int .i64 25))]) none)), (.e, (PO.mk (some 169) (.bin .xor (.t 164) (.t 168)) none)), (.e, (PO.mk (some 18) (.mv (.t 169)) none))]) (.seq (.draw [(.e, (PO.mk (some 170) (.mv (.t 16)) none)), (.e, (PO.mk (some 171) (.idxSl 1 (.t 170) (.k (.int .i64 7))) none)), (.e, (PO.mk (some 173) (.mv (.t 18)) none)), (.e, (PO.mk (some 175) (.mv (.t 16)) none)), (.e, (PO.mk (some 176) (.idxSl 1 (.t 175) (.k (.int .i64 4))) none)), (.e, (PO.mk (some 178) (.mv (.t 16)) none)), (.e, (PO.mk (some 179) (.idxSl 1 (.t 178) (.k (.int .i64 5))) none)), (.e, (PO.mk (some 182) (.mv (.t 16)) none)), (.e, (PO.mk (some 183) (.idxSl 1 (.t 182) (.k (.int .i64 4))) none)), (.e, (PO.mk (some 186) (.mv (.t 16)) none)), (.e, (PO.mk (some 187) (.idxSl 1 (.t 186) (.k (.int .i64 6))) none)), (.e, (PO.mk (some 192) (.mv (.t 3)) none)), (.e, (PO.mk (some 193) (.mv (.t 17)) none)), (.e, (PO.mk (some 194) (.idxSl 1 (.t 192) (.t 193)) none)), (.e, (PO.mk (some 197) (.mv (.t 9)) none)), (.e, (PO.mk (some 198) (.mv (.t 17)) none)), (.e, (PO.mk (some 199) (.idxSl 1 (.t 197) (.t 198)) none)), (.s, (PO.mk (some 172) (.load false 1 (.t 171)) none)), (.e, (PO.mk (some 174) (.bin .add (.t 172) (.t 173)) none)), (.s, (PO.mk (some 177) (.load false 1 (.t 176)) none)), (.s, (PO.mk (some 180) (.load false 1 (.t 179)) none)), (.e, (PO.mk (some 181) (.bin .and (.t 177) (.t 180)) none)), (.s, (PO.mk (some 184) (.load false 1 (.t 183)) none)), (.e, (PO.mk (some 185) (.bin .sub (.k (w32 4294967295)) (.t 184)) none)), (.s, (PO.mk (some 188) (.load false 1 (.t 187)) none)), (.e, (PO.mk (some 189) (.bin .and (.t 185) (.t 188)) none)), (.e, (PO.mk (some 190) (.bin .xor (.t 181) (.t 189)) none)), (.e, (PO.mk (some 191) (.bin .add (.t 174) (.t 190)) none)), (.s, (PO.mk (some 195) (.load false 1 (.t 194)) none)), (.e, (PO.mk (some 196) (.bin .add (.t 191) (.t 195)) none)), (.s, (PO.mk (some 200) (.load false 1 (.t 199)) none)), (.e, (PO.mk (some 201) (.bin .add (.t 196) (.t 200)) none)), (.e, (PO.mk (some 19) (.mv (.t 201)) none))]) (.seq (.draw [(.e, (PO.mk (some 202) (.mv (.t 16)) none)), (.e, (PO.mk (some 203) (.idxSl 1 (.t 202) (.k (.int .i64 0))) none)), (.e, (PO.mk (some 206) (.mv (.t 16)) none)), (.e, (PO.mk (some 207) (.idxSl 1 (.t 206) (.k (.int .i64 0))) none)), (.e, (PO.mk (some 211) (.mv (.t 16)) none)), (.e, (PO.mk (some 212) (.idxSl 1 (.t 211) (.k (.int .i64 0))) none)), (.s, (PO.mk (some 204) (.load false 1 (.t 203)) none)), (.s, (PO.mk (some 205) (.call (F 132) [(.t 204), (.k (.int .i64 2))]) none)), (.s, (PO.mk (some 208) (.load false 1 (.t 207)) none)), (.s, (PO.mk (some 209) (.call (F 132) [(.t 208), (.k (.int .i64 13))]) none)), (.e, (PO.mk (some 210) (.bin .xor (.t 205) (.t 209)) none)), (.s, (PO.mk (some 213) (.load false 1 (.t 212)) none)), (.s, (PO.mk (some 214) (.call (F 132) [(.t 213), (.k (.int .i64 22))]) none)), (.e, (PO.mk (some 215) (.bin .xor (.t 210) (.t 214)) none)), (.e, (PO.mk (some 20) (.mv (.t 215)) none))]) (.seq (.draw [(.e, (PO.mk (some 216) (.mv (.t 20)) none)), (.e, (PO.mk (some 217) (.mv (.t 16)) none)), (.e, (PO.mk (some 218) (.idxSl 1 (.t 217) (.k (.int .i64 0))) none)), (.e, (PO.mk (some 220) (.mv (.t 16)) none)), (.e, (PO.mk (some 221) (.idxSl 1 (.t 220) (.k (.int .i64 1))) none)), (.e, (PO.mk (some 224) (.mv (.t 16)) none)), (.e, (PO.mk (some 225) (.idxSl 1 (.t 224) (.k (.int .i64 0))) none)), (.e, (PO.mk (some 227) (.mv (.t 16)) none)), (.e, (PO.mk (some 228) (.idxSl 1 (.t 227) (.k (.int .i64 2))) none)), (.e, (PO.mk (some 232) (.mv (.t 16)) none)), (.e, (PO.mk (some 233) (.idxSl 1 (.t 232) (.k (.int .i64 1))) none)), (.e, (PO.mk (some 235) (.mv (.t 16)) none)), (.e, (PO.mk (some 236) (.idxSl 1 (.t 235) (.k (.int .i64 2))) none)), (.s, (PO.mk (some 219) (.load false 1 (.t 218)) none)), (.s, (PO.mk (some 222) (.load false 1 (.t 221)) none)), (.e, (PO.mk (some 223) (.bin .and (.t 219) (.t 222)) none)), (.s, (PO.mk (some 226) (.load false 1 (.t 225)) none)), (.s, (PO.mk (some 229) (.load false 1 (.t 228)) none)), (.e, (PO.mk (some 230) (.bin .and (.t 226) (.t 229)) none)), (.e, (PO.mk (some 231) (.bin .xor (.t 223) (.t 230)) none)), (.s, (PO.mk (some 234) (.load false 1 (.t 233)) none)), (.s, (PO.mk (some 237) (.load false 1 (.t 236)) none)), (.e, (PO.mk (some 238) (.bin .and (.t 234) (.t 237)) none)), (.e, (PO.mk (some 239) (.bin .xor (.t 231) (.t 238)) none)), (.e, (PO.mk (some 240) (.bin .add (.t 216) (.t 239)) none)), (.e, (PO.mk (some 21) (.mv (.t 240)) none))]) (.draw [(.e, (PO.mk (some 241) (.mv (.t 19)) none)), (.e, (PO.mk (some 242) (.mv (.t 21)) none)), (.e, (PO.mk (some 243) (.bin .add (.t 241) (.t 242)) none)), (.e, (PO.mk (some 244) (.mv (.t 16)) none)), (.e, (PO.mk (some 245) (.idxSl 1 (.t 244) (.k (.int .i64 0))) none)), (.e, (PO.mk (some 247) (.mv (.t 16)) none)), (.e, (PO.mk (some 248) (.idxSl 1 (.t 247) (.k (.int .i64 1))) none)), (.e, (PO.mk (some 250) (.mv (.t 16)) none)), (.e, (PO.mk (some 251) (.idxSl 1 (.t 250) (.k (.int .i64 2))) none)), (.e, (PO.mk (some 253) (.mv (.t 16)) none)), (.e, (PO.mk (some 254) (.idxSl 1 (.t 253) (.k (.int .i64 3))) none)), (.e, (PO.mk (some 256) (.mv (.t 19)) none)), (.e, (PO.mk (some 258) (.mv (.t 16)) none)), (.e, (PO.mk (some 259) (.idxSl 1 (.t 258) (.k (.int .i64 4))) none)), (.e, (PO.mk (some 261) (.mv (.t 16)) none)), (.e, (PO.mk (some 262) (.idxSl 1 (.t 261) (.k (.int .i64 5))) none)), (.e, (PO.mk (some 264) (.mv (.t 16)) none)), (.e, (PO.mk (some 265) (.idxSl 1 (.t 264) (.k (.int .i64 6))) none)), (.s, (PO.mk (some 246) (.load false 1 (.t 245)) none)), (.s, (PO.mk (some 249) (.load false 1 (.t 248)) none)), (.s, (PO.mk (some 252) (.load false 1 (.t 251)) none)), (.s, (PO.mk (some 255) (.load false 1 (.t 254)) none)), (.e, (PO.mk (some 257) (.bin .add (.t 255) (.t 256)) none)), (.s, (PO.mk (some 260) (.load false 1 (.t 259)) none)), (.s, (PO.mk (some 263) (.load false 1 (.t 262)) none)), (.s, (PO.mk (some 266) (.load false 1 (.t 265)) none)), (.e, (PO.mk (some 267) (.bsl false 1 8 [(w32 0)] [(0, (1, (.t 243))), (1, (1, (.t 246))), (2, (1, (.t 249))), (3, (1, (.t 252))), (4, (1, (.t 257))), (5, (1, (.t 260))), (6, (1, (.t 263))), (7, (1, (.t 266)))]) none)), (.e, (PO.mk (some 16) (.mv (.t 267)) none))])))))) (.ops [(PO.mk (some 154) (.mv (.t 17)) none), (PO.mk (some 155) (.bin .add (.t 154) (.k (.int .i64 1))) none), (PO.mk (some 17) (.mv (.t 155)) none)])))))) (.seq (.ops [(PO.mk (some 22) (.mv (.k (.int .i64 0))) none)]) (.block 14 (.loop (.seq (.seq (.ops [(PO.mk (some 268) (.mv (.t 22)) none), (PO.mk (some 269) (.bin .lss (.t 268) (.k (.int .i64 8))) none)]) (.cond (.t 269) .skip (.exit 14))) (.seq (.block 15 (.draw [(.e, (PO.mk (some 272) (.mv (.t 7)) none)), (.e, (PO.mk (some 273) (.mv (.t 22)) none)), (.e, (PO.mk (some 274) (.idxSl 1 (.t 272) (.t 273)) none)), (.e, (PO.mk (some 276) (.mv (.t 16)) none)), (.e, (PO.mk (some 277) (.mv (.t 22)) none)), (.e, (PO.mk (some 278) (.idxSl 1 (.t 276) (.t 277)) none)), (.s, (PO.mk (some 275) (.load false 1 (.t 274)) none)), (.s, (PO.mk (some 279) (.load false 1 (.t 278)) none)), (.e, (PO.mk (some 280) (.bin .add (.t 275) (.t 279)) none)), (.e, (PO.mk (some 281) (.idxSl 1 (.t 272) (.t 273)) none)), (.x, (PO.mk none (.store 1 (.t 281) (.t 280)) none))])) (.ops [(PO.mk (some 270) (.mv (.t 22)) none), (PO.mk (some 271) (.bin .add (.t 270) (.k (.int .i64 1))) none), (PO.mk (some 22) (.mv (.t 271)) none)])))))))))))) (.ops [(PO.mk (some 61) (.mv (.t 8)) none), (PO.mk (some 62) (.bin .add (.t 61) (.k (.int .i64 64))) none), (PO.mk (some 8) (.mv (.t 62)) none)])))))) (.seq (.ops [(PO.mk (some 282) (.build zR32_w80 []) none), (PO.mk (some 23) (.alloc zR32_w80) none), (PO.mk none (.store 32 (.t 23) (.t 282)) none)]) (.seq (.seq (.ops [(PO.mk (some 24) (.mv (.k (.int .i64 0))) none)]) (.block 16 (.loop (.seq (.seq (.ops [(PO.mk (some 283) (.mv (.t 24)) none), (PO.mk (some 284) (.bin .lss (.t 283) (.k (.int .i64 8))) none)]) (.cond (.t 284) .skip (.exit 16))) (.seq (.block 17 (.seq (.ops [(PO.mk (some 287) (.mv (.t 7)) none), (PO.mk (some 288) (.mv (.t 24)) none), (PO.mk (some 289) (.idxSl 1 (.t 287) (.t 288)) none), (PO.mk (some 290) (.load false 1 (.t 289)) none), (PO.mk (some 25) (.mv (.t 290)) none)]) (.seq (.ops [(PO.mk (some 26) (.mv (.k (.int .i64 3))) none)]) (.block 18 (.loop (.seq (.seq (.ops [(PO.mk (some 291) (.mv (.t 26)) none), (PO.mk (some 292) (.bin .geq (.t 291) (.k (.int .i64 0))) none)]) (.cond (.t 292) .skip (.exit 18))) (.seq (.block 19 (.seq (.ops [(PO.mk (some 295) (.mv (.t 24)) none), (PO.mk (some 296) (.bin .mul (.k (.int .i64 4)) (.t 295)) none), (PO.mk (some 297) (.mv (.t 26)) none), (PO.mk (some 298) (.bin .add (.t 296) (.t 297)) none), (PO.mk (some 299) (.mv (.t 25)) none), (PO.mk (some 300) (.bin .rem (.t 299) (.k (w32 256))) none), (PO.mk (some 301) (.conv .u8 (.t 300)) none), (PO.mk (some 302) (.idxArr 32 1 (.t 23) (.t 298)) none), (PO.mk none (.store 1 (.t 302) (.t 301)) none)]) (.ops [(PO.mk (some 303) (.mv (.t 25)) none), (PO.mk (some 304) (.bin .quo (.t 303) (.k (w32 256))) none), (PO.mk (some 25) (.mv (.t 304)) none)]))) (.ops [(PO.mk (some 293) (.mv (.t 26)) none), (PO.mk (some 294) (.bin .sub (.t 293) (.k (.int .i64 1))) none), (PO.mk (some 26) (.mv (.t 294)) none)])))))))) (.ops [(PO.mk (some 285) (.mv (.t 24)) none), (PO.mk (some 286) (.bin .add (.t 285) (.k (.int .i64 1))) none), (PO.mk (some 24) (.mv (.t 286)) none)])))))) (.seq (.ops [(PO.mk (some 305) (.load true 32 (.t 23)) none), (PO.mk none (.store 32 (.t 2) (.t 305)) none)]) .ret)))))))))))))
-- regions [0, 1, 2]
/- tallystick/tallystickref01.Twice -/
def k134 (F : Fn) : PF := PF.mk 9 1 [(PR.cell 2 true 32)] (.seq (.ops [(PO.mk (some 2) (.alloc zR32_w80) none)]) (.seq (.ops [(PO.mk (some 4) (.mv (.t 0)) none), (PO.mk (some 5) (.call (F 130) [(.t 4)]) none), (PO.mk (some 3) (.alloc zR32_w80) none), (PO.mk none (.store 32 (.t 3) (.t 5)) none)]) (.seq (.seq (.frz [3]) (.ops [(PO.mk (some 6) (.slArr false 32 1 (.t 3) none none) none), (PO.mk (some 7) (.toStr (.t 6)) none), (PO.mk (some 8) (.call (F 130) [(.t 7)]) none), (PO.mk none (.store 32 (.t 2) (.t 8)) none)])) .ret)))
-- regions [0, 1]
/- tallystick/tallystickref01.List -/
def k131 (F : Fn) : PF := PF.mk 2 0 [(.t 0)] (.seq (.ops [(PO.mk (some 0) (.mv (.k (.sl .nil [] 0))) none)]) (.seq (.ops [(PO.mk (some 1) (.bsl false 1 64 [(w32 0)] [(0, (1, (.k (w32 1116352408)))), (1, (1, (.k (w32 1899447441)))), (2, (1, (.k (w32 3049323471)))), (3, (1, (.k (w32 3921009573)))), (4, (1, (.k (w32 961987163)))), (5, (1, (.k (w32 1508970993)))), (6, (1, (.k (w32 2453635748)))), (7, (1, (.k (w32 2870763221)))), (8, (1, (.k (w32 3624381080)))), (9, (1, (.k (w32 310598401)))), (10, (1, (.k (w32 607225278)))), (11, (1, (.k (w32 1426881987)))), (12, (1, (.k (w32 1925078388)))), (13, (1, (.k (w32 2162078206)))), (14, (1, (.k (w32 2614888103)))), (15, (1, (.k (w32 3248222580)))), (16, (1, (.k (w32 3835390401)))), (17, (1, (.k (w32 4022224774)))), (18, (1, (.k (w32 264347078)))), (19, (1, (.k (w32 604807628)))), (20, (1, (.k (w32 770255983)))), (21, (1, (.k (w32 1249150122)))), (22, (1, (.k (w32 1555081692)))), (23, (1, (.k (w32 1996064986)))), (24, (1, (.k (w32 2554220882)))), (25, (1, (.k (w32 2821834349)))), (26, (1, (.k (w32 2952996808)))), (27, (1, (.k (w32 3210313671)))), (28, (1, (.k (w32 3336571891)))), (29, (1, (.k (w32 3584528711)))), (30, (1, (.k (w32 113926993)))), (31, (1, (.k (w32 338241895)))), (32, (1, (.k (w32 666307205)))), (33, (1, (.k (w32 773529912)))), (34, (1, (.k (w32 1294757372)))), (35, (1, (.k (w32 1396182291)))), (36, (1, (.k (w32 1695183700)))), (37, (1, (.k (w32 1986661051)))), (38, (1, (.k (w32 2177026350)))), (39, (1, (.k (w32 2456956037)))), (40, (1, (.k (w32 2730485921)))), (41, (1, (.k (w32 2820302411)))), (42, (1, (.k (w32 3259730800)))), (43, (1, (.k (w32 3345764771)))), (44, (1, (.k (w32 3516065817)))), (45, (1, (.k (w32 3600352804)))), (46, (1, (.k (w32 4094571909)))), (47, (1, (.k (w32 275423344)))), (48, (1, (.k (w32 430227734)))), (49, (1, (.k (w32 506948616)))), (50, (1, (.k (w32 659060556)))), (51, (1, (.k (w32 883997877)))), (52, (1, (.k (w32 958139571)))), (53, (1, (.k (w32 1322822218)))), (54, (1, (.k (w32 1537002063)))), (55, (1, (.k (w32 1747873779)))), (56, (1, (.k (w32 1955562222)))), (57, (1, (.k (w32 2024104815)))), (58, (1, (.k (w32 2227730452)))), (59, (1, (.k (w32 2361852424)))), (60, (1, (.k (w32 2428436474)))), (61, (1, (.k (w32 2756734187)))), (62, (1, (.k (w32 3204031479)))), (63, (1, (.k (w32 3329325298))))]) none), (PO.mk (some 0) (.mv (.t 1)) none)]) .ret))
-- regions [0, 1, 2, 4, 5, 6, 3, 7]
/- tallystick/tallystickref01.turn -/
def k132 (F : Fn) : PF := PF.mk 21 2 [(.t 4)] (.seq (.ops [(PO.mk (some 4) (.mv (.k (w32 0))) none)]) (.seq (.seq (.ops [(PO.mk (some 5) (.mv (.k (.int .i64 0))) none)]) (.block 0 (.loop (.seq (.seq (.ops [(PO.mk (some 7) (.mv (.t 5)) none), (PO.mk (some 8) (.mv (.t 1)) none), (PO.mk (some 9) (.bin .lss (.t 7) (.t 8)) none)]) (.cond (.t 9) .skip (.exit 0))) (.seq (.block 1 (.seq (.ops [(PO.mk (some 12) (.mv (.t 0)) none), (PO.mk (some 13) (.bin .rem (.t 12) (.k (w32 2))) none), (PO.mk (some 6) (.mv (.t 13)) none)]) (.seq (.ops [(PO.mk (some 14) (.mv (.t 0)) none), (PO.mk (some 15) (.bin .quo (.t 14) (.k (w32 2))) none), (PO.mk (some 0) (.mv (.t 15)) none)]) (.ops [(PO.mk (some 16) (.mv (.t 0)) none), (PO.mk (some 17) (.mv (.t 6)) none), (PO.mk (some 18) (.bin .mul (.t 17) (.k (w32 2147483648))) none), (PO.mk (some 19) (.bin .add (.t 16) (.t 18)) none), (PO.mk (some 0) (.mv (.t 19)) none)])))) (.ops [(PO.mk (some 10) (.mv (.t 5)) none), (PO.mk (some 11) (.bin .add (.t 10) (.k (.int .i64 1))) none), (PO.mk (some 5) (.mv (.t 11)) none)])))))) (.seq (.ops [(PO.mk (some 20) (.mv (.t 0)) none), (PO.mk (some 4) (.mv (.t 20)) none)]) .ret)))
-- regions [0, 1, 2, 4, 3, 5]
/- tallystick/tallystickref01.low -/
def k133 (F : Fn) : PF := PF.mk 14 2 [(.t 4)] (.seq (.ops [(PO.mk (some 4) (.mv (.k (w32 0))) none)]) (.seq (.seq (.ops [(PO.mk (some 5) (.mv (.k (.int .i64 0))) none)]) (.block 0 (.loop (.seq (.seq (.ops [(PO.mk (some 6) (.mv (.t 5)) none), (PO.mk (some 7) (.mv (.t 1)) none), (PO.mk (some 8) (.bin .lss (.t 6) (.t 7)) none)]) (.cond (.t 8) .skip (.exit 0))) (.seq (.block 1 (.ops [(PO.mk (some 11) (.mv (.t 0)) none), (PO.mk (some 12) (.bin .quo (.t 11) (.k (w32 2))) none), (PO.mk (some 0) (.mv (.t 12)) none)])) (.ops [(PO.mk (some 9) (.mv (.t 5)) none), (PO.mk (some 10) (.bin .add (.t 9) (.k (.int .i64 1))) none), (PO.mk (some 5) (.mv (.t 10)) none)])))))) (.seq (.ops [(PO.mk (some 13) (.mv (.t 0)) none), (PO.mk (some 4) (.mv (.t 13)) none)]) .ret)))
structure OkRef01 (P : Program) (F : Fn) : Prop where
  mixed : P.follows .mixedOrders = true
  h130 : compFn P ⟨[56], [], [], [], []⟩ (F 130) = some (k130 F)
  h134 : compFn P ⟨[], [], [(2, [3])], [], []⟩ (F 134) = some (k134 F)
  h131 : compFn P ⟨[], [], [], [], []⟩ (F 131) = some (k131 F)
  h132 : compFn P ⟨[], [], [], [], []⟩ (F 132) = some (k132 F)
  h133 : compFn P ⟨[], [], [], [], []⟩ (F 133) = some (k133 F)
end Go.Ab
/-
  The code of functions of the program in the small language.
-/
set_option linter.unusedVariables false
namespace Go.Ab
open Go
-- regions [0, 1]
/- tallystick/tallystickref03.small -/
def k144 (F : Fn) : PF := PF.mk 6 1 [(.t 2)] (.seq (.ops [(PO.mk (some 2) (.mv (.k (.sl .nil [] 0))) none)]) (.seq (.ops [(PO.mk (some 3) (.mv (.t 0)) none), (PO.mk (some 4) (.build [(w64 0), (w64 0), (w64 0), (w64 0)] [(0, (1, (.t 3))), (1, (1, (.k (w64 0)))), (2, (1, (.k (w64 0)))), (3, (1, (.k (w64 0))))]) none), (PO.mk (some 5) (.call (F 121) [(.t 4)]) none), (PO.mk (some 2) (.mv (.t 5)) none)]) .ret))
-- regions [0, 1, 2, 3, 4]
/- tallystick/tallystickref03.length -/
def k145 (F : Fn) : PF := PF.mk 19 1 [(.t 2)] (.seq (.ops [(PO.mk (some 2) (.mv (.k (.int .i64 0))) none)]) (.seq (.ops [(PO.mk (some 4) (.mv (.t 0)) none), (PO.mk (some 5) (.lenSl (.t 4)) none), (PO.mk (some 3) (.mv (.t 5)) none)]) (.seq (.block 0 (.loop (.seq (.seq (.ops [(PO.mk (some 6) (.mv (.t 3)) none), (PO.mk (some 7) (.bin .gtr (.t 6) (.k (.int .i64 0))) none), (PO.mk (some 8) (.mv (.t 7)) none), (PO.mk (some 9) (.mv (.t 0)) (some (8, true))), (PO.mk (some 10) (.mv (.t 3)) (some (8, true))), (PO.mk (some 11) (.bin .sub (.t 10) (.k (.int .i64 1))) (some (8, true))), (PO.mk (some 12) (.idxSl 1 (.t 9) (.t 11)) (some (8, true))), (PO.mk (some 13) (.load false 1 (.t 12)) (some (8, true))), (PO.mk (some 14) (.not (.t 13)) (some (8, true))), (PO.mk (some 15) (.pick (.t 8) (.t 14) (.k (.bool false))) none)]) (.cond (.t 15) .skip (.exit 0))) (.block 1 (.ops [(PO.mk (some 16) (.mv (.t 3)) none), (PO.mk (some 17) (.bin .sub (.t 16) (.k (.int .i64 1))) none), (PO.mk (some 3) (.mv (.t 17)) none)]))))) (.seq (.ops [(PO.mk (some 18) (.mv (.t 3)) none), (PO.mk (some 2) (.mv (.t 18)) none)]) .ret))))
-- regions [0, 1, 2, 3, 4, 5, 6, 7, 8]
/- tallystick/tallystickref03.Target -/
def k146 (F : Fn) : PF := PF.mk 34 1 [(.t 2), (.t 3)] (.seq (.ops [(PO.mk (some 2) (.mv (.k (.sl .nil [] 0))) none), (PO.mk (some 3) (.mv (.k (.bool false))) none)]) (.seq (.ops [(PO.mk (some 7) (.mv (.t 0)) none), (PO.mk (some 8) (.bin .quo (.t 7) (.k (w32 16777216))) none), (PO.mk (some 9) (.conv .i64 (.t 8)) none), (PO.mk (some 4) (.mv (.t 9)) none)]) (.seq (.ops [(PO.mk (some 10) (.mv (.t 0)) none), (PO.mk (some 11) (.bin .rem (.t 10) (.k (w32 16777216))) none), (PO.mk (some 12) (.conv .u64 (.t 11)) none), (PO.mk (some 5) (.mv (.t 12)) none)]) (.seq (.seq (.ops [(PO.mk (some 13) (.mv (.t 5)) none), (PO.mk (some 14) (.bin .geq (.t 13) (.k (w64 8388608))) none), (PO.mk (some 15) (.mv (.t 14)) none), (PO.mk (some 16) (.mv (.t 5)) (some (15, false))), (PO.mk (some 17) (.bin .eql (.t 16) (.k (w64 0))) (some (15, false))), (PO.mk (some 18) (.pick (.t 15) (.k (.bool true)) (.t 17)) none)]) (.cond (.t 18) (.seq (.ops [(PO.mk (some 2) (.mv (.k (.sl .nil [] 0))) none), (PO.mk (some 3) (.mv (.k (.bool false))) none)]) .ret) .skip)) (.seq (.ops [(PO.mk (some 19) (.mv (.t 5)) none), (PO.mk (some 20) (.call (F 144) [(.t 19)]) none), (PO.mk (some 21) (.mv (.t 4)) none), (PO.mk (some 22) (.bin .sub (.t 21) (.k (.int .i64 3))) none), (PO.mk (some 23) (.bin .mul (.k (.int .i64 8)) (.t 22)) none), (PO.mk (some 24) (.call (F 127) [(.t 20), (.t 23)]) none), (PO.mk (some 6) (.mv (.t 24)) none)]) (.seq (.seq (.seq (.frz [6]) (.ops [(PO.mk (some 25) (.mv (.t 6)) none), (PO.mk (some 26) (.call (F 145) [(.t 25)]) none), (PO.mk (some 27) (.bin .eql (.t 26) (.k (.int .i64 0))) none), (PO.mk (some 28) (.mv (.t 27)) none), (PO.mk (some 29) (.mv (.t 6)) (some (28, false))), (PO.mk (some 30) (.call (F 145) [(.t 29)]) (some (28, false))), (PO.mk (some 31) (.bin .gtr (.t 30) (.k (.int .i64 256))) (some (28, false))), (PO.mk (some 32) (.pick (.t 28) (.k (.bool true)) (.t 31)) none)])) (.cond (.t 32) (.seq (.ops [(PO.mk (some 2) (.mv (.k (.sl .nil [] 0))) none), (PO.mk (some 3) (.mv (.k (.bool false))) none)]) .ret) .skip)) (.seq (.ops [(PO.mk (some 33) (.mv (.t 6)) none), (PO.mk (some 2) (.mv (.t 33)) none), (PO.mk (some 3) (.mv (.k (.bool true))) none)]) .ret)))))))
-- regions [0, 1, 2, 3, 4, 5]
/- tallystick/tallystickref03.Short -/
def k147 (F : Fn) : PF := PF.mk 37 1 [(.t 2)] (.seq (.ops [(PO.mk (some 2) (.mv (.k (w32 0))) none)]) (.seq (.ops [(PO.mk (some 6) (.mv (.t 0)) none), (PO.mk (some 7) (.call (F 145) [(.t 6)]) none), (PO.mk (some 8) (.bin .add (.t 7) (.k (.int .i64 7))) none), (PO.mk (some 9) (.bin .quo (.t 8) (.k (.int .i64 8))) none), (PO.mk (some 3) (.mv (.t 9)) none)]) (.seq (.seq (.ops [(PO.mk (some 10) (.mv (.t 0)) none), (PO.mk (some 11) (.call (F 145) [(.t 10)]) none), (PO.mk (some 12) (.bin .gtr (.t 11) (.k (.int .i64 0))) none), (PO.mk (some 13) (.mv (.t 12)) none), (PO.mk (some 14) (.mv (.t 0)) (some (13, true))), (PO.mk (some 15) (.call (F 145) [(.t 14)]) (some (13, true))), (PO.mk (some 16) (.bin .rem (.t 15) (.k (.int .i64 8))) (some (13, true))), (PO.mk (some 17) (.bin .eql (.t 16) (.k (.int .i64 0))) (some (13, true))), (PO.mk (some 18) (.pick (.t 13) (.t 17) (.k (.bool false))) none)]) (.cond (.t 18) (.ops [(PO.mk (some 19) (.mv (.t 3)) none), (PO.mk (some 20) (.bin .add (.t 19) (.k (.int .i64 1))) none), (PO.mk (some 3) (.mv (.t 20)) none)]) .skip)) (.seq (.ops [(PO.mk (some 22) (.mv (.t 0)) none), (PO.mk (some 23) (.mv (.t 3)) none), (PO.mk (some 24) (.bin .sub (.t 23) (.k (.int .i64 3))) none), (PO.mk (some 25) (.bin .mul (.k (.int .i64 (-8))) (.t 24)) none), (PO.mk (some 26) (.call (F 127) [(.t 22), (.t 25)]) none), (PO.mk (some 27) (.call (F 122) [(.t 26)]) none), (PO.mk (some 21) (.mv (.t 27)) none), (PO.mk (some 28) (.ext 0 (.t 21)) none), (PO.mk (some 29) (.ext 1 (.t 21)) none), (PO.mk (some 4) (.alloc [(w64 0), (w64 0), (w64 0), (w64 0)]) none), (PO.mk none (.store 4 (.t 4) (.t 28)) none), (PO.mk (some 5) (.mv (.t 29)) none)]) (.seq (.ops [(PO.mk (some 30) (.mv (.t 3)) none), (PO.mk (some 31) (.conv .u32 (.t 30)) none), (PO.mk (some 32) (.bin .mul (.t 31) (.k (w32 16777216))) none), (PO.mk (some 33) (.idxArr 4 1 (.t 4) (.k (.int .i64 0))) none), (PO.mk (some 34) (.load false 1 (.t 33)) none), (PO.mk (some 35) (.conv .u32 (.t 34)) none), (PO.mk (some 36) (.bin .add (.t 32) (.t 35)) none), (PO.mk (some 2) (.mv (.t 36)) none)]) .ret)))))
-- regions [0, 1, 2]
/- tallystick/tallystickref03.Work -/
def k148 (F : Fn) : PF := PF.mk 15 1 [(.t 2)] (.seq (.ops [(PO.mk (some 2) (.mv (.k (.sl .nil [] 0))) none)]) (.seq (.ops [(PO.mk (some 6) (.call (F 144) [(.k (w64 1))]) none), (PO.mk (some 7) (.call (F 127) [(.t 6), (.k (.int .i64 256))]) none), (PO.mk (some 8) (.mv (.t 0)) none), (PO.mk (some 9) (.call (F 144) [(.k (w64 1))]) none), (PO.mk (some 10) (.call (F 124) [(.t 8), (.t 9)]) none), (PO.mk (some 11) (.call (F 129) [(.t 7), (.t 10)]) none), (PO.mk (some 5) (.mv (.t 11)) none), (PO.mk (some 12) (.ext 0 (.t 5)) none), (PO.mk (some 13) (.ext 1 (.t 5)) none), (PO.mk (some 3) (.mv (.t 12)) none), (PO.mk (some 4) (.mv (.t 13)) none)]) (.seq (.ops [(PO.mk (some 14) (.mv (.t 3)) none), (PO.mk (some 2) (.mv (.t 14)) none)]) .ret)))
-- regions [0, 1, 2, 3, 4, 5, 6, 7, 8, 9, 10, 11, 12, 13, 14, 15, 16, 17]
/- tallystick/tallystickref03.Next -/
def k149 (F : Fn) : PF := PF.mk 82 4 [(.t 8), (.t 9)] (.seq (.ops [(PO.mk (some 8) (.mv (.k (w32 0))) none), (PO.mk (some 9) (.mv (.k (.bool false))) none)]) (.seq (.ops [(PO.mk (some 16) (.mv (.t 0)) none), (PO.mk (some 17) (.call (F 146) [(.t 16)]) none), (PO.mk (some 15) (.mv (.t 17)) none), (PO.mk (some 18) (.ext 0 (.t 15)) none), (PO.mk (some 19) (.ext 1 (.t 15)) none), (PO.mk (some 10) (.mv (.t 18)) none), (PO.mk (some 11) (.mv (.t 19)) none)]) (.seq (.seq (.ops [(PO.mk (some 20) (.mv (.t 11)) none), (PO.mk (some 21) (.not (.t 20)) none), (PO.mk (some 22) (.mv (.t 21)) none), (PO.mk (some 23) (.mv (.t 2)) (some (22, false))), (PO.mk (some 24) (.bin .lss (.t 23) (.k (.int .i64 1))) (some (22, false))), (PO.mk (some 25) (.pick (.t 22) (.k (.bool true)) (.t 24)) none), (PO.mk (some 26) (.mv (.t 25)) none), (PO.mk (some 27) (.mv (.t 2)) (some (26, false))), (PO.mk (some 28) (.bin .gtr (.t 27) (.k (.int .i64 1099511627776))) (some (26, false))), (PO.mk (some 29) (.pick (.t 26) (.k (.bool true)) (.t 28)) none)]) (.cond (.t 29) (.seq (.ops [(PO.mk (some 8) (.mv (.k (w32 0))) none), (PO.mk (some 9) (.mv (.k (.bool false))) none)]) .ret) .skip)) (.seq (.seq (.ops [(PO.mk (some 30) (.mv (.t 1)) none), (PO.mk (some 31) (.mv (.t 2)) none), (PO.mk (some 32) (.bin .quo (.t 31) (.k (.int .i64 4))) none), (PO.mk (some 33) (.bin .lss (.t 30) (.t 32)) none)]) (.cond (.t 33) (.ops [(PO.mk (some 34) (.mv (.t 2)) none), (PO.mk (some 35) (.bin .quo (.t 34) (.k (.int .i64 4))) none), (PO.mk (some 1) (.mv (.t 35)) none)]) .skip)) (.seq (.seq (.ops [(PO.mk (some 36) (.mv (.t 1)) none), (PO.mk (some 37) (.mv (.t 2)) none), (PO.mk (some 38) (.bin .mul (.k (.int .i64 4)) (.t 37)) none), (PO.mk (some 39) (.bin .gtr (.t 36) (.t 38)) none)]) (.cond (.t 39) (.ops [(PO.mk (some 40) (.mv (.t 2)) none), (PO.mk (some 41) (.bin .mul (.k (.int .i64 4)) (.t 40)) none), (PO.mk (some 1) (.mv (.t 41)) none)]) .skip)) (.seq (.ops [(PO.mk (some 42) (.mv (.t 10)) none), (PO.mk (some 43) (.mv (.t 1)) none), (PO.mk (some 44) (.conv .u64 (.t 43)) none), (PO.mk (some 45) (.call (F 144) [(.t 44)]) none), (PO.mk (some 46) (.call (F 128) [(.t 42), (.t 45)]) none), (PO.mk (some 12) (.mv (.t 46)) none)]) (.seq (.ops [(PO.mk (some 48) (.mv (.t 12)) none), (PO.mk (some 49) (.mv (.t 2)) none), (PO.mk (some 50) (.conv .u64 (.t 49)) none), (PO.mk (some 51) (.call (F 144) [(.t 50)]) none), (PO.mk (some 52) (.call (F 129) [(.t 48), (.t 51)]) none), (PO.mk (some 47) (.mv (.t 52)) none), (PO.mk (some 53) (.ext 0 (.t 47)) none), (PO.mk (some 54) (.ext 1 (.t 47)) none), (PO.mk (some 13) (.mv (.t 53)) none), (PO.mk (some 14) (.mv (.t 54)) none)]) (.seq (.seq (.ops [(PO.mk (some 55) (.mv (.t 12)) none), (PO.mk (some 56) (.call (F 145) [(.t 55)]) none), (PO.mk (some 57) (.bin .gtr (.t 56) (.k (.int .i64 256))) none)]) (.cond (.t 57) (.seq (.ops [(PO.mk (some 59) (.mv (.t 10)) none), (PO.mk (some 60) (.mv (.t 2)) none), (PO.mk (some 61) (.conv .u64 (.t 60)) none), (PO.mk (some 62) (.call (F 144) [(.t 61)]) none), (PO.mk (some 63) (.call (F 129) [(.t 59), (.t 62)]) none), (PO.mk (some 58) (.mv (.t 63)) none), (PO.mk (some 64) (.ext 0 (.t 58)) none), (PO.mk (some 65) (.ext 1 (.t 58)) none), (PO.mk (some 13) (.mv (.t 64)) none)]) (.ops [(PO.mk (some 66) (.mv (.t 13)) none), (PO.mk (some 67) (.mv (.t 1)) none), (PO.mk (some 68) (.conv .u64 (.t 67)) none), (PO.mk (some 69) (.call (F 144) [(.t 68)]) none), (PO.mk (some 70) (.call (F 128) [(.t 66), (.t 69)]) none), (PO.mk (some 13) (.mv (.t 70)) none)])) .skip)) (.seq (.seq (.ops [(PO.mk (some 71) (.mv (.t 13)) none), (PO.mk (some 72) (.call (F 145) [(.t 71)]) none), (PO.mk (some 73) (.bin .gtr (.t 72) (.k (.int .i64 256))) none)]) (.cond (.t 73) (.seq (.ops [(PO.mk (some 74) (.mv (.t 3)) none), (PO.mk (some 75) (.call (F 147) [(.t 74)]) none), (PO.mk (some 8) (.mv (.t 75)) none), (PO.mk (some 9) (.mv (.k (.bool true))) none)]) .ret) .skip)) (.seq (.seq (.ops [(PO.mk (some 76) (.mv (.t 3)) none), (PO.mk (some 77) (.mv (.t 13)) none), (PO.mk (some 78) (.call (F 125) [(.t 76), (.t 77)]) none)]) (.cond (.t 78) (.ops [(PO.mk (some 79) (.mv (.t 3)) none), (PO.mk (some 13) (.mv (.t 79)) none)]) .skip)) (.seq (.ops [(PO.mk (some 80) (.mv (.t 13)) none), (PO.mk (some 81) (.call (F 147) [(.t 80)]) none), (PO.mk (some 8) (.mv (.t 81)) none), (PO.mk (some 9) (.mv (.k (.bool true))) none)]) .ret)))))))))))
-- regions [0, 1, 2, 3, 5, 6, 4, 7]
/- tallystick/tallystickref05.four -/
def k150 (F : Fn) : PF := PF.mk 19 1 [(.t 2)] (.seq (.ops [(PO.mk (some 2) (.mv (.k (.str (ByteArray.mk ⟨[]⟩)))) none)]) (.seq (.ops [(PO.mk (some 3) (.mv (.k (.str (ByteArray.mk ⟨[]⟩)))) none)]) (.seq (.seq (.ops [(PO.mk (some 4) (.mv (.k (.int .i64 0))) none)]) (.block 0 (.loop (.seq (.seq (.ops [(PO.mk (some 5) (.mv (.t 4)) none), (PO.mk (some 6) (.bin .lss (.t 5) (.k (.int .i64 4))) none)]) (.cond (.t 6) .skip (.exit 0))) (.seq (.block 1 (.seq (.ops [(PO.mk (some 9) (.mv (.t 3)) none), (PO.mk (some 10) (.mv (.t 0)) none), (PO.mk (some 11) (.bin .rem (.t 10) (.k (w32 256))) none), (PO.mk (some 12) (.conv .u8 (.t 11)) none), (PO.mk (some 13) (.bsl false 1 1 [(w8 0)] [(0, (1, (.t 12)))]) none), (PO.mk (some 14) (.toStr (.t 13)) none), (PO.mk (some 15) (.bin .add (.t 9) (.t 14)) none), (PO.mk (some 3) (.mv (.t 15)) none)]) (.ops [(PO.mk (some 16) (.mv (.t 0)) none), (PO.mk (some 17) (.bin .quo (.t 16) (.k (w32 256))) none), (PO.mk (some 0) (.mv (.t 17)) none)]))) (.ops [(PO.mk (some 7) (.mv (.t 4)) none), (PO.mk (some 8) (.bin .add (.t 7) (.k (.int .i64 1))) none), (PO.mk (some 4) (.mv (.t 8)) none)])))))) (.seq (.ops [(PO.mk (some 18) (.mv (.t 3)) none), (PO.mk (some 2) (.mv (.t 18)) none)]) .ret))))
-- regions [0, 1]
/- tallystick/tallystickref05.Bytes -/
def k151 (F : Fn) : PF := PF.mk 26 1 [(.t 2)] (.seq (.ops [(PO.mk (some 1) (.box (.t 0)) none), (PO.mk (some 2) (.mv (.k (.str (ByteArray.mk ⟨[]⟩)))) none)]) (.seq (.seq (.frz [1]) (.draw [(.e, (PO.mk (some 3) (.fldA 0 (.t 1)) none)), (.e, (PO.mk (some 4) (.loadE false 1 (.t 3)) none)), (.e, (PO.mk (some 6) (.fldA 1 (.t 1)) none)), (.e, (PO.mk (some 10) (.fldA 33 (.t 1)) none)), (.e, (PO.mk (some 14) (.fldA 65 (.t 1)) none)), (.e, (PO.mk (some 15) (.loadE false 1 (.t 14)) none)), (.e, (PO.mk (some 18) (.fldA 66 (.t 1)) none)), (.e, (PO.mk (some 19) (.loadE false 1 (.t 18)) none)), (.e, (PO.mk (some 22) (.fldA 67 (.t 1)) none)), (.e, (PO.mk (some 23) (.loadE false 1 (.t 22)) none)), (.s, (PO.mk (some 5) (.call (F 150) [(.t 4)]) none)), (.s, (PO.mk (some 7) (.slArr false 32 1 (.t 6) none none) none)), (.s, (PO.mk (some 8) (.toStr (.t 7)) none)), (.e, (PO.mk (some 9) (.bin .add (.t 5) (.t 8)) none)), (.s, (PO.mk (some 11) (.slArr false 32 1 (.t 10) none none) none)), (.s, (PO.mk (some 12) (.toStr (.t 11)) none)), (.e, (PO.mk (some 13) (.bin .add (.t 9) (.t 12)) none)), (.s, (PO.mk (some 16) (.call (F 150) [(.t 15)]) none)), (.e, (PO.mk (some 17) (.bin .add (.t 13) (.t 16)) none)), (.s, (PO.mk (some 20) (.call (F 150) [(.t 19)]) none)), (.e, (PO.mk (some 21) (.bin .add (.t 17) (.t 20)) none)), (.s, (PO.mk (some 24) (.call (F 150) [(.t 23)]) none)), (.e, (PO.mk (some 25) (.bin .add (.t 21) (.t 24)) none)), (.e, (PO.mk (some 2) (.mv (.t 25)) none))])) .ret))
-- regions [0, 1, 2, 3, 5, 6, 7, 9, 10, 8, 4, 11]
/- tallystick/tallystickref05.Bits -/
def k152 (F : Fn) : PF := PF.mk 27 1 [(.t 2)] (.seq (.ops [(PO.mk (some 1) (.box (.t 0)) none), (PO.mk (some 2) (.mv (.k (.sl .nil [] 0))) none)]) (.seq (.ops [(PO.mk (some 3) (.mv (.k (.sl .nil [] 0))) none)]) (.seq (.seq (.ops [(PO.mk (some 4) (.mv (.k (.int .i64 0))) none)]) (.block 0 (.loop (.seq (.seq (.ops [(PO.mk (some 7) (.mv (.t 4)) none), (PO.mk (some 8) (.bin .lss (.t 7) (.k (.int .i64 32))) none)]) (.cond (.t 8) .skip (.exit 0))) (.seq (.block 1 (.seq (.ops [(PO.mk (some 11) (.mv (.t 4)) none), (PO.mk (some 12) (.idxArr 32 1 (.t 1) (.t 11)) none), (PO.mk (some 13) (.load false 1 (.t 12)) none), (PO.mk (some 5) (.mv (.t 13)) none)]) (.seq (.ops [(PO.mk (some 6) (.mv (.k (.int .i64 0))) none)]) (.block 2 (.loop (.seq (.seq (.ops [(PO.mk (some 14) (.mv (.t 6)) none), (PO.mk (some 15) (.bin .lss (.t 14) (.k (.int .i64 8))) none)]) (.cond (.t 15) .skip (.exit 2))) (.seq (.block 3 (.seq (.ops [(PO.mk (some 18) (.mv (.t 3)) none), (PO.mk (some 19) (.mv (.t 5)) none), (PO.mk (some 20) (.bin .rem (.t 19) (.k (w8 2))) none), (PO.mk (some 21) (.bin .eql (.t 20) (.k (w8 1))) none), (PO.mk (some 22) (.bsl false 1 1 [(.bool false)] [(0, (1, (.t 21)))]) none), (PO.mk (some 23) (.app 1 1 (.t 18) (.t 22)) none), (PO.mk (some 3) (.mv (.t 23)) none)]) (.ops [(PO.mk (some 24) (.mv (.t 5)) none), (PO.mk (some 25) (.bin .quo (.t 24) (.k (w8 2))) none), (PO.mk (some 5) (.mv (.t 25)) none)]))) (.ops [(PO.mk (some 16) (.mv (.t 6)) none), (PO.mk (some 17) (.bin .add (.t 16) (.k (.int .i64 1))) none), (PO.mk (some 6) (.mv (.t 17)) none)])))))))) (.ops [(PO.mk (some 9) (.mv (.t 4)) none), (PO.mk (some 10) (.bin .add (.t 9) (.k (.int .i64 1))) none), (PO.mk (some 4) (.mv (.t 10)) none)])))))) (.seq (.seq (.frz [3]) (.ops [(PO.mk (some 26) (.mv (.t 3)) none), (PO.mk (some 2) (.mv (.t 26)) none)])) .ret))))
-- regions [0, 1, 2, 3, 4, 5, 6, 7]
/- tallystick/tallystickref05.Proved -/
def k153 (F : Fn) : PF := PF.mk 37 2 [(.t 4)] (.seq (.ops [(PO.mk (some 2) (.box (.t 0)) none), (PO.mk (some 4) (.mv (.k (.int .i64 0))) none)]) (.seq (.ops [(PO.mk (some 10) (.fldA 66 (.t 2)) none), (PO.mk (some 11) (.load false 1 (.t 10)) none), (PO.mk (some 12) (.call (F 146) [(.t 11)]) none), (PO.mk (some 9) (.mv (.t 12)) none), (PO.mk (some 13) (.ext 0 (.t 9)) none), (PO.mk (some 14) (.ext 1 (.t 9)) none), (PO.mk (some 5) (.mv (.t 13)) none), (PO.mk (some 6) (.mv (.t 14)) none)]) (.seq (.ops [(PO.mk (some 16) (.mv (.t 1)) none), (PO.mk (some 17) (.call (F 146) [(.t 16)]) none), (PO.mk (some 15) (.mv (.t 17)) none), (PO.mk (some 18) (.ext 0 (.t 15)) none), (PO.mk (some 19) (.ext 1 (.t 15)) none), (PO.mk (some 7) (.mv (.t 18)) none), (PO.mk (some 8) (.mv (.t 19)) none)]) (.seq (.seq (.ops [(PO.mk (some 20) (.mv (.t 6)) none), (PO.mk (some 21) (.not (.t 20)) none), (PO.mk (some 22) (.mv (.t 21)) none), (PO.mk (some 23) (.mv (.t 8)) (some (22, false))), (PO.mk (some 24) (.not (.t 23)) (some (22, false))), (PO.mk (some 25) (.pick (.t 22) (.k (.bool true)) (.t 24)) none), (PO.mk (some 26) (.mv (.t 25)) none), (PO.mk (some 27) (.mv (.t 7)) (some (26, false))), (PO.mk (some 28) (.mv (.t 5)) (some (26, false))), (PO.mk (some 29) (.call (F 125) [(.t 27), (.t 28)]) (some (26, false))), (PO.mk (some 30) (.pick (.t 26) (.k (.bool true)) (.t 29)) none)]) (.cond (.t 30) (.seq (.ops [(PO.mk (some 4) (.mv (.k (.int .i64 30))) none)]) .ret) .skip)) (.seq (.seq (.ops [(PO.mk (some 31) (.mv (.t 5)) none), (PO.mk (some 32) (.load true 68 (.t 2)) none), (PO.mk (some 33) (.call (F 151) [(.t 32)]) none), (PO.mk (some 34) (.call (F 134) [(.t 33)]) none), (PO.mk (some 35) (.call (F 152) [(.t 34)]) none), (PO.mk (some 36) (.call (F 125) [(.t 31), (.t 35)]) none)]) (.cond (.t 36) (.seq (.ops [(PO.mk (some 4) (.mv (.k (.int .i64 50))) none)]) .ret) .skip)) (.seq (.ops [(PO.mk (some 4) (.mv (.k (.int .i64 0))) none)]) .ret))))))
structure OkRef05 (P : Program) (F : Fn) : Prop where
  mixed : P.follows .mixedOrders = true
  toOkRef02 : OkRef02 P F
  toOkRef01 : OkRef01 P F
  h144 : compFn P ⟨[], [], [], [], []⟩ (F 144) = some (k144 F)
  h145 : compFn P ⟨[], [], [], [], []⟩ (F 145) = some (k145 F)
  h146 : compFn P ⟨[], [], [(6, [6])], [], []⟩ (F 146) = some (k146 F)
  h147 : compFn P ⟨[], [], [], [], []⟩ (F 147) = some (k147 F)
  h148 : compFn P ⟨[], [], [], [], []⟩ (F 148) = some (k148 F)
  h149 : compFn P ⟨[], [], [], [], []⟩ (F 149) = some (k149 F)
  h150 : compFn P ⟨[], [], [], [], []⟩ (F 150) = some (k150 F)
  h151 : compFn P ⟨[4, 15, 19, 23], [], [(1, [1])], [], []⟩ (F 151) = some (k151 F)
  h152 : compFn P ⟨[], [], [(11, [3])], [], []⟩ (F 152) = some (k152 F)
  h153 : compFn P ⟨[], [], [], [], []⟩ (F 153) = some (k153 F)
end Go.Ab
/-
  tallystickref03: targets, short forms, work, and the bits behind so many.
-/
set_option linter.unusedSimpArgs false
set_option linter.unusedVariables false
set_option maxRecDepth 10000
namespace Go.Ab
open Go Go.RowKit
section
variable {P : Program} {F : Fn}

/-- A list of bits that nobody writes. -/
def slK_ (k : SK) (l : List Bool) : V := .sl k (rowsOf eB l) l.length
theorem rd_slK (k : SK) (l : List Bool) (st : St) : Rd 1 eB (slK_ k l) l st := .inl ⟨k, rfl⟩

/-- small -/
theorem spec144 (ok : OkRef05 P F) (st : St) (x : W) : ACalls P (F 144) [w64 x] st fun v st' => v = slB (bitsN 256 x.toNat) ∧ st' = st := by
  have okr := ok.toOkRef02
  refine shows_call ok.mixed ok.h144 (by simp [k144]) ?_
  simp only [k144, eU_zero0]
  simp
  have hf : fillV (eU 0#256) [(0, 1, w64 x), (1, 1, w64 0#64), (2, 1, w64 0#64), (3, 1, w64 0#64)] = some (eU (x.setWidth 256)) := by
    have : x.setWidth 256 = u4 x 0#64 0#64 0#64 := by
      apply BitVec.eq_of_toNat_eq
      have := x.isLt
      have h : ∀ z : W, z.toNat = 0 → (u4 x z z z).toNat = x.toNat := fun z hz => by rw [u4_nat]; omega
      rw [h _ rfl, BitVec.toNat_setWidth, Nat.mod_eq_of_lt (by omega)]
    rw [this, eU_u4]
    rfl
  have hn : (x.setWidth 256 : U).toNat = x.toNat := by
    have := x.isLt
    rw [BitVec.toNat_setWidth, Nat.mod_eq_of_lt (by omega)]
  simp [hf]
  refine (spec121 okr st (x.setWidth 256)).mono ?_
  rintro v st ⟨rfl, rfl⟩
  rw [hn]
  simp

/-- length -/
theorem bitlen_top {V k : Nat} (h1 : V < 2 ^ (k + 1)) (h2 : V / 2 ^ k % 2 = 1) : bitlen V = k + 1 := by
  have h3 : 2 ^ k ≤ V := by
    rcases Nat.lt_or_ge V (2 ^ k) with h | h
    · rw [Nat.div_eq_of_lt h] at h2; cases h2
    · exact h
  have := bitlen_le.2 h1
  have := bitlen_lt.2 h3
  omega
theorem bitlen_down {V k : Nat} (h1 : V < 2 ^ (k + 1)) (h2 : V / 2 ^ k % 2 = 0) : V < 2 ^ k := by
  rcases Nat.lt_or_ge V (2 ^ k) with h | h
  · exact h
  · have : V / 2 ^ k = 1 := Nat.div_eq_of_lt_le (by omega) (by rw [Nat.pow_succ] at h1; omega)
    omega
theorem spec145 (ok : OkRef05 P F) {st : St} {s : V} {l : List Bool} (h : Rd 1 eB s l st) (hl : l.length ≤ 100000) : ACalls P (F 145) [s] st fun v st' => v = .int .i64 (bitlen (valB l)) ∧ st' = st := by
  refine shows_call ok.mixed ok.h145 (by simp [k145]) ?_
  simp only [k145]
  have hlen := h.len
  simp [hlen]
  refine vc_loopJ (fun k env' st' => k ≤ l.length ∧ env' 3 = .int .i64 (k : Nat) ∧ valB l < 2 ^ k ∧ st' = st) l.length
    ⟨by omega, rfl, valB_lt l, rfl⟩ ?_
  rintro J hJ k env' st2 hsame ⟨hk, h3, hv, rfl⟩
  have g0 := hsame.get 0 rfl
  simp at g0
  clear hsame
  cases k with
  | zero =>
    have : valB l = 0 := by simpa using hv
    simp at h3
    simp [h3, this, bitlen]
  | succ i =>
    have hi : i < l.length := by omega
    obtain ⟨p, hp1, hp2⟩ := h.idx eB_len hi .i64
    have hbit : l[i] = (valB l / 2 ^ i % 2 == 1) := by
      have := atB_eq l i
      rw [← this]; simp [atB, hi]
    have w1 : IntKind.i64.wrap (i : Int) = (i : Int) := wrap64 (by omega) (by omega)
    have hpos : (0 : Int) < ((i + 1 : Nat) : Int) := by omega
    rw [show ((i + 1 : Nat) : Int) = (i : Int) + 1 by omega] at h3 hpos
    cases hb : l[i] with
    | true =>
      rw [hb] at hbit hp2
      have := bitlen_top hv (by simpa using hbit.symm)
      simp [g0, h3, w1, hpos, hp1, hp2, eB, this]
    | false =>
      rw [hb] at hbit hp2
      have h2 : valB l / 2 ^ i % 2 = 0 := by
        have : ¬ valB l / 2 ^ i % 2 = 1 := by simpa using hbit.symm
        omega
      simp [g0, h3, w1, hpos, hp1, hp2, eB]
      exact Round.mk i _ (by omega) (sub_self _) (hJ _ _ _ ⟨by omega, by simp, bitlen_down hv h2, rfl⟩)

theorem shiftB_val (l : List Bool) (n : Int) : valB (shiftB l n) = if 0 ≤ n then valB l * 2 ^ n.toNat else valB l / 2 ^ (-n).toNat := by
  unfold shiftB
  split
  · rw [shlB_val]
  · rw [valB_drop]
/-- What Target gives. -/
def TgtB (b : W32) (v : V) : Prop := match tgt b with | none => v = .tup [.sl .nil [] 0, .bool false] | some t => ∃ k l, v = .tup [slK_ k l, .bool true] ∧ valB l = t ∧ l.length ≤ 3000
set_option maxHeartbeats 1000000 in
theorem spec146 (ok : OkRef05 P F) (st : St) (b : W32) : ACalls P (F 146) [w32 b] st fun v st' => TgtB b v ∧ st' = st := by
  have okr := ok.toOkRef02
  have hb := b.isLt
  refine shows_call ok.mixed ok.h146 (by simp [k146]) ?_
  simp only [k146]
  obtain ⟨size, hsize⟩ : ∃ n, n = b.toNat / 16777216 := ⟨_, rfl⟩
  obtain ⟨word, hword⟩ : ∃ n, n = b.toNat % 16777216 := ⟨_, rfl⟩
  have hsz : size ≤ 255 := by omega
  have c1 : convV .i64 (w32 (b / 16777216#32)) = some (.int .i64 (size : Int)) := by
    rw [conv_32_i, BitVec.toNat_udiv, hsize]; rfl
  obtain ⟨X, hX⟩ : ∃ X : W, X = (b % 16777216#32).setWidth 64 := ⟨_, rfl⟩
  have hXn : X.toNat = word := by
    rw [hX, BitVec.toNat_setWidth, BitVec.toNat_umod]
    show b.toNat % 16777216 % 18446744073709551616 = word
    omega
  have c2 : convV .u64 (w32 (b % 16777216#32)) = some (w64 X) := by rw [conv_32_64, hX]
  have e1 : (8388608#64 ≤ X) = (8388608 ≤ word) := by
    rw [BitVec.le_def, hXn]; rfl
  have e2 : (X == 0#64) = decide (word = 0) := by
    rw [Bool.eq_iff_iff, beq_iff_eq, decide_eq_true_eq]
    constructor
    · intro h; rw [← hXn, h]; rfl
    · intro h; apply BitVec.eq_of_toNat_eq; rw [hXn, h]; rfl
  simp [c1, c2, -conv_32_i, -conv_32_64, e1, e2]
  have htg : tgt b = if word = 0 ∨ 8388608 ≤ word then none else if tgtV size word = 0 ∨ 2 ^ 256 ≤ tgtV size word then none else some (tgtV size word) := by
    unfold tgt
    rw [← hsize, ← hword]
  by_cases h1 : 8388608 ≤ word
  · have : tgt b = none := by rw [htg, if_pos (.inr h1)]
    simp [h1, TgtB, this]
  by_cases h0 : word = 0
  · have : tgt b = none := by rw [htg, if_pos (.inl h0)]
    simp [h1, h0, e2, TgtB, this]
  rw [if_neg (by omega)] at htg
  have w1 : IntKind.i64.wrap ((size : Int) - 3) = (size : Int) - 3 := wrap64 (by omega) (by omega)
  have w2 : IntKind.i64.wrap (8 * ((size : Int) - 3)) = 8 * ((size : Int) - 3) := wrap64 (by omega) (by omega)
  simp [h1, h0, e2]
  refine (spec144 ok st X).mono ?_
  rintro v st ⟨rfl, rfl⟩
  rw [hXn]
  simp [w1, w2]
  refine (spec127 okr (st := st) (rd_slK .some (bitsN 256 word) st) (by rw [bitsN_len]; omega) (8 * ((size : Int) - 3)) (by omega)).mono ?_
  intro v st2 S
  obtain ⟨L, hL⟩ : ∃ L, L = shiftB (bitsN 256 word) (8 * ((size : Int) - 3)) := ⟨_, rfl⟩
  rw [← hL] at S
  have hLl : L.length ≤ 3000 := by
    have := shiftB_len (bitsN 256 word) (8 * ((size : Int) - 3))
    rw [bitsN_len, ← hL] at this
    omega
  have hLv : valB L = tgtV size word := by
    have hwl : word < 2 ^ 256 := Nat.lt_of_lt_of_le (show word < 2 ^ 24 by show word < 16777216; omega) (Nat.pow_le_pow_right (by omega) (by omega))
    rw [hL, shiftB_val, valB_bitsN, Nat.mod_eq_of_lt hwl, tgtV]
    by_cases h3 : size ≤ 3
    · rw [if_pos h3]
      by_cases h4 : size = 3
      · subst h4; simp
      · rw [if_neg (by omega), show (-(8 * ((size : Int) - 3))).toNat = 8 * (3 - size) by omega]
    · rw [if_neg h3, if_pos (by omega), show (8 * ((size : Int) - 3)).toNat = 8 * (size - 3) by omega]
  simp
  obtain ⟨k, st3, hf, S3, _⟩ := S.frzSl eB_len
  refine frzP_one (v := slK_ k L) (st' := st3) (by simp [hf, slK_]) ?_
  have hsub : St.sub st st3 := S3.was' (by simp)
  simp
  refine (spec145 ok (rd_slK k L st3) (by omega)).mono ?_
  rintro v st3 ⟨rfl, rfl⟩
  rw [hLv]
  by_cases hz : tgtV size word = 0
  · have h2 : tgt b = none := by rw [htg, if_pos (.inl hz)]
    have hb0 : bitlen (tgtV size word) = 0 := by rw [hz]; rfl
    simp [hb0, TgtB, h2]
    exact hsub
  · have hbp := bitlen_pos.2 (Nat.pos_of_ne_zero hz)
    have hb0 : ((bitlen (tgtV size word) : Int) == 0) = false := by simp; omega
    simp [hb0]
    refine (spec145 ok (rd_slK k L st3) (by omega)).mono ?_
    rintro v st3 ⟨rfl, rfl⟩
    rw [hLv]
    by_cases hbig : 2 ^ 256 ≤ tgtV size word
    · have h2 : tgt b = none := by rw [htg, if_pos (.inr hbig)]
      have hb1 : (256 : Int) < bitlen (tgtV size word) := by have := bitlen_lt.2 hbig; omega
      simp [hb1, TgtB, h2]
      exact hsub
    · have h2 : tgt b = some (tgtV size word) := by rw [htg, if_neg (by omega)]
      have hb1 : ¬ (256 : Int) < bitlen (tgtV size word) := by have := bitlen_le.2 (Nat.not_le.1 hbig); omega
      have hT : TgtB b (.tup [slK_ k L, .bool true]) := by
        rw [TgtB, h2]
        exact ⟨k, L, rfl, hLv, hLl⟩
      simp [hb1, hT]
      exact hsub

theorem short_join (z w : Nat) (X : W) (hX : X.toNat = w) : BitVec.ofInt 32 (z : Int) * 16777216#32 + X.setWidth 32 = BitVec.ofNat 32 (z * 16777216 + w) := by
  have e : X.setWidth 32 = BitVec.ofNat 32 w := by
    apply BitVec.eq_of_toNat_eq
    rw [BitVec.toNat_setWidth, BitVec.toNat_ofNat, hX]
  rw [BitVec.ofInt_natCast, BitVec.ofNat_add, BitVec.ofNat_mul, e]
theorem none_sub {st s : St} {i : Nat} (h : St.sub st s) (hi : s i = none) : st i = none := by
  cases e : st i with
  | none => rfl
  | some o => rw [h i o e] at hi; cases hi
set_option maxHeartbeats 1000000 in
/-- Short -/
theorem spec147 (ok : OkRef05 P F) {st : St} {s : V} {l : List Bool} (h : Rd 1 eB s l st) (hl : l.length ≤ 5000) : ACalls P (F 147) [s] st fun v st' => v = w32 (shortN (valB l)) ∧ st' = st := by
  have okr := ok.toOkRef02
  refine shows_call ok.mixed ok.h147 (by simp [k147]) ?_
  simp only [k147]
  obtain ⟨t, ht⟩ : ∃ t, t = valB l := ⟨_, rfl⟩
  rw [← ht]
  have hL : bitlen t ≤ l.length := by
    rw [ht]; exact bitlen_le.2 (valB_lt l)
  have len : ∀ {st : St}, Rd 1 eB s l st → ACalls P (F 145) [s] st fun v st' => v = .int .i64 (bitlen t) ∧ st' = st := fun h => by
    rw [ht]; exact spec145 ok h (by omega)
  have w1 : IntKind.i64.wrap ((bitlen t : Int) + 7) = (bitlen t : Int) + 7 := wrap64 (by omega) (by omega)
  obtain ⟨q, hq⟩ : ∃ q, q = (bitlen t + 7) / 8 := ⟨_, rfl⟩
  have d1 : ((bitlen t : Int) + 7).tdiv 8 = (q : Int) := by rw [Int.tdiv_eq_ediv_of_nonneg (by omega)]; omega
  have w2 : IntKind.i64.wrap (q : Int) = q := wrap64 (by omega) (by omega)
  obtain ⟨z, hz⟩ : ∃ z, z = sizeN t := ⟨_, rfl⟩
  have hz2 : z = q + (if 0 < bitlen t ∧ bitlen t % 8 = 0 then 1 else 0) := by rw [hz, sizeN, hq]
  have hzl : z ≤ 700 := by split at hz2 <;> omega
  have w4 : IntKind.i64.wrap ((z : Int) - 3) = (z : Int) - 3 := wrap64 (by omega) (by omega)
  have w5 : IntKind.i64.wrap (-8 * ((z : Int) - 3)) = -(8 * ((z : Int) - 3)) := by rw [wrap64 (by omega) (by omega)]; omega
  have w5' : IntKind.i64.wrap (-(8 * ((z : Int) - 3))) = -(8 * ((z : Int) - 3)) := wrap64 (by omega) (by omega)
  have hlv : valB (shiftB l (-(8 * ((z : Int) - 3)))) = wordN t := by
    rw [shiftB_val, ← ht, wordN, ← hz]
    by_cases h3 : z ≤ 3
    · rw [if_pos h3, if_pos (by omega), show (-(8 * ((z : Int) - 3))).toNat = 8 * (3 - z) by omega]
    · rw [if_neg h3, if_neg (by omega), show (- -(8 * ((z : Int) - 3))).toNat = 8 * (z - 3) by omega]
  have hll : (shiftB l (-(8 * ((z : Int) - 3)))).length ≤ 100000 := by
    have := shiftB_len l (-(8 * ((z : Int) - 3)))
    omega
  have hwl := wordN_lt t
  have hsp : ∀ x y : U, spliceV (eU x) 0 (eU y) = eU y := fun _ _ => rfl
  have hsg : segOf (eU (natU (wordN t))) 0 1 = some [w64 (limb (natU (wordN t)) 0)] := rfl
  have hlimb : (limb (natU (wordN t)) 0).toNat = wordN t := by
    have : (natU (wordN t)).toNat = wordN t := natU_nat (Nat.lt_of_lt_of_le (show wordN t < 2 ^ 23 from hwl) (Nat.pow_le_pow_right (by omega) (by omega)))
    rw [limb_small (by omega), this]
  have hres := short_join z (wordN t) _ hlimb
  have hsn : shortN t = BitVec.ofNat 32 (z * 16777216 + wordN t) := by rw [shortN, ← hz]
  rw [← hsn] at hres
  simp
  refine (len h).mono ?_
  rintro v st ⟨rfl, rfl⟩
  simp [w1, d1, w2]
  refine (len h).mono ?_
  rintro v st ⟨rfl, rfl⟩
  by_cases h0 : 0 < bitlen t
  · have h0' : (0 : Int) < bitlen t := by omega
    simp [h0]
    refine (len h).mono ?_
    rintro v st ⟨rfl, rfl⟩
    by_cases h8 : bitlen t % 8 = 0
    · have h8' : ((bitlen t : Int).tmod 8 == 0) = true := by rw [beq_iff_eq, Int.tmod_eq_emod_of_nonneg (by omega)]; omega
      have hzc : (z : Int) = (q : Int) + 1 := by rw [if_pos ⟨h0, h8⟩] at hz2; omega
      have w3 : IntKind.i64.wrap ((q : Int) + 1) = (z : Int) := by rw [wrap64 (by omega) (by omega)]; omega
      simp [h8', w3, w4, w5, w5']
      refine (spec127 okr h (by omega) (-(8 * ((z : Int) - 3))) (by omega)).mono ?_
      intro v st2 S
      have hsub := S.was' (st0 := st) (by simp)
      simp
      refine (spec122 okr (S.rd eB_len) hll).mono ?_
      rintro w st2 ⟨rfl, rfl⟩
      rw [hlv]
      simp [eU_zero]
      intro i4 h4
      have hst : storeS (st2.upd i4 (.cells (eU 0#256))) 4 (.ptr (some (i4, 0))) (nU (natU (wordN t))) = some (st2.upd i4 (.cells (eU (natU (wordN t))))) := by
        simp [storeS, nU, eU_len, hsp]
      simp [hst, idxArrV, St.seg, hsg, ← hres]
      exact sub_ups hsub (none_sub hsub h4)
    · have h8' : ((bitlen t : Int).tmod 8 == 0) = false := by
        rw [beq_eq_false_iff_ne, Int.tmod_eq_emod_of_nonneg (by omega)]; omega
      have hzc : z = q := by rw [if_neg (by omega)] at hz2; omega
      rw [← hzc]
      simp [h8', w4, w5, w5']
      refine (spec127 okr h (by omega) (-(8 * ((z : Int) - 3))) (by omega)).mono ?_
      intro v st2 S
      have hsub := S.was' (st0 := st) (by simp)
      simp
      refine (spec122 okr (S.rd eB_len) hll).mono ?_
      rintro w st2 ⟨rfl, rfl⟩
      rw [hlv]
      simp [eU_zero]
      intro i4 h4
      have hst : storeS (st2.upd i4 (.cells (eU 0#256))) 4 (.ptr (some (i4, 0))) (nU (natU (wordN t))) = some (st2.upd i4 (.cells (eU (natU (wordN t))))) := by
        simp [storeS, nU, eU_len, hsp]
      simp [hst, idxArrV, St.seg, hsg, ← hres]
      exact sub_ups hsub (none_sub hsub h4)
  · have h0' : ¬ (0 : Int) < bitlen t := by omega
    have hzc : z = q := by rw [if_neg (by omega)] at hz2; omega
    rw [← hzc]
    simp [h0, w4, w5, w5']
    refine (spec127 okr h (by omega) (-(8 * ((z : Int) - 3))) (by omega)).mono ?_
    intro v st2 S
    have hsub := S.was' (st0 := st) (by simp)
    simp
    refine (spec122 okr (S.rd eB_len) hll).mono ?_
    rintro w st2 ⟨rfl, rfl⟩
    rw [hlv]
    simp [eU_zero]
    intro i4 h4
    have hst : storeS (st2.upd i4 (.cells (eU 0#256))) 4 (.ptr (some (i4, 0))) (nU (natU (wordN t))) = some (st2.upd i4 (.cells (eU (natU (wordN t))))) := by
      simp [storeS, nU, eU_len, hsp]
    simp [hst, idxArrV, St.seg, hsg, ← hres]
    exact sub_ups hsub (none_sub hsub h4)
end
end Go.Ab
/-
  tallystickref03: work, and the bits behind so many.
-/
set_option linter.unusedSimpArgs false
set_option linter.unusedVariables false
set_option maxRecDepth 10000
namespace Go.Ab
open Go Go.RowKit
section
variable {P : Program} {F : Fn}

theorem one_nat : (1#64 : W).toNat = 1 := rfl
theorem val_one : valB (bitsN 256 1) = 1 := by
  rw [valB_bitsN]
set_option maxHeartbeats 1000000 in
/-- Work -/
theorem spec148 (ok : OkRef05 P F) {st : St} {s : V} {l : List Bool} (h : Rd 1 eB s l st) (hl : l.length ≤ 5000) (hv : valB l < 2 ^ 256) : ACalls P (F 148) [s] st fun v st' => v = slB (bitsN 512 (workN (valB l))) ∧ st' = st := by
  have okr := ok.toOkRef02
  refine shows_call ok.mixed ok.h148 (by simp [k148]) ?_
  simp only [k148]
  simp
  refine (spec144 ok st 1#64).mono ?_
  rintro v st ⟨rfl, rfl⟩
  rw [one_nat]
  simp
  refine (spec127 okr (st := st) (rd_slK .some (bitsN 256 1) st) (by rw [bitsN_len]; omega) 256 (by omega)).mono ?_
  intro v st2 S
  have hsub := S.was' (st0 := st) (by simp)
  obtain ⟨L, hL⟩ : ∃ L, L = shiftB (bitsN 256 1) 256 := ⟨_, rfl⟩
  have hLl : L.length = 512 := by rw [hL]; simp [shiftB, shlB, bitsN_len]
  have hLv : valB L = 2 ^ 256 := by rw [hL, shiftB_val, if_pos (by omega), val_one, Nat.one_mul]; rfl
  rw [← hL] at S
  simp
  refine (spec144 ok st2 1#64).mono ?_
  rintro w st2 ⟨rfl, rfl⟩
  rw [one_nat]
  simp
  refine (spec124 okr (st := st2) (h.sub hsub) (rd_slK .some (bitsN 256 1) st2) (by omega) (by rw [bitsN_len]; omega)).mono ?_
  rintro w st2 ⟨rfl, rfl⟩
  have hav : valB (addB l (bitsN 256 1)) = valB l + 1 := by rw [addB_val, val_one]
  simp
  refine (spec129 okr (st := st2) (S.rd eB_len) (rd_slK .some (addB l (bitsN 256 1)) st2) (by omega) (by rw [addB_len, bitsN_len]; omega) (by rw [hav]; omega) (by rw [hav]; omega)).mono ?_
  rintro w st2 ⟨⟨k, u, rfl, hk⟩, rfl⟩
  rw [hLl] at hk
  have hk := hk (by omega)
  subst hk
  rw [hav, hLv, hLl]
  simp
  exact ⟨hsub, by simp [slB, bitsN_len, workN]⟩

theorem tk_ref {took : Int} {sh : Nat} (hsh : sh ≤ 1099511627776) :
    ((max took ((sh : Int) / 4)) > 4 * (sh : Int) → clampT took sh = 4 * sh) ∧ (¬ (max took ((sh : Int) / 4)) > 4 * (sh : Int) → (clampT took sh : Int) = max took ((sh : Int) / 4)) := by
  unfold clampT
  rw [Int.tdiv_eq_ediv_of_nonneg (by omega)]
  constructor <;> intro h <;> omega

set_option maxHeartbeats 4000000 in
/-- Next -/
theorem spec149 (ok : OkRef05 P F) {st : St} (b : W32) (took should : Int) {s : V} {lim : List Bool} (hlim : Rd 1 eB s lim st) (ll : lim.length ≤ 5000) (hr : -9223372036854775808 ≤ took ∧ took ≤ 9223372036854775807) :
    ACalls P (F 149) [w32 b, .int .i64 took, .int .i64 should, s] st fun v st' => v = nextR b took should (valB lim) ∧ st' = st := by
  have okr := ok.toOkRef02
  refine shows_call ok.mixed ok.h149 (by simp [k149]) ?_
  simp only [k149]
  simp
  refine (spec146 ok st b).mono ?_
  rintro v st ⟨hT, rfl⟩
  unfold TgtB at hT
  cases htg : tgt b with
  | none =>
    rw [htg] at hT
    subst hT
    have : nextR b took should (valB lim) = .tup [w32 0#32, .bool false] := by rw [nextR, nextN, htg]
    simp [this]
  | some t =>
    rw [htg] at hT
    obtain ⟨k, T, rfl, hTv, hTl⟩ := hT
    simp
    by_cases hs1 : should < 1
    · have : nextR b took should (valB lim) = .tup [w32 0#32, .bool false] := by rw [nextR, nextN, htg]; simp [hs1]
      simp [hs1, this]
    by_cases hs2 : 1099511627776 < should
    · have : nextR b took should (valB lim) = .tup [w32 0#32, .bool false] := by rw [nextR, nextN, htg]; simp [hs1, hs2]
      simp [hs1, hs2, this]
    have e : nextR b took should (valB lim) = .tup [w32 (shortN (nextT t (clampT took should) should.toNat (valB lim))), .bool true] := by
      rw [nextR, nextN, htg]; simp [hs1, hs2]
    rw [e]
    have hcl := clampT_le (took := took) (should := should) (by omega) (by omega)
    obtain ⟨sh, rfl⟩ := Int.eq_ofNat_of_zero_le (show 0 ≤ should by omega)
    obtain ⟨t1, t2⟩ := tk_ref (took := took) (sh := sh) (by omega)
    obtain ⟨tk, htk⟩ : ∃ tk, tk = clampT took sh := ⟨_, rfl⟩
    rw [← htk] at hcl t1 t2 ⊢
    have hshl : sh ≤ 1099511627776 := by omega
    have hsh0 : 0 < sh := by omega
    have w4 : IntKind.i64.wrap (4 * (sh : Int)) = 4 * (sh : Int) := wrap64 (by omega) (by omega)
    have w0 : IntKind.i64.wrap ((sh : Int) / 4) = (sh : Int) / 4 := wrap64 (by omega) (by omega)
    obtain ⟨TK, hTK⟩ : ∃ TK : W, TK = BitVec.ofInt 64 (tk : Int) := ⟨_, rfl⟩
    have hTKn : TK.toNat = tk := by rw [hTK]; exact of64 (by omega)
    obtain ⟨SH, hSH⟩ : ∃ SH : W, SH = BitVec.ofInt 64 (sh : Int) := ⟨_, rfl⟩
    have hSHn : SH.toNat = sh := by rw [hSH]; exact of64 (by omega)
    have c1 : convV .u64 (.int .i64 (tk : Int)) = some (w64 TK) := by rw [hTK, conv_i_64]
    have c2 : convV .u64 (.int .i64 (sh : Int)) = some (w64 SH) := by rw [hSH, conv_i_64]
    have vtk : valB (bitsN 256 tk) = tk := by
      rw [valB_bitsN]; exact Nat.mod_eq_of_lt (Nat.lt_of_lt_of_le (show tk < 2 ^ 64 by omega) (Nat.pow_le_pow_right (by omega) (by omega)))
    have vsh : valB (bitsN 256 sh) = sh := by
      rw [valB_bitsN]; exact Nat.mod_eq_of_lt (Nat.lt_of_lt_of_le (show sh < 2 ^ 64 by omega) (Nat.pow_le_pow_right (by omega) (by omega)))
    have h256 : sh ≤ 2 ^ 256 := Nat.le_of_lt (Nat.lt_of_lt_of_le (show sh < 2 ^ 64 by omega) (Nat.pow_le_pow_right (by omega) (by omega)))
    rw [Int.toNat_natCast]
    -- the product
    obtain ⟨X, hX⟩ : ∃ X, X = mulB T (bitsN 256 tk) 0 [] := ⟨_, rfl⟩
    have hXv : valB X = t * tk := by rw [hX, mulB_val, hTv, vtk]; simp [valB]
    have hXl : X.length ≤ 4000 := by
      have := mulB_len T (bitsN 256 tk) 0 []
      rw [← hX, bitsN_len] at this
      simp at this
      omega
    have len : ∀ (k : SK) (l : List Bool) (st : St), l.length ≤ 100000 → ACalls P (F 145) [slK_ k l] st fun v st' => v = .int .i64 (bitlen (valB l)) ∧ st' = st := fun k l st hl => spec145 ok (rd_slK k l st) hl
    have big : ∀ n : Nat, ((256 : Int) < (bitlen n : Int)) = (2 ^ 256 ≤ n) := fun n => by
      rw [eq_iff_iff, ← bitlen_lt]; omega
    simp [hs1, hs2, w4, w0]
    refine condB_join (fun env' st' => env' 1 = .int .i64 (max took ((sh : Int) / 4)) ∧ st' = st) ?_ ?_
    · by_cases h : took < (sh : Int) / 4 <;> simp [h, w0] <;> omega
    rintro env' st' hsame ⟨h1, rfl⟩
    have g2 := hsame.get 2 rfl
    have g3 := hsame.get 3 rfl
    have g10 := hsame.get 10 rfl
    simp at g2 g3 g10
    clear hsame
    simp [g2, h1, w4]
    refine condB_join (fun env' st2 => env' 1 = .int .i64 (tk : Int) ∧ st2 = st') ?_ ?_
    · by_cases h : 4 * (sh : Int) < (max took ((sh : Int) / 4))
      · have := t1 h
        simp [h, g2, w4, this]
      · have := t2 h
        simp [h, h1, this]
    rintro env2 st2 hsame ⟨h1, rfl⟩
    have g2 := (hsame.get 2 rfl).trans g2
    have g3 := (hsame.get 3 rfl).trans g3
    have g10 := (hsame.get 10 rfl).trans g10
    clear hsame t1 t2
    simp [g2, g3, g10, h1, c1, -conv_i_64]
    refine (spec144 ok st2 TK).mono ?_
    rintro v st2 ⟨rfl, rfl⟩
    rw [hTKn]
    simp
    refine (spec128 okr (st := st2) (rd_slK k T st2) (rd_slK .some (bitsN 256 tk) st2) (by omega) (by rw [bitsN_len]; omega)).mono ?_
    rintro v st2 ⟨⟨kx, hv⟩, rfl⟩
    rw [← hX] at hv
    subst hv
    simp [g2, c2, -conv_i_64]
    refine (spec144 ok st2 SH).mono ?_
    rintro v st2 ⟨rfl, rfl⟩
    rw [hSHn]
    simp
    refine (spec129 okr (st := st2) (rd_slK kx X st2) (rd_slK .some (bitsN 256 sh) st2) (by omega) (by rw [bitsN_len]; omega) (by rw [vsh]; exact hsh0) (by rw [vsh]; exact h256)).mono ?_
    rintro v st2 ⟨⟨kq, u, rfl, -⟩, rfl⟩
    rw [vsh, hXv]
    simp
    refine (len kx X st2 (by omega)).mono ?_
    rintro v st2 ⟨rfl, rfl⟩
    rw [hXv]
    simp
    refine condB_join (fun env' st3 => ∃ (k3 : SK) (Q : List Bool), env' 13 = slK_ k3 Q ∧ Q.length ≤ 4000 ∧ valB Q = (if t * tk < 2 ^ 256 then t * tk / sh else t / sh * tk) ∧ st3 = st2) ?_ ?_
    · by_cases hb : 2 ^ 256 ≤ t * tk
      · have hb' : (256 : Int) < bitlen (t * tk) := (big _).mpr hb
        simp [hb', g2, g10, h1, c1, c2, -conv_i_64]
        refine (spec144 ok st2 SH).mono ?_
        rintro v st2 ⟨rfl, rfl⟩
        rw [hSHn]
        simp
        refine (spec129 okr (st := st2) (rd_slK k T st2) (rd_slK .some (bitsN 256 sh) st2) (by omega) (by rw [bitsN_len]; omega) (by rw [vsh]; exact hsh0) (by rw [vsh]; exact h256)).mono ?_
        rintro v st2 ⟨⟨kd, u2, rfl, -⟩, rfl⟩
        rw [vsh, hTv]
        simp [h1, c1, -conv_i_64]
        refine (spec144 ok st2 TK).mono ?_
        rintro v st2 ⟨rfl, rfl⟩
        rw [hTKn]
        have hql : (bitsN T.length (t / sh)).length = T.length := bitsN_len _ _
        have hqv : valB (bitsN T.length (t / sh)) = t / sh := by
          rw [valB_bitsN]
          have : t < 2 ^ T.length := by rw [← hTv]; exact valB_lt T
          exact Nat.mod_eq_of_lt (Nat.lt_of_le_of_lt (Nat.div_le_self _ _) this)
        simp
        refine (spec128 okr (st := st2) (a := bitsN T.length (t / sh)) (.inl ⟨kd, by rw [hql]⟩) (rd_slK .some (bitsN 256 tk) st2) (by rw [hql]; omega) (by rw [bitsN_len]; omega)).mono ?_
        rintro v st2 ⟨⟨km, rfl⟩, rfl⟩
        have hml := mulB_len (bitsN T.length (t / sh)) (bitsN 256 tk) 0 []
        rw [hql, bitsN_len] at hml
        simp at hml
        have hmv : valB (mulB (bitsN T.length (t / sh)) (bitsN 256 tk) 0 []) = t / sh * tk := by
          rw [mulB_val, hqv, vtk]; simp [valB]
        simp
        refine ⟨km, _, rfl, by omega, ?_⟩
        rw [hmv, if_neg (by omega)]
      · have hb' : ¬ (256 : Int) < bitlen (t * tk) := fun h => hb ((big _).mp h)
        have hXb : X.length = (bitsN X.length (t * tk / sh)).length := (bitsN_len _ _).symm
        simp [hb']
        refine ⟨kq, bitsN X.length (t * tk / sh), ?_, by rw [bitsN_len]; exact hXl, ?_⟩
        · rw [slK_, bitsN_len]
        · rw [valB_bitsN, if_pos (by omega), Nat.mod_eq_of_lt]
          have : t * tk < 2 ^ X.length := by rw [← hXv]; exact valB_lt X
          exact Nat.lt_of_le_of_lt (Nat.div_le_self _ _) this
    rintro env3 st3 hsame ⟨k3, Q, h13, hQl, hQv, rfl⟩
    have g3 := (hsame.get 3 rfl).trans (by simp [g3] : _ = s)
    clear hsame
    have hres : nextT t tk sh (valB lim) = if 2 ^ 256 ≤ valB Q ∨ valB lim < valB Q then valB lim else valB Q := by rw [nextT, ← hQv]
    simp [h13]
    refine (len k3 Q st3 (by omega)).mono ?_
    rintro v st3 ⟨rfl, rfl⟩
    by_cases hb : 2 ^ 256 ≤ valB Q
    · have hb' : (256 : Int) < bitlen (valB Q) := (big _).mpr hb
      rw [hres, if_pos (.inl hb)]
      simp [hb', g3]
      refine (spec147 ok hlim ll).mono ?_
      rintro v st3 ⟨rfl, rfl⟩
      simp
    · have hb' : ¬ (256 : Int) < bitlen (valB Q) := fun h => hb ((big _).mp h)
      simp [hb', g3, h13]
      refine (spec125 okr (st := st3) hlim (rd_slK k3 Q st3) (by omega) (by omega)).mono ?_
      rintro v st3 ⟨rfl, rfl⟩
      by_cases hl : valB lim < valB Q
      · rw [hres, if_pos (.inr hl)]
        simp [hl, g3]
        refine (spec147 ok hlim ll).mono ?_
        rintro v st3 ⟨rfl, rfl⟩
        simp
      · rw [hres, if_neg (by omega)]
        simp [hl, h13]
        refine (spec147 ok (rd_slK k3 Q st3) (by omega)).mono ?_
        rintro v st3 ⟨rfl, rfl⟩
        simp
end
end Go.Ab
/-
  Strings as lists of bytes.
-/
set_option linter.unusedSimpArgs false
set_option linter.unusedVariables false
namespace Go.Ab
open Go Go.RowKit
def sB (l : List UInt8) : V := .str ⟨l.toArray⟩
theorem sB_add (a b : List UInt8) (h : a.length + b.length ≤ 1000000000) : binV .add (sB a) (sB b) = some (sB (a ++ b)) := by
  have e : (⟨a.toArray⟩ : ByteArray) ++ ⟨b.toArray⟩ = ⟨(a ++ b).toArray⟩ := by
    apply ByteArray.ext
    simp [ByteArray.data_append]
  simp only [sB, binV]
  rw [if_pos (by simpa [ByteArray.size] using h), e]
theorem sB_nil : V.str ⟨([] : List UInt8).toArray⟩ = sB [] := rfl
theorem sB_len (l : List UInt8) : lenStrV (sB l) = some (.int .i64 l.length) := by simp [sB, lenStrV, ByteArray.size]
theorem toStr_sB {s : V} {l : List UInt8} {st : St} (h : Rd 1 e8 s l st) (hs : ∀ x, s ≠ .str x) : toStrV st s = some (sB l) := toStr_rd h hs
end Go.Ab
/-
  head: bytes, names, proofs, mining.
-/
set_option linter.unusedSimpArgs false
set_option linter.unusedVariables false
set_option maxRecDepth 10000
namespace Go.Ab
open Go Go.RowKit
section
variable {P : Program} {F : Fn}

theorem hseg0 (h : Hdr) : segOf (eHdr h) 0 1 = some [w32 h.ver] := by
  simp [segOf, eHdr, eId_len]
theorem hdrop1 (h : Hdr) : (eHdr h).drop 1 = eId h.prev ++ (eId h.root ++ [w32 h.time, w32 h.bits, w32 h.nonce]) := rfl
theorem hdrop33 (h : Hdr) : (eHdr h).drop 33 = eId h.root ++ [w32 h.time, w32 h.bits, w32 h.nonce] := by
  rw [show 33 = 1 + 32 from rfl, ← List.drop_drop, hdrop1, List.drop_left' (eId_len _)]
theorem hdrop65 (h : Hdr) : (eHdr h).drop 65 = [w32 h.time, w32 h.bits, w32 h.nonce] := by
  rw [show 65 = 33 + 32 from rfl, ← List.drop_drop, hdrop33, List.drop_left' (eId_len _)]
theorem hdrop66 (h : Hdr) : (eHdr h).drop 66 = [w32 h.bits, w32 h.nonce] := by
  rw [show 66 = 65 + 1 from rfl, ← List.drop_drop, hdrop65]; rfl
theorem hdrop67 (h : Hdr) : (eHdr h).drop 67 = [w32 h.nonce] := by
  rw [show 67 = 65 + 2 from rfl, ← List.drop_drop, hdrop65]; rfl
theorem seg_of_drop {cs : List V} {off sz : Nat} {ys zs : List V} (h : cs.drop off = ys ++ zs) (hl : ys.length = sz) (hp : 0 < sz) : segOf cs off sz = some ys := by
  have hlen := congrArg List.length h
  rw [List.length_drop, List.length_append] at hlen
  rw [segOf, if_pos (by omega), h, ← hl, List.take_left]
theorem hsegPrev (h : Hdr) : segOf (eHdr h) 1 32 = some (eId h.prev) := seg_of_drop (hdrop1 h) (eId_len _) (by omega)
theorem hsegRoot (h : Hdr) : segOf (eHdr h) 33 32 = some (eId h.root) := seg_of_drop (hdrop33 h) (eId_len _) (by omega)
theorem hsegTime (h : Hdr) : segOf (eHdr h) 65 1 = some [w32 h.time] := seg_of_drop (zs := [w32 h.bits, w32 h.nonce]) (hdrop65 h) rfl (by omega)
theorem hsegBits (h : Hdr) : segOf (eHdr h) 66 1 = some [w32 h.bits] := seg_of_drop (zs := [w32 h.nonce]) (hdrop66 h) rfl (by omega)
theorem hsegNonce (h : Hdr) : segOf (eHdr h) 67 1 = some [w32 h.nonce] := seg_of_drop (zs := []) (hdrop67 h) rfl (by omega)
theorem hsegAll (h : Hdr) : segOf (eHdr h) 0 68 = some (eHdr h) := by
  rw [segOf, if_pos (by rw [eHdr_len]; omega), List.drop_zero, List.take_of_length_le (by rw [eHdr_len]; omega)]

/-- put4 -/
theorem spec139 (ok : OkHead P F) {st : St} {s : V} {l : List UInt8} {L : List Asn} (h : Sep (Slx 1 e8 s l :: L) st) (hl : l.length ≤ 1000) (x : W32) :
    ACalls P (F 139) [s, w32 x] st fun v st' => Sep (Slx 1 e8 v (l ++ le4 x) :: L) st' := by
  refine shows_call ok.mixed ok.h139 (by simp [k139]) ?_
  simp only [k139]
  have hr : fillV (repV [w8 0] 4) [(0, 1, w8 (UInt8.ofBitVec (x.setWidth 8))), (1, 1, w8 (UInt8.ofBitVec ((x >>> 8).setWidth 8))), (2, 1, w8 (UInt8.ofBitVec ((x >>> 16).setWidth 8))), (3, 1, w8 (UInt8.ofBitVec ((x >>> 24).setWidth 8)))] = some (rowsOf e8 (le4 x)) := rfl
  simp [hr]
  have he : elems st 1 (.sl .full (rowsOf e8 (le4 x)) 4) = some (rowsOf e8 (le4 x), (le4 x).length) := rfl
  rw [he]
  refine Sep.appx (b := 1) e8_len (by omega) h (m := le4 x) (by simp [le4]; omega) ?_
  intro s' st' S'
  simp
  exact ⟨st', sub_self _, S'⟩

set_option maxHeartbeats 1000000 in
/-- Bytes -/
theorem spec140 (ok : OkHead P F) (st : St) (h : Hdr) : ACalls P (F 140) [.agg (eHdr h)] st fun v st' => Sep [Slx 1 e8 v (hBytes h), Was st] st' := by
  refine shows_call ok.mixed ok.h140 (by simp [k140]) ?_
  simp only [k140]
  simp
  intro i1 h1
  have S := (Sep.start st).new h1 (.cells (eHdr h))
  generalize st.upd i1 _ = st1 at S ⊢
  have o1 := S.get
  simp [Conf, St.seg, o1, hseg0, mkslS, mkNew, repV]
  intro i4 h4
  have S := S.new h4 (.cells [])
  generalize st1.upd i4 _ = st2 at S ⊢
  have S := S.head (A' := Slx 1 e8 (.hsl i4 0 1 0) []) fun g hg => .inr ⟨i4, rfl, hg⟩
  refine (spec139 ok S (by simp) h.ver).mono ?_
  intro v st3 S
  simp
  have o1 := S.mem (i := i1) (o := .cells (eHdr h)) (by
    simp)
  have S := S.setAt (.ro (eHdr h)) 1 rfl
  simp [frzP, frzV, frzOb, o1]
  generalize st3.upd i1 _ = st4 at S ⊢
  have p1 : segOf (eHdr h).tail 0 32 = some (eId h.prev) := seg_of_drop (by rw [List.drop_zero, ← List.drop_one]; exact hdrop1 h) (eId_len _) (by omega)
  have p2 : segOf ((eHdr h).drop 33) 0 32 = some (eId h.root) := seg_of_drop (by rw [List.drop_zero]; exact hdrop33 h) (eId_len _) (by omega)
  have t1 : List.take 32 (eId h.prev) = rowsOf e8 h.prev.toList := by rw [← eId_rows, List.take_of_length_le (by rw [eId_len]; omega)]
  have t2 : List.take 32 (eId h.root) = rowsOf e8 h.root.toList := by rw [← eId_rows, List.take_of_length_le (by rw [eId_len]; omega)]
  have e1 : ∀ (s : St) (x : Id), elems s 1 (.sl .full (rowsOf e8 x.toList) 32) = some (rowsOf e8 x.toList, x.toList.length) := fun s x => by
    have : (rowsOf e8 x.toList).length = 32 := by rw [rowsOf_length e8_len]; simp
    simp [elems, this]
  simp [Conf, slArrV, bounds, opV, p1, p2, t1, t2, e1]
  refine Sep.appx' (b := 1) e8_len (by omega) S h.prev.toList rfl (by simp) (by simp [le4]) ?_
  intro s5 st5 S
  simp [e1]
  refine Sep.appx' (b := 1) e8_len (by omega) S h.root.toList rfl (by simp) (by simp [le4]) ?_
  intro s6 st6 S
  have q1 : segOf ((eHdr h).drop 65) 0 1 = some [w32 h.time] := seg_of_drop (zs := [w32 h.bits, w32 h.nonce]) (by rw [List.drop_zero]; exact hdrop65 h) rfl (by omega)
  have q2 : segOf ((eHdr h).drop 66) 0 1 = some [w32 h.bits] := seg_of_drop (zs := [w32 h.nonce]) (by rw [List.drop_zero]; exact hdrop66 h) rfl (by omega)
  have q3 : segOf ((eHdr h).drop 67) 0 1 = some [w32 h.nonce] := seg_of_drop (zs := []) (by rw [List.drop_zero]; exact hdrop67 h) rfl (by omega)
  simp [q1, q2, q3]
  refine (spec139 ok S (by simp [le4]) h.time).mono ?_
  intro v7 st7 S
  simp
  refine (spec139 ok S (by simp [le4]) h.bits).mono ?_
  intro v8 st8 S
  simp
  refine (spec139 ok S (by simp [le4]) h.nonce).mono ?_
  intro v9 st9 S
  simp
  refine ⟨_, sub_self _, ?_⟩
  have hb : [] ++ le4 h.ver ++ h.prev.toList ++ h.root.toList ++ le4 h.time ++ le4 h.bits ++ le4 h.nonce = hBytes h := by simp [hBytes]
  rw [hb] at S
  exact Sep.tail (fun r hr => hr.drop) S

/-- ID -/
theorem spec141 (ok : OkHead P F) (st : St) (h : Hdr) : ACalls P (F 141) [.agg (eHdr h)] st fun v st' => v = .agg (eId (hId h)) ∧ st' = st := by
  have okh := ok.toOkHash
  refine shows_call ok.mixed ok.h141 (by simp [k141]) ?_
  simp only [k141]
  simp
  intro i1 h1
  have S := (Sep.start st).new h1 (.cells (eHdr h))
  generalize st.upd i1 _ = st1 at S ⊢
  simp
  intro i2 h2
  have S := S.new h2 (.cells zR32_w80)
  generalize st1.upd i2 _ = st2 at S ⊢
  have o1 := S.mem (i := i1) (o := .cells (eHdr h)) (by simp)
  simp [St.seg, o1, hsegAll]
  refine (Sep.call (S.put (A := Was fun _ => none) rfl) (fun g hg => by rw [hg]; exact spec140 ok _ h)).mono ?_
  intro v st3 S3
  have rd : Rd 1 e8 v (hBytes h) st3 := by
    obtain ⟨g, k1, k2⟩ := S3.part
    exact (Sep.rd e8_len (k2.head fun h hh => hh.sl)).sub k1
  have S := S3.drop
  have hp : Parts st3 [v] [hBytes h] := .cons rd .nil
  have hfl : fillV (repV [.sl .nil [] 0] 1) [(0, 1, v)] = some [v] := by
    rcases rd with ⟨k, rfl⟩ | ⟨_, _, rfl, _⟩ <;> rfl
  simp [hfl]
  have hc := spec104 okh st3 hp .full (by simp [hBytes_len]) (by simp)
  refine hc.mono ?_
  rintro w st3 ⟨rfl, rfl⟩
  have o2 := S.mem (i := i2) (o := .cells zR32_w80) (by simp)
  have hst := store_z32 o2 (sha2 ([hBytes h].flatten))
  have T := S.setAt (.cells (eId (sha2 ([hBytes h].flatten)))) 0 rfl
  have hf : [hBytes h].flatten = hBytes h := by simp
  rw [hf] at hst T ⊢
  simp [hst, St.seg, segId0]
  exact ⟨T.was' (by simp), rfl⟩
end
end Go.Ab
/-
  tallystickref05: a header's bytes, the bits of a sum, and what is proved.
-/
set_option linter.unusedSimpArgs false
set_option linter.unusedVariables false
set_option maxRecDepth 10000
namespace Go.Ab
open Go Go.RowKit
theorem low8 (x : W32) : (x % 256#32).setWidth 8 = x.setWidth 8 := by
  apply BitVec.eq_of_toNat_eq
  simp only [BitVec.toNat_setWidth, BitVec.toNat_umod]
  show x.toNat % 256 % 256 = x.toNat % 256
  omega
theorem div8 (x : W32) : x / 256#32 = x >>> 8 := by
  apply BitVec.eq_of_toNat_eq
  rw [BitVec.toNat_udiv, BitVec.toNat_ushiftRight, Nat.shiftRight_eq_div_pow]; rfl
section
variable {P : Program} {F : Fn}
theorem spec150 (ok : OkRef05 P F) (st : St) (x : W32) : ACalls P (F 150) [w32 x] st fun v st' => v = sB (le4 x) ∧ st' = st := by
  refine shows_call ok.mixed ok.h150 (by simp [k150]) ?_
  simp only [k150]
  have hz : V.str (ByteArray.mk ⟨[]⟩) = sB [] := rfl
  simp only [hz]
  simp
  refine vc_unroll 5 ?_
  have hf : ∀ b : UInt8, fillV (repV [w8 0] 1) [(0, 1, w8 b)] = some (rowsOf e8 [b]) := fun b => rfl
  have hs : ∀ b : UInt8, toStrV st (.sl .full (e8 b) 1) = some (sB [b]) := fun b => toStr_sB (.inl ⟨.full, rfl⟩) (by simp)
  have ha : ∀ (a : List UInt8) (b : UInt8), a.length ≤ 100 → binV .add (sB a) (sB [b]) = some (sB (a ++ [b])) := fun a b h => sB_add a [b] (by simp; omega)
  have s2 : x >>> 8 >>> 8 = x >>> 16 := by rw [← BitVec.shiftRight_add]
  have s3 : x >>> 16 >>> 8 = x >>> 24 := by rw [← BitVec.shiftRight_add]
  simp [unr_succ, hf, hs, ha, low8, div8, s2, s3, le4]
theorem spec151 (ok : OkRef05 P F) (st : St) (h : Hdr) : ACalls P (F 151) [.agg (eHdr h)] st fun v st' => v = sB (hBytes h) ∧ st' = st := by
  refine shows_call ok.mixed ok.h151 (by simp [k151]) ?_
  simp only [k151]
  have hz : V.str (ByteArray.mk ⟨[]⟩) = sB [] := rfl
  simp only [hz]
  simp
  intro i1 h1
  have S := (Sep.start st).new h1 (.cells (eHdr h))
  generalize st.upd i1 _ = st1 at S ⊢
  have o1 := S.get
  have S := S.setAt (.ro (eHdr h)) 0 rfl
  simp [frzP, frzV, frzOb, o1]
  generalize st1.upd i1 _ = st2 at S ⊢
  have hs := S.was' (st0 := st) (by simp)
  have q0 : segOf (eHdr h) 0 1 = some [w32 h.ver] := Go.Ab.hseg0 h
  have p1 : segOf (eHdr h).tail 0 32 = some (eId h.prev) := seg_of_drop (by rw [List.drop_zero, ← List.drop_one]; exact hdrop1 h) (eId_len _) (by omega)
  have p2 : segOf ((eHdr h).drop 33) 0 32 = some (eId h.root) := seg_of_drop (by rw [List.drop_zero]; exact hdrop33 h) (eId_len _) (by omega)
  have q1 : segOf ((eHdr h).drop 65) 0 1 = some [w32 h.time] := seg_of_drop (zs := [w32 h.bits, w32 h.nonce]) (by rw [List.drop_zero]; exact hdrop65 h) rfl (by omega)
  have q2 : segOf ((eHdr h).drop 66) 0 1 = some [w32 h.bits] := seg_of_drop (zs := [w32 h.nonce]) (by rw [List.drop_zero]; exact hdrop66 h) rfl (by omega)
  have q3 : segOf ((eHdr h).drop 67) 0 1 = some [w32 h.nonce] := seg_of_drop (zs := []) (by rw [List.drop_zero]; exact hdrop67 h) rfl (by omega)
  have t1 : List.take 32 (eId h.prev) = rowsOf e8 h.prev.toList := by rw [← eId_rows, List.take_of_length_le (by rw [eId_len]; omega)]
  have t2 : List.take 32 (eId h.root) = rowsOf e8 h.root.toList := by rw [← eId_rows, List.take_of_length_le (by rw [eId_len]; omega)]
  have e1 : ∀ (s : St) (x : Id), toStrV s (.sl .full (rowsOf e8 x.toList) 32) = some (sB x.toList) := fun s x => toStr_sB (.inl ⟨.full, by simp⟩) (by simp)
  simp [q0, q1, q2, q3]
  refine ⟨_, spec150 ok st2 h.ver, ?_⟩
  have a1 := sB_add (le4 h.ver) h.prev.toList (by simp [le4])
  have a2 := sB_add (le4 h.ver ++ h.prev.toList) h.root.toList (by simp [le4])
  have a3 := sB_add (le4 h.ver ++ (h.prev.toList ++ h.root.toList)) (le4 h.time) (by simp [le4])
  have a4 := sB_add (le4 h.ver ++ (h.prev.toList ++ (h.root.toList ++ le4 h.time))) (le4 h.bits) (by simp [le4])
  have a5 := sB_add (le4 h.ver ++ (h.prev.toList ++ (h.root.toList ++ (le4 h.time ++ le4 h.bits)))) (le4 h.nonce) (by simp [le4])
  simp only [List.append_assoc] at a1 a2 a3 a4 a5
  simp [slArrV, bounds, p1, p2, t1, t2, e1, a1, a2]
  refine ⟨_, spec150 ok st2 h.time, ?_⟩
  simp [a3]
  refine ⟨_, spec150 ok st2 h.bits, ?_⟩
  simp [a4]
  refine ⟨_, spec150 ok st2 h.nonce, ?_⟩
  simp [a5, hs, hBytes]

/-! ### bits of a sum -/
@[simp high] theorem bin8_eql (a b : UInt8) : binV .eql (w8 a) (w8 b) = some (.bool (a == b)) := by
  simp only [w8, binV, binI, if_true]
  congr 2
  by_cases h : a = b
  · simp [h]
  · have : (a == b) = false := by simp [h]
    rw [this]
    have h2 : a.toNat ≠ b.toNat := fun e => h (UInt8.toNat_inj.1 e)
    simp; omega
def h8 (b : UInt8) (q : Nat) : UInt8 := UInt8.ofNat (b.toNat / 2 ^ q)
theorem h8_nat (b : UInt8) (q : Nat) : (h8 b q).toNat = b.toNat / 2 ^ q := by
  have := b.toNat_lt
  have : b.toNat / 2 ^ q ≤ b.toNat := Nat.div_le_self _ _
  simp [h8]
  omega
@[simp high] theorem h8_rem (b : UInt8) (q : Nat) : binV .rem (w8 (h8 b q)) (w8 2) = some (w8 (UInt8.ofNat (b.toNat / 2 ^ q % 2))) := by
  simp only [w8, binV, binI, if_true, h8_nat]
  rw [if_neg (by decide)]
  have e2 : ((2 : UInt8).toNat : Int) = ((2 : Nat) : Int) := rfl
  rw [e2, tmod_nat]
  congr 3
  have := Nat.mod_lt (b.toNat / 2 ^ q) (show 0 < 2 by omega)
  simp
  omega
@[simp high] theorem h8_quo (b : UInt8) (q : Nat) : binV .quo (w8 (h8 b q)) (w8 2) = some (w8 (h8 b (q + 1))) := by
  have hb := b.toNat_lt
  have hd : b.toNat / 2 ^ q ≤ b.toNat := Nat.div_le_self _ _
  simp only [w8, binV, binI, if_true, h8_nat]
  rw [if_neg (by decide)]
  have e2 : ((2 : UInt8).toNat : Int) = ((2 : Nat) : Int) := rfl
  rw [e2, tdiv_nat, wrap_u8, Nat.pow_succ, ← Nat.div_div_eq_div_mul]
  congr 2
  rw [UInt8.toNat_ofBitVec, BitVec.ofInt_natCast, BitVec.toNat_ofNat]
  generalize b.toNat / 2 ^ q = m at hd ⊢
  omega
theorem bit8_one (n : Nat) : (UInt8.ofNat (n % 2) == 1) = (n % 2 == 1) := by
  have : n % 2 = 0 ∨ n % 2 = 1 := by omega
  rcases this with h | h <;> rw [h] <;> rfl
theorem leN_at : ∀ (l : List UInt8) (i : Nat) (h : i < l.length), leN l / 256 ^ i % 256 = l[i].toNat
  | b :: l, 0, _ => by
    have := b.toNat_lt
    simp only [leN, Nat.pow_zero, Nat.div_one, List.getElem_cons_zero]
    omega
  | b :: l, i + 1, h => by
    have := b.toNat_lt
    have ih := leN_at l i (by simpa using h)
    simp only [leN, List.getElem_cons_succ]
    rw [Nat.pow_succ', ← Nat.div_div_eq_div_mul, show (b.toNat + 256 * leN l) / 256 = leN l by omega]
    exact ih
theorem idN_bit (x : Id) {i q : Nat} (hi : i < x.toList.length) (hq : q < 8) : (x.toList[i].toNat / 2 ^ q) % 2 = idN x / 2 ^ (8 * i + q) % 2 := by
  have e : (256 : Nat) ^ i = 2 ^ (8 * i) := by rw [Nat.pow_mul]
  rw [← leN_at x.toList i hi, e, Nat.pow_add, ← Nat.div_div_eq_div_mul]
  show _ = leN x.toList / 2 ^ (8 * i) / 2 ^ q % 2
  generalize leN x.toList / 2 ^ (8 * i) = y
  have h1 : (y % 256).testBit q = y.testBit q := by
    rw [show (256 : Nat) = 2 ^ 8 from rfl, Nat.testBit_mod_two_pow, decide_eq_true hq, Bool.true_and]
  rw [Nat.testBit_eq_decide_div_mod_eq, Nat.testBit_eq_decide_div_mod_eq, decide_eq_decide] at h1
  omega
set_option maxHeartbeats 1000000 in
theorem spec152 (ok : OkRef05 P F) (st : St) (x : Id) : ACalls P (F 152) [.agg (eId x)] st fun v st' => v = slB (bitsN 256 (idN x)) ∧ st' = st := by
  refine shows_call ok.mixed ok.h152 (by simp [k152]) ?_
  simp only [k152]
  simp
  intro i1 h1
  have S := (Sep.start st).new h1 (.cells (eId x))
  generalize st.upd i1 _ = st1 at S ⊢
  have hxl : x.toList.length = 32 := by simp
  have S : Sep [Sl 1 eB (.sl .nil [] 0) (bitsN (8 * 0) (idN x)), pt i1 (.cells (eId x)), Was st] st1 := S.slNil
  refine vc_loopJ (fun k env' st' => ∃ i s, i ≤ 32 ∧ k = 32 - i ∧ env' 4 = .int .i64 (i : Nat) ∧ env' 3 = s ∧ Sep [Sl 1 eB s (bitsN (8 * i) (idN x)), pt i1 (.cells (eId x)), Was st] st') 32
    ⟨0, _, by omega, by omega, rfl, rfl, S⟩ ?_
  clear S
  rintro J hJ k env' st2 hsame ⟨i, s, hi, rfl, h4, h3, S⟩
  have g1 := hsame.get 1 rfl
  simp at g1
  clear hsame
  have w1 : IntKind.i64.wrap ((i : Int) + 1) = (i : Int) + 1 := wrap64 (by omega) (by omega)
  by_cases hlt : i < 32
  · have hlt' : (i : Int) < 32 := by omega
    have o1 := S.mem (i := i1) (o := .cells (eId x)) (by simp)
    have hix := idxArr_ptr 32 i1 (z := (i : Int)) rfl hlt
    have hix2 : i < x.toList.length := by omega
    have hsg : segOf (eId x) i 1 = some [w8 x.toList[i]] := by
      have := rowsOf_seg e8_len x.toList [] hix2
      rw [List.append_nil, ← eId_rows, Nat.mul_one] at this
      exact this
    have h80 : w8 x.toList[i] = w8 (h8 x.toList[i] 0) := by simp [h8]
    rw [h80] at hsg
    simp [g1, h4, h3, hlt', hix, St.seg, o1, hsg, -Vector.getElem_toList]
    have S : Sep [Sl 1 eB s (bitsN (8 * i + 0) (idN x)), pt i1 (.cells (eId x)), Was st] st2 := S
    refine vc_loopJ (fun k env' st' => ∃ q s, q ≤ 8 ∧ k = 8 - q ∧ env' 6 = .int .i64 (q : Nat) ∧ env' 5 = w8 (h8 x.toList[i] q) ∧ env' 3 = s ∧ Sep [Sl 1 eB s (bitsN (8 * i + q) (idN x)), pt i1 (.cells (eId x)), Was st] st') 8
      ⟨0, _, by omega, by omega, rfl, by simp, by simp [h3], S⟩ ?_
    clear S
    rintro J2 hJ2 k env2 st3 hsame ⟨q, s3, hq, rfl, h6, h5, h3, S⟩
    have g4 := hsame.get 4 rfl
    simp [h4] at g4
    clear hsame
    have w2 : IntKind.i64.wrap ((q : Int) + 1) = (q : Int) + 1 := wrap64 (by omega) (by omega)
    by_cases hq8 : q < 8
    · have hq' : (q : Int) < 8 := by omega
      have hbit := idN_bit x hix2 hq8
      have hsn := bitsN_snoc (8 * i + q) (idN x)
      simp [h6, h5, h3, hq', bit8_one, hbit, bfill, belems, -Vector.getElem_toList]
      refine Sep.app1 (b := 1) eB_len (by omega) S (a := (idN x / 2 ^ (8 * i + q) % 2 == 1)) rfl (by rw [bitsN_len]; omega) ?_
      intro s4 st4 S
      simp [h6, w2, h5, -Vector.getElem_toList]
      refine Round.mk (8 - (q + 1)) _ (by omega) (sub_self _) (hJ2 _ _ _ ⟨q + 1, s4, by omega, rfl, by simp, by simp, by simp, ?_⟩)
      rw [show 8 * i + (q + 1) = 8 * i + q + 1 by omega, hsn]
      exact S
    · have : q = 8 := by omega
      subst this
      simp [h6, g4, w1]
      exact Round.mk (32 - (i + 1)) _ (by omega) (sub_self _) (hJ _ _ _ ⟨i + 1, s3, by omega, rfl, by simp, by simp [h3], S⟩)
  · have : i = 32 := by omega
    subst this
    simp [h4]
    obtain ⟨k, st4, hf, S, hk⟩ := S.frzSl eB_len
    refine frzP_one (v := .sl k (rowsOf eB (bitsN (8 * 32) (idN x))) (bitsN (8 * 32) (idN x)).length) (st' := st4) (by simp [h3, hf]) ?_
    have hk := hk (fun e => by have := congrArg List.length e; rw [bitsN_len] at this; simp at this)
    subst hk
    simp [slB]
    exact S.was' (by simp)
end
end Go.Ab
/-
  A tree of headers, told by a list: plain.
-/
set_option linter.unusedSimpArgs false
set_option linter.unusedVariables false
namespace Go.Ab
open Go Go.RowKit

structure Nd where
  hdr : Hdr
  id : Id
  parent : Int
  skip : Nat
  height : Nat
  work : Nat
  failed : Bool
  deriving DecidableEq

def skipH (h : Nat) : Nat := if h < 2 then 0 else if h % 2 = 1 then ((h - 1) &&& (h - 2)) + 1 else h &&& (h - 1)
theorem skipH_lt {h : Nat} (hp : 0 < h) : skipH h < h := by
  unfold skipH
  split
  · omega
  · split
    · have : (h - 1) &&& (h - 2) ≤ h - 2 := Nat.and_le_right
      omega
    · have : h &&& (h - 1) ≤ h - 1 := Nat.and_le_right
      omega

def hgt (l : List Nd) (i : Nat) : Nat := ((l[i]?).map (·.height)).getD 0
def par (l : List Nd) (i : Nat) : Nat := ((l[i]?).map (·.parent.toNat)).getD 0
def upN (l : List Nd) : Nat → Nat → Nat
  | 0, i => i
  | n + 1, i => upN l n (par l i)
/-- The header of a height on the way to one. -/
def anc (l : List Nd) (i h : Nat) : Nat := upN l (hgt l i - h) i

/-- Each stands behind one ahead of it. -/
structure Wf (l : List Nd) : Prop where
  ne : 0 < l.length
  zero : ∀ x : Nd, l[0]? = some x → x.parent = -1 ∧ x.height = 0
  succ : ∀ (i : Nat) (x : Nd), 0 < i → l[i]? = some x → 0 ≤ x.parent ∧ x.parent < (i : Int) ∧ x.height = hgt l x.parent.toNat + 1
  skip : ∀ (i : Nat) (x : Nd), 0 < i → l[i]? = some x → x.skip = anc l x.parent.toNat (skipH x.height)

section
variable {l : List Nd} (w : Wf l)
include w
theorem Wf.par_lt {i : Nat} (h0 : 0 < i) (hi : i < l.length) : par l i < i := by
  have h := w.succ i l[i] h0 (List.getElem?_eq_getElem hi)
  simp only [par, List.getElem?_eq_getElem hi, Option.map_some, Option.getD_some]
  omega
theorem Wf.hgt_par {i : Nat} (h0 : 0 < i) (hi : i < l.length) : hgt l i = hgt l (par l i) + 1 := by
  have h := w.succ i l[i] h0 (List.getElem?_eq_getElem hi)
  have e : par l i = l[i].parent.toNat := by simp [par, hi]
  rw [e, ← h.2.2]
  simp [hgt, hi]
theorem Wf.hgt_zero : hgt l 0 = 0 := by
  have e := List.getElem?_eq_getElem w.ne
  have h := w.zero _ e
  rw [hgt, e, Option.map_some, Option.getD_some, h.2]
theorem Wf.pos_of_hgt {i : Nat} (h : 0 < hgt l i) : 0 < i := by
  rcases Nat.eq_zero_or_pos i with e | e
  · rw [e, w.hgt_zero] at h; omega
  · exact e
theorem Wf.hgt_le {i : Nat} (hi : i < l.length) : hgt l i ≤ i := by
  induction i using Nat.strongRecOn with
  | _ i ih =>
    rcases Nat.eq_zero_or_pos i with e | e
    · rw [e, w.hgt_zero]; exact Nat.le_refl _
    · have := w.par_lt e hi
      rw [w.hgt_par e hi]
      have := ih _ this (by omega)
      omega
theorem Wf.up {n i : Nat} (hi : i < l.length) (hn : n ≤ hgt l i) : upN l n i < l.length ∧ hgt l (upN l n i) = hgt l i - n ∧ upN l n i ≤ i := by
  induction n generalizing i with
  | zero => exact ⟨hi, rfl, Nat.le_refl _⟩
  | succ n ih =>
    have hp := w.pos_of_hgt (i := i) (by omega)
    have h1 := w.par_lt hp hi
    have h2 := w.hgt_par hp hi
    obtain ⟨a, b, c⟩ := ih (i := par l i) (by omega) (by omega)
    exact ⟨a, by rw [upN, b]; omega, by rw [upN]; omega⟩
omit w in
theorem upN_add (n m i : Nat) : upN l (n + m) i = upN l m (upN l n i) := by
  induction n generalizing i with
  | zero => rw [Nat.zero_add]; rfl
  | succ n ih => rw [Nat.succ_add, upN, ih, upN]
theorem Wf.anc_lt {i h : Nat} (hi : i < l.length) : anc l i h < l.length := (w.up hi (Nat.sub_le _ _)).1
theorem Wf.anc_le {i h : Nat} (hi : i < l.length) : anc l i h ≤ i := (w.up hi (Nat.sub_le _ _)).2.2
theorem Wf.anc_hgt {i h : Nat} (hi : i < l.length) (hh : h ≤ hgt l i) : hgt l (anc l i h) = h := by
  have := (w.up hi (Nat.sub_le (hgt l i) h)).2.1
  rw [anc, this]; omega
omit w in
theorem anc_self (i : Nat) : anc l i (hgt l i) = i := by rw [anc, Nat.sub_self]; rfl
theorem Wf.anc_par {i h : Nat} (hi : i < l.length) (hh : h < hgt l i) : anc l i h = anc l (par l i) h := by
  have hp := w.pos_of_hgt (i := i) (by omega)
  have h2 := w.hgt_par hp hi
  rw [anc, anc, show hgt l i - h = (hgt l (par l i) - h) + 1 by omega]
  rfl
theorem Wf.anc_anc {i h h' : Nat} (hi : i < l.length) (h1 : h ≤ h') (h2 : h' ≤ hgt l i) : anc l (anc l i h') h = anc l i h := by
  have e := w.anc_hgt hi h2
  rw [anc, e, anc, anc, ← upN_add, show hgt l i - h' + (h' - h) = hgt l i - h by omega]
end

/-! ### another one comes -/
theorem hgt_append {l : List Nd} {m : List Nd} {i : Nat} (hi : i < l.length) : hgt (l ++ m) i = hgt l i := by
  simp [hgt, List.getElem?_append_left hi]
theorem par_append {l : List Nd} {m : List Nd} {i : Nat} (hi : i < l.length) : par (l ++ m) i = par l i := by
  simp [par, List.getElem?_append_left hi]
theorem upN_append {l : List Nd} (w : Wf l) {m : List Nd} {n i : Nat} (hi : i < l.length) (hn : n ≤ hgt l i) : upN (l ++ m) n i = upN l n i := by
  induction n generalizing i with
  | zero => rfl
  | succ n ih =>
    have hp := w.pos_of_hgt (i := i) (by omega)
    have h1 := w.par_lt hp hi
    have h2 := w.hgt_par hp hi
    rw [upN, upN, par_append hi]
    exact ih (by omega) (by omega)
theorem anc_append {l : List Nd} (w : Wf l) {m : List Nd} {i h : Nat} (hi : i < l.length) : anc (l ++ m) i h = anc l i h := by
  rw [anc, anc, hgt_append hi, upN_append w hi (Nat.sub_le _ _)]
theorem Wf.push {l : List Nd} (w : Wf l) {x : Nd} {p : Nat} (hp : p < l.length) (h1 : x.parent = p) (h2 : x.height = hgt l p + 1) (h3 : x.skip = anc l p (skipH x.height)) : Wf (l ++ [x]) := by
  refine ⟨by simp, fun y hy => ?_, fun i y hi hy => ?_, fun i y hi hy => ?_⟩
  · rw [List.getElem?_append_left w.ne] at hy
    exact w.zero y hy
  · by_cases hl : i < l.length
    · rw [List.getElem?_append_left hl] at hy
      have := w.succ i y hi hy
      refine ⟨this.1, this.2.1, ?_⟩
      rw [this.2.2, hgt_append]
      omega
    · have : i = l.length := by
        have := (List.getElem?_eq_some_iff.1 hy).1
        simp at this
        omega
      subst this
      rw [List.getElem?_append_right (Nat.le_refl _), Nat.sub_self] at hy
      cases hy
      refine ⟨by omega, by omega, ?_⟩
      rw [h1, h2, Int.toNat_natCast, hgt_append hp]
  · by_cases hl : i < l.length
    · rw [List.getElem?_append_left hl] at hy
      have := w.succ i y hi hy
      rw [w.skip i y hi hy, anc_append w (by omega)]
    · have : i = l.length := by
        have := (List.getElem?_eq_some_iff.1 hy).1
        simp at this
        omega
      subst this
      rw [List.getElem?_append_right (Nat.le_refl _), Nat.sub_self] at hy
      cases hy
      rw [h1, h3, Int.toNat_natCast, anc_append w hp]

/-! ### what the functions tell -/
def ancI (l : List Nd) (i h : Int) : Int := if i < 0 ∨ (l.length : Int) ≤ i ∨ h < 0 ∨ (hgt l i.toNat : Int) < h then -1 else (anc l i.toNat h.toNat : Nat)
def onB (l : List Nd) (i tip : Int) : Bool := decide (0 ≤ i) && decide (i < l.length) && (ancI l tip (hgt l i.toNat) == i)
/-- The number of a name: the last one. -/
def findM : List Nd → Id → Option Nat
  | [], _ => none
  | x :: l, id => match findM l id with
    | some i => some (i + 1)
    | none => if x.id = id then some 0 else none
theorem findM_append (l : List Nd) (x : Nd) (id : Id) : findM (l ++ [x]) id = if x.id = id then some l.length else findM l id := by
  induction l with
  | nil => simp [findM]
  | cons y l ih =>
    simp only [List.cons_append, findM, ih]
    by_cases h : x.id = id
    · simp [h]
    · simp [h]
theorem findM_some {l : List Nd} {id : Id} {i : Nat} (h : findM l id = some i) : ∃ x, l[i]? = some x ∧ x.id = id := by
  induction l generalizing i with
  | nil => cases h
  | cons y l ih =>
    simp only [findM] at h
    split at h
    · rename_i j hj
      cases h
      obtain ⟨x, h1, h2⟩ := ih hj
      exact ⟨x, by simpa using h1, h2⟩
    · split at h
      · cases h
        rename_i hy
        exact ⟨y, rfl, hy⟩
      · cases h
theorem findM_lt {l : List Nd} {id : Id} {i : Nat} (h : findM l id = some i) : i < l.length := by
  obtain ⟨x, h1, _⟩ := findM_some h
  exact (List.getElem?_eq_some_iff.1 h1).1
theorem findM_none {l : List Nd} {id : Id} (h : findM l id = none) : ∀ x ∈ l, x.id ≠ id := by
  induction l with
  | nil => simp
  | cons y l ih =>
    simp only [findM] at h
    split at h
    · cases h
    · rename_i hj
      split at h
      · cases h
      · rename_i hy
        intro x hx
        rcases List.mem_cons.1 hx with rfl | hx
        · exact hy
        · exact ih hj x hx

/-- The last times, from one on back. -/
def timesM (l : List Nd) : Nat → Nat → List W32
  | 0, _ => []
  | n + 1, i => match l[i]? with
    | some x => x.hdr.time :: (if x.parent < 0 then [] else timesM l n x.parent.toNat)
    | none => []
def sorted32 (l : List W32) : List W32 := l.mergeSort fun a b => decide (a ≤ b)
def middle32 (l : List W32) : W32 := (sorted32 l).getD (l.length / 2) 0
def medianM (l : List Nd) (i : Nat) : W32 := middle32 (timesM l 11 i)

structure Rl where
  limit : W32
  every : Int
  spacing : Int
  subsidy : Int
  work : Int
  gen : Hdr
  txs : V
def nd (l : List Nd) (i : Nat) : Nd := (l[i]?).getD ⟨hdr0', id0', 0, 0, 0, 0, false⟩
where
  id0' : Id := ⟨⟨List.replicate 32 0⟩, rfl⟩
  hdr0' : Hdr := ⟨0, id0', id0', 0, 0, 0⟩
def limitN (r : Rl) : Nat := (tgt r.limit).getD 0
/-- The bits that a header behind one must have. -/
def nextM (r : Rl) (l : List Nd) (i : Nat) : W32 :=
  let x := nd l i
  if r.every = 0 ∨ ((x.height : Int) + 1).tmod r.every ≠ 0 then x.hdr.bits
  else
    let first := nd l (anc l i (max 0 ((x.height : Int) + 1 - r.every)).toNat)
    (nextN x.hdr.bits ((x.hdr.time.toNat : Int) - first.hdr.time.toNat) (r.every * r.spacing) (limitN r)).getD 0
def fitsM (r : Rl) (l : List Nd) (h : Hdr) (p : Int) (now : Int) : Int :=
  if p < 0 ∨ (l.length : Int) ≤ p then 100
  else if provedN h r.limit ≠ 0 then provedN h r.limit
  else if (nd l p.toNat).failed = true then 101
  else if h.bits ≠ nextM r l p.toNat then 30
  else if h.time ≤ medianM l p.toNat then 102
  else if now < (h.time.toNat : Int) - 7200 then 103
  else 0
def ndOf (l : List Nd) (h : Hdr) (p : Nat) : Nd := ⟨h, hId h, p, anc l p (skipH (hgt l p + 1)), hgt l p + 1, workN ((tgt h.bits).getD 0) + (nd l p).work, false⟩
def addM (r : Rl) (l : List Nd) (h : Hdr) (now : Int) : List Nd × Int × Int :=
  match findM l (hId h) with
  | some i => (l, i, 5)
  | none => match findM l h.prev with
    | none => (l, -1, 100)
    | some p =>
      if fitsM r l h p now ≠ 0 then (l, -1, fitsM r l h p now)
      else if l.length = 16384 then (l, -1, 3)
      else (l ++ [ndOf l h p], l.length, 0)
def checkM (r : Rl) : Int :=
  if tgt r.limit = none ∨ r.gen.bits ≠ r.limit then 30
  else if r.every < 0 ∨ 1000 < r.every ∨ r.spacing < 1 ∨ 1048576 < r.spacing ∨ r.subsidy < 0 ∨ 1125899906842624 < r.subsidy ∨ r.work < 0 ∨ 1000 < r.work then 1 else 0
def newM (r : Rl) : List Nd := [⟨r.gen, hId r.gen, -1, 0, 0, workN ((tgt r.gen.bits).getD 0), false⟩]
end Go.Ab
/-
  head: proofs and mining.
-/
set_option linter.unusedSimpArgs false
set_option linter.unusedVariables false
set_option maxRecDepth 10000
namespace Go.Ab
open Go Go.RowKit
section
variable {P : Program} {F : Fn}

theorem tgtR_cases (b : W32) : ∃ (T : U) (t : Bool), tgtR b = .tup [nU T, .bool t] ∧ (t = false → tgt b = none) ∧ (t = true → tgt b = some T.toNat) := by
  unfold tgtR
  cases h : tgt b with
  | none => exact ⟨0#256, false, rfl, fun _ => rfl, fun h => by cases h⟩
  | some t => exact ⟨natU t, true, rfl, fun h => (by cases h), fun _ => (by rw [natU_nat (tgt_lt h).2])⟩

set_option maxHeartbeats 2000000 in
/-- Proved -/
theorem spec142 (ok : OkHead P F) (st : St) (h : Hdr) (limit : W32) : ACalls P (F 142) [.agg (eHdr h), w32 limit] st fun v st' => v = .int .i64 (provedN h limit) ∧ st' = st := by
  have okn := ok.toOkNum
  refine shows_call ok.mixed ok.h142 (by simp [k142]) ?_
  have hsp : ∀ x y : U, spliceV (eU x) 0 (eU y) = eU y := fun _ _ => rfl
  simp only [k142]
  simp
  intro i2 h2
  have S := (Sep.start st).new h2 (.cells (eHdr h))
  generalize st.upd i2 _ = st1 at S ⊢
  have o2 := S.get
  simp [St.seg, o2, hsegBits]
  refine (spec135 ok st1 h.bits).mono ?_
  rintro v st1 ⟨rfl, rfl⟩
  obtain ⟨A, a, hA1, hA2, hA3⟩ := tgtR_cases h.bits
  rw [hA1, eU_zero]
  simp
  intro i5 h5
  have S := S.new h5 (.cells (eU A))
  have hs5 : storeS (st1.upd i5 (.cells (eU 0#256))) 4 (.ptr (some (i5, 0))) (nU A) = some (st1.upd i5 (.cells (eU A))) := by
    simp [storeS, nU, eU_len, hsp]
  simp [hs5]
  generalize st1.upd i5 _ = st2 at S ⊢
  refine (spec135 ok st2 limit).mono ?_
  rintro v st2 ⟨rfl, rfl⟩
  obtain ⟨B, b, hB1, hB2, hB3⟩ := tgtR_cases limit
  rw [hB1]
  simp
  intro i7 h7
  have S := S.new h7 (.cells (eU B))
  have hs7 : storeS (st2.upd i7 (.cells (eU 0#256))) 4 (.ptr (some (i7, 0))) (nU B) = some (st2.upd i7 (.cells (eU B))) := by
    simp [storeS, nU, eU_len, hsp]
  simp [hs7]
  generalize st2.upd i7 _ = st3 at S ⊢
  have sub : St.sub st st3 := S.was' (by simp)
  cases a with
  | false =>
    have e : provedN h limit = 30 := by simp [provedN, hA2 rfl]
    simp [e, sub]
  | true =>
    cases b with
    | false =>
      have e : provedN h limit = 30 := by simp [provedN, hB2 rfl, hA3 rfl]
      simp [e, sub]
    | true =>
      have e : provedN h limit = if B.toNat < A.toNat then 30 else if A.toNat < idN (hId h) then 50 else 0 := by
        simp [provedN, hA3 rfl, hB3 rfl]
      have o5 := S.mem (i := i5) (o := .cells (eU A)) (by simp)
      have o7 := S.mem (i := i7) (o := .cells (eU B)) (by simp)
      have o2 := S.mem (i := i2) (o := .cells (eHdr h)) (by simp)
      simp [St.seg, o5, o7, segU]
      refine (spec106 okn st3 A B).mono ?_
      rintro v st3 ⟨rfl, rfl⟩
      have hgt := gtr_cmp A B
      by_cases hl : B.toNat < A.toNat
      · rw [decide_eq_true hl] at hgt
        rw [e, if_pos hl]
        simp [hgt, sub]
      · rw [decide_eq_false hl] at hgt
        rw [e, if_neg hl]
        simp [hgt, St.seg, o2, hsegAll]
        refine ⟨_, spec141 ok st3 h, ?_⟩
        simp
        refine ⟨_, spec117 okn st3 (hId h), ?_⟩
        simp [St.seg, o5, segU]
        refine ⟨_, spec106 okn st3 (BitVec.ofNat 256 (idN (hId h))) A, ?_⟩
        have hgt2 := gtr_cmp (BitVec.ofNat 256 (idN (hId h))) A
        have hid : (BitVec.ofNat 256 (idN (hId h))).toNat = idN (hId h) := natU_nat (idN_lt _)
        rw [hid] at hgt2
        by_cases hl2 : A.toNat < idN (hId h)
        · rw [decide_eq_true hl2] at hgt2
          simp [hgt2, sub, hl2]
        · rw [decide_eq_false hl2] at hgt2
          simp [hgt2, sub, hl2]

/-! ### Mine -/
def id0 : Id := ⟨⟨List.replicate 32 0⟩, rfl⟩
def hdr0 : Hdr := ⟨0, id0, id0, 0, 0, 0⟩
theorem z68_eq : z68_39b1 = eHdr hdr0 := rfl
def mineR (h : Hdr) (limit : W32) (n : Nat) : V := match mineN h limit n with | some x => .tup [.agg (eHdr x), .bool true] | none => .tup [.agg (eHdr hdr0), .bool false]
def eHpre (h : Hdr) : List V := w32 h.ver :: (eId h.prev ++ (eId h.root ++ [w32 h.time, w32 h.bits]))
theorem eHpre_len (h : Hdr) : (eHpre h).length = 67 := by simp [eHpre, eId_len]
theorem eHdr_pre (h : Hdr) : eHdr h = eHpre h ++ [w32 h.nonce] := by simp [eHdr, eHpre]
theorem splice_nonce (h : Hdr) (n : W32) : spliceV (eHdr h) 67 [w32 n] = eHdr { h with nonce := n } := by
  have hl := eHpre_len h
  rw [eHdr_pre, eHdr_pre]
  show spliceV (eHpre h ++ [w32 h.nonce]) 67 [w32 n] = eHpre h ++ [w32 n]
  unfold spliceV
  rw [← hl, List.take_left]
  simp
theorem splice_hdr (a b : Hdr) : spliceV (eHdr a) 0 (eHdr b) = eHdr b := by
  simp [spliceV, eHdr_len]
set_option maxHeartbeats 1000000 in
theorem spec143 (ok : OkHead P F) (st : St) (h : Hdr) (limit : W32) (tries : Int) : ACalls P (F 143) [.agg (eHdr h), w32 limit, .int .i64 tries] st fun v st' => v = mineR h limit (max 0 (min tries 65536)).toNat ∧ st' = st := by
  refine shows_call ok.mixed ok.h143 (by simp [k143]) ?_
  simp only [k143, z68_eq]
  simp
  intro i3 h3
  have S := (Sep.start st).new h3 (.cells (eHdr h))
  generalize st.upd i3 _ = st1 at S ⊢
  simp
  intro i6 h6
  have S := S.new h6 (.cells (eHdr hdr0))
  generalize st1.upd i6 _ = st2 at S ⊢
  obtain ⟨n, hn⟩ : ∃ n, n = (max 0 (min tries 65536)).toNat := ⟨_, rfl⟩
  rw [← hn]
  have hn6 : n ≤ 65536 := by omega
  have hmn : foldV min2V (.int .i64 tries) [.int .i64 65536] = some (.int .i64 (min tries 65536)) := by
    simp only [foldV, min2V, if_true, Option.bind_some]
    congr 2
    split <;> omega
  have hmx : foldV max2V (.int .i64 0) [.int .i64 (min tries 65536)] = some (.int .i64 (n : Int)) := by
    simp only [foldV, max2V, if_true, Option.bind_some]
    congr 2
    split <;> omega
  simp [hmn, hmx]
  refine vc_loopJ (fun k env' st' => ∃ (i : Nat) (g : Hdr), i ≤ n ∧ k = n - i ∧ env' 11 = .int .i64 (i : Nat) ∧ mineN h limit n = mineN g limit (n - i) ∧ Sep [pt i6 (.cells (eHdr hdr0)), pt i3 (.cells (eHdr g)), Was st] st') n
    ⟨0, h, by omega, by omega, rfl, rfl, S⟩ ?_
  clear S
  rintro J hJ k env' st3 hsame ⟨i, g, hi, rfl, h11, hm, S⟩
  have g1 := hsame.get 1 rfl
  have g3 := hsame.get 3 rfl
  have g6 := hsame.get 6 rfl
  have g10 := hsame.get 10 rfl
  simp at g1 g3 g6 g10
  clear hsame
  have o3 := S.mem (i := i3) (o := .cells (eHdr g)) (by simp)
  have o6 := S.get
  have w1 : IntKind.i64.wrap ((i : Int) + 1) = (i : Int) + 1 := wrap64 (by omega) (by omega)
  by_cases hlt : i < n
  · rw [show n - i = (n - (i + 1)) + 1 by omega, mineN] at hm
    simp [g1, g3, g6, g10, h11, hlt, St.seg, o3, hsegAll]
    refine (spec142 ok st3 g limit).mono ?_
    rintro v st3 ⟨rfl, rfl⟩
    by_cases hp : provedN g limit = 0
    · rw [if_pos hp] at hm
      have T := S.setAt (.cells (eHdr g)) 0 rfl
      simp [hp, g3, g6, St.seg, o3, o6, hsegAll, storeS, eHdr_len, splice_hdr, mineR, hm]
      exact T.was' (by simp)
    · have hp' : (provedN g limit == 0) = false := by simpa using hp
      rw [if_neg hp] at hm
      have T := S.setAt (.cells (eHdr { g with nonce := g.nonce + 1 })) 1 rfl
      simp [hp', g3, St.seg, o3, hsegNonce, storeS, eHdr_len, splice_nonce, h11, w1]
      exact Round.mk (n - (i + 1)) _ (by omega) (sub_self _) (hJ _ _ _ ⟨i + 1, _, by omega, rfl, by simp, hm, T⟩)
  · have : i = n := by omega
    subst this
    rw [Nat.sub_self, mineN] at hm
    have hz : fillV (eHdr hdr0) [] = some (eHdr hdr0) := rfl
    have T := S.setAt (.cells (eHdr hdr0)) 0 rfl
    simp [g6, g10, h11, hz, storeS, o6, eHdr_len, splice_hdr, St.seg, hsegAll, mineR, hm]
    exact T.was' (by simp)
end
end Go.Ab
/-
  The code of functions of the program in the small language.
-/
set_option linter.unusedVariables false
namespace Go.Ab
open Go
-- regions [0, 1, 2, 3, 4, 5, 6]
/- tallystick/index.Check -/
def k154 (F : Fn) : PF := PF.mk 60 1 [(.t 2)] (.seq (.ops [(PO.mk (some 1) (.box (.t 0)) none), (PO.mk (some 2) (.mv (.k (.int .i64 0))) none)]) (.seq (.seq (.ops [(PO.mk (some 6) (.fldA 0 (.t 1)) none), (PO.mk (some 7) (.load false 1 (.t 6)) none), (PO.mk (some 8) (.call (F 135) [(.t 7)]) none), (PO.mk (some 5) (.mv (.t 8)) none), (PO.mk (some 9) (.ext 0 (.t 5)) none), (PO.mk (some 10) (.ext 1 (.t 5)) none), (PO.mk (some 3) (.alloc [(w64 0), (w64 0), (w64 0), (w64 0)]) none), (PO.mk none (.store 4 (.t 3) (.t 9)) none), (PO.mk (some 4) (.mv (.t 10)) none)]) (.seq (.ops [(PO.mk (some 11) (.mv (.t 4)) none), (PO.mk (some 12) (.not (.t 11)) none), (PO.mk (some 13) (.mv (.t 12)) none), (PO.mk (some 14) (.fldA 5 (.t 1)) (some (13, false))), (PO.mk (some 15) (.fldA 0 (.t 14)) (some (13, false))), (PO.mk (some 16) (.fldA 66 (.t 15)) (some (13, false))), (PO.mk (some 17) (.load false 1 (.t 16)) (some (13, false))), (PO.mk (some 18) (.fldA 0 (.t 1)) (some (13, false))), (PO.mk (some 19) (.load false 1 (.t 18)) (some (13, false))), (PO.mk (some 20) (.bin .neq (.t 17) (.t 19)) (some (13, false))), (PO.mk (some 21) (.pick (.t 13) (.k (.bool true)) (.t 20)) none)]) (.cond (.t 21) (.seq (.ops [(PO.mk (some 2) (.mv (.k (.int .i64 30))) none)]) .ret) .skip))) (.seq (.seq (.ops [(PO.mk (some 22) (.fldA 1 (.t 1)) none), (PO.mk (some 23) (.load false 1 (.t 22)) none), (PO.mk (some 24) (.bin .lss (.t 23) (.k (.int .i64 0))) none), (PO.mk (some 25) (.mv (.t 24)) none), (PO.mk (some 26) (.fldA 1 (.t 1)) (some (25, false))), (PO.mk (some 27) (.load false 1 (.t 26)) (some (25, false))), (PO.mk (some 28) (.bin .gtr (.t 27) (.k (.int .i64 1000))) (some (25, false))), (PO.mk (some 29) (.pick (.t 25) (.k (.bool true)) (.t 28)) none), (PO.mk (some 30) (.mv (.t 29)) none), (PO.mk (some 31) (.fldA 2 (.t 1)) (some (30, false))), (PO.mk (some 32) (.load false 1 (.t 31)) (some (30, false))), (PO.mk (some 33) (.bin .lss (.t 32) (.k (.int .i64 1))) (some (30, false))), (PO.mk (some 34) (.pick (.t 30) (.k (.bool true)) (.t 33)) none), (PO.mk (some 35) (.mv (.t 34)) none), (PO.mk (some 36) (.fldA 2 (.t 1)) (some (35, false))), (PO.mk (some 37) (.load false 1 (.t 36)) (some (35, false))), (PO.mk (some 38) (.bin .gtr (.t 37) (.k (.int .i64 1048576))) (some (35, false))), (PO.mk (some 39) (.pick (.t 35) (.k (.bool true)) (.t 38)) none), (PO.mk (some 40) (.mv (.t 39)) none), (PO.mk (some 41) (.fldA 3 (.t 1)) (some (40, false))), (PO.mk (some 42) (.load false 1 (.t 41)) (some (40, false))), (PO.mk (some 43) (.bin .lss (.t 42) (.k (.int .i64 0))) (some (40, false))), (PO.mk (some 44) (.pick (.t 40) (.k (.bool true)) (.t 43)) none), (PO.mk (some 45) (.mv (.t 44)) none), (PO.mk (some 46) (.fldA 3 (.t 1)) (some (45, false))), (PO.mk (some 47) (.load false 1 (.t 46)) (some (45, false))), (PO.mk (some 48) (.bin .gtr (.t 47) (.k (.int .i64 1125899906842624))) (some (45, false))), (PO.mk (some 49) (.pick (.t 45) (.k (.bool true)) (.t 48)) none), (PO.mk (some 50) (.mv (.t 49)) none), (PO.mk (some 51) (.fldA 4 (.t 1)) (some (50, false))), (PO.mk (some 52) (.load false 1 (.t 51)) (some (50, false))), (PO.mk (some 53) (.bin .lss (.t 52) (.k (.int .i64 0))) (some (50, false))), (PO.mk (some 54) (.pick (.t 50) (.k (.bool true)) (.t 53)) none), (PO.mk (some 55) (.mv (.t 54)) none), (PO.mk (some 56) (.fldA 4 (.t 1)) (some (55, false))), (PO.mk (some 57) (.load false 1 (.t 56)) (some (55, false))), (PO.mk (some 58) (.bin .gtr (.t 57) (.k (.int .i64 1000))) (some (55, false))), (PO.mk (some 59) (.pick (.t 55) (.k (.bool true)) (.t 58)) none)]) (.cond (.t 59) (.seq (.ops [(PO.mk (some 2) (.mv (.k (.int .i64 1))) none)]) .ret) .skip)) (.seq (.ops [(PO.mk (some 2) (.mv (.k (.int .i64 0))) none)]) .ret))))
-- regions [0, 1, 2, 3, 4, 5, 6]
/- tallystick/index.New -/
def k155 (F : Fn) : PF := PF.mk 21 1 [(.t 2), (.t 3)] (.seq (.ops [(PO.mk (some 1) (.box (.t 0)) none), (PO.mk (some 2) (.mv (.k (.ptr none))) none), (PO.mk (some 3) (.mv (.k (.int .i64 0))) none)]) (.seq (.seq (.ops [(PO.mk (some 6) (.load true 74 (.t 1)) none), (PO.mk (some 7) (.call (F 154) [(.t 6)]) none), (PO.mk (some 4) (.mv (.t 7)) none)]) (.seq (.ops [(PO.mk (some 8) (.mv (.t 4)) none), (PO.mk (some 9) (.bin .neq (.t 8) (.k (.int .i64 0))) none)]) (.cond (.t 9) (.seq (.ops [(PO.mk (some 10) (.mv (.t 4)) none), (PO.mk (some 2) (.mv (.k (.ptr none))) none), (PO.mk (some 3) (.mv (.t 10)) none)]) .ret) .skip))) (.seq (.ops [(PO.mk (some 11) (.load true 74 (.t 1)) none), (PO.mk (some 12) POp.mkmap none), (PO.mk (some 13) (.build z76_2d2c [(0, (74, (.t 11))), (75, (1, (.t 12)))]) none), (PO.mk (some 14) (.box (.t 13)) none), (PO.mk (some 5) (.mv (.t 14)) none)]) (.seq (.ops [(PO.mk (some 15) (.mv (.t 5)) none), (PO.mk (some 16) (.fldA 5 (.t 1)) none), (PO.mk (some 17) (.fldA 0 (.t 16)) none), (PO.mk (some 18) (.load true 68 (.t 17)) none), (PO.mk (some 19) (.call (F 156) [(.t 15), (.t 18), (.k (.int .i64 (-1)))]) none)]) (.seq (.ops [(PO.mk (some 20) (.mv (.t 5)) none), (PO.mk (some 2) (.mv (.t 20)) none), (PO.mk (some 3) (.mv (.k (.int .i64 0))) none)]) .ret)))))
-- regions [0, 1, 2, 3, 4, 5, 6, 7, 8, 9, 10, 11, 12]
/- (*tallystick/index.Tree).put -/
def k156 (F : Fn) : PF := PF.mk 79 3 [(.t 6)] (.seq (.ops [(PO.mk (some 4) (.box (.t 1)) none), (PO.mk (some 6) (.mv (.k (.int .i64 0))) none)]) (.seq (.draw [(.e, (PO.mk (some 15) (.mv (.t 2)) none)), (.s, (PO.mk (some 12) (.load true 68 (.t 4)) none)), (.s, (PO.mk (some 13) (.load true 68 (.t 4)) none)), (.s, (PO.mk (some 14) (.call (F 141) [(.t 13)]) none)), (.e, (PO.mk (some 16) (.build z108_9b14 [(0, (68, (.t 12))), (68, (32, (.t 14))), (100, (1, (.t 15)))]) none)), (.a, (PO.mk (some 7) (.alloc z108_9b14) none)), (.x, (PO.mk none (.store 108 (.t 7) (.t 16)) none))]) (.seq (.ops [(PO.mk (some 18) (.fldA 66 (.t 4)) none), (PO.mk (some 19) (.load false 1 (.t 18)) none), (PO.mk (some 20) (.call (F 135) [(.t 19)]) none), (PO.mk (some 17) (.mv (.t 20)) none), (PO.mk (some 21) (.ext 0 (.t 17)) none), (PO.mk (some 22) (.ext 1 (.t 17)) none), (PO.mk (some 8) (.alloc [(w64 0), (w64 0), (w64 0), (w64 0)]) none), (PO.mk none (.store 4 (.t 8) (.t 21)) none), (PO.mk (some 9) (.mv (.t 22)) none)]) (.seq (.ops [(PO.mk (some 23) (.load true 4 (.t 8)) none), (PO.mk (some 24) (.call (F 137) [(.t 23)]) none), (PO.mk (some 25) (.fldA 103 (.t 7)) none), (PO.mk none (.store 4 (.t 25) (.t 24)) none)]) (.seq (.seq (.ops [(PO.mk (some 26) (.mv (.t 2)) none), (PO.mk (some 27) (.bin .geq (.t 26) (.k (.int .i64 0))) none)]) (.cond (.t 27) (.seq (.ops [(PO.mk (some 28) (.mv (.t 0)) none), (PO.mk (some 29) (.nilck (.t 28)) none), (PO.mk (some 30) (.fldA 74 (.t 29)) none), (PO.mk (some 31) (.load false 1 (.t 30)) none), (PO.mk (some 32) (.mv (.t 2)) none), (PO.mk (some 33) (.idxSl 108 (.t 31) (.t 32)) none), (PO.mk (some 34) (.load true 108 (.t 33)) none), (PO.mk (some 10) (.alloc z108_9b14) none), (PO.mk none (.store 108 (.t 10) (.t 34)) none)]) (.seq (.ops [(PO.mk (some 35) (.fldA 102 (.t 10)) none), (PO.mk (some 36) (.load false 1 (.t 35)) none), (PO.mk (some 37) (.bin .add (.t 36) (.k (.int .i64 1))) none), (PO.mk (some 38) (.fldA 102 (.t 7)) none), (PO.mk none (.store 1 (.t 38) (.t 37)) none)]) (.seq (.ops [(PO.mk (some 40) (.fldA 103 (.t 7)) none), (PO.mk (some 41) (.load true 4 (.t 40)) none), (PO.mk (some 42) (.fldA 103 (.t 10)) none), (PO.mk (some 43) (.load true 4 (.t 42)) none), (PO.mk (some 44) (.bsl false 4 2 [(w64 0), (w64 0), (w64 0), (w64 0)] [(0, (4, (.t 41))), (4, (4, (.t 43)))]) none), (PO.mk (some 45) (.call (F 108) [(.t 44)]) none), (PO.mk (some 39) (.mv (.t 45)) none), (PO.mk (some 46) (.ext 0 (.t 39)) none), (PO.mk (some 47) (.ext 1 (.t 39)) none), (PO.mk (some 48) (.fldA 103 (.t 7)) none), (PO.mk none (.store 4 (.t 48) (.t 46)) none)]) (.ops [(PO.mk (some 49) (.mv (.t 0)) none), (PO.mk (some 50) (.mv (.t 2)) none), (PO.mk (some 51) (.fldA 102 (.t 7)) none), (PO.mk (some 52) (.load false 1 (.t 51)) none), (PO.mk (some 53) (.call (F 157) [(.t 52)]) none), (PO.mk (some 54) (.call (F 158) [(.t 49), (.t 50), (.t 53)]) none), (PO.mk (some 55) (.fldA 101 (.t 7)) none), (PO.mk none (.store 1 (.t 55) (.t 54)) none)])))) .skip)) (.seq (.ops [(PO.mk (some 56) (.mv (.t 0)) none), (PO.mk (some 57) (.nilck (.t 56)) none), (PO.mk (some 58) (.fldA 74 (.t 57)) none), (PO.mk (some 59) (.load false 1 (.t 58)) none), (PO.mk (some 60) (.lenSl (.t 59)) none), (PO.mk (some 11) (.mv (.t 60)) none)]) (.seq (.draw [(.e, (PO.mk (some 61) (.mv (.t 0)) none)), (.e, (PO.mk (some 62) (.mv (.t 0)) none)), (.e, (PO.mk (some 63) (.nilck (.t 62)) none)), (.e, (PO.mk (some 64) (.fldA 74 (.t 63)) none)), (.s, (PO.mk (some 65) (.load false 1 (.t 64)) none)), (.s, (PO.mk (some 66) (.load true 108 (.t 7)) none)), (.e, (PO.mk (some 67) (.bsl false 108 1 z108_9b14 [(0, (108, (.t 66)))]) none)), (.x, (PO.mk (some 68) (.app 108 176 (.t 65) (.t 67)) none)), (.e, (PO.mk (some 69) (.nilck (.t 61)) none)), (.e, (PO.mk (some 70) (.fldA 74 (.t 69)) none)), (.x, (PO.mk none (.store 1 (.t 70) (.t 68)) none))]) (.seq (.draw [(.e, (PO.mk (some 71) (.mv (.t 0)) none)), (.e, (PO.mk (some 72) (.nilck (.t 71)) none)), (.e, (PO.mk (some 73) (.fldA 75 (.t 72)) none)), (.e, (PO.mk (some 75) (.fldA 68 (.t 7)) none)), (.e, (PO.mk (some 77) (.mv (.t 11)) none)), (.s, (PO.mk (some 74) (.load false 1 (.t 73)) none)), (.s, (PO.mk (some 76) (.load true 32 (.t 75)) none)), (.x, (PO.mk none (.mset (.agg 32) (.t 74) (.t 76) (.t 77)) none))]) (.seq (.ops [(PO.mk (some 78) (.mv (.t 11)) none), (PO.mk (some 6) (.mv (.t 78)) none)]) .ret)))))))))
-- regions [0, 1, 2, 3, 4, 5]
/- tallystick/index.skip -/
def k157 (F : Fn) : PF := PF.mk 20 1 [(.t 2)] (.seq (.ops [(PO.mk (some 2) (.mv (.k (.int .i64 0))) none)]) (.seq (.block 0 (.seq (.ops [(PO.mk (some 4) (.mv (.t 0)) none), (PO.mk (some 5) (.bin .lss (.t 4) (.k (.int .i64 2))) none), (PO.mk (some 3) (.mv (.t 5)) none)]) (.cond (.t 3) (.seq (.ops [(PO.mk (some 2) (.mv (.k (.int .i64 0))) none)]) .ret) (.seq (.ops [(PO.mk (some 7) (.mv (.t 0)) none), (PO.mk (some 8) (.bin .rem (.t 7) (.k (.int .i64 2))) none), (PO.mk (some 9) (.bin .eql (.t 8) (.k (.int .i64 1))) none), (PO.mk (some 6) (.mv (.t 9)) none)]) (.cond (.t 6) (.seq (.ops [(PO.mk (some 10) (.mv (.t 0)) none), (PO.mk (some 11) (.bin .sub (.t 10) (.k (.int .i64 1))) none), (PO.mk (some 12) (.mv (.t 0)) none), (PO.mk (some 13) (.bin .sub (.t 12) (.k (.int .i64 2))) none), (PO.mk (some 14) (.bin .and (.t 11) (.t 13)) none), (PO.mk (some 15) (.bin .add (.t 14) (.k (.int .i64 1))) none), (PO.mk (some 2) (.mv (.t 15)) none)]) .ret) .skip))))) (.seq (.ops [(PO.mk (some 16) (.mv (.t 0)) none), (PO.mk (some 17) (.mv (.t 0)) none), (PO.mk (some 18) (.bin .sub (.t 17) (.k (.int .i64 1))) none), (PO.mk (some 19) (.bin .and (.t 16) (.t 18)) none), (PO.mk (some 2) (.mv (.t 19)) none)]) .ret)))
-- regions [0, 1]
/- (*tallystick/index.Tree).Len -/
def k159 (F : Fn) : PF := PF.mk 8 1 [(.t 2)] (.seq (.ops [(PO.mk (some 2) (.mv (.k (.int .i64 0))) none)]) (.seq (.ops [(PO.mk (some 3) (.mv (.t 0)) none), (PO.mk (some 4) (.nilck (.t 3)) none), (PO.mk (some 5) (.fldA 74 (.t 4)) none), (PO.mk (some 6) (.load false 1 (.t 5)) none), (PO.mk (some 7) (.lenSl (.t 6)) none), (PO.mk (some 2) (.mv (.t 7)) none)]) .ret))
-- regions [0, 1, 2, 3]
/- (*tallystick/index.Tree).Get -/
def k161 (F : Fn) : PF := PF.mk 23 2 [(PR.cell 4 true 108)] (.seq (.ops [(PO.mk (some 4) (.alloc z108_9b14) none)]) (.seq (.seq (.ops [(PO.mk (some 5) (.mv (.t 1)) none), (PO.mk (some 6) (.bin .lss (.t 5) (.k (.int .i64 0))) none), (PO.mk (some 7) (.mv (.t 6)) none), (PO.mk (some 8) (.mv (.t 1)) (some (7, false))), (PO.mk (some 9) (.mv (.t 0)) (some (7, false))), (PO.mk (some 10) (.nilck (.t 9)) (some (7, false))), (PO.mk (some 11) (.fldA 74 (.t 10)) (some (7, false))), (PO.mk (some 12) (.load false 1 (.t 11)) (some (7, false))), (PO.mk (some 13) (.lenSl (.t 12)) (some (7, false))), (PO.mk (some 14) (.bin .geq (.t 8) (.t 13)) (some (7, false))), (PO.mk (some 15) (.pick (.t 7) (.k (.bool true)) (.t 14)) none)]) (.cond (.t 15) (.ops [(PO.mk (some 1) (.mv (.k (.int .i64 0))) none)]) .skip)) (.seq (.ops [(PO.mk (some 16) (.mv (.t 0)) none), (PO.mk (some 17) (.nilck (.t 16)) none), (PO.mk (some 18) (.fldA 74 (.t 17)) none), (PO.mk (some 19) (.load false 1 (.t 18)) none), (PO.mk (some 20) (.mv (.t 1)) none), (PO.mk (some 21) (.idxSl 108 (.t 19) (.t 20)) none), (PO.mk (some 22) (.load true 108 (.t 21)) none), (PO.mk none (.store 108 (.t 4) (.t 22)) none)]) .ret)))
-- regions [0, 1, 2, 3, 4, 5, 6, 7, 8]
/- (*tallystick/index.Tree).Ancestor -/
def k158 (F : Fn) : PF := PF.mk 73 3 [(.t 6)] (.seq (.ops [(PO.mk (some 6) (.mv (.k (.int .i64 0))) none)]) (.seq (.seq (.ops [(PO.mk (some 8) (.mv (.t 1)) none), (PO.mk (some 9) (.bin .lss (.t 8) (.k (.int .i64 0))) none), (PO.mk (some 10) (.mv (.t 9)) none), (PO.mk (some 11) (.mv (.t 1)) (some (10, false))), (PO.mk (some 12) (.mv (.t 0)) (some (10, false))), (PO.mk (some 13) (.nilck (.t 12)) (some (10, false))), (PO.mk (some 14) (.fldA 74 (.t 13)) (some (10, false))), (PO.mk (some 15) (.load false 1 (.t 14)) (some (10, false))), (PO.mk (some 16) (.lenSl (.t 15)) (some (10, false))), (PO.mk (some 17) (.bin .geq (.t 11) (.t 16)) (some (10, false))), (PO.mk (some 18) (.pick (.t 10) (.k (.bool true)) (.t 17)) none), (PO.mk (some 19) (.mv (.t 18)) none), (PO.mk (some 20) (.mv (.t 2)) (some (19, false))), (PO.mk (some 21) (.bin .lss (.t 20) (.k (.int .i64 0))) (some (19, false))), (PO.mk (some 22) (.pick (.t 19) (.k (.bool true)) (.t 21)) none), (PO.mk (some 23) (.mv (.t 22)) none), (PO.mk (some 24) (.mv (.t 2)) (some (23, false))), (PO.mk (some 25) (.mv (.t 0)) (some (23, false))), (PO.mk (some 26) (.nilck (.t 25)) (some (23, false))), (PO.mk (some 27) (.fldA 74 (.t 26)) (some (23, false))), (PO.mk (some 28) (.load false 1 (.t 27)) (some (23, false))), (PO.mk (some 29) (.mv (.t 1)) (some (23, false))), (PO.mk (some 30) (.idxSl 108 (.t 28) (.t 29)) (some (23, false))), (PO.mk (some 31) (.fldA 102 (.t 30)) (some (23, false))), (PO.mk (some 32) (.load false 1 (.t 31)) (some (23, false))), (PO.mk (some 33) (.bin .gtr (.t 24) (.t 32)) (some (23, false))), (PO.mk (some 34) (.pick (.t 23) (.k (.bool true)) (.t 33)) none)]) (.cond (.t 34) (.seq (.ops [(PO.mk (some 6) (.mv (.k (.int .i64 (-1)))) none)]) .ret) .skip)) (.seq (.block 0 (.loop (.seq (.seq (.ops [(PO.mk (some 35) (.mv (.t 0)) none), (PO.mk (some 36) (.nilck (.t 35)) none), (PO.mk (some 37) (.fldA 74 (.t 36)) none), (PO.mk (some 38) (.load false 1 (.t 37)) none), (PO.mk (some 39) (.mv (.t 1)) none), (PO.mk (some 40) (.idxSl 108 (.t 38) (.t 39)) none), (PO.mk (some 41) (.fldA 102 (.t 40)) none), (PO.mk (some 42) (.load false 1 (.t 41)) none), (PO.mk (some 43) (.mv (.t 2)) none), (PO.mk (some 44) (.bin .gtr (.t 42) (.t 43)) none)]) (.cond (.t 44) .skip (.exit 0))) (.block 1 (.seq (.ops [(PO.mk (some 45) (.mv (.t 0)) none), (PO.mk (some 46) (.nilck (.t 45)) none), (PO.mk (some 47) (.fldA 74 (.t 46)) none), (PO.mk (some 48) (.load false 1 (.t 47)) none), (PO.mk (some 49) (.mv (.t 1)) none), (PO.mk (some 50) (.idxSl 108 (.t 48) (.t 49)) none), (PO.mk (some 51) (.fldA 101 (.t 50)) none), (PO.mk (some 52) (.load false 1 (.t 51)) none), (PO.mk (some 7) (.mv (.t 52)) none)]) (.seq (.ops [(PO.mk (some 53) (.mv (.t 0)) none), (PO.mk (some 54) (.nilck (.t 53)) none), (PO.mk (some 55) (.fldA 74 (.t 54)) none), (PO.mk (some 56) (.load false 1 (.t 55)) none), (PO.mk (some 57) (.mv (.t 7)) none), (PO.mk (some 58) (.idxSl 108 (.t 56) (.t 57)) none), (PO.mk (some 59) (.fldA 102 (.t 58)) none), (PO.mk (some 60) (.load false 1 (.t 59)) none), (PO.mk (some 61) (.mv (.t 2)) none), (PO.mk (some 62) (.bin .geq (.t 60) (.t 61)) none)]) (.cond (.t 62) (.ops [(PO.mk (some 63) (.mv (.t 7)) none), (PO.mk (some 1) (.mv (.t 63)) none)]) (.ops [(PO.mk (some 64) (.mv (.t 0)) none), (PO.mk (some 65) (.nilck (.t 64)) none), (PO.mk (some 66) (.fldA 74 (.t 65)) none), (PO.mk (some 67) (.load false 1 (.t 66)) none), (PO.mk (some 68) (.mv (.t 1)) none), (PO.mk (some 69) (.idxSl 108 (.t 67) (.t 68)) none), (PO.mk (some 70) (.fldA 100 (.t 69)) none), (PO.mk (some 71) (.load false 1 (.t 70)) none), (PO.mk (some 1) (.mv (.t 71)) none)])))))))) (.seq (.ops [(PO.mk (some 72) (.mv (.t 1)) none), (PO.mk (some 6) (.mv (.t 72)) none)]) .ret))))
-- regions [0, 1]
/- (*tallystick/index.Tree).On -/
def k163 (F : Fn) : PF := PF.mk 33 3 [(.t 6)] (.seq (.ops [(PO.mk (some 6) (.mv (.k (.bool false))) none)]) (.seq (.ops [(PO.mk (some 7) (.mv (.t 1)) none), (PO.mk (some 8) (.bin .geq (.t 7) (.k (.int .i64 0))) none), (PO.mk (some 9) (.mv (.t 8)) none), (PO.mk (some 10) (.mv (.t 1)) (some (9, true))), (PO.mk (some 11) (.mv (.t 0)) (some (9, true))), (PO.mk (some 12) (.nilck (.t 11)) (some (9, true))), (PO.mk (some 13) (.fldA 74 (.t 12)) (some (9, true))), (PO.mk (some 14) (.load false 1 (.t 13)) (some (9, true))), (PO.mk (some 15) (.lenSl (.t 14)) (some (9, true))), (PO.mk (some 16) (.bin .lss (.t 10) (.t 15)) (some (9, true))), (PO.mk (some 17) (.pick (.t 9) (.t 16) (.k (.bool false))) none), (PO.mk (some 18) (.mv (.t 17)) none), (PO.mk (some 19) (.mv (.t 0)) (some (18, true))), (PO.mk (some 20) (.mv (.t 2)) (some (18, true))), (PO.mk (some 21) (.mv (.t 0)) (some (18, true))), (PO.mk (some 22) (.nilck (.t 21)) (some (18, true))), (PO.mk (some 23) (.fldA 74 (.t 22)) (some (18, true))), (PO.mk (some 24) (.load false 1 (.t 23)) (some (18, true))), (PO.mk (some 25) (.mv (.t 1)) (some (18, true))), (PO.mk (some 26) (.idxSl 108 (.t 24) (.t 25)) (some (18, true))), (PO.mk (some 27) (.fldA 102 (.t 26)) (some (18, true))), (PO.mk (some 28) (.load false 1 (.t 27)) (some (18, true))), (PO.mk (some 29) (.call (F 158) [(.t 19), (.t 20), (.t 28)]) (some (18, true))), (PO.mk (some 30) (.mv (.t 1)) (some (18, true))), (PO.mk (some 31) (.bin .eql (.t 29) (.t 30)) (some (18, true))), (PO.mk (some 32) (.pick (.t 18) (.t 31) (.k (.bool false))) none), (PO.mk (some 6) (.mv (.t 32)) none)]) .ret))
-- regions [0, 1, 2]
/- tallystick/index.middle[uint32] -/
def k164 (F : Fn) : PF := PF.mk 11 1 [(.t 2)] (.seq (.ops [(PO.mk (some 2) (.mv (.k (w32 0))) none)]) (.seq (.ops [(PO.mk (some 3) (.mv (.t 0)) none), (PO.mk (some 4) (.call (F 165) [(.t 3)]) none)]) (.seq (.ops [(PO.mk (some 5) (.mv (.t 0)) none), (PO.mk (some 6) (.mv (.t 0)) none), (PO.mk (some 7) (.lenSl (.t 6)) none), (PO.mk (some 8) (.bin .quo (.t 7) (.k (.int .i64 2))) none), (PO.mk (some 9) (.idxSl 1 (.t 5) (.t 8)) none), (PO.mk (some 10) (.load false 1 (.t 9)) none), (PO.mk (some 2) (.mv (.t 10)) none)]) .ret)))
-- regions [0, 1, 2, 3, 5, 4, 6]
/- (*tallystick/index.Tree).Median -/
def k166 (F : Fn) : PF := PF.mk 44 2 [(.t 4)] (.seq (.ops [(PO.mk (some 4) (.mv (.k (w32 0))) none)]) (.seq (.ops [(PO.mk (some 5) (.mv (.k (.sl .nil [] 0))) none)]) (.seq (.seq (.ops [(PO.mk (some 6) (.mv (.t 1)) none), (PO.mk (some 7) (.mv (.t 0)) none), (PO.mk (some 8) (.nilck (.t 7)) none), (PO.mk (some 9) (.fldA 74 (.t 8)) none), (PO.mk (some 10) (.load false 1 (.t 9)) none), (PO.mk (some 11) (.lenSl (.t 10)) none), (PO.mk (some 12) (.bin .sub (.t 11) (.k (.int .i64 1))) none), (PO.mk (some 13) (.min [(.t 6), (.t 12)]) none), (PO.mk (some 14) (.max [(.k (.int .i64 0)), (.t 13)]) none), (PO.mk (some 1) (.mv (.t 14)) none)]) (.block 0 (.loop (.seq (.seq (.ops [(PO.mk (some 15) (.mv (.t 1)) none), (PO.mk (some 16) (.bin .geq (.t 15) (.k (.int .i64 0))) none), (PO.mk (some 17) (.mv (.t 16)) none), (PO.mk (some 18) (.mv (.t 5)) (some (17, true))), (PO.mk (some 19) (.lenSl (.t 18)) (some (17, true))), (PO.mk (some 20) (.bin .lss (.t 19) (.k (.int .i64 11))) (some (17, true))), (PO.mk (some 21) (.pick (.t 17) (.t 20) (.k (.bool false))) none)]) (.cond (.t 21) .skip (.exit 0))) (.seq (.block 1 (.ops [(PO.mk (some 30) (.mv (.t 5)) none), (PO.mk (some 31) (.mv (.t 0)) none), (PO.mk (some 32) (.nilck (.t 31)) none), (PO.mk (some 33) (.fldA 74 (.t 32)) none), (PO.mk (some 34) (.load false 1 (.t 33)) none), (PO.mk (some 35) (.mv (.t 1)) none), (PO.mk (some 36) (.idxSl 108 (.t 34) (.t 35)) none), (PO.mk (some 37) (.fldA 0 (.t 36)) none), (PO.mk (some 38) (.fldA 65 (.t 37)) none), (PO.mk (some 39) (.load false 1 (.t 38)) none), (PO.mk (some 40) (.bsl false 1 1 [(w32 0)] [(0, (1, (.t 39)))]) none), (PO.mk (some 41) (.app 1 4 (.t 30) (.t 40)) none), (PO.mk (some 5) (.mv (.t 41)) none)])) (.ops [(PO.mk (some 22) (.mv (.t 0)) none), (PO.mk (some 23) (.nilck (.t 22)) none), (PO.mk (some 24) (.fldA 74 (.t 23)) none), (PO.mk (some 25) (.load false 1 (.t 24)) none), (PO.mk (some 26) (.mv (.t 1)) none), (PO.mk (some 27) (.idxSl 108 (.t 25) (.t 26)) none), (PO.mk (some 28) (.fldA 100 (.t 27)) none), (PO.mk (some 29) (.load false 1 (.t 28)) none), (PO.mk (some 1) (.mv (.t 29)) none)])))))) (.seq (.ops [(PO.mk (some 42) (.mv (.t 5)) none), (PO.mk (some 43) (.call (F 164) [(.t 42)]) none), (PO.mk (some 4) (.mv (.t 43)) none)]) .ret))))
-- regions [0, 1, 2, 3, 4, 5, 6, 7]
/- (*tallystick/index.Tree).Next -/
def k167 (F : Fn) : PF := PF.mk 100 2 [(.t 4)] (.seq (.ops [(PO.mk (some 4) (.mv (.k (w32 0))) none)]) (.seq (.ops [(PO.mk (some 11) (.mv (.t 0)) none), (PO.mk (some 12) (.mv (.t 1)) none), (PO.mk (some 13) (.call (F 161) [(.t 11), (.t 12)]) none), (PO.mk (some 5) (.alloc z108_9b14) none), (PO.mk none (.store 108 (.t 5) (.t 13)) none)]) (.seq (.seq (.draw [(.e, (PO.mk (some 14) (.mv (.t 0)) none)), (.e, (PO.mk (some 15) (.nilck (.t 14)) none)), (.e, (PO.mk (some 16) (.fldA 0 (.t 15)) none)), (.e, (PO.mk (some 17) (.fldA 1 (.t 16)) none)), (.s, (PO.mk (some 18) (.load false 1 (.t 17)) none)), (.e, (PO.mk (some 19) (.bin .eql (.t 18) (.k (.int .i64 0))) none)), (.e, (PO.mk (some 20) (.mv (.t 19)) none)), (.e, (PO.mk (some 21) (.fldA 102 (.t 5)) (some (20, false)))), (.e, (PO.mk (some 24) (.mv (.t 0)) (some (20, false)))), (.e, (PO.mk (some 25) (.nilck (.t 24)) (some (20, false)))), (.e, (PO.mk (some 26) (.fldA 0 (.t 25)) (some (20, false)))), (.e, (PO.mk (some 27) (.fldA 1 (.t 26)) (some (20, false)))), (.s, (PO.mk (some 22) (.load false 1 (.t 21)) (some (20, false)))), (.e, (PO.mk (some 23) (.bin .add (.t 22) (.k (.int .i64 1))) (some (20, false)))), (.s, (PO.mk (some 28) (.load false 1 (.t 27)) (some (20, false)))), (.e, (PO.mk (some 29) (.bin .rem (.t 23) (.t 28)) (some (20, false)))), (.e, (PO.mk (some 30) (.bin .neq (.t 29) (.k (.int .i64 0))) (some (20, false)))), (.e, (PO.mk (some 31) (.pick (.t 20) (.k (.bool true)) (.t 30)) none))]) (.cond (.t 31) (.seq (.ops [(PO.mk (some 32) (.fldA 0 (.t 5)) none), (PO.mk (some 33) (.fldA 66 (.t 32)) none), (PO.mk (some 34) (.load false 1 (.t 33)) none), (PO.mk (some 4) (.mv (.t 34)) none)]) .ret) .skip)) (.seq (.draw [(.e, (PO.mk (some 35) (.mv (.t 0)) none)), (.e, (PO.mk (some 36) (.nilck (.t 35)) none)), (.e, (PO.mk (some 37) (.fldA 74 (.t 36)) none)), (.e, (PO.mk (some 39) (.mv (.t 0)) none)), (.e, (PO.mk (some 40) (.mv (.t 1)) none)), (.e, (PO.mk (some 41) (.mv (.t 0)) none)), (.e, (PO.mk (some 42) (.nilck (.t 41)) none)), (.e, (PO.mk (some 43) (.fldA 74 (.t 42)) none)), (.e, (PO.mk (some 49) (.fldA 102 (.t 5)) none)), (.e, (PO.mk (some 52) (.mv (.t 0)) none)), (.e, (PO.mk (some 53) (.nilck (.t 52)) none)), (.e, (PO.mk (some 54) (.fldA 0 (.t 53)) none)), (.e, (PO.mk (some 55) (.fldA 1 (.t 54)) none)), (.s, (PO.mk (some 38) (.load false 1 (.t 37)) none)), (.s, (PO.mk (some 44) (.load false 1 (.t 43)) none)), (.e, (PO.mk (some 45) (.lenSl (.t 44)) none)), (.e, (PO.mk (some 46) (.bin .sub (.t 45) (.k (.int .i64 1))) none)), (.e, (PO.mk (some 47) (.min [(.t 40), (.t 46)]) none)), (.e, (PO.mk (some 48) (.max [(.k (.int .i64 0)), (.t 47)]) none)), (.s, (PO.mk (some 50) (.load false 1 (.t 49)) none)), (.e, (PO.mk (some 51) (.bin .add (.t 50) (.k (.int .i64 1))) none)), (.s, (PO.mk (some 56) (.load false 1 (.t 55)) none)), (.e, (PO.mk (some 57) (.bin .sub (.t 51) (.t 56)) none)), (.e, (PO.mk (some 58) (.max [(.k (.int .i64 0)), (.t 57)]) none)), (.s, (PO.mk (some 59) (.call (F 158) [(.t 39), (.t 48), (.t 58)]) none)), (.e, (PO.mk (some 60) (.idxSl 108 (.t 38) (.t 59)) none)), (.s, (PO.mk (some 61) (.load true 108 (.t 60)) none)), (.a, (PO.mk (some 6) (.alloc z108_9b14) none)), (.x, (PO.mk none (.store 108 (.t 6) (.t 61)) none))]) (.seq (.ops [(PO.mk (some 63) (.mv (.t 0)) none), (PO.mk (some 64) (.nilck (.t 63)) none), (PO.mk (some 65) (.fldA 0 (.t 64)) none), (PO.mk (some 66) (.fldA 0 (.t 65)) none), (PO.mk (some 67) (.load false 1 (.t 66)) none), (PO.mk (some 68) (.call (F 135) [(.t 67)]) none), (PO.mk (some 62) (.mv (.t 68)) none), (PO.mk (some 69) (.ext 0 (.t 62)) none), (PO.mk (some 70) (.ext 1 (.t 62)) none), (PO.mk (some 7) (.alloc [(w64 0), (w64 0), (w64 0), (w64 0)]) none), (PO.mk none (.store 4 (.t 7) (.t 69)) none), (PO.mk (some 8) (.mv (.t 70)) none)]) (.seq (.draw [(.e, (PO.mk (some 72) (.fldA 0 (.t 5)) none)), (.e, (PO.mk (some 73) (.fldA 66 (.t 72)) none)), (.e, (PO.mk (some 75) (.fldA 0 (.t 5)) none)), (.e, (PO.mk (some 76) (.fldA 65 (.t 75)) none)), (.e, (PO.mk (some 79) (.fldA 0 (.t 6)) none)), (.e, (PO.mk (some 80) (.fldA 65 (.t 79)) none)), (.e, (PO.mk (some 84) (.mv (.t 0)) none)), (.e, (PO.mk (some 85) (.nilck (.t 84)) none)), (.e, (PO.mk (some 86) (.fldA 0 (.t 85)) none)), (.e, (PO.mk (some 87) (.fldA 1 (.t 86)) none)), (.e, (PO.mk (some 89) (.mv (.t 0)) none)), (.e, (PO.mk (some 90) (.nilck (.t 89)) none)), (.e, (PO.mk (some 91) (.fldA 0 (.t 90)) none)), (.e, (PO.mk (some 92) (.fldA 2 (.t 91)) none)), (.s, (PO.mk (some 74) (.load false 1 (.t 73)) none)), (.s, (PO.mk (some 77) (.load false 1 (.t 76)) none)), (.e, (PO.mk (some 78) (.conv .i64 (.t 77)) none)), (.s, (PO.mk (some 81) (.load false 1 (.t 80)) none)), (.e, (PO.mk (some 82) (.conv .i64 (.t 81)) none)), (.e, (PO.mk (some 83) (.bin .sub (.t 78) (.t 82)) none)), (.s, (PO.mk (some 88) (.load false 1 (.t 87)) none)), (.s, (PO.mk (some 93) (.load false 1 (.t 92)) none)), (.e, (PO.mk (some 94) (.bin .mul (.t 88) (.t 93)) none)), (.s, (PO.mk (some 95) (.load true 4 (.t 7)) none)), (.x, (PO.mk (some 96) (.call (F 138) [(.t 74), (.t 83), (.t 94), (.t 95)]) none)), (.e, (PO.mk (some 71) (.mv (.t 96)) none)), (.e, (PO.mk (some 97) (.ext 0 (.t 71)) none)), (.e, (PO.mk (some 98) (.ext 1 (.t 71)) none)), (.e, (PO.mk (some 9) (.mv (.t 97)) none)), (.e, (PO.mk (some 10) (.mv (.t 98)) none))]) (.seq (.ops [(PO.mk (some 99) (.mv (.t 9)) none), (PO.mk (some 4) (.mv (.t 99)) none)]) .ret)))))))
-- regions [0, 1, 2, 3, 4, 5, 6, 7, 8, 9, 10, 11, 12, 13, 14]
/- (*tallystick/index.Tree).Fits -/
def k168 (F : Fn) : PF := PF.mk 61 4 [(.t 8)] (.seq (.ops [(PO.mk (some 5) (.box (.t 1)) none), (PO.mk (some 8) (.mv (.k (.int .i64 0))) none)]) (.seq (.seq (.ops [(PO.mk (some 10) (.mv (.t 2)) none), (PO.mk (some 11) (.bin .lss (.t 10) (.k (.int .i64 0))) none), (PO.mk (some 12) (.mv (.t 11)) none), (PO.mk (some 13) (.mv (.t 2)) (some (12, false))), (PO.mk (some 14) (.mv (.t 0)) (some (12, false))), (PO.mk (some 15) (.nilck (.t 14)) (some (12, false))), (PO.mk (some 16) (.fldA 74 (.t 15)) (some (12, false))), (PO.mk (some 17) (.load false 1 (.t 16)) (some (12, false))), (PO.mk (some 18) (.lenSl (.t 17)) (some (12, false))), (PO.mk (some 19) (.bin .geq (.t 13) (.t 18)) (some (12, false))), (PO.mk (some 20) (.pick (.t 12) (.k (.bool true)) (.t 19)) none)]) (.cond (.t 20) (.seq (.ops [(PO.mk (some 8) (.mv (.k (.int .i64 100))) none)]) .ret) .skip)) (.seq (.seq (.draw [(.e, (PO.mk (some 22) (.mv (.t 0)) none)), (.e, (PO.mk (some 23) (.nilck (.t 22)) none)), (.e, (PO.mk (some 24) (.fldA 0 (.t 23)) none)), (.e, (PO.mk (some 25) (.fldA 0 (.t 24)) none)), (.s, (PO.mk (some 21) (.load true 68 (.t 5)) none)), (.s, (PO.mk (some 26) (.load false 1 (.t 25)) none)), (.x, (PO.mk (some 27) (.call (F 142) [(.t 21), (.t 26)]) none)), (.e, (PO.mk (some 9) (.mv (.t 27)) none))]) (.seq (.ops [(PO.mk (some 28) (.mv (.t 9)) none), (PO.mk (some 29) (.bin .neq (.t 28) (.k (.int .i64 0))) none)]) (.cond (.t 29) (.seq (.ops [(PO.mk (some 30) (.mv (.t 9)) none), (PO.mk (some 8) (.mv (.t 30)) none)]) .ret) .skip))) (.seq (.block 0 (.seq (.ops [(PO.mk (some 32) (.mv (.t 0)) none), (PO.mk (some 33) (.nilck (.t 32)) none), (PO.mk (some 34) (.fldA 74 (.t 33)) none), (PO.mk (some 35) (.load false 1 (.t 34)) none), (PO.mk (some 36) (.mv (.t 2)) none), (PO.mk (some 37) (.idxSl 108 (.t 35) (.t 36)) none), (PO.mk (some 38) (.fldA 107 (.t 37)) none), (PO.mk (some 39) (.load false 1 (.t 38)) none), (PO.mk (some 31) (.mv (.t 39)) none)]) (.cond (.t 31) (.seq (.ops [(PO.mk (some 8) (.mv (.k (.int .i64 101))) none)]) .ret) (.seq (.draw [(.e, (PO.mk (some 41) (.fldA 66 (.t 5)) none)), (.e, (PO.mk (some 43) (.mv (.t 0)) none)), (.e, (PO.mk (some 44) (.mv (.t 2)) none)), (.s, (PO.mk (some 42) (.load false 1 (.t 41)) none)), (.s, (PO.mk (some 45) (.call (F 167) [(.t 43), (.t 44)]) none)), (.e, (PO.mk (some 46) (.bin .neq (.t 42) (.t 45)) none)), (.e, (PO.mk (some 40) (.mv (.t 46)) none))]) (.cond (.t 40) (.seq (.ops [(PO.mk (some 8) (.mv (.k (.int .i64 30))) none)]) .ret) (.seq (.draw [(.e, (PO.mk (some 48) (.fldA 65 (.t 5)) none)), (.e, (PO.mk (some 50) (.mv (.t 0)) none)), (.e, (PO.mk (some 51) (.mv (.t 2)) none)), (.s, (PO.mk (some 49) (.load false 1 (.t 48)) none)), (.s, (PO.mk (some 52) (.call (F 166) [(.t 50), (.t 51)]) none)), (.e, (PO.mk (some 53) (.bin .leq (.t 49) (.t 52)) none)), (.e, (PO.mk (some 47) (.mv (.t 53)) none))]) (.cond (.t 47) (.seq (.ops [(PO.mk (some 8) (.mv (.k (.int .i64 102))) none)]) .ret) (.seq (.ops [(PO.mk (some 55) (.fldA 65 (.t 5)) none), (PO.mk (some 56) (.load false 1 (.t 55)) none), (PO.mk (some 57) (.conv .i64 (.t 56)) none), (PO.mk (some 58) (.bin .sub (.t 57) (.k (.int .i64 7200))) none), (PO.mk (some 59) (.mv (.t 3)) none), (PO.mk (some 60) (.bin .gtr (.t 58) (.t 59)) none), (PO.mk (some 54) (.mv (.t 60)) none)]) (.cond (.t 54) (.seq (.ops [(PO.mk (some 8) (.mv (.k (.int .i64 103))) none)]) .ret) .skip))))))))) (.seq (.ops [(PO.mk (some 8) (.mv (.k (.int .i64 0))) none)]) .ret)))))
-- regions [0, 1, 2, 3, 4, 5, 6, 7, 8, 9, 10, 11, 12]
/- (*tallystick/index.Tree).Add -/
def k169 (F : Fn) : PF := PF.mk 55 3 [(.t 6), (.t 7)] (.seq (.ops [(PO.mk (some 4) (.box (.t 1)) none), (PO.mk (some 6) (.mv (.k (.int .i64 0))) none), (PO.mk (some 7) (.mv (.k (.int .i64 0))) none)]) (.seq (.seq (.draw [(.e, (PO.mk (some 14) (.mv (.t 0)) none)), (.e, (PO.mk (some 15) (.nilck (.t 14)) none)), (.e, (PO.mk (some 16) (.fldA 75 (.t 15)) none)), (.s, (PO.mk (some 17) (.load false 1 (.t 16)) none)), (.s, (PO.mk (some 18) (.load true 68 (.t 4)) none)), (.s, (PO.mk (some 19) (.call (F 141) [(.t 18)]) none)), (.s, (PO.mk (some 20) (.lookup (.agg 32) (.int .i64 0) true (.t 17) (.t 19)) none)), (.e, (PO.mk (some 13) (.mv (.t 20)) none)), (.e, (PO.mk (some 21) (.ext 0 (.t 13)) none)), (.e, (PO.mk (some 22) (.ext 1 (.t 13)) none)), (.e, (PO.mk (some 8) (.mv (.t 21)) none)), (.e, (PO.mk (some 9) (.mv (.t 22)) none))]) (.seq (.ops [(PO.mk (some 23) (.mv (.t 9)) none)]) (.cond (.t 23) (.seq (.ops [(PO.mk (some 24) (.mv (.t 8)) none), (PO.mk (some 6) (.mv (.t 24)) none), (PO.mk (some 7) (.mv (.k (.int .i64 5))) none)]) .ret) .skip))) (.seq (.draw [(.e, (PO.mk (some 26) (.mv (.t 0)) none)), (.e, (PO.mk (some 27) (.nilck (.t 26)) none)), (.e, (PO.mk (some 28) (.fldA 75 (.t 27)) none)), (.e, (PO.mk (some 30) (.fldA 1 (.t 4)) none)), (.s, (PO.mk (some 29) (.load false 1 (.t 28)) none)), (.s, (PO.mk (some 31) (.load true 32 (.t 30)) none)), (.s, (PO.mk (some 32) (.lookup (.agg 32) (.int .i64 0) true (.t 29) (.t 31)) none)), (.e, (PO.mk (some 25) (.mv (.t 32)) none)), (.e, (PO.mk (some 33) (.ext 0 (.t 25)) none)), (.e, (PO.mk (some 34) (.ext 1 (.t 25)) none)), (.e, (PO.mk (some 10) (.mv (.t 33)) none)), (.e, (PO.mk (some 11) (.mv (.t 34)) none))]) (.seq (.seq (.ops [(PO.mk (some 35) (.mv (.t 11)) none), (PO.mk (some 36) (.not (.t 35)) none)]) (.cond (.t 36) (.seq (.ops [(PO.mk (some 6) (.mv (.k (.int .i64 (-1)))) none), (PO.mk (some 7) (.mv (.k (.int .i64 100))) none)]) .ret) .skip)) (.seq (.seq (.ops [(PO.mk (some 37) (.mv (.t 0)) none), (PO.mk (some 38) (.load true 68 (.t 4)) none), (PO.mk (some 39) (.mv (.t 10)) none), (PO.mk (some 40) (.mv (.t 2)) none), (PO.mk (some 41) (.call (F 168) [(.t 37), (.t 38), (.t 39), (.t 40)]) none), (PO.mk (some 12) (.mv (.t 41)) none)]) (.seq (.ops [(PO.mk (some 42) (.mv (.t 12)) none), (PO.mk (some 43) (.bin .neq (.t 42) (.k (.int .i64 0))) none)]) (.cond (.t 43) (.seq (.ops [(PO.mk (some 44) (.mv (.t 12)) none), (PO.mk (some 6) (.mv (.k (.int .i64 (-1)))) none), (PO.mk (some 7) (.mv (.t 44)) none)]) .ret) .skip))) (.seq (.seq (.ops [(PO.mk (some 45) (.mv (.t 0)) none), (PO.mk (some 46) (.nilck (.t 45)) none), (PO.mk (some 47) (.fldA 74 (.t 46)) none), (PO.mk (some 48) (.load false 1 (.t 47)) none), (PO.mk (some 49) (.lenSl (.t 48)) none), (PO.mk (some 50) (.bin .eql (.t 49) (.k (.int .i64 16384))) none)]) (.cond (.t 50) (.seq (.ops [(PO.mk (some 6) (.mv (.k (.int .i64 (-1)))) none), (PO.mk (some 7) (.mv (.k (.int .i64 3))) none)]) .ret) .skip)) (.seq (.ops [(PO.mk (some 51) (.mv (.t 0)) none), (PO.mk (some 52) (.load true 68 (.t 4)) none), (PO.mk (some 53) (.mv (.t 10)) none), (PO.mk (some 54) (.call (F 156) [(.t 51), (.t 52), (.t 53)]) none), (PO.mk (some 6) (.mv (.t 54)) none), (PO.mk (some 7) (.mv (.k (.int .i64 0))) none)]) .ret)))))))
-- regions [0, 1, 2, 3, 4, 5, 7, 8, 9, 10, 6, 11]
/- (*tallystick/index.Tree).Fail -/
def k170 (F : Fn) : PF := PF.mk 65 2 [(.t 4)] (.seq (.ops [(PO.mk (some 4) (.mv (.k (.int .i64 0))) none)]) (.seq (.seq (.ops [(PO.mk (some 8) (.mv (.t 1)) none), (PO.mk (some 9) (.bin .lss (.t 8) (.k (.int .i64 1))) none), (PO.mk (some 10) (.mv (.t 9)) none), (PO.mk (some 11) (.mv (.t 1)) (some (10, false))), (PO.mk (some 12) (.mv (.t 0)) (some (10, false))), (PO.mk (some 13) (.nilck (.t 12)) (some (10, false))), (PO.mk (some 14) (.fldA 74 (.t 13)) (some (10, false))), (PO.mk (some 15) (.load false 1 (.t 14)) (some (10, false))), (PO.mk (some 16) (.lenSl (.t 15)) (some (10, false))), (PO.mk (some 17) (.bin .geq (.t 11) (.t 16)) (some (10, false))), (PO.mk (some 18) (.pick (.t 10) (.k (.bool true)) (.t 17)) none)]) (.cond (.t 18) (.seq (.ops [(PO.mk (some 4) (.mv (.k (.int .i64 0))) none)]) .ret) .skip)) (.seq (.ops [(PO.mk (some 5) (.mv (.k (.int .i64 0))) none)]) (.seq (.seq (.ops [(PO.mk (some 19) (.mv (.t 1)) none), (PO.mk (some 6) (.mv (.t 19)) none)]) (.block 0 (.loop (.seq (.seq (.ops [(PO.mk (some 20) (.mv (.t 6)) none), (PO.mk (some 21) (.mv (.t 0)) none), (PO.mk (some 22) (.nilck (.t 21)) none), (PO.mk (some 23) (.fldA 74 (.t 22)) none), (PO.mk (some 24) (.load false 1 (.t 23)) none), (PO.mk (some 25) (.lenSl (.t 24)) none), (PO.mk (some 26) (.bin .lss (.t 20) (.t 25)) none)]) (.cond (.t 26) .skip (.exit 0))) (.seq (.block 1 (.seq (.ops [(PO.mk (some 29) (.mv (.t 0)) none), (PO.mk (some 30) (.nilck (.t 29)) none), (PO.mk (some 31) (.fldA 74 (.t 30)) none), (PO.mk (some 32) (.load false 1 (.t 31)) none), (PO.mk (some 33) (.mv (.t 6)) none), (PO.mk (some 34) (.idxSl 108 (.t 32) (.t 33)) none), (PO.mk (some 7) (.mv (.t 34)) none)]) (.seq (.ops [(PO.mk (some 35) (.mv (.t 7)) none), (PO.mk (some 36) (.nilck (.t 35)) none), (PO.mk (some 37) (.fldA 107 (.t 36)) none), (PO.mk (some 38) (.load false 1 (.t 37)) none), (PO.mk (some 39) (.not (.t 38)) none), (PO.mk (some 40) (.mv (.t 39)) none), (PO.mk (some 41) (.mv (.t 6)) (some (40, true))), (PO.mk (some 42) (.mv (.t 1)) (some (40, true))), (PO.mk (some 43) (.bin .eql (.t 41) (.t 42)) (some (40, true))), (PO.mk (some 44) (.mv (.t 43)) (some (40, true))), (PO.mk (some 45) (.mv (.t 7)) (some (44, false))), (PO.mk (some 46) (.nilck (.t 45)) (some (44, false))), (PO.mk (some 47) (.fldA 100 (.t 46)) (some (44, false))), (PO.mk (some 48) (.load false 1 (.t 47)) (some (44, false))), (PO.mk (some 49) (.mv (.t 1)) (some (44, false))), (PO.mk (some 50) (.bin .geq (.t 48) (.t 49)) (some (44, false))), (PO.mk (some 51) (.mv (.t 50)) (some (44, false))), (PO.mk (some 52) (.mv (.t 0)) (some (51, true))), (PO.mk (some 53) (.mv (.t 1)) (some (51, true))), (PO.mk (some 54) (.mv (.t 6)) (some (51, true))), (PO.mk (some 55) (.call (F 163) [(.t 52), (.t 53), (.t 54)]) (some (51, true))), (PO.mk (some 56) (.pick (.t 51) (.t 55) (.k (.bool false))) (some (44, false))), (PO.mk (some 57) (.pick (.t 44) (.k (.bool true)) (.t 56)) (some (40, true))), (PO.mk (some 58) (.pick (.t 40) (.t 57) (.k (.bool false))) none)]) (.cond (.t 58) (.seq (.ops [(PO.mk (some 59) (.mv (.t 7)) none), (PO.mk (some 60) (.nilck (.t 59)) none), (PO.mk (some 61) (.fldA 107 (.t 60)) none), (PO.mk none (.store 1 (.t 61) (.k (.bool true))) none)]) (.ops [(PO.mk (some 62) (.mv (.t 5)) none), (PO.mk (some 63) (.bin .add (.t 62) (.k (.int .i64 1))) none), (PO.mk (some 5) (.mv (.t 63)) none)])) .skip)))) (.ops [(PO.mk (some 27) (.mv (.t 6)) none), (PO.mk (some 28) (.bin .add (.t 27) (.k (.int .i64 1))) none), (PO.mk (some 6) (.mv (.t 28)) none)])))))) (.seq (.ops [(PO.mk (some 64) (.mv (.t 5)) none), (PO.mk (some 4) (.mv (.t 64)) none)]) .ret)))))
-- regions [0, 1]
/- slices.Sort[[]uint32,uint32] -/
def k165 (F : Fn) : PF := PF.mk 11 1 [] (.seq (.ops [(PO.mk (some 3) (.mv (.t 0)) none), (PO.mk (some 4) (.lenSl (.t 3)) none), (PO.mk (some 2) (.mv (.t 4)) none)]) (.ops [(PO.mk (some 5) (.mv (.t 0)) none), (PO.mk (some 6) (.mv (.t 2)) none), (PO.mk (some 7) (.mv (.t 2)) none), (PO.mk (some 8) (.conv .u64 (.t 7)) none), (PO.mk (some 9) (.call (F 171) [(.t 8)]) none), (PO.mk (some 10) (.call (F 172) [(.t 5), (.k (.int .i64 0)), (.t 6), (.t 9)]) none)]))
-- regions [0, 1, 2, 3, 4, 5, 6, 7, 8, 9, 10, 11, 12, 13, 14, 15, 16, 17, 18, 19, 20, 21, 22, 23, 24, 25, 26, 27, 28, 29, 30]
/- slices.pdqsortOrdered[uint32] -/
def k172 (F : Fn) : PF := PF.mk 134 4 [] (.seq (.ops [(PO.mk (some 8) (.mv (.k (.bool true))) none)]) (.seq (.ops [(PO.mk (some 9) (.mv (.k (.bool true))) none)]) (.block 0 (.loop (.block 1 (.seq (.ops [(PO.mk (some 19) (.mv (.t 2)) none), (PO.mk (some 20) (.mv (.t 1)) none), (PO.mk (some 21) (.bin .sub (.t 19) (.t 20)) none), (PO.mk (some 10) (.mv (.t 21)) none)]) (.seq (.seq (.ops [(PO.mk (some 22) (.mv (.t 10)) none), (PO.mk (some 23) (.bin .leq (.t 22) (.k (.int .i64 12))) none)]) (.cond (.t 23) (.seq (.ops [(PO.mk (some 24) (.mv (.t 0)) none), (PO.mk (some 25) (.mv (.t 1)) none), (PO.mk (some 26) (.mv (.t 2)) none), (PO.mk (some 27) (.call (F 173) [(.t 24), (.t 25), (.t 26)]) none)]) .ret) .skip)) (.seq (.seq (.ops [(PO.mk (some 28) (.mv (.t 3)) none), (PO.mk (some 29) (.bin .eql (.t 28) (.k (.int .i64 0))) none)]) (.cond (.t 29) (.seq (.ops [(PO.mk (some 30) (.mv (.t 0)) none), (PO.mk (some 31) (.mv (.t 1)) none), (PO.mk (some 32) (.mv (.t 2)) none), (PO.mk (some 33) (.call (F 174) [(.t 30), (.t 31), (.t 32)]) none)]) .ret) .skip)) (.seq (.seq (.ops [(PO.mk (some 34) (.mv (.t 8)) none), (PO.mk (some 35) (.not (.t 34)) none)]) (.cond (.t 35) (.seq (.ops [(PO.mk (some 36) (.mv (.t 0)) none), (PO.mk (some 37) (.mv (.t 1)) none), (PO.mk (some 38) (.mv (.t 2)) none), (PO.mk (some 39) (.call (F 175) [(.t 36), (.t 37), (.t 38)]) none)]) (.ops [(PO.mk (some 40) (.mv (.t 3)) none), (PO.mk (some 41) (.bin .sub (.t 40) (.k (.int .i64 1))) none), (PO.mk (some 3) (.mv (.t 41)) none)])) .skip)) (.seq (.ops [(PO.mk (some 43) (.mv (.t 0)) none), (PO.mk (some 44) (.mv (.t 1)) none), (PO.mk (some 45) (.mv (.t 2)) none), (PO.mk (some 46) (.call (F 176) [(.t 43), (.t 44), (.t 45)]) none), (PO.mk (some 42) (.mv (.t 46)) none), (PO.mk (some 47) (.ext 0 (.t 42)) none), (PO.mk (some 48) (.ext 1 (.t 42)) none), (PO.mk (some 11) (.mv (.t 47)) none), (PO.mk (some 12) (.mv (.t 48)) none)]) (.seq (.seq (.ops [(PO.mk (some 49) (.mv (.t 12)) none), (PO.mk (some 50) (.bin .eql (.t 49) (.k (.int .i64 2))) none)]) (.cond (.t 50) (.seq (.ops [(PO.mk (some 51) (.mv (.t 0)) none), (PO.mk (some 52) (.mv (.t 1)) none), (PO.mk (some 53) (.mv (.t 2)) none), (PO.mk (some 54) (.call (F 177) [(.t 51), (.t 52), (.t 53)]) none)]) (.seq (.ops [(PO.mk (some 55) (.mv (.t 2)) none), (PO.mk (some 56) (.bin .sub (.t 55) (.k (.int .i64 1))) none), (PO.mk (some 57) (.mv (.t 11)) none), (PO.mk (some 58) (.mv (.t 1)) none), (PO.mk (some 59) (.bin .sub (.t 57) (.t 58)) none), (PO.mk (some 60) (.bin .sub (.t 56) (.t 59)) none), (PO.mk (some 11) (.mv (.t 60)) none)]) (.ops [(PO.mk (some 12) (.mv (.k (.int .i64 1))) none)]))) .skip)) (.seq (.seq (.ops [(PO.mk (some 61) (.mv (.t 8)) none), (PO.mk (some 62) (.mv (.t 61)) none), (PO.mk (some 63) (.mv (.t 9)) (some (62, true))), (PO.mk (some 64) (.pick (.t 62) (.t 63) (.k (.bool false))) none), (PO.mk (some 65) (.mv (.t 64)) none), (PO.mk (some 66) (.mv (.t 12)) (some (65, true))), (PO.mk (some 67) (.bin .eql (.t 66) (.k (.int .i64 1))) (some (65, true))), (PO.mk (some 68) (.pick (.t 65) (.t 67) (.k (.bool false))) none)]) (.cond (.t 68) (.seq (.ops [(PO.mk (some 69) (.mv (.t 0)) none), (PO.mk (some 70) (.mv (.t 1)) none), (PO.mk (some 71) (.mv (.t 2)) none), (PO.mk (some 72) (.call (F 178) [(.t 69), (.t 70), (.t 71)]) none)]) (.cond (.t 72) .ret .skip)) .skip)) (.seq (.seq (.draw [(.e, (PO.mk (some 73) (.mv (.t 1)) none)), (.e, (PO.mk (some 74) (.bin .gtr (.t 73) (.k (.int .i64 0))) none)), (.e, (PO.mk (some 75) (.mv (.t 74)) none)), (.e, (PO.mk (some 76) (.mv (.t 0)) (some (75, true)))), (.e, (PO.mk (some 77) (.mv (.t 1)) (some (75, true)))), (.e, (PO.mk (some 78) (.bin .sub (.t 77) (.k (.int .i64 1))) (some (75, true)))), (.e, (PO.mk (some 79) (.idxSl 1 (.t 76) (.t 78)) (some (75, true)))), (.e, (PO.mk (some 81) (.mv (.t 0)) (some (75, true)))), (.e, (PO.mk (some 82) (.mv (.t 11)) (some (75, true)))), (.e, (PO.mk (some 83) (.idxSl 1 (.t 81) (.t 82)) (some (75, true)))), (.s, (PO.mk (some 80) (.load false 1 (.t 79)) (some (75, true)))), (.s, (PO.mk (some 84) (.load false 1 (.t 83)) (some (75, true)))), (.x, (PO.mk (some 85) (.call (F 179) [(.t 80), (.t 84)]) (some (75, true)))), (.e, (PO.mk (some 86) (.not (.t 85)) (some (75, true)))), (.e, (PO.mk (some 87) (.pick (.t 75) (.t 86) (.k (.bool false))) none))]) (.cond (.t 87) (.seq (.ops [(PO.mk (some 88) (.mv (.t 0)) none), (PO.mk (some 89) (.mv (.t 1)) none), (PO.mk (some 90) (.mv (.t 2)) none), (PO.mk (some 91) (.mv (.t 11)) none), (PO.mk (some 92) (.call (F 180) [(.t 88), (.t 89), (.t 90), (.t 91)]) none), (PO.mk (some 13) (.mv (.t 92)) none)]) (.seq (.ops [(PO.mk (some 93) (.mv (.t 13)) none), (PO.mk (some 1) (.mv (.t 93)) none)]) (.exit 1))) .skip)) (.seq (.ops [(PO.mk (some 95) (.mv (.t 0)) none), (PO.mk (some 96) (.mv (.t 1)) none), (PO.mk (some 97) (.mv (.t 2)) none), (PO.mk (some 98) (.mv (.t 11)) none), (PO.mk (some 99) (.call (F 181) [(.t 95), (.t 96), (.t 97), (.t 98)]) none), (PO.mk (some 94) (.mv (.t 99)) none), (PO.mk (some 100) (.ext 0 (.t 94)) none), (PO.mk (some 101) (.ext 1 (.t 94)) none), (PO.mk (some 14) (.mv (.t 100)) none), (PO.mk (some 15) (.mv (.t 101)) none)]) (.seq (.ops [(PO.mk (some 102) (.mv (.t 15)) none), (PO.mk (some 9) (.mv (.t 102)) none)]) (.seq (.ops [(PO.mk (some 103) (.mv (.t 14)) none), (PO.mk (some 104) (.mv (.t 1)) none), (PO.mk (some 105) (.bin .sub (.t 103) (.t 104)) none), (PO.mk (some 106) (.mv (.t 2)) none), (PO.mk (some 107) (.mv (.t 14)) none), (PO.mk (some 108) (.bin .sub (.t 106) (.t 107)) none), (PO.mk (some 16) (.mv (.t 105)) none), (PO.mk (some 17) (.mv (.t 108)) none)]) (.seq (.ops [(PO.mk (some 109) (.mv (.t 10)) none), (PO.mk (some 110) (.bin .quo (.t 109) (.k (.int .i64 8))) none), (PO.mk (some 18) (.mv (.t 110)) none)]) (.seq (.ops [(PO.mk (some 111) (.mv (.t 16)) none), (PO.mk (some 112) (.mv (.t 17)) none), (PO.mk (some 113) (.bin .lss (.t 111) (.t 112)) none)]) (.cond (.t 113) (.seq (.ops [(PO.mk (some 114) (.mv (.t 16)) none), (PO.mk (some 115) (.mv (.t 18)) none), (PO.mk (some 116) (.bin .geq (.t 114) (.t 115)) none), (PO.mk (some 8) (.mv (.t 116)) none)]) (.seq (.ops [(PO.mk (some 117) (.mv (.t 0)) none), (PO.mk (some 118) (.mv (.t 1)) none), (PO.mk (some 119) (.mv (.t 14)) none), (PO.mk (some 120) (.mv (.t 3)) none), (PO.mk (some 121) (.call (F 172) [(.t 117), (.t 118), (.t 119), (.t 120)]) none)]) (.ops [(PO.mk (some 122) (.mv (.t 14)) none), (PO.mk (some 123) (.bin .add (.t 122) (.k (.int .i64 1))) none), (PO.mk (some 1) (.mv (.t 123)) none)]))) (.seq (.ops [(PO.mk (some 124) (.mv (.t 17)) none), (PO.mk (some 125) (.mv (.t 18)) none), (PO.mk (some 126) (.bin .geq (.t 124) (.t 125)) none), (PO.mk (some 8) (.mv (.t 126)) none)]) (.seq (.ops [(PO.mk (some 127) (.mv (.t 0)) none), (PO.mk (some 128) (.mv (.t 14)) none), (PO.mk (some 129) (.bin .add (.t 128) (.k (.int .i64 1))) none), (PO.mk (some 130) (.mv (.t 2)) none), (PO.mk (some 131) (.mv (.t 3)) none), (PO.mk (some 132) (.call (F 172) [(.t 127), (.t 129), (.t 130), (.t 131)]) none)]) (.ops [(PO.mk (some 133) (.mv (.t 14)) none), (PO.mk (some 2) (.mv (.t 133)) none)]))))))))))))))))))))))
-- regions [0, 1, 3, 4, 6, 5, 2]
/- slices.insertionSortOrdered[uint32] -/
def k173 (F : Fn) : PF := PF.mk 49 3 [] (.seq (.ops [(PO.mk (some 8) (.mv (.t 1)) none), (PO.mk (some 9) (.bin .add (.t 8) (.k (.int .i64 1))) none), (PO.mk (some 6) (.mv (.t 9)) none)]) (.block 0 (.loop (.seq (.seq (.ops [(PO.mk (some 10) (.mv (.t 6)) none), (PO.mk (some 11) (.mv (.t 2)) none), (PO.mk (some 12) (.bin .lss (.t 10) (.t 11)) none)]) (.cond (.t 12) .skip (.exit 0))) (.seq (.block 1 (.seq (.ops [(PO.mk (some 15) (.mv (.t 6)) none), (PO.mk (some 7) (.mv (.t 15)) none)]) (.block 2 (.loop (.seq (.seq (.draw [(.e, (PO.mk (some 16) (.mv (.t 7)) none)), (.e, (PO.mk (some 17) (.mv (.t 1)) none)), (.e, (PO.mk (some 18) (.bin .gtr (.t 16) (.t 17)) none)), (.e, (PO.mk (some 19) (.mv (.t 18)) none)), (.e, (PO.mk (some 20) (.mv (.t 0)) (some (19, true)))), (.e, (PO.mk (some 21) (.mv (.t 7)) (some (19, true)))), (.e, (PO.mk (some 22) (.idxSl 1 (.t 20) (.t 21)) (some (19, true)))), (.e, (PO.mk (some 24) (.mv (.t 0)) (some (19, true)))), (.e, (PO.mk (some 25) (.mv (.t 7)) (some (19, true)))), (.e, (PO.mk (some 26) (.bin .sub (.t 25) (.k (.int .i64 1))) (some (19, true)))), (.e, (PO.mk (some 27) (.idxSl 1 (.t 24) (.t 26)) (some (19, true)))), (.s, (PO.mk (some 23) (.load false 1 (.t 22)) (some (19, true)))), (.s, (PO.mk (some 28) (.load false 1 (.t 27)) (some (19, true)))), (.x, (PO.mk (some 29) (.call (F 179) [(.t 23), (.t 28)]) (some (19, true)))), (.e, (PO.mk (some 30) (.pick (.t 19) (.t 29) (.k (.bool false))) none))]) (.cond (.t 30) .skip (.exit 2))) (.seq (.block 3 (.draw [(.e, (PO.mk (some 33) (.mv (.t 0)) none)), (.e, (PO.mk (some 34) (.mv (.t 7)) none)), (.e, (PO.mk (some 35) (.mv (.t 0)) none)), (.e, (PO.mk (some 36) (.mv (.t 7)) none)), (.e, (PO.mk (some 37) (.bin .sub (.t 36) (.k (.int .i64 1))) none)), (.e, (PO.mk (some 38) (.mv (.t 0)) none)), (.e, (PO.mk (some 39) (.mv (.t 7)) none)), (.e, (PO.mk (some 40) (.bin .sub (.t 39) (.k (.int .i64 1))) none)), (.e, (PO.mk (some 41) (.idxSl 1 (.t 38) (.t 40)) none)), (.e, (PO.mk (some 43) (.mv (.t 0)) none)), (.e, (PO.mk (some 44) (.mv (.t 7)) none)), (.e, (PO.mk (some 45) (.idxSl 1 (.t 43) (.t 44)) none)), (.s, (PO.mk (some 42) (.load false 1 (.t 41)) none)), (.s, (PO.mk (some 46) (.load false 1 (.t 45)) none)), (.e, (PO.mk (some 47) (.idxSl 1 (.t 33) (.t 34)) none)), (.x, (PO.mk none (.store 1 (.t 47) (.t 42)) none)), (.e, (PO.mk (some 48) (.idxSl 1 (.t 35) (.t 37)) none)), (.x, (PO.mk none (.store 1 (.t 48) (.t 46)) none))])) (.ops [(PO.mk (some 31) (.mv (.t 7)) none), (PO.mk (some 32) (.bin .sub (.t 31) (.k (.int .i64 1))) none), (PO.mk (some 7) (.mv (.t 32)) none)]))))))) (.ops [(PO.mk (some 13) (.mv (.t 6)) none), (PO.mk (some 14) (.bin .add (.t 13) (.k (.int .i64 1))) none), (PO.mk (some 6) (.mv (.t 14)) none)]))))))
-- regions [0, 1]
/- cmp.Less[uint32] -/
def k179 (F : Fn) : PF := PF.mk 17 2 [(.t 4)] (.seq (.ops [(PO.mk (some 4) (.mv (.k (.bool false))) none)]) (.seq (.ops [(PO.mk (some 5) (.mv (.t 0)) none), (PO.mk (some 6) (.call (F 182) [(.t 5)]) none), (PO.mk (some 7) (.mv (.t 6)) none), (PO.mk (some 8) (.mv (.t 1)) (some (7, true))), (PO.mk (some 9) (.call (F 182) [(.t 8)]) (some (7, true))), (PO.mk (some 10) (.not (.t 9)) (some (7, true))), (PO.mk (some 11) (.pick (.t 7) (.t 10) (.k (.bool false))) none), (PO.mk (some 12) (.mv (.t 11)) none), (PO.mk (some 13) (.mv (.t 0)) (some (12, false))), (PO.mk (some 14) (.mv (.t 1)) (some (12, false))), (PO.mk (some 15) (.bin .lss (.t 13) (.t 14)) (some (12, false))), (PO.mk (some 16) (.pick (.t 12) (.k (.bool true)) (.t 15)) none), (PO.mk (some 4) (.mv (.t 16)) none)]) .ret))
-- regions [0, 1]
/- cmp.isNaN[uint32] -/
def k182 (F : Fn) : PF := PF.mk 6 1 [(.t 2)] (.seq (.ops [(PO.mk (some 2) (.mv (.k (.bool false))) none)]) (.seq (.ops [(PO.mk (some 3) (.mv (.t 0)) none), (PO.mk (some 4) (.mv (.t 0)) none), (PO.mk (some 5) (.bin .neq (.t 3) (.t 4)) none), (PO.mk (some 2) (.mv (.t 5)) none)]) .ret))
-- regions [0, 1, 2]
/- math/bits.Len -/
def k171 (F : Fn) : PF := PF.mk 8 1 [(.t 2)] (.seq (.ops [(PO.mk (some 2) (.mv (.k (.int .i64 0))) none)]) (.seq (.cond (.k (.bool false)) (.seq (.ops [(PO.mk (some 3) (.mv (.t 0)) none), (PO.mk (some 4) (.conv .u32 (.t 3)) none), (PO.mk (some 5) (.call (F 183) [(.t 4)]) none), (PO.mk (some 2) (.mv (.t 5)) none)]) .ret) .skip) (.seq (.ops [(PO.mk (some 6) (.mv (.t 0)) none), (PO.mk (some 7) (.call (F 115) [(.t 6)]) none), (PO.mk (some 2) (.mv (.t 7)) none)]) .ret)))
structure OkIndex (P : Program) (F : Fn) : Prop where
  mixed : P.follows .mixedOrders = true
  toOkHead : OkHead P F
  h154 : compFn P ⟨[], [], [], [], []⟩ (F 154) = some (k154 F)
  h155 : compFn P ⟨[], [], [], [], []⟩ (F 155) = some (k155 F)
  h156 : compFn P ⟨[], [], [], [], []⟩ (F 156) = some (k156 F)
  h157 : compFn P ⟨[], [], [], [], []⟩ (F 157) = some (k157 F)
  h159 : compFn P ⟨[], [], [], [], []⟩ (F 159) = some (k159 F)
  h161 : compFn P ⟨[], [], [], [], []⟩ (F 161) = some (k161 F)
  h158 : compFn P ⟨[], [], [], [], []⟩ (F 158) = some (k158 F)
  h163 : compFn P ⟨[], [], [], [], []⟩ (F 163) = some (k163 F)
  h164 : compFn P ⟨[], [], [], [], []⟩ (F 164) = some (k164 F)
  h166 : compFn P ⟨[], [], [], [], []⟩ (F 166) = some (k166 F)
  h167 : compFn P ⟨[], [], [], [], []⟩ (F 167) = some (k167 F)
  h168 : compFn P ⟨[], [], [], [], []⟩ (F 168) = some (k168 F)
  h169 : compFn P ⟨[], [], [], [], []⟩ (F 169) = some (k169 F)
  h170 : compFn P ⟨[], [], [], [], []⟩ (F 170) = some (k170 F)
  h165 : compFn P ⟨[], [], [], [], []⟩ (F 165) = some (k165 F)
  h172 : compFn P ⟨[], [], [], [], []⟩ (F 172) = some (k172 F)
  h173 : compFn P ⟨[], [], [], [], []⟩ (F 173) = some (k173 F)
  h179 : compFn P ⟨[], [], [], [], []⟩ (F 179) = some (k179 F)
  h182 : compFn P ⟨[], [], [], [], []⟩ (F 182) = some (k182 F)
  h171 : compFn P ⟨[], [], [], [], []⟩ (F 171) = some (k171 F)
end Go.Ab

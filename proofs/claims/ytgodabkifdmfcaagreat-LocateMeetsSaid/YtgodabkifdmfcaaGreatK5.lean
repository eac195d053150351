import Derived.Test.YtgodabkifdmfcaaGreatK4
set_option linter.unusedVariables false
namespace Go.Ab
open Go
def k100 (F : Fn) : PF := PF.mk 30 2 [(.t 4)] (.seq (.ops [(PO.mk (some 4) (.mv (.k (w32 0))) none)]) (.seq (.draw [(.e, (PO.mk (some 5) (.mv (.t 0)) none)), (.e, (PO.mk (some 6) (.mv (.t 1)) none)), (.e, (PO.mk (some 7) (.idxStr (.t 5) (.t 6)) none)), (.e, (PO.mk (some 8) (.conv .u32 (.t 7)) none)), (.e, (PO.mk (some 9) (.bin .shl (.t 8) (.k (w64 24))) none)), (.e, (PO.mk (some 10) (.mv (.t 0)) none)), (.e, (PO.mk (some 11) (.mv (.t 1)) none)), (.e, (PO.mk (some 12) (.bin .add (.t 11) (.k (.int .i64 1))) none)), (.e, (PO.mk (some 13) (.idxStr (.t 10) (.t 12)) none)), (.e, (PO.mk (some 14) (.conv .u32 (.t 13)) none)), (.e, (PO.mk (some 15) (.bin .shl (.t 14) (.k (w64 16))) none)), (.e, (PO.mk (some 16) (.bin .or (.t 9) (.t 15)) none)), (.e, (PO.mk (some 17) (.mv (.t 0)) none)), (.e, (PO.mk (some 18) (.mv (.t 1)) none)), (.e, (PO.mk (some 19) (.bin .add (.t 18) (.k (.int .i64 2))) none)), (.e, (PO.mk (some 20) (.idxStr (.t 17) (.t 19)) none)), (.e, (PO.mk (some 21) (.conv .u32 (.t 20)) none)), (.e, (PO.mk (some 22) (.bin .shl (.t 21) (.k (w64 8))) none)), (.e, (PO.mk (some 23) (.bin .or (.t 16) (.t 22)) none)), (.e, (PO.mk (some 24) (.mv (.t 0)) none)), (.e, (PO.mk (some 25) (.mv (.t 1)) none)), (.e, (PO.mk (some 26) (.bin .add (.t 25) (.k (.int .i64 3))) none)), (.e, (PO.mk (some 27) (.idxStr (.t 24) (.t 26)) none)), (.e, (PO.mk (some 28) (.conv .u32 (.t 27)) none)), (.e, (PO.mk (some 29) (.bin .or (.t 23) (.t 28)) none)), (.e, (PO.mk (some 4) (.mv (.t 29)) none))]) .ret))
def k101 (F : Fn) : PF := PF.mk 172 2 [(PR.cell 4 true 8)] (.seq (.ops [(PO.mk (some 2) (.box (.t 0)) none), (PO.mk (some 4) (.alloc [(w32 0), (w32 0), (w32 0), (w32 0), (w32 0), (w32 0), (w32 0), (w32 0)]) none)]) (.seq (.ops [(PO.mk (some 5) (.alloc zR64_w320) none)]) (.seq (.seq (.ops [(PO.mk (some 21) (.mv (.k (.int .i64 0))) none)]) (.block 0 (.loop (.seq (.ops [(PO.mk (some 22) (.bin .lss (.t 21) (.k (.int .i64 16))) none)]) (.seq (.cond (.t 22) .skip (.exit 0)) (.seq (.block 1 (.seq (.ops [(PO.mk (some 23) (.mv (.t 21)) none), (PO.mk (some 6) (.mv (.t 23)) none)]) (.ops [(PO.mk (some 24) (.mv (.t 6)) none), (PO.mk (some 25) (.mv (.t 1)) none), (PO.mk (some 26) (.mv (.t 6)) none), (PO.mk (some 27) (.bin .mul (.k (.int .i64 4)) (.t 26)) none), (PO.mk (some 28) (.call (F 100) [(.t 25), (.t 27)]) none), (PO.mk (some 29) (.idxArr 64 1 (.t 5) (.t 24)) none), (PO.mk none (.store 1 (.t 29) (.t 28)) none)]))) (.ops [(PO.mk (some 30) (.bin .add (.t 21) (.k (.int .i64 1))) none), (PO.mk (some 21) (.mv (.t 30)) none)]))))))) (.seq (.seq (.ops [(PO.mk (some 7) (.mv (.k (.int .i64 16))) none)]) (.block 2 (.loop (.seq (.seq (.ops [(PO.mk (some 31) (.mv (.t 7)) none), (PO.mk (some 32) (.bin .lss (.t 31) (.k (.int .i64 64))) none)]) (.cond (.t 32) .skip (.exit 2))) (.seq (.block 3 (.seq (.draw [(.e, (PO.mk (some 35) (.mv (.t 7)) none)), (.e, (PO.mk (some 36) (.bin .sub (.t 35) (.k (.int .i64 15))) none)), (.e, (PO.mk (some 37) (.idxArr 64 1 (.t 5) (.t 36)) none)), (.e, (PO.mk (some 39) (.mv (.t 7)) none)), (.e, (PO.mk (some 40) (.bin .sub (.t 39) (.k (.int .i64 2))) none)), (.e, (PO.mk (some 41) (.idxArr 64 1 (.t 5) (.t 40)) none)), (.s, (PO.mk (some 38) (.load false 1 (.t 37)) none)), (.e, (PO.mk (some 8) (.mv (.t 38)) none)), (.s, (PO.mk (some 42) (.load false 1 (.t 41)) none)), (.e, (PO.mk (some 9) (.mv (.t 42)) none))]) (.seq (.ops [(PO.mk (some 43) (.mv (.t 8)) none), (PO.mk (some 44) (.call (F 102) [(.t 43), (.k (.int .i64 (-7)))]) none), (PO.mk (some 45) (.mv (.t 8)) none), (PO.mk (some 46) (.call (F 102) [(.t 45), (.k (.int .i64 (-18)))]) none), (PO.mk (some 47) (.bin .xor (.t 44) (.t 46)) none), (PO.mk (some 48) (.mv (.t 8)) none), (PO.mk (some 49) (.bin .shr (.t 48) (.k (w64 3))) none), (PO.mk (some 50) (.bin .xor (.t 47) (.t 49)) none), (PO.mk (some 10) (.mv (.t 50)) none)]) (.seq (.ops [(PO.mk (some 51) (.mv (.t 9)) none), (PO.mk (some 52) (.call (F 102) [(.t 51), (.k (.int .i64 (-17)))]) none), (PO.mk (some 53) (.mv (.t 9)) none), (PO.mk (some 54) (.call (F 102) [(.t 53), (.k (.int .i64 (-19)))]) none), (PO.mk (some 55) (.bin .xor (.t 52) (.t 54)) none), (PO.mk (some 56) (.mv (.t 9)) none), (PO.mk (some 57) (.bin .shr (.t 56) (.k (w64 10))) none), (PO.mk (some 58) (.bin .xor (.t 55) (.t 57)) none), (PO.mk (some 11) (.mv (.t 58)) none)]) (.draw [(.e, (PO.mk (some 59) (.mv (.t 7)) none)), (.e, (PO.mk (some 60) (.mv (.t 7)) none)), (.e, (PO.mk (some 61) (.bin .sub (.t 60) (.k (.int .i64 16))) none)), (.e, (PO.mk (some 62) (.idxArr 64 1 (.t 5) (.t 61)) none)), (.e, (PO.mk (some 64) (.mv (.t 10)) none)), (.e, (PO.mk (some 66) (.mv (.t 7)) none)), (.e, (PO.mk (some 67) (.bin .sub (.t 66) (.k (.int .i64 7))) none)), (.e, (PO.mk (some 68) (.idxArr 64 1 (.t 5) (.t 67)) none)), (.e, (PO.mk (some 71) (.mv (.t 11)) none)), (.s, (PO.mk (some 63) (.load false 1 (.t 62)) none)), (.e, (PO.mk (some 65) (.bin .add (.t 63) (.t 64)) none)), (.s, (PO.mk (some 69) (.load false 1 (.t 68)) none)), (.e, (PO.mk (some 70) (.bin .add (.t 65) (.t 69)) none)), (.e, (PO.mk (some 72) (.bin .add (.t 70) (.t 71)) none)), (.e, (PO.mk (some 73) (.idxArr 64 1 (.t 5) (.t 59)) none)), (.x, (PO.mk none (.store 1 (.t 73) (.t 72)) none))]))))) (.ops [(PO.mk (some 33) (.mv (.t 7)) none), (PO.mk (some 34) (.bin .add (.t 33) (.k (.int .i64 1))) none), (PO.mk (some 7) (.mv (.t 34)) none)])))))) (.seq (.ops [(PO.mk (some 74) (.load true 8 (.t 2)) none), (PO.mk (some 12) (.alloc [(w32 0), (w32 0), (w32 0), (w32 0), (w32 0), (w32 0), (w32 0), (w32 0)]) none), (PO.mk none (.store 8 (.t 12) (.t 74)) none)]) (.seq (.seq (.ops [(PO.mk (some 75) (.mv (.k (.int .i64 0))) none)]) (.block 4 (.loop (.seq (.ops [(PO.mk (some 76) (.bin .lss (.t 75) (.k (.int .i64 64))) none)]) (.seq (.cond (.t 76) .skip (.exit 4)) (.seq (.block 5 (.seq (.ops [(PO.mk (some 77) (.mv (.t 75)) none), (PO.mk (some 13) (.mv (.t 77)) none)]) (.seq (.draw [(.e, (PO.mk (some 78) (.idxArr 8 1 (.t 12) (.k (.int .i64 0))) none)), (.e, (PO.mk (some 80) (.idxArr 8 1 (.t 12) (.k (.int .i64 4))) none)), (.s, (PO.mk (some 79) (.load false 1 (.t 78)) none)), (.e, (PO.mk (some 14) (.mv (.t 79)) none)), (.s, (PO.mk (some 81) (.load false 1 (.t 80)) none)), (.e, (PO.mk (some 15) (.mv (.t 81)) none))]) (.seq (.ops [(PO.mk (some 82) (.mv (.t 15)) none), (PO.mk (some 83) (.call (F 102) [(.t 82), (.k (.int .i64 (-6)))]) none), (PO.mk (some 84) (.mv (.t 15)) none), (PO.mk (some 85) (.call (F 102) [(.t 84), (.k (.int .i64 (-11)))]) none), (PO.mk (some 86) (.bin .xor (.t 83) (.t 85)) none), (PO.mk (some 87) (.mv (.t 15)) none), (PO.mk (some 88) (.call (F 102) [(.t 87), (.k (.int .i64 (-25)))]) none), (PO.mk (some 89) (.bin .xor (.t 86) (.t 88)) none), (PO.mk (some 16) (.mv (.t 89)) none)]) (.seq (.draw [(.e, (PO.mk (some 90) (.idxArr 8 1 (.t 12) (.k (.int .i64 7))) none)), (.e, (PO.mk (some 92) (.mv (.t 16)) none)), (.e, (PO.mk (some 94) (.mv (.t 15)) none)), (.e, (PO.mk (some 95) (.idxArr 8 1 (.t 12) (.k (.int .i64 5))) none)), (.e, (PO.mk (some 98) (.mv (.t 15)) none)), (.e, (PO.mk (some 99) (.inv (.t 98)) none)), (.e, (PO.mk (some 100) (.idxArr 8 1 (.t 12) (.k (.int .i64 6))) none)), (.e, (PO.mk (some 105) (.mv (.t 13)) none)), (.e, (PO.mk (some 106) (.bin .mul (.k (.int .i64 4)) (.t 105)) none)), (.e, (PO.mk (some 109) (.mv (.t 13)) none)), (.e, (PO.mk (some 110) (.idxArr 64 1 (.t 5) (.t 109)) none)), (.s, (PO.mk (some 91) (.load false 1 (.t 90)) none)), (.e, (PO.mk (some 93) (.bin .add (.t 91) (.t 92)) none)), (.s, (PO.mk (some 96) (.load false 1 (.t 95)) none)), (.e, (PO.mk (some 97) (.bin .and (.t 94) (.t 96)) none)), (.s, (PO.mk (some 101) (.load false 1 (.t 100)) none)), (.e, (PO.mk (some 102) (.bin .and (.t 99) (.t 101)) none)), (.e, (PO.mk (some 103) (.bin .xor (.t 97) (.t 102)) none)), (.e, (PO.mk (some 104) (.bin .add (.t 93) (.t 103)) none)), (.s, (PO.mk (some 107) (.call (F 100) [(.k (.str (ByteArray.mk ⟨[66, 138, 47, 152, 113, 55, 68, 145, 181, 192, 251, 207, 233, 181, 219, 165, 57, 86, 194, 91, 89, 241, 17, 241, 146, 63, 130, 164, 171, 28, 94, 213, 216, 7, 170, 152, 18, 131, 91, 1, 36, 49, 133, 190, 85, 12, 125, 195, 114, 190, 93, 116, 128, 222, 177, 254, 155, 220, 6, 167, 193, 155, 241, 116, 228, 155, 105, 193, 239, 190, 71, 134, 15, 193, 157, 198, 36, 12, 161, 204, 45, 233, 44, 111, 74, 116, 132, 170, 92, 176, 169, 220, 118, 249, 136, 218, 152, 62, 81, 82, 168, 49, 198, 109, 176, 3, 39, 200, 191, 89, 127, 199, 198, 224, 11, 243, 213, 167, 145, 71, 6, 202, 99, 81, 20, 41, 41, 103, 39, 183, 10, 133, 46, 27, 33, 56, 77, 44, 109, 252, 83, 56, 13, 19, 101, 10, 115, 84, 118, 106, 10, 187, 129, 194, 201, 46, 146, 114, 44, 133, 162, 191, 232, 161, 168, 26, 102, 75, 194, 75, 139, 112, 199, 108, 81, 163, 209, 146, 232, 25, 214, 153, 6, 36, 244, 14, 53, 133, 16, 106, 160, 112, 25, 164, 193, 22, 30, 55, 108, 8, 39, 72, 119, 76, 52, 176, 188, 181, 57, 28, 12, 179, 78, 216, 170, 74, 91, 156, 202, 79, 104, 46, 111, 243, 116, 143, 130, 238, 120, 165, 99, 111, 132, 200, 120, 20, 140, 199, 2, 8, 144, 190, 255, 250, 164, 80, 108, 235, 190, 249, 163, 247, 198, 113, 120, 242]⟩))), (.t 106)]) none)), (.e, (PO.mk (some 108) (.bin .add (.t 104) (.t 107)) none)), (.s, (PO.mk (some 111) (.load false 1 (.t 110)) none)), (.e, (PO.mk (some 112) (.bin .add (.t 108) (.t 111)) none)), (.e, (PO.mk (some 17) (.mv (.t 112)) none))]) (.seq (.ops [(PO.mk (some 113) (.mv (.t 14)) none), (PO.mk (some 114) (.call (F 102) [(.t 113), (.k (.int .i64 (-2)))]) none), (PO.mk (some 115) (.mv (.t 14)) none), (PO.mk (some 116) (.call (F 102) [(.t 115), (.k (.int .i64 (-13)))]) none), (PO.mk (some 117) (.bin .xor (.t 114) (.t 116)) none), (PO.mk (some 118) (.mv (.t 14)) none), (PO.mk (some 119) (.call (F 102) [(.t 118), (.k (.int .i64 (-22)))]) none), (PO.mk (some 120) (.bin .xor (.t 117) (.t 119)) none), (PO.mk (some 18) (.mv (.t 120)) none)]) (.seq (.ops [(PO.mk (some 121) (.mv (.t 14)) none), (PO.mk (some 122) (.idxArr 8 1 (.t 12) (.k (.int .i64 1))) none), (PO.mk (some 123) (.load false 1 (.t 122)) none), (PO.mk (some 124) (.bin .and (.t 121) (.t 123)) none), (PO.mk (some 125) (.mv (.t 14)) none), (PO.mk (some 126) (.idxArr 8 1 (.t 12) (.k (.int .i64 2))) none), (PO.mk (some 127) (.load false 1 (.t 126)) none), (PO.mk (some 128) (.bin .and (.t 125) (.t 127)) none), (PO.mk (some 129) (.bin .xor (.t 124) (.t 128)) none), (PO.mk (some 130) (.idxArr 8 1 (.t 12) (.k (.int .i64 1))) none), (PO.mk (some 131) (.load false 1 (.t 130)) none), (PO.mk (some 132) (.idxArr 8 1 (.t 12) (.k (.int .i64 2))) none), (PO.mk (some 133) (.load false 1 (.t 132)) none), (PO.mk (some 134) (.bin .and (.t 131) (.t 133)) none), (PO.mk (some 135) (.bin .xor (.t 129) (.t 134)) none), (PO.mk (some 19) (.mv (.t 135)) none)]) (.ops [(PO.mk (some 136) (.mv (.t 17)) none), (PO.mk (some 137) (.mv (.t 18)) none), (PO.mk (some 138) (.bin .add (.t 136) (.t 137)) none), (PO.mk (some 139) (.mv (.t 19)) none), (PO.mk (some 140) (.bin .add (.t 138) (.t 139)) none), (PO.mk (some 141) (.idxArr 8 1 (.t 12) (.k (.int .i64 0))) none), (PO.mk (some 142) (.load false 1 (.t 141)) none), (PO.mk (some 143) (.idxArr 8 1 (.t 12) (.k (.int .i64 1))) none), (PO.mk (some 144) (.load false 1 (.t 143)) none), (PO.mk (some 145) (.idxArr 8 1 (.t 12) (.k (.int .i64 2))) none), (PO.mk (some 146) (.load false 1 (.t 145)) none), (PO.mk (some 147) (.idxArr 8 1 (.t 12) (.k (.int .i64 3))) none), (PO.mk (some 148) (.load false 1 (.t 147)) none), (PO.mk (some 149) (.mv (.t 17)) none), (PO.mk (some 150) (.bin .add (.t 148) (.t 149)) none), (PO.mk (some 151) (.idxArr 8 1 (.t 12) (.k (.int .i64 4))) none), (PO.mk (some 152) (.load false 1 (.t 151)) none), (PO.mk (some 153) (.idxArr 8 1 (.t 12) (.k (.int .i64 5))) none), (PO.mk (some 154) (.load false 1 (.t 153)) none), (PO.mk (some 155) (.idxArr 8 1 (.t 12) (.k (.int .i64 6))) none), (PO.mk (some 156) (.load false 1 (.t 155)) none), (PO.mk (some 157) (.build [(w32 0), (w32 0), (w32 0), (w32 0), (w32 0), (w32 0), (w32 0), (w32 0)] [(0, (1, (.t 140))), (1, (1, (.t 142))), (2, (1, (.t 144))), (3, (1, (.t 146))), (4, (1, (.t 150))), (5, (1, (.t 152))), (6, (1, (.t 154))), (7, (1, (.t 156)))]) none), (PO.mk none (.store 8 (.t 12) (.t 157)) none)])))))))) (.ops [(PO.mk (some 158) (.bin .add (.t 75) (.k (.int .i64 1))) none), (PO.mk (some 75) (.mv (.t 158)) none)]))))))) (.seq (.seq (.ops [(PO.mk (some 159) (.mv (.k (.int .i64 0))) none)]) (.block 6 (.loop (.seq (.ops [(PO.mk (some 160) (.bin .lss (.t 159) (.k (.int .i64 8))) none)]) (.seq (.cond (.t 160) .skip (.exit 6)) (.seq (.block 7 (.seq (.ops [(PO.mk (some 161) (.mv (.t 159)) none), (PO.mk (some 20) (.mv (.t 161)) none)]) (.draw [(.e, (PO.mk (some 162) (.mv (.t 20)) none)), (.e, (PO.mk (some 163) (.idxArr 8 1 (.t 2) (.t 162)) none)), (.e, (PO.mk (some 165) (.mv (.t 20)) none)), (.e, (PO.mk (some 166) (.idxArr 8 1 (.t 12) (.t 165)) none)), (.s, (PO.mk (some 164) (.load false 1 (.t 163)) none)), (.s, (PO.mk (some 167) (.load false 1 (.t 166)) none)), (.e, (PO.mk (some 168) (.bin .add (.t 164) (.t 167)) none)), (.e, (PO.mk (some 169) (.idxArr 8 1 (.t 2) (.t 162)) none)), (.x, (PO.mk none (.store 1 (.t 169) (.t 168)) none))]))) (.ops [(PO.mk (some 170) (.bin .add (.t 159) (.k (.int .i64 1))) none), (PO.mk (some 159) (.mv (.t 170)) none)]))))))) (.seq (.ops [(PO.mk (some 171) (.load true 8 (.t 2)) none), (PO.mk none (.store 8 (.t 4) (.t 171)) none)]) .ret))))))))
def k103 (F : Fn) : PF := PF.mk 92 1 [(PR.cell 2 true 32)] (.seq (.ops [(PO.mk (some 2) (.alloc zR32_w80) none)]) (.seq (.ops [(PO.mk (some 3) (.mv (.k (.sl .nil [] 0))) none)]) (.seq (.seq (.ops [(PO.mk (some 13) (.mv (.t 0)) none), (PO.mk (some 14) (.lenSl (.t 13)) none), (PO.mk (some 15) (.mv (.k (.int .i64 0))) none)]) (.block 0 (.loop (.seq (.ops [(PO.mk (some 16) (.bin .lss (.t 15) (.t 14)) none)]) (.seq (.cond (.t 16) .skip (.exit 0)) (.seq (.block 1 (.seq (.ops [(PO.mk (some 17) (.idxSl 1 (.t 13) (.t 15)) none), (PO.mk (some 18) (.load false 1 (.t 17)) none), (PO.mk (some 5) (.mv (.t 18)) none)]) (.ops [(PO.mk (some 19) (.mv (.t 3)) none), (PO.mk (some 20) (.mv (.t 5)) none), (PO.mk (some 21) (.app 1 1 (.t 19) (.t 20)) none), (PO.mk (some 3) (.mv (.t 21)) none)]))) (.ops [(PO.mk (some 22) (.bin .add (.t 15) (.k (.int .i64 1))) none), (PO.mk (some 15) (.mv (.t 22)) none)]))))))) (.seq (.ops [(PO.mk (some 23) (.mv (.t 3)) none), (PO.mk (some 24) (.lenSl (.t 23)) none), (PO.mk (some 6) (.mv (.t 24)) none)]) (.seq (.ops [(PO.mk (some 25) (.mv (.t 3)) none), (PO.mk (some 26) (.bsl false 1 1 [(w8 0)] [(0, (1, (.k (w8 128))))]) none), (PO.mk (some 27) (.app 1 1 (.t 25) (.t 26)) none), (PO.mk (some 3) (.mv (.t 27)) none)]) (.seq (.block 2 (.loop (.seq (.seq (.ops [(PO.mk (some 28) (.mv (.t 3)) none), (PO.mk (some 29) (.lenSl (.t 28)) none), (PO.mk (some 30) (.bin .rem (.t 29) (.k (.int .i64 64))) none), (PO.mk (some 31) (.bin .neq (.t 30) (.k (.int .i64 56))) none)]) (.cond (.t 31) .skip (.exit 2))) (.block 3 (.ops [(PO.mk (some 32) (.mv (.t 3)) none), (PO.mk (some 33) (.bsl false 1 1 [(w8 0)] [(0, (1, (.k (w8 0))))]) none), (PO.mk (some 34) (.app 1 1 (.t 32) (.t 33)) none), (PO.mk (some 3) (.mv (.t 34)) none)]))))) (.seq (.seq (.ops [(PO.mk (some 7) (.mv (.k (.int .i64 56))) none)]) (.block 4 (.loop (.seq (.seq (.ops [(PO.mk (some 35) (.mv (.t 7)) none), (PO.mk (some 36) (.bin .geq (.t 35) (.k (.int .i64 0))) none)]) (.cond (.t 36) .skip (.exit 4))) (.seq (.block 5 (.ops [(PO.mk (some 39) (.mv (.t 3)) none), (PO.mk (some 40) (.mv (.t 6)) none), (PO.mk (some 41) (.conv .u64 (.t 40)) none), (PO.mk (some 42) (.bin .mul (.t 41) (.k (w64 8))) none), (PO.mk (some 43) (.mv (.t 7)) none), (PO.mk (some 44) (.bin .shr (.t 42) (.t 43)) none), (PO.mk (some 45) (.conv .u8 (.t 44)) none), (PO.mk (some 46) (.bsl false 1 1 [(w8 0)] [(0, (1, (.t 45)))]) none), (PO.mk (some 47) (.app 1 1 (.t 39) (.t 46)) none), (PO.mk (some 3) (.mv (.t 47)) none)])) (.ops [(PO.mk (some 37) (.mv (.t 7)) none), (PO.mk (some 38) (.bin .sub (.t 37) (.k (.int .i64 8))) none), (PO.mk (some 7) (.mv (.t 38)) none)])))))) (.seq (.ops [(PO.mk (some 48) (.build [(w32 0), (w32 0), (w32 0), (w32 0), (w32 0), (w32 0), (w32 0), (w32 0)] [(0, (1, (.k (w32 1779033703)))), (1, (1, (.k (w32 3144134277)))), (2, (1, (.k (w32 1013904242)))), (3, (1, (.k (w32 2773480762)))), (4, (1, (.k (w32 1359893119)))), (5, (1, (.k (w32 2600822924)))), (6, (1, (.k (w32 528734635)))), (7, (1, (.k (w32 1541459225))))]) none), (PO.mk (some 8) (.alloc [(w32 0), (w32 0), (w32 0), (w32 0), (w32 0), (w32 0), (w32 0), (w32 0)]) none), (PO.mk none (.store 8 (.t 8) (.t 48)) none)]) (.seq (.seq (.ops [(PO.mk (some 49) (.mv (.t 3)) none), (PO.mk (some 50) (.toStr (.t 49)) none), (PO.mk (some 9) (.mv (.t 50)) none)]) (.block 6 (.loop (.seq (.seq (.ops [(PO.mk (some 51) (.mv (.t 9)) none), (PO.mk (some 52) (.bin .neq (.t 51) (.k (.str (ByteArray.mk ⟨[]⟩)))) none)]) (.cond (.t 52) .skip (.exit 6))) (.seq (.block 7 (.draw [(.e, (PO.mk (some 56) (.mv (.t 9)) none)), (.e, (PO.mk (some 57) (.slStr (.t 56) none (some (.k (.int .i64 64)))) none)), (.s, (PO.mk (some 55) (.load true 8 (.t 8)) none)), (.x, (PO.mk (some 58) (.call (F 101) [(.t 55), (.t 57)]) none)), (.x, (PO.mk none (.store 8 (.t 8) (.t 58)) none))])) (.ops [(PO.mk (some 53) (.mv (.t 9)) none), (PO.mk (some 54) (.slStr (.t 53) (some (.k (.int .i64 64))) none) none), (PO.mk (some 9) (.mv (.t 54)) none)])))))) (.seq (.ops [(PO.mk (some 10) (.alloc zR32_w80) none)]) (.seq (.seq (.ops [(PO.mk (some 59) (.load true 8 (.t 8)) none), (PO.mk (some 60) (.mv (.k (.int .i64 0))) none)]) (.block 8 (.loop (.seq (.ops [(PO.mk (some 61) (.bin .lss (.t 60) (.k (.int .i64 8))) none)]) (.seq (.cond (.t 61) .skip (.exit 8)) (.seq (.block 9 (.seq (.ops [(PO.mk (some 62) (.mv (.t 60)) none), (PO.mk (some 63) (.idx 8 false 1 (.t 59) (.t 60)) none), (PO.mk (some 11) (.mv (.t 62)) none), (PO.mk (some 12) (.mv (.t 63)) none)]) (.ops [(PO.mk (some 64) (.mv (.t 11)) none), (PO.mk (some 65) (.bin .mul (.k (.int .i64 4)) (.t 64)) none), (PO.mk (some 66) (.mv (.t 11)) none), (PO.mk (some 67) (.bin .mul (.k (.int .i64 4)) (.t 66)) none), (PO.mk (some 68) (.bin .add (.t 67) (.k (.int .i64 1))) none), (PO.mk (some 69) (.mv (.t 11)) none), (PO.mk (some 70) (.bin .mul (.k (.int .i64 4)) (.t 69)) none), (PO.mk (some 71) (.bin .add (.t 70) (.k (.int .i64 2))) none), (PO.mk (some 72) (.mv (.t 11)) none), (PO.mk (some 73) (.bin .mul (.k (.int .i64 4)) (.t 72)) none), (PO.mk (some 74) (.bin .add (.t 73) (.k (.int .i64 3))) none), (PO.mk (some 75) (.mv (.t 12)) none), (PO.mk (some 76) (.bin .shr (.t 75) (.k (w64 24))) none), (PO.mk (some 77) (.conv .u8 (.t 76)) none), (PO.mk (some 78) (.mv (.t 12)) none), (PO.mk (some 79) (.bin .shr (.t 78) (.k (w64 16))) none), (PO.mk (some 80) (.conv .u8 (.t 79)) none), (PO.mk (some 81) (.mv (.t 12)) none), (PO.mk (some 82) (.bin .shr (.t 81) (.k (w64 8))) none), (PO.mk (some 83) (.conv .u8 (.t 82)) none), (PO.mk (some 84) (.mv (.t 12)) none), (PO.mk (some 85) (.conv .u8 (.t 84)) none), (PO.mk (some 86) (.idxArr 32 1 (.t 10) (.t 65)) none), (PO.mk none (.store 1 (.t 86) (.t 77)) none), (PO.mk (some 87) (.idxArr 32 1 (.t 10) (.t 68)) none), (PO.mk none (.store 1 (.t 87) (.t 80)) none), (PO.mk (some 88) (.idxArr 32 1 (.t 10) (.t 71)) none), (PO.mk none (.store 1 (.t 88) (.t 83)) none), (PO.mk (some 89) (.idxArr 32 1 (.t 10) (.t 74)) none), (PO.mk none (.store 1 (.t 89) (.t 85)) none)]))) (.ops [(PO.mk (some 90) (.bin .add (.t 60) (.k (.int .i64 1))) none), (PO.mk (some 60) (.mv (.t 90)) none)]))))))) (.seq (.ops [(PO.mk (some 91) (.load true 32 (.t 10)) none), (PO.mk none (.store 32 (.t 2) (.t 91)) none)]) .ret))))))))))))
def k104 (F : Fn) : PF := PF.mk 9 1 [(PR.cell 2 true 32)] (.seq (.ops [(PO.mk (some 2) (.alloc zR32_w80) none)]) (.seq (.ops [(PO.mk (some 4) (.mv (.t 0)) none), (PO.mk (some 5) (.call (F 103) [(.t 4)]) none), (PO.mk (some 3) (.alloc zR32_w80) none), (PO.mk none (.store 32 (.t 3) (.t 5)) none)]) (.seq (.seq (.frz [3]) (.ops [(PO.mk (some 6) (.slArr false 32 1 (.t 3) none none) none), (PO.mk (some 7) (.bsl false 1 1 [(.sl .nil [] 0)] [(0, (1, (.t 6)))]) none), (PO.mk (some 8) (.call (F 103) [(.t 7)]) none), (PO.mk none (.store 32 (.t 2) (.t 8)) none)])) .ret)))
def k102 (F : Fn) : PF := PF.mk 17 2 [(.t 4)] (.seq (.ops [(PO.mk (some 4) (.mv (.k (w32 0))) none)]) (.seq (.ops [(PO.mk (some 6) (.mv (.t 1)) none), (PO.mk (some 7) (.conv .u64 (.t 6)) none), (PO.mk (some 8) (.bin .and (.t 7) (.k (w64 31))) none), (PO.mk (some 5) (.mv (.t 8)) none)]) (.seq (.ops [(PO.mk (some 9) (.mv (.t 0)) none), (PO.mk (some 10) (.mv (.t 5)) none), (PO.mk (some 11) (.bin .shl (.t 9) (.t 10)) none), (PO.mk (some 12) (.mv (.t 0)) none), (PO.mk (some 13) (.mv (.t 5)) none), (PO.mk (some 14) (.bin .sub (.k (w64 32)) (.t 13)) none), (PO.mk (some 15) (.bin .shr (.t 12) (.t 14)) none), (PO.mk (some 16) (.bin .or (.t 11) (.t 15)) none), (PO.mk (some 4) (.mv (.t 16)) none)]) .ret)))
structure OkHash (P : Program) (F : Fn) : Prop where
  mixed : P.follows .mixedOrders = true
  h100 : compFn P ⟨[], [], [], [], []⟩ (F 100) = some (k100 F)
  h101 : compFn P ⟨[], [], [], [], []⟩ (F 101) = some (k101 F)
  h103 : compFn P ⟨[], [], [], [], []⟩ (F 103) = some (k103 F)
  h104 : compFn P ⟨[], [], [(2, [3])], [], []⟩ (F 104) = some (k104 F)
  h102 : compFn P ⟨[], [], [], [], []⟩ (F 102) = some (k102 F)
end Go.Ab
set_option linter.unusedSimpArgs false
set_option linter.unusedVariables false
set_option maxRecDepth 10000
namespace Go.Ab
open Go Go.RowKit
section
variable {P : Program} {F : Fn}
theorem turn_amt : ∀ n : Fin 32, (BitVec.ofInt 64 (-((n.val : Nat) : Int)) &&& 31#64) = BitVec.ofNat 64 ((32 - n.val) % 32) := by decide
theorem spec102 (ok : OkHash P F) (st : St) (x : BitVec 32) {n : Nat} (h0 : 0 < n) (hn : n < 32) {k : Int} (hk : k = -(n : Int)) : ACalls P (F 102) [w32 x, .int .i64 k] st fun v st' => v = w32 (ror x n) ∧ st' = st := by
  refine shows_call ok.mixed ok.h102 (by simp [k102]) ?_
  have h := turn_amt ⟨n, hn⟩
  simp only at h
  rw [← hk, show (32 - n) % 32 = 32 - n from Nat.mod_eq_of_lt (by omega)] at h
  have e1 : (32#64 - BitVec.ofNat 64 (32 - n)).toNat = n := by
    rw [BitVec.toNat_sub, BitVec.toNat_ofNat, BitVec.toNat_ofNat, Nat.mod_eq_of_lt (show 32 - n < 2 ^ 64 by omega)]
    show (18446744073709551616 - (32 - n) + 32) % 18446744073709551616 = n
    omega
  have e2 : (BitVec.ofNat 64 (32 - n)).toNat = 32 - n := by
    rw [BitVec.toNat_ofNat, Nat.mod_eq_of_lt (by omega)]
  simp only [k102]
  simp [h, e1, e2, -BitVec.toNat_sub, -BitVec.toNat_ofNat]
  have : ror x n = x <<< (32 - n) ||| x >>> n := by rw [ror, BitVec.or_comm]
  rw [this]
def strB (s : ByteArray) : List UInt8 := s.data.toList
theorem idxStr_w (s : ByteArray) (k : IntKind) {i : Nat} (h : i < (strB s).length) : idxStrV (.str s) (.int k (i : Int)) = some (w8 (strB s)[i]) := by
  have hlt : i < s.data.size := by simpa [strB] using h
  have : s[i]? = some s.data[i] := by
    show (if h : i < s.size then some s[i] else none) = _
    rw [dif_pos (show i < s.size from hlt)]
    rfl
  simp only [idxStrV]
  rw [if_pos (by omega), Int.toNat_natCast, this]
  simp [w8, strB]
theorem spec100 (ok : OkHash P F) (st : St) (s : ByteArray) {i : Nat} (h : i + 4 ≤ (strB s).length) (hs : (strB s).length ≤ 1000000) : ACalls P (F 100) [.str s, .int .i64 (i : Int)] st fun v st' => v = w32 (be4 (strB s)[i] (strB s)[i + 1] (strB s)[i + 2] (strB s)[i + 3]) ∧ st' = st := by
  refine shows_call ok.mixed ok.h100 (by simp [k100]) ?_
  have w1 : IntKind.i64.wrap ((i : Int) + 1) = ((i + 1 : Nat) : Int) := by rw [wrap64 (by omega) (by omega)]; simp
  have w2 : IntKind.i64.wrap ((i : Int) + 2) = ((i + 2 : Nat) : Int) := by rw [wrap64 (by omega) (by omega)]; simp
  have w3 : IntKind.i64.wrap ((i : Int) + 3) = ((i + 3 : Nat) : Int) := by rw [wrap64 (by omega) (by omega)]; simp
  have i0 := idxStr_w s .i64 (i := i) (by omega)
  have i1 : idxStrV (.str s) (.int .i64 ((i : Int) + 1)) = some (w8 (strB s)[i + 1]) := idxStr_w s .i64 (i := i + 1) (by omega)
  have i2 : idxStrV (.str s) (.int .i64 ((i : Int) + 2)) = some (w8 (strB s)[i + 2]) := idxStr_w s .i64 (i := i + 2) (by omega)
  have i3 : idxStrV (.str s) (.int .i64 ((i : Int) + 3)) = some (w8 (strB s)[i + 3]) := idxStr_w s .i64 (i := i + 3) (by omega)
  simp only [k100]
  simp [w1, w2, w3, i0, i1, i2, i3]
  rfl
end
end Go.Ab
set_option linter.unusedSimpArgs false
set_option linter.unusedVariables false
set_option maxRecDepth 10000
namespace Go.Ab
open Go Go.RowKit
section
variable {P : Program} {F : Fn}
def ovU (s : Nat) : Bool := decide (2 ^ 256 ≤ s)
theorem add_u4 (a b c d a' b' c' d' : W) :
    (u4 (sum64 a a' false) (sum64 b b' (car64 a a' false)) (sum64 c c' (car64 b b' (car64 a a' false))) (sum64 d d' (car64 c c' (car64 b b' (car64 a a' false))))) = u4 a b c d + u4 a' b' c' d' ∧
    car64 d d' (car64 c c' (car64 b b' (car64 a a' false))) = ovU ((u4 a b c d).toNat + (u4 a' b' c' d').toNat) := by
  have := a.isLt; have := b.isLt; have := c.isLt; have := d.isLt
  have := a'.isLt; have := b'.isLt; have := c'.isLt; have := d'.isLt
  constructor
  · apply BitVec.eq_of_toNat_eq
    rw [BitVec.toNat_add, u4_nat, u4_nat, u4_nat, sum64_nat, sum64_nat, sum64_nat, sum64_nat]
    simp only [car64, decide_eq_true_eq, Bool.false_eq_true, if_false]
    show _ = (_ + _) % 115792089237316195423570985008687907853269984665640564039457584007913129639936
    split <;> split <;> split <;> omega
  · rw [u4_nat, u4_nat, ovU]
    simp only [car64, decide_eq_true_eq, Bool.false_eq_true, if_false]
    congr 1
    rw [eq_iff_iff]
    show _ ↔ 115792089237316195423570985008687907853269984665640564039457584007913129639936 ≤ _
    split <;> split <;> split <;> omega
def sumU (l : List U) : Nat := (l.map (·.toNat)).sum
theorem sumU_snoc (l : List U) (x : U) : sumU (l ++ [x]) = sumU l + x.toNat := by simp [sumU]
theorem over_step (s : Nat) (x : U) : (ovU s || ovU ((BitVec.ofNat 256 s).toNat + x.toNat)) = ovU (s + x.toNat) := by
  unfold ovU
  rw [BitVec.toNat_ofNat, Bool.eq_iff_iff]
  simp only [Bool.or_eq_true, decide_eq_true_eq]
  show 115792089237316195423570985008687907853269984665640564039457584007913129639936 ≤ s ∨ 115792089237316195423570985008687907853269984665640564039457584007913129639936 ≤ s % 115792089237316195423570985008687907853269984665640564039457584007913129639936 + _ ↔ 115792089237316195423570985008687907853269984665640564039457584007913129639936 ≤ _
  omega
set_option maxHeartbeats 1000000 in
theorem spec108 (ok : OkNum P F) (st : St) {s : V} {l : List U} (hs : Rd 4 eU s l st) (hl : l.length ≤ 1000) : ACalls P (F 108) [s] st fun v st' => v = .tup [nU (BitVec.ofNat 256 (sumU l)), .bool (ovU (sumU l))] ∧ st' = st := by
  refine shows_call ok.mixed ok.h108 (by simp [k108]) ?_
  simp only [k108]
  simp
  intro rid hrid
  simp
  intro oid hoid
  obtain ⟨hro, hoid⟩ := upd_none hoid
  have hlen := hs.len
  simp [hlen]
  rw [eU_zero]
  refine vc_loopJ (fun k env' st' => ∃ i, i ≤ l.length ∧ k = l.length - i ∧ env' 12 = .int .i64 (i : Nat) ∧ env' 5 = .bool (ovU (sumU (l.take i))) ∧ st' = (st.upd rid (.cells (eU 0#256))).upd oid (.cells (eU (BitVec.ofNat 256 (sumU (l.take i)))))) l.length
    ⟨0, by omega, by omega, rfl, by simp [sumU, ovU], by simp [sumU]⟩ ?_
  rintro J hJ k env' st' hsame ⟨i, hi, rfl, h12, h5, rfl⟩
  have g2 := hsame.get 2 rfl
  have g4 := hsame.get 4 rfl
  have g10 := hsame.get 10 rfl
  have g11 := hsame.get 11 rfl
  simp at g2 g4 g10 g11
  clear hsame
  have hsub : St.sub st ((st.upd rid (.cells (eU 0#256))).upd oid (.cells (eU (BitVec.ofNat 256 (sumU (l.take i)))))) := sub_ups (sub_ups (sub_self _) hrid) hoid
  have w1 : IntKind.i64.wrap ((i : Int) + 1) = (i : Int) + 1 := wrap64 (by omega) (by omega)
  by_cases hlt : i < l.length
  · obtain ⟨p, hp1, hp2⟩ := (hs.sub hsub).idx eU_len hlt .i64
    simp [g2, g4, g10, g11, h12, h5, hlt, hp1, hp2]
    intro bid hbid
    obtain ⟨hob, hbid⟩ := upd_none hbid
    obtain ⟨hrb, hbid⟩ := upd_none hbid
    have hbo := hob.symm
    have hbr := hrb.symm
    obtain ⟨a, b, c, d, hx⟩ := exists_u4 (BitVec.ofNat 256 (sumU (l.take i)))
    obtain ⟨a', b', c', d', hy⟩ := exists_u4 l[i]
    obtain ⟨e1, e2⟩ := add_u4 a b c d a' b' c' d'
    rw [hx, hy]
    simp [storeS, spliceV, eU_u4]
    rw [zero_b64]
    refine vc_unroll 5 ?_
    simp [unr_succ, g4, hob, hbo, idxArrV, St.seg, segOf, storeS, spliceV]
    have hov : (ovU (sumU (l.take i)) || car64 d d' (car64 c c' (car64 b b' (car64 a a' false)))) = ovU (sumU (l.take (i + 1))) := by
      rw [e2, ← hx, ← hy, List.take_succ_eq_append_getElem hlt, sumU_snoc]
      exact over_step _ _
    have hst : (((((st.upd rid (.cells (eU 0#256))).upd oid (.cells [w64 a, w64 b, w64 c, w64 d])).upd bid (.cells [w64 a', w64 b', w64 c', w64 d'])).upd oid (.cells [w64 (sum64 a a' false), w64 (sum64 b b' (car64 a a' false)), w64 (sum64 c c' (car64 b b' (car64 a a' false))), w64 (sum64 d d' (car64 c c' (car64 b b' (car64 a a' false))))]))) = ((st.upd rid (.cells (eU 0#256))).upd oid (.cells (eU (BitVec.ofNat 256 (sumU (l.take (i + 1))))))).upd bid (.cells [w64 a', w64 b', w64 c', w64 d']) := by
      have e3 : BitVec.ofNat 256 (sumU (l.take (i + 1))) = u4 a b c d + u4 a' b' c' d' := by
        rw [← hx, ← hy, List.take_succ_eq_append_getElem hlt, sumU_snoc, BitVec.ofNat_add, BitVec.ofNat_toNat, BitVec.setWidth_eq]
      rw [e3, ← e1, eU_u4]
      funext j
      by_cases h1 : j = oid <;> by_cases h2 : j = bid <;> simp [h1, h2, hob, hbo]
    have fin : ∀ env'', env'' 12 = .int .i64 ((i : Int) + 1) → env'' 5 = .bool (ovU (sumU (l.take (i + 1)))) → Round J (l.length - i) env'' (((((st.upd rid (.cells (eU 0#256))).upd oid (.cells [w64 a, w64 b, w64 c, w64 d])).upd bid (.cells [w64 a', w64 b', w64 c', w64 d'])).upd oid (.cells [w64 (sum64 a a' false), w64 (sum64 b b' (car64 a a' false)), w64 (sum64 c c' (car64 b b' (car64 a a' false))), w64 (sum64 d d' (car64 c c' (car64 b b' (car64 a a' false))))]))) := fun env'' q1 q2 => by
      rw [hst]
      refine Round.mk (l.length - (i + 1)) _ (by omega) (sub_upd (by simp [hob.symm, hrb.symm, hbid])) (hJ _ _ _ ⟨i + 1, by omega, rfl, by simpa using q1, q2, rfl⟩)
    obtain ⟨t, ht⟩ : ∃ t, t = ovU (sumU (l.take i)) := ⟨_, rfl⟩
    rw [← ht] at h5 hov
    cases t
    · simp [h5, h12, w1, b64_ne] at hov ⊢
      exact fin _ (by simp) (by simp [hov])
    · simp [h5, h12, w1, b64_ne] at hov ⊢
      exact fin _ (by simp) (by simp [← hov])
  · have : i = l.length := by omega
    subst this
    rw [List.take_length] at *
    have hl' : ¬ ((l.length : Int) < l.length) := by omega
    have hsp : ∀ x y : U, spliceV (eU x) 0 (eU y) = eU y := fun _ _ => rfl
    simp [g2, g4, g10, g11, h12, h5, St.seg, segU, storeS, hro, hro.symm, hsp, eU_len]
    exact ⟨sub_ups (sub_ups (sub_ups (sub_self _) hrid) hoid) hrid, rfl⟩
theorem spec118 (ok : OkNum P F) (st : St) (x y : W) : ACalls P (F 118) [w64 x, w64 y] st fun v st' => v = .tup [w64 (mulhi x y), w64 (x * y)] ∧ st' = st := by
  refine shows_call ok.mixed ok.h118 (by simp [k118]) ?_
  have h := mul64_hi x y
  simp only [k118]
  simp
  rw [← h]
def mlo (x n c : W) : W := sum64 (x * n) c false
def mhi (x n c : W) : W := mulhi x n + b64 (car64 (x * n) c false)
theorem m_nat (x n c : W) : (mlo x n c).toNat + (mhi x n c).toNat * 18446744073709551616 = x.toNat * n.toNat + c.toNat := by
  have h1 := x.isLt
  have h2 := n.isLt
  have h3 := c.isLt
  have hb : x.toNat * n.toNat ≤ 18446744073709551615 * 18446744073709551615 := Nat.mul_le_mul (by omega) (by omega)
  rw [mlo, mhi, sum64_nat, BitVec.toNat_add, b64_nat, mulhi, BitVec.toNat_ofNat, BitVec.toNat_mul]
  simp only [car64, decide_eq_true_eq, Bool.false_eq_true, if_false, BitVec.toNat_mul]
  generalize x.toNat * n.toNat = q at *
  show (q % 18446744073709551616 + c.toNat + 0) % 18446744073709551616 + (q / 18446744073709551616 % 18446744073709551616 + (if 18446744073709551616 ≤ q % 18446744073709551616 + c.toNat + 0 then 1 else 0)) % 18446744073709551616 * 18446744073709551616 = q + c.toNat
  split <;> omega
theorem mul_u4 (a b c d n : W) :
    u4 (mlo a n 0) (mlo b n (mhi a n 0)) (mlo c n (mhi b n (mhi a n 0))) (mlo d n (mhi c n (mhi b n (mhi a n 0)))) = BitVec.ofNat 256 ((u4 a b c d).toNat * n.toNat) ∧
    ((mhi d n (mhi c n (mhi b n (mhi a n 0)))) != 0#64) = ovU ((u4 a b c d).toNat * n.toNat) := by
  have e0 := m_nat a n 0
  have e1 := m_nat b n (mhi a n 0)
  have e2 := m_nat c n (mhi b n (mhi a n 0))
  have e3 := m_nat d n (mhi c n (mhi b n (mhi a n 0)))
  generalize hC0 : mhi a n 0 = C0 at *
  generalize hC1 : mhi b n C0 = C1 at *
  generalize hC2 : mhi c n C1 = C2 at *
  generalize hC3 : mhi d n C2 = C3 at *
  generalize mlo a n 0 = L0 at *
  generalize mlo b n C0 = L1 at *
  generalize mlo c n C1 = L2 at *
  generalize mlo d n C2 = L3 at *
  have i0 := L0.isLt; have i1 := L1.isLt; have i2 := L2.isLt; have i3 := L3.isLt
  have e0' : L0.toNat + C0.toNat * 18446744073709551616 = a.toNat * n.toNat := by simpa using e0
  have key : (u4 a b c d).toNat * n.toNat = L0.toNat + L1.toNat * 18446744073709551616 + L2.toNat * 340282366920938463463374607431768211456 + L3.toNat * 6277101735386680763835789423207666416102355444464034512896 + C3.toNat * 115792089237316195423570985008687907853269984665640564039457584007913129639936 := by
    rw [u4_nat, Nat.add_mul, Nat.add_mul, Nat.add_mul, Nat.mul_right_comm b.toNat, Nat.mul_right_comm c.toNat, Nat.mul_right_comm d.toNat]
    generalize a.toNat * n.toNat = qa at *
    generalize b.toNat * n.toNat = qb at *
    generalize c.toNat * n.toNat = qc at *
    generalize d.toNat * n.toNat = qd at *
    omega
  rw [key]
  constructor
  · apply BitVec.eq_of_toNat_eq
    rw [u4_nat, BitVec.toNat_ofNat]
    show _ = _ % 115792089237316195423570985008687907853269984665640564039457584007913129639936
    omega
  · unfold ovU
    have hz : (C3 != 0#64) = decide (0 < C3.toNat) := by
      rw [Bool.eq_iff_iff]
      simp only [bne_iff_ne, ne_eq, decide_eq_true_eq]
      constructor
      · intro h
        have : C3.toNat ≠ 0 := fun e => h (BitVec.eq_of_toNat_eq e)
        omega
      · rintro h rfl
        simp at h
    rw [hz]
    congr 1
    rw [eq_iff_iff]
    show _ ↔ 115792089237316195423570985008687907853269984665640564039457584007913129639936 ≤ _
    omega
set_option maxHeartbeats 1000000 in
theorem spec110 (ok : OkNum P F) (st : St) (x : U) (n : W) : ACalls P (F 110) [nU x, w64 n] st fun v st' => v = .tup [nU (BitVec.ofNat 256 (x.toNat * n.toNat)), .bool (ovU (x.toNat * n.toNat))] ∧ st' = st := by
  refine shows_call ok.mixed ok.h110 (by simp [k110]) ?_
  obtain ⟨a, b, c, d, rfl⟩ := exists_u4 x
  obtain ⟨e1, e2⟩ := mul_u4 a b c d n
  rw [← e1, ← e2]
  simp only [k110, nU, eU_u4]
  simp
  intro i hi
  simp
  intro j hj
  obtain ⟨hij, hj⟩ := upd_none hj
  have hji := hij.symm
  have call : ∀ (st : St) (y : W), ACalls P (F 118) [w64 y, w64 n] st fun v st' => v = .tup [w64 (mulhi y n), w64 (y * n)] ∧ st' = st := fun st y => spec118 ok st y n
  simp [hij, St.seg, segOf]
  refine vc_unroll 5 ?_
  have i0 : idxV 4 false 1 (.agg [w64 a, w64 b, w64 c, w64 d]) (.int .i64 0) = some (w64 a) := _root_.id rfl
  have i1 : idxV 4 false 1 (.agg [w64 a, w64 b, w64 c, w64 d]) (.int .i64 1) = some (w64 b) := _root_.id rfl
  have i2 : idxV 4 false 1 (.agg [w64 a, w64 b, w64 c, w64 d]) (.int .i64 2) = some (w64 c) := _root_.id rfl
  have i3 : idxV 4 false 1 (.agg [w64 a, w64 b, w64 c, w64 d]) (.int .i64 3) = some (w64 d) := _root_.id rfl
  have z0 : w64 0#64 = w64 (b64 false) := rfl
  have cs : ∀ p q : W, carryV false (w64 p) (w64 q) (w64 0#64) = some (.tup [w64 (sum64 p q false), w64 (b64 (car64 p q false))]) := fun p q => carry_add p q false
  simp [unr_succ, i0]
  refine (call _ a).mono ?_
  rintro v s ⟨rfl, rfl⟩
  simp [unr_succ, i1, cs, idxArrV, hij, hji, storeS, spliceV]
  refine (call _ b).mono ?_
  rintro v s ⟨rfl, rfl⟩
  simp [unr_succ, i2, cs, idxArrV, hij, hji, storeS, spliceV]
  refine (call _ c).mono ?_
  rintro v s ⟨rfl, rfl⟩
  simp [unr_succ, i3, cs, idxArrV, hij, hji, storeS, spliceV]
  refine (call _ d).mono ?_
  rintro v s ⟨rfl, rfl⟩
  simp [unr_succ, cs, idxArrV, hij, hji, storeS, spliceV, St.seg, segOf]
  refine ⟨sub_ups (sub_ups (sub_ups (sub_ups (sub_self _) hi) hj) hi) hj, ?_⟩
  simp [mlo, mhi]
def len8L : List UInt8 := [0, 1] ++ List.replicate 2 2 ++ List.replicate 4 3 ++ List.replicate 8 4 ++ List.replicate 16 5 ++ List.replicate 32 6 ++ List.replicate 64 7 ++ List.replicate 128 8
theorem len8_at : ∀ i : Fin 256, (len8L.getD i.val 0).toNat = bitlen i.val := by decide +kernel
theorem bitlen_shift {n k : Nat} (h : 2 ^ k ≤ n) : bitlen n = bitlen (n / 2 ^ k) + k := by
  have hp := Nat.two_pow_pos k
  have h1 : 0 < n / 2 ^ k := Nat.div_pos h hp
  apply Nat.le_antisymm
  · rw [bitlen_le, Nat.pow_add]
    have := lt_bitlen (n / 2 ^ k)
    exact (Nat.div_lt_iff_lt_mul hp).1 this
  · have h2 : 0 < bitlen (n / 2 ^ k) := bitlen_pos.2 h1
    have h3 : 2 ^ (bitlen (n / 2 ^ k) - 1) ≤ n / 2 ^ k := bitlen_lt.1 (by omega)
    have h4 : 2 ^ (bitlen (n / 2 ^ k) - 1 + k) ≤ n := by
      rw [Nat.pow_add]
      exact (Nat.le_div_iff_mul_le hp).1 h3
    have := bitlen_lt.2 h4
    omega
theorem spec115 (ok : OkNum P F) (st : St) (x : W) : ACalls P (F 115) [w64 x] st fun v st' => v = .int .i64 (bitlen x.toNat) ∧ st' = st := by
  refine shows_call ok.mixed ok.h115 (by simp [k115]) ?_
  simp only [k115]
  generalize hs : ByteArray.mk _ = tab
  have htab : strB tab = len8L := by rw [← hs]; rfl
  clear hs
  have at_ : ∀ y : W, y.toNat < 256 → idxStrV (.str tab) (w8 (UInt8.ofBitVec (y.setWidth 8))) = some (w8 (len8L.getD y.toNat 0)) := fun y hy => by
    have e : (UInt8.ofBitVec (y.setWidth 8)).toNat = y.toNat := by
      show (y.setWidth 8).toNat = _
      rw [BitVec.toNat_setWidth]
      exact Nat.mod_eq_of_lt hy
    have hl : y.toNat < (strB tab).length := by rw [htab]; exact hy
    have := idxStr_w tab .u8 hl
    rw [w8, e, this]
    congr 2
    simp only [htab]
    rw [List.getD_eq_getElem?_getD, List.getElem?_eq_getElem (show y.toNat < len8L.length from hy), Option.getD_some]
  have last : ∀ (y : W) (k : Nat), y.toNat < 256 → k ≤ 100 → idxStrV (.str tab) (w8 (UInt8.ofBitVec (y.setWidth 8))) = some (w8 (len8L.getD y.toNat 0)) ∧ IntKind.i64.wrap ((k : Int) + ((len8L.getD y.toNat 0).toNat : Int)) = ((bitlen y.toNat + k : Nat) : Int) := fun y k hy hk => by
    have h := len8_at ⟨y.toNat, hy⟩
    simp only at h
    have h2 : bitlen y.toNat ≤ 8 := bitlen_le.2 hy
    refine ⟨at_ y hy, ?_⟩
    rw [h, wrap64 (by omega) (by omega)]
    omega
  have hshr : ∀ (z : W) (k : Nat), (z >>> k).toNat = z.toNat / 2 ^ k := fun z k => by
    rw [BitVec.toNat_ushiftRight, Nat.shiftRight_eq_div_pow]
  have c32 : (4294967296#64).toNat = 2 ^ 32 := rfl
  have c16 : (65536#64).toNat = 2 ^ 16 := rfl
  have c8 : (256#64).toNat = 2 ^ 8 := rfl
  have hx := x.isLt
  -- one step: a number with at least so many bits
  have step : ∀ (z : W) (k : Nat), 2 ^ k ≤ z.toNat → bitlen z.toNat = bitlen (z >>> k).toNat + k := fun z k h => by
    rw [hshr]; exact bitlen_shift h
  simp
  by_cases h1 : 4294967296#64 ≤ x
  · have b1 := step x 32 (by rw [← c32]; exact BitVec.le_def.1 h1)
    have l1 : (x >>> 32).toNat < 2 ^ 32 := by rw [hshr]; omega
    simp [h1]
    generalize x >>> 32 = y at *
    by_cases h2 : 65536#64 ≤ y
    · have b2 := step y 16 (by rw [← c16]; exact BitVec.le_def.1 h2)
      have l2 : (y >>> 16).toNat < 2 ^ 16 := by rw [hshr]; omega
      simp [h2]
      generalize y >>> 16 = z at *
      by_cases h3 : 256#64 ≤ z
      · have b3 := step z 8 (by rw [← c8]; exact BitVec.le_def.1 h3)
        have l3 : (z >>> 8).toNat < 2 ^ 8 := by rw [hshr]; omega
        simp [h3]
        generalize z >>> 8 = t at *
        obtain ⟨q1, q2⟩ := last t 56 (by omega) (by omega)
        have q3 : bitlen x.toNat = bitlen t.toNat + 56 := by omega
        simp [q1, q3] at q2 ⊢
        exact q2
      · have l3 : z.toNat < 2 ^ 8 := by
          have := mt BitVec.le_def.2 h3
          rw [c8] at this
          omega
        simp [h3]
        obtain ⟨q1, q2⟩ := last z 48 (by omega) (by omega)
        have q3 : bitlen x.toNat = bitlen z.toNat + 48 := by omega
        simp [q1, q3] at q2 ⊢
        exact q2
    · have l2 : y.toNat < 2 ^ 16 := by
        have := mt BitVec.le_def.2 h2
        rw [c16] at this
        omega
      simp [h2]
      by_cases h3 : 256#64 ≤ y
      · have b3 := step y 8 (by rw [← c8]; exact BitVec.le_def.1 h3)
        have l3 : (y >>> 8).toNat < 2 ^ 8 := by rw [hshr]; omega
        simp [h3]
        generalize y >>> 8 = t at *
        obtain ⟨q1, q2⟩ := last t 40 (by omega) (by omega)
        have q3 : bitlen x.toNat = bitlen t.toNat + 40 := by omega
        simp [q1, q3] at q2 ⊢
        exact q2
      · have l3 : y.toNat < 2 ^ 8 := by
          have := mt BitVec.le_def.2 h3
          rw [c8] at this
          omega
        simp [h3]
        obtain ⟨q1, q2⟩ := last y 32 (by omega) (by omega)
        have q3 : bitlen x.toNat = bitlen y.toNat + 32 := by omega
        simp [q1, q3] at q2 ⊢
        exact q2
  · have l1 : x.toNat < 2 ^ 32 := by
      have := mt BitVec.le_def.2 h1
      rw [c32] at this
      omega
    simp [h1]
    by_cases h2 : 65536#64 ≤ x
    · have b2 := step x 16 (by rw [← c16]; exact BitVec.le_def.1 h2)
      have l2 : (x >>> 16).toNat < 2 ^ 16 := by rw [hshr]; omega
      simp [h2]
      generalize x >>> 16 = z at *
      by_cases h3 : 256#64 ≤ z
      · have b3 := step z 8 (by rw [← c8]; exact BitVec.le_def.1 h3)
        have l3 : (z >>> 8).toNat < 2 ^ 8 := by rw [hshr]; omega
        simp [h3]
        generalize z >>> 8 = t at *
        obtain ⟨q1, q2⟩ := last t 24 (by omega) (by omega)
        have q3 : bitlen x.toNat = bitlen t.toNat + 24 := by omega
        simp [q1, q3] at q2 ⊢
        exact q2
      · have l3 : z.toNat < 2 ^ 8 := by
          have := mt BitVec.le_def.2 h3
          rw [c8] at this
          omega
        simp [h3]
        obtain ⟨q1, q2⟩ := last z 16 (by omega) (by omega)
        have q3 : bitlen x.toNat = bitlen z.toNat + 16 := by omega
        simp [q1, q3] at q2 ⊢
        exact q2
    · have l2 : x.toNat < 2 ^ 16 := by
        have := mt BitVec.le_def.2 h2
        rw [c16] at this
        omega
      simp [h2]
      by_cases h3 : 256#64 ≤ x
      · have b3 := step x 8 (by rw [← c8]; exact BitVec.le_def.1 h3)
        have l3 : (x >>> 8).toNat < 2 ^ 8 := by rw [hshr]; omega
        simp [h3]
        generalize x >>> 8 = t at *
        obtain ⟨q1, q2⟩ := last t 8 (by omega) (by omega)
        have q3 : bitlen x.toNat = bitlen t.toNat + 8 := by omega
        simp [q1, q3] at q2 ⊢
        exact q2
      · have l3 : x.toNat < 2 ^ 8 := by
          have := mt BitVec.le_def.2 h3
          rw [c8] at this
          omega
        simp [h3]
        obtain ⟨q1, q2⟩ := last x 0 (by omega) (by omega)
        simp at q2
        simp [q1, q2]
end
end Go.Ab
set_option linter.unusedSimpArgs false
set_option linter.unusedVariables false
set_option maxRecDepth 10000
namespace Go.Ab
open Go Go.RowKit
section
variable {P : Program} {F : Fn}
theorem bitlen_add {n k m : Nat} (hm : m < 2 ^ k) (hn : 0 < n) : bitlen (n * 2 ^ k + m) = bitlen n + k := by
  have h1 : 2 ^ k ≤ n * 2 ^ k + m := Nat.le_add_right_of_le (Nat.le_mul_of_pos_left _ hn)
  have h2 := bitlen_shift h1
  rw [h2, Nat.add_comm (n * 2 ^ k), Nat.add_mul_div_right _ _ (Nat.two_pow_pos k), Nat.div_eq_of_lt hm, Nat.zero_add]
theorem u4_lo2 (a b : W) : (u4 a b 0#64 0#64).toNat = b.toNat * 2 ^ 64 + a.toNat := by
  have h : ∀ c d : W, c.toNat = 0 → d.toNat = 0 → (u4 a b c d).toNat = b.toNat * 18446744073709551616 + a.toNat := fun c d hc hd => by
    rw [u4_nat]; omega
  exact h _ _ rfl rfl
theorem u4_lo3 (a b c : W) : (u4 a b c 0#64).toNat = c.toNat * 2 ^ 128 + (a.toNat + b.toNat * 18446744073709551616) := by
  have h : ∀ d : W, d.toNat = 0 → (u4 a b c d).toNat = c.toNat * 340282366920938463463374607431768211456 + (a.toNat + b.toNat * 18446744073709551616) := fun d hd => by
    rw [u4_nat]; omega
  exact h _ rfl
theorem u4_hi (a b c d : W) : (u4 a b c d).toNat = d.toNat * 2 ^ 192 + (a.toNat + b.toNat * 18446744073709551616 + c.toNat * 340282366920938463463374607431768211456) := by
  rw [u4_nat, Nat.add_comm]
theorem w_pos {x : W} (h : x ≠ 0#64) : 0 < x.toNat := by
  have : x.toNat ≠ 0 := fun e => h (BitVec.eq_of_toNat_eq e)
  omega
theorem spec114 (ok : OkNum P F) (st : St) (x : U) : ACalls P (F 114) [nU x] st fun v st' => v = .int .i64 (bitlen x.toNat) ∧ st' = st := by
  refine shows_call ok.mixed ok.h114 (by simp [k114]) ?_
  obtain ⟨a, b, c, d, rfl⟩ := exists_u4 x
  have ha := a.isLt; have hb := b.isLt; have hc := c.isLt; have hd := d.isLt
  have e := u4_nat a b c d
  have bl : ∀ y : W, bitlen y.toNat ≤ 64 := fun y => bitlen_le.2 y.isLt
  simp only [k114, nU, eU_u4]
  simp
  intro i hi
  have call : ∀ (st : St) (y : W), ACalls P (F 115) [w64 y] st fun v st' => v = .int .i64 (bitlen y.toNat) ∧ st' = st := fun st y => spec115 ok st y
  refine vc_unroll 5 ?_
  simp [unr_succ, idxArrV, St.seg, segOf]
  by_cases h : d = 0#64
  · subst h
    simp [unr_succ, idxArrV, St.seg, segOf]
    by_cases h : c = 0#64
    · subst h
      simp [unr_succ, idxArrV, St.seg, segOf]
      by_cases h : b = 0#64
      · subst h
        simp [unr_succ, idxArrV, St.seg, segOf]
        by_cases h : a = 0#64
        · subst h
          simp [unr_succ, idxArrV, St.seg, segOf, e, bitlen]
          exact sub_upd hi
        · have hne : (a != 0#64) = true := by simp [h]
          simp [unr_succ, idxArrV, St.seg, segOf, hne]
          refine (call _ a).mono ?_
          rintro v s ⟨rfl, rfl⟩
          have := bl a
          have w : IntKind.i64.wrap (bitlen a.toNat : Int) = bitlen a.toNat := wrap64 (by omega) (by omega)
          simp [w, e]
          exact sub_upd hi
      · have hne : (b != 0#64) = true := by simp [h]
        simp [unr_succ, idxArrV, St.seg, segOf, hne]
        refine (call _ b).mono ?_
        rintro v s ⟨rfl, rfl⟩
        have := bl b
        have w : IntKind.i64.wrap (64 + (bitlen b.toNat : Int)) = 64 + bitlen b.toNat := wrap64 (by omega) (by omega)
        have q := bitlen_add (k := 64) ha (w_pos h)
        rw [u4_lo2, q]
        simp [w]
        exact ⟨sub_upd hi, by omega⟩
    · have hne : (c != 0#64) = true := by simp [h]
      simp [unr_succ, idxArrV, St.seg, segOf, hne]
      refine (call _ c).mono ?_
      rintro v s ⟨rfl, rfl⟩
      have := bl c
      have w : IntKind.i64.wrap (128 + (bitlen c.toNat : Int)) = 128 + bitlen c.toNat := wrap64 (by omega) (by omega)
      have q := bitlen_add (k := 128) (m := a.toNat + b.toNat * 18446744073709551616) (by show _ < 340282366920938463463374607431768211456; omega) (w_pos h)
      rw [u4_lo3, q]
      simp [w]
      exact ⟨sub_upd hi, by omega⟩
  · have hne : (d != 0#64) = true := by simp [h]
    simp [unr_succ, idxArrV, St.seg, segOf, hne]
    refine (call _ d).mono ?_
    rintro v s ⟨rfl, rfl⟩
    have := bl d
    have w : IntKind.i64.wrap (192 + (bitlen d.toNat : Int)) = 192 + bitlen d.toNat := wrap64 (by omega) (by omega)
    have q := bitlen_add (k := 192) (m := a.toNat + b.toNat * 18446744073709551616 + c.toNat * 340282366920938463463374607431768211456) (by show _ < 6277101735386680763835789423207666416102355444464034512896; omega) (w_pos h)
    rw [u4_hi, q]
    simp [w]
    exact ⟨sub_upd hi, by omega⟩
end
end Go.Ab
set_option linter.unusedSimpArgs false
set_option linter.unusedVariables false
set_option maxRecDepth 10000
namespace Go.Ab
open Go Go.RowKit
section
variable {P : Program} {F : Fn}
def hl (x y : W) (s : Nat) : W := x <<< s ||| y >>> (64 - s)
def hr (x y : W) (s : Nat) : W := x >>> s ||| y <<< (64 - s)
theorem pow64 {s : Nat} (hs : s ≤ 64) : 2 ^ s * 2 ^ (64 - s) = 18446744073709551616 := by
  rw [← Nat.pow_add, show s + (64 - s) = 64 by omega]
theorem shl_nat (x : W) (s : Nat) : (x <<< s).toNat = x.toNat * 2 ^ s % 18446744073709551616 := by
  rw [BitVec.toNat_shiftLeft, Nat.shiftLeft_eq]
theorem shr_nat64 (x : W) (s : Nat) : (x >>> s).toNat = x.toNat / 2 ^ s := by
  rw [BitVec.toNat_ushiftRight, Nat.shiftRight_eq_div_pow]
theorem or_disj (x y : Nat) (s : Nat) (hy : y < 2 ^ s) : (x * 2 ^ s ||| y) = x * 2 ^ s + y := by
  rw [← Nat.shiftLeft_eq, ← Nat.shiftLeft_add_eq_or_of_lt hy, Nat.shiftLeft_eq]
theorem mul_mod_pow (x s : Nat) (hs : s ≤ 64) : x * 2 ^ s % 18446744073709551616 = x % 2 ^ (64 - s) * 2 ^ s := by
  rw [← pow64 hs, Nat.mul_comm (2 ^ s), Nat.mul_mod_mul_right]
theorem mul_div_pow (x s : Nat) (hs : s ≤ 64) : x * 2 ^ s / 18446744073709551616 = x / 2 ^ (64 - s) := by
  rw [← pow64 hs, Nat.mul_comm (2 ^ s), Nat.mul_div_mul_right _ _ (Nat.two_pow_pos s)]
theorem hl_nat (x y : W) (s : Nat) (hs : s ≤ 64) : (hl x y s).toNat = x.toNat * 2 ^ s % 18446744073709551616 + y.toNat * 2 ^ s / 18446744073709551616 := by
  have hy := y.isLt
  rw [hl, BitVec.toNat_or, shl_nat, shr_nat64, mul_mod_pow _ _ hs, mul_div_pow _ _ hs]
  refine or_disj _ _ _ ?_
  rw [Nat.div_lt_iff_lt_mul (Nat.two_pow_pos _), pow64 hs]
  exact hy
theorem hr_nat (x y : W) (s : Nat) (hs : s ≤ 64) : (hr x y s).toNat = y.toNat * 2 ^ (64 - s) % 18446744073709551616 + x.toNat * 2 ^ (64 - s) / 18446744073709551616 := by
  have hx := x.isLt
  have e : 64 - (64 - s) = s := by omega
  rw [hr, BitVec.or_comm, BitVec.toNat_or, shl_nat, shr_nat64, mul_mod_pow _ _ (by omega), mul_div_pow _ _ (by omega), e]
  refine or_disj _ _ _ ?_
  rw [Nat.div_lt_iff_lt_mul (Nat.two_pow_pos _), Nat.mul_comm, pow64 hs]
  exact hx
theorem shl_u4 (a b c d : W) (s : Nat) (hs : s ≤ 64) : u4 a b c d <<< s = u4 (a <<< s) (hl b a s) (hl c b s) (hl d c s) := by
  apply BitVec.eq_of_toNat_eq
  have b1 := (hl b a s).isLt
  have b2 := (hl c b s).isLt
  have b3 := (hl d c s).isLt
  rw [hl_nat _ _ _ hs] at b1 b2 b3
  rw [BitVec.toNat_shiftLeft, Nat.shiftLeft_eq, u4_nat, u4_nat, shl_nat, hl_nat _ _ _ hs, hl_nat _ _ _ hs, hl_nat _ _ _ hs, Nat.add_mul, Nat.add_mul, Nat.add_mul, Nat.mul_right_comm b.toNat, Nat.mul_right_comm c.toNat, Nat.mul_right_comm d.toNat]
  generalize a.toNat * 2 ^ s = A at *
  generalize b.toNat * 2 ^ s = B at *
  generalize c.toNat * 2 ^ s = C at *
  generalize d.toNat * 2 ^ s = D at *
  show _ % 115792089237316195423570985008687907853269984665640564039457584007913129639936 = _
  omega
theorem shr_u4 (a b c d : W) (s : Nat) (hs : s ≤ 64) : u4 a b c d >>> s = u4 (hr a b s) (hr b c s) (hr c d s) (d >>> s) := by
  apply BitVec.eq_of_toNat_eq
  have hp := Nat.two_pow_pos (64 - s)
  have e : 64 - (64 - s) = s := by omega
  have hd : (d >>> s).toNat = d.toNat * 2 ^ (64 - s) / 18446744073709551616 := by
    rw [shr_nat64, mul_div_pow _ _ (by omega), e]
  rw [BitVec.toNat_ushiftRight, Nat.shiftRight_eq_div_pow, u4_nat, u4_nat, hd, hr_nat _ _ _ hs, hr_nat _ _ _ hs, hr_nat _ _ _ hs]
  rw [← Nat.mul_div_mul_right _ _ hp, pow64 hs, Nat.add_mul, Nat.add_mul, Nat.add_mul, Nat.mul_right_comm b.toNat, Nat.mul_right_comm c.toNat, Nat.mul_right_comm d.toNat]
  generalize a.toNat * 2 ^ (64 - s) = A
  generalize b.toNat * 2 ^ (64 - s) = B
  generalize c.toNat * 2 ^ (64 - s) = C
  generalize d.toNat * 2 ^ (64 - s) = D
  omega
theorem shl_word (a b c d : W) : u4 a b c d <<< 64 = u4 0#64 a b c := by
  have h : ∀ z : W, z.toNat = 0 → u4 a b c d <<< 64 = u4 z a b c := fun z hz => by
    have := a.isLt; have := b.isLt; have := c.isLt; have := d.isLt
    apply BitVec.eq_of_toNat_eq
    rw [BitVec.toNat_shiftLeft, Nat.shiftLeft_eq, u4_nat, u4_nat]
    show _ * 18446744073709551616 % 115792089237316195423570985008687907853269984665640564039457584007913129639936 = _
    omega
  exact h _ rfl
theorem shr_word (a b c d : W) : u4 a b c d >>> 64 = u4 b c d 0#64 := by
  have h : ∀ z : W, z.toNat = 0 → u4 a b c d >>> 64 = u4 b c d z := fun z hz => by
    have := a.isLt; have := b.isLt; have := c.isLt; have := d.isLt
    apply BitVec.eq_of_toNat_eq
    rw [BitVec.toNat_ushiftRight, Nat.shiftRight_eq_div_pow, u4_nat, u4_nat]
    show _ / 18446744073709551616 = _
    omega
  exact h _ rfl
def shlU (x : U) (n : Int) : U := if n < 0 ∨ 255 < n then 0#256 else x <<< n.toNat
def shrU (x : U) (n : Int) : U := if n < 0 ∨ 255 < n then 0#256 else x >>> n.toNat
theorem hl0 (x y : W) : hl x y 0 = x := by
  unfold hl
  rw [BitVec.shiftLeft_zero]
  have : y >>> (64 - 0) = 0#64 := by
    apply BitVec.eq_of_toNat_eq
    rw [shr_nat64, Nat.div_eq_of_lt y.isLt]; rfl
  rw [this, BitVec.or_zero]
set_option maxHeartbeats 2000000 in
theorem spec112 (ok : OkNum P F) (st : St) (x : U) (n : Int) : ACalls P (F 112) [nU x, .int .i64 n] st fun v st' => v = nU (shlU x n) ∧ st' = st := by
  refine shows_call ok.mixed ok.h112 (by simp [k112]) ?_
  obtain ⟨a, b, c, d, rfl⟩ := exists_u4 x
  simp only [k112, nU, eU_u4]
  simp
  intro i hi
  simp
  intro j hj
  obtain ⟨hij, hj⟩ := upd_none hj
  have hji := hij.symm
  by_cases h0 : n < 0
  · have e : shlU (u4 a b c d) n = u4 0#64 0#64 0#64 0#64 := by simp [shlU, h0]; rfl
    rw [e, eU_u4]
    simp [h0, fillV, storeS, spliceV, St.seg, segOf]
    repeat refine sub_ups ?_ (by assumption)
    exact St.sub_refl _
  by_cases h1 : 255 < n
  · have e : shlU (u4 a b c d) n = u4 0#64 0#64 0#64 0#64 := by simp [shlU, h1]; rfl
    rw [e, eU_u4]
    simp [h0, h1, fillV, storeS, spliceV, St.seg, segOf]
    repeat refine sub_ups ?_ (by assumption)
    exact St.sub_refl _
  obtain ⟨m, rfl⟩ := Int.eq_ofNat_of_zero_le (show 0 ≤ n by omega)
  have hm : m ≤ 255 := by omega
  obtain ⟨w, s, hs, rfl⟩ : ∃ w s, s < 64 ∧ m = 64 * w + s := ⟨m / 64, m % 64, Nat.mod_lt _ (by omega), by omega⟩
  have hq : Int.tdiv ((64 * w + s : Nat) : Int) 64 = (w : Int) := by
    rw [Int.tdiv_eq_ediv_of_nonneg (by omega)]; omega
  have hr' : Int.tmod ((64 * w + s : Nat) : Int) 64 = (s : Int) := by
    rw [Int.tmod_eq_emod_of_nonneg (by omega)]; omega
  have e : shlU (u4 a b c d) ((64 * w + s : Nat) : Int) = u4 a b c d <<< (64 * w + s) := by
    rw [shlU, if_neg (by omega), Int.toNat_natCast]
  rw [e]
  obtain ⟨S, hS⟩ : ∃ S : W, S = BitVec.ofInt 64 (s : Int) := ⟨_, rfl⟩
  have hSn : S.toNat = s := by
    rw [hS, BitVec.ofInt_natCast, BitVec.toNat_ofNat]
    exact Nat.mod_eq_of_lt (by omega)
  have hS2 : (64#64 - S).toNat = 64 - s := by
    rw [BitVec.toNat_sub, hSn]
    show (18446744073709551616 - s + 64) % 18446744073709551616 = 64 - s
    omega
  have hpos : decide (0#64 < S) = decide (0 < s) := by
    congr 1
    rw [BitVec.lt_def, hSn]
    rfl
  have hw : w ≤ 3 := by omega
  have ww : IntKind.i64.wrap (w : Int) = w := wrap64 (by omega) (by omega)
  have hcast : ((64 * w + s : Nat) : Int) = 64 * (w : Int) + s := by omega
  rw [hcast] at h0 h1 hq hr' ⊢
  simp [h0, h1]
  intro k hk
  obtain ⟨hjk, hk⟩ := upd_none hk
  obtain ⟨hik, hk⟩ := upd_none hk
  have hkj := hjk.symm
  have hki := hik.symm
  have fin : ∀ cs : List V, st.sub (((((st.upd i (AObj.cells [w64 a, w64 b, w64 c, w64 d])).upd j (AObj.cells [w64 0#64, w64 0#64, w64 0#64, w64 0#64])).upd k (AObj.cells [w64 0#64, w64 0#64, w64 0#64, w64 0#64])).upd k (AObj.cells cs)).upd j (AObj.cells cs)) := fun cs => sub_ups (sub_ups (sub_ups (sub_ups (sub_ups (sub_self _) hi) hj) hk) hk) hj
  have hconv : convV .u64 (.int .i64 (s : Int)) = some (w64 S) := by rw [hS, conv_i_64]
  simp [-conv_i_64, hq, hr', ww, hconv]
  clear hconv hS hq hr' hcast h0 h1 e ww
  refine vc_unroll 5 ?_
  have hw4 : w = 0 ∨ w = 1 ∨ w = 2 ∨ w = 3 := by omega
  by_cases hs0 : s = 0
  · have hpos' : decide (0#64 < S) = false := by rw [hpos]; simp [hs0]
    rcases hw4 with rfl | rfl | rfl | rfl
    · have r : u4 a b c d <<< (64 * 0 + s) = u4 a b c d := by simp [hs0]
      rw [r, eU_u4]
      simp [unr_succ, idxArrV, St.seg, segOf, hij, hji, hik, hki, hjk, hkj, storeS, spliceV, hSn, hpos', hs0]
      repeat refine sub_ups ?_ (by assumption)
      exact St.sub_refl _
    · have r : u4 a b c d <<< (64 * 1 + s) = u4 0#64 a b c := by rw [hs0]; exact shl_word a b c d
      rw [r, eU_u4]
      simp [unr_succ, idxArrV, St.seg, segOf, hij, hji, hik, hki, hjk, hkj, storeS, spliceV, hSn, hpos', hs0]
      repeat refine sub_ups ?_ (by assumption)
      exact St.sub_refl _
    · have r : u4 a b c d <<< (64 * 2 + s) = u4 0#64 0#64 a b := by rw [hs0, show 64 * 2 + 0 = 64 + 64 from rfl, BitVec.shiftLeft_add, shl_word, shl_word]
      rw [r, eU_u4]
      simp [unr_succ, idxArrV, St.seg, segOf, hij, hji, hik, hki, hjk, hkj, storeS, spliceV, hSn, hpos', hs0]
      repeat refine sub_ups ?_ (by assumption)
      exact St.sub_refl _
    · have r : u4 a b c d <<< (64 * 3 + s) = u4 0#64 0#64 0#64 a := by rw [hs0, show 64 * 3 + 0 = 64 + 64 + 64 from rfl, BitVec.shiftLeft_add, BitVec.shiftLeft_add, shl_word, shl_word, shl_word]
      rw [r, eU_u4]
      simp [unr_succ, idxArrV, St.seg, segOf, hij, hji, hik, hki, hjk, hkj, storeS, spliceV, hSn, hpos', hs0]
      repeat refine sub_ups ?_ (by assumption)
      exact St.sub_refl _
  · have hpos' : decide (0#64 < S) = true := by rw [hpos]; simp; omega
    rcases hw4 with rfl | rfl | rfl | rfl
    · have r : u4 a b c d <<< (64 * 0 + s) = u4 (a <<< s) (hl b a s) (hl c b s) (hl d c s) := by
        rw [show 64 * 0 + s = s by omega]; exact shl_u4 a b c d s (by omega)
      rw [r, eU_u4]
      simp [unr_succ, idxArrV, St.seg, segOf, hij, hji, hik, hki, hjk, hkj, storeS, spliceV, hSn, hpos', hS2, hl, -BitVec.toNat_sub]
      repeat refine sub_ups ?_ (by assumption)
      exact St.sub_refl _
    · have r : u4 a b c d <<< (64 * 1 + s) = u4 0#64 (a <<< s) (hl b a s) (hl c b s) := by
        rw [show 64 * 1 + s = s + 64 by omega, BitVec.shiftLeft_add, shl_u4 a b c d s (by omega), shl_word]
      rw [r, eU_u4]
      simp [unr_succ, idxArrV, St.seg, segOf, hij, hji, hik, hki, hjk, hkj, storeS, spliceV, hSn, hpos', hS2, hl, -BitVec.toNat_sub]
      repeat refine sub_ups ?_ (by assumption)
      exact St.sub_refl _
    · have r : u4 a b c d <<< (64 * 2 + s) = u4 0#64 0#64 (a <<< s) (hl b a s) := by
        rw [show 64 * 2 + s = s + 64 + 64 by omega, BitVec.shiftLeft_add, BitVec.shiftLeft_add, shl_u4 a b c d s (by omega), shl_word, shl_word]
      rw [r, eU_u4]
      simp [unr_succ, idxArrV, St.seg, segOf, hij, hji, hik, hki, hjk, hkj, storeS, spliceV, hSn, hpos', hS2, hl, -BitVec.toNat_sub]
      repeat refine sub_ups ?_ (by assumption)
      exact St.sub_refl _
    · have r : u4 a b c d <<< (64 * 3 + s) = u4 0#64 0#64 0#64 (a <<< s) := by
        rw [show 64 * 3 + s = s + 64 + 64 + 64 by omega, BitVec.shiftLeft_add, BitVec.shiftLeft_add, BitVec.shiftLeft_add, shl_u4 a b c d s (by omega), shl_word, shl_word, shl_word]
      rw [r, eU_u4]
      simp [unr_succ, idxArrV, St.seg, segOf, hij, hji, hik, hki, hjk, hkj, storeS, spliceV, hSn, hpos', hS2, hl, -BitVec.toNat_sub]
      repeat refine sub_ups ?_ (by assumption)
      exact St.sub_refl _
set_option maxHeartbeats 2000000 in
theorem spec113 (ok : OkNum P F) (st : St) (x : U) (n : Int) : ACalls P (F 113) [nU x, .int .i64 n] st fun v st' => v = nU (shrU x n) ∧ st' = st := by
  refine shows_call ok.mixed ok.h113 (by simp [k113]) ?_
  obtain ⟨a, b, c, d, rfl⟩ := exists_u4 x
  simp only [k113, nU, eU_u4]
  simp
  intro i hi
  simp
  intro j hj
  obtain ⟨hij, hj⟩ := upd_none hj
  have hji := hij.symm
  by_cases h0 : n < 0
  · have e : shrU (u4 a b c d) n = u4 0#64 0#64 0#64 0#64 := by simp [shrU, h0]; rfl
    rw [e, eU_u4]
    simp [h0, fillV, storeS, spliceV, St.seg, segOf]
    repeat refine sub_ups ?_ (by assumption)
    exact St.sub_refl _
  by_cases h1 : 255 < n
  · have e : shrU (u4 a b c d) n = u4 0#64 0#64 0#64 0#64 := by simp [shrU, h1]; rfl
    rw [e, eU_u4]
    simp [h0, h1, fillV, storeS, spliceV, St.seg, segOf]
    repeat refine sub_ups ?_ (by assumption)
    exact St.sub_refl _
  obtain ⟨m, rfl⟩ := Int.eq_ofNat_of_zero_le (show 0 ≤ n by omega)
  have hm : m ≤ 255 := by omega
  obtain ⟨w, s, hs, rfl⟩ : ∃ w s, s < 64 ∧ m = 64 * w + s := ⟨m / 64, m % 64, Nat.mod_lt _ (by omega), by omega⟩
  have hq : Int.tdiv ((64 * w + s : Nat) : Int) 64 = (w : Int) := by
    rw [Int.tdiv_eq_ediv_of_nonneg (by omega)]; omega
  have hr' : Int.tmod ((64 * w + s : Nat) : Int) 64 = (s : Int) := by
    rw [Int.tmod_eq_emod_of_nonneg (by omega)]; omega
  have e : shrU (u4 a b c d) ((64 * w + s : Nat) : Int) = u4 a b c d >>> (64 * w + s) := by
    rw [shrU, if_neg (by omega), Int.toNat_natCast]
  rw [e]
  obtain ⟨S, hS⟩ : ∃ S : W, S = BitVec.ofInt 64 (s : Int) := ⟨_, rfl⟩
  have hSn : S.toNat = s := by
    rw [hS, BitVec.ofInt_natCast, BitVec.toNat_ofNat]
    exact Nat.mod_eq_of_lt (by omega)
  have hS2 : (64#64 - S).toNat = 64 - s := by
    rw [BitVec.toNat_sub, hSn]
    show (18446744073709551616 - s + 64) % 18446744073709551616 = 64 - s
    omega
  have hpos : decide (0#64 < S) = decide (0 < s) := by
    congr 1
    rw [BitVec.lt_def, hSn]
    rfl
  have hw : w ≤ 3 := by omega
  have ww4 : IntKind.i64.wrap (4 - (w : Int)) = 4 - w := wrap64 (by omega) (by omega)
  have ww : IntKind.i64.wrap (w : Int) = w := wrap64 (by omega) (by omega)
  have hcast : ((64 * w + s : Nat) : Int) = 64 * (w : Int) + s := by omega
  rw [hcast] at h0 h1 hq hr' ⊢
  simp [h0, h1]
  intro k hk
  obtain ⟨hjk, hk⟩ := upd_none hk
  obtain ⟨hik, hk⟩ := upd_none hk
  have hkj := hjk.symm
  have hki := hik.symm
  have fin : ∀ cs : List V, st.sub (((((st.upd i (AObj.cells [w64 a, w64 b, w64 c, w64 d])).upd j (AObj.cells [w64 0#64, w64 0#64, w64 0#64, w64 0#64])).upd k (AObj.cells [w64 0#64, w64 0#64, w64 0#64, w64 0#64])).upd k (AObj.cells cs)).upd j (AObj.cells cs)) := fun cs => sub_ups (sub_ups (sub_ups (sub_ups (sub_ups (sub_self _) hi) hj) hk) hk) hj
  have hconv : convV .u64 (.int .i64 (s : Int)) = some (w64 S) := by rw [hS, conv_i_64]
  simp [-conv_i_64, hq, hr', ww, hconv]
  clear hconv hS hq hr' hcast h0 h1 e ww
  refine vc_unroll 5 ?_
  have hw4 : w = 0 ∨ w = 1 ∨ w = 2 ∨ w = 3 := by omega
  by_cases hs0 : s = 0
  · have hpos' : decide (0#64 < S) = false := by rw [hpos]; simp [hs0]
    rcases hw4 with rfl | rfl | rfl | rfl
    · have r : u4 a b c d >>> (64 * 0 + s) = u4 a b c d := by simp [hs0]
      rw [r, eU_u4]
      simp [unr_succ, idxArrV, St.seg, segOf, hij, hji, hik, hki, hjk, hkj, storeS, spliceV, hSn, hpos', hs0]
      repeat refine sub_ups ?_ (by assumption)
      exact St.sub_refl _
    · have r : u4 a b c d >>> (64 * 1 + s) = u4 b c d 0#64 := by rw [hs0, show 64 * 1 + 0 = 64 from rfl, shr_word]
      rw [r, eU_u4]
      simp [unr_succ, idxArrV, St.seg, segOf, hij, hji, hik, hki, hjk, hkj, storeS, spliceV, hSn, hpos', hs0]
      repeat refine sub_ups ?_ (by assumption)
      exact St.sub_refl _
    · have r : u4 a b c d >>> (64 * 2 + s) = u4 c d 0#64 0#64 := by rw [hs0, show 64 * 2 + 0 = 64 + 64 from rfl, BitVec.shiftRight_add, shr_word, shr_word]
      rw [r, eU_u4]
      simp [unr_succ, idxArrV, St.seg, segOf, hij, hji, hik, hki, hjk, hkj, storeS, spliceV, hSn, hpos', hs0]
      repeat refine sub_ups ?_ (by assumption)
      exact St.sub_refl _
    · have r : u4 a b c d >>> (64 * 3 + s) = u4 d 0#64 0#64 0#64 := by rw [hs0, show 64 * 3 + 0 = 64 + 64 + 64 from rfl, BitVec.shiftRight_add, BitVec.shiftRight_add, shr_word, shr_word, shr_word]
      rw [r, eU_u4]
      simp [unr_succ, idxArrV, St.seg, segOf, hij, hji, hik, hki, hjk, hkj, storeS, spliceV, hSn, hpos', hs0]
      repeat refine sub_ups ?_ (by assumption)
      exact St.sub_refl _
  · have hpos' : decide (0#64 < S) = true := by rw [hpos]; simp; omega
    rcases hw4 with rfl | rfl | rfl | rfl
    · have r : u4 a b c d >>> (64 * 0 + s) = u4 (hr a b s) (hr b c s) (hr c d s) (d >>> s) := by
        rw [show 64 * 0 + s = s by omega, shr_u4 a b c d s (by omega)]
      rw [r, eU_u4]
      simp [unr_succ, idxArrV, St.seg, segOf, hij, hji, hik, hki, hjk, hkj, storeS, spliceV, hSn, hpos', hS2, hr, -BitVec.toNat_sub]
      repeat refine sub_ups ?_ (by assumption)
      exact St.sub_refl _
    · have r : u4 a b c d >>> (64 * 1 + s) = u4 (hr b c s) (hr c d s) (d >>> s) 0#64 := by
        rw [show 64 * 1 + s = s + 64 by omega, BitVec.shiftRight_add, shr_u4 a b c d s (by omega), shr_word]
      rw [r, eU_u4]
      simp [unr_succ, idxArrV, St.seg, segOf, hij, hji, hik, hki, hjk, hkj, storeS, spliceV, hSn, hpos', hS2, hr, -BitVec.toNat_sub]
      repeat refine sub_ups ?_ (by assumption)
      exact St.sub_refl _
    · have r : u4 a b c d >>> (64 * 2 + s) = u4 (hr c d s) (d >>> s) 0#64 0#64 := by
        rw [show 64 * 2 + s = s + 64 + 64 by omega, BitVec.shiftRight_add, BitVec.shiftRight_add, shr_u4 a b c d s (by omega), shr_word, shr_word]
      rw [r, eU_u4]
      simp [unr_succ, idxArrV, St.seg, segOf, hij, hji, hik, hki, hjk, hkj, storeS, spliceV, hSn, hpos', hS2, hr, -BitVec.toNat_sub]
      repeat refine sub_ups ?_ (by assumption)
      exact St.sub_refl _
    · have r : u4 a b c d >>> (64 * 3 + s) = u4 (d >>> s) 0#64 0#64 0#64 := by
        rw [show 64 * 3 + s = s + 64 + 64 + 64 by omega, BitVec.shiftRight_add, BitVec.shiftRight_add, BitVec.shiftRight_add, shr_u4 a b c d s (by omega), shr_word, shr_word, shr_word]
      rw [r, eU_u4]
      simp [unr_succ, idxArrV, St.seg, segOf, hij, hji, hik, hki, hjk, hkj, storeS, spliceV, hSn, hpos', hS2, hr, -BitVec.toNat_sub]
      repeat refine sub_ups ?_ (by assumption)
      exact St.sub_refl _
end
end Go.Ab
set_option linter.unusedSimpArgs false
set_option linter.unusedVariables false
set_option maxRecDepth 10000
namespace Go.Ab
open Go Go.RowKit
section
variable {P : Program} {F : Fn}
theorem arr_read {α : Type} {f : α → V} {st : St} {id : Nat} {xs : List α} (h : st id = some (.cells (xs.map f))) {i : Nat} (hi : i < xs.length) : st.seg id i 1 = some [f xs[i]] := by
  simp only [St.seg, h, segOf]
  rw [if_pos (by simp; omega), List.drop_eq_getElem_cons (by simpa using hi)]
  simp
theorem arr_store {α : Type} {f : α → V} {st : St} {id : Nat} {xs : List α} (h : st id = some (.cells (xs.map f))) {i : Nat} (hi : i < xs.length) {x : α} {v : V} (hv : v.cells? = some [f x]) : storeS st 1 (.ptr (some (id, i))) v = some (st.upd id (.cells ((xs.set i x).map f))) := by
  simp only [storeS, h, hv]
  rw [if_pos ⟨rfl, by simp; omega⟩]
  congr 3
  unfold spliceV
  rw [List.map_set, List.set_eq_take_append_cons_drop, if_pos (by simpa using hi)]
  simp
theorem set_fill {α : Type} (l : List α) (n : Nat) (z x : α) (h : l.length < n) : (l ++ List.replicate (n - l.length) z).set l.length x = l ++ [x] ++ List.replicate (n - (l.length + 1)) z := by
  rw [List.set_append_right _ _ (by omega), Nat.sub_self, show n - l.length = (n - (l.length + 1)) + 1 by omega, List.replicate_succ, List.set_cons_zero]
  simp
theorem idxArr_ptr (n id : Nat) {z : Int} {j : Nat} (hz : z = (j : Nat)) (hj : j < n) : idxArrV n 1 (.ptr (some (id, 0))) (.int .i64 z) = some (.ptr (some (id, j))) := by
  subst hz
  simp [idxArrV, hj]
theorem words_len : ∀ l : List UInt8, (words l).length = l.length / 4
  | a :: b :: c :: d :: l => by
    simp only [words, List.length_cons, words_len l]
    omega
  | [] => rfl
  | [_] => by simp [words]
  | [_, _] => by simp [words]
  | [_, _, _] => by simp [words]
theorem words_get : ∀ (l : List UInt8) (i : Nat) (h : 4 * i + 4 ≤ l.length), (words l)[i]'(by rw [words_len]; omega) = be4 l[4 * i] l[4 * i + 1] l[4 * i + 2] l[4 * i + 3]
  | a :: b :: c :: d :: l, 0, h => rfl
  | a :: b :: c :: d :: l, i + 1, h => by
    have := words_get l i (by simp at h; omega)
    simp only [words, List.getElem_cons_succ, this]
    congr 1
  | [], i, h => by simp at h
  | [_], i, h => by simp at h
  | [_, _], i, h => by simp at h
  | [_, _, _], i, h => by simp at h
theorem sched_len (m : List (BitVec 32)) : ∀ k, (sched m k).length = m.length + k
  | 0 => rfl
  | k + 1 => by simp [sched, sched_len m k]; omega
theorem rnds_snoc : ∀ (ks ws : List (BitVec 32)) (k w : BitVec 32) (v : V8), ks.length = ws.length → rnds (ks ++ [k]) (ws ++ [w]) v = rnd (rnds ks ws v) k w
  | [], [], k, w, v, _ => rfl
  | a :: ks, b :: ws, k, w, v, h => by
    simp only [List.cons_append, rnds]
    exact rnds_snoc ks ws k w _ (by simpa using h)
  | [], _ :: _, _, _, _, h => by simp at h
  | _ :: _, [], _, _, _, h => by simp at h
def cells8 (v : V8) : List V := v.list.map w32
theorem zR64_rep : zR64_w320 = (List.replicate 64 (0#32)).map w32 := rfl
def kBytes : List UInt8 := [66, 138, 47, 152, 113, 55, 68, 145, 181, 192, 251, 207, 233, 181, 219, 165, 57, 86, 194, 91, 89, 241, 17, 241, 146, 63, 130, 164, 171, 28, 94, 213, 216, 7, 170, 152, 18, 131, 91, 1, 36, 49, 133, 190, 85, 12, 125, 195, 114, 190, 93, 116, 128, 222, 177, 254, 155, 220, 6, 167, 193, 155, 241, 116, 228, 155, 105, 193, 239, 190, 71, 134, 15, 193, 157, 198, 36, 12, 161, 204, 45, 233, 44, 111, 74, 116, 132, 170, 92, 176, 169, 220, 118, 249, 136, 218, 152, 62, 81, 82, 168, 49, 198, 109, 176, 3, 39, 200, 191, 89, 127, 199, 198, 224, 11, 243, 213, 167, 145, 71, 6, 202, 99, 81, 20, 41, 41, 103, 39, 183, 10, 133, 46, 27, 33, 56, 77, 44, 109, 252, 83, 56, 13, 19, 101, 10, 115, 84, 118, 106, 10, 187, 129, 194, 201, 46, 146, 114, 44, 133, 162, 191, 232, 161, 168, 26, 102, 75, 194, 75, 139, 112, 199, 108, 81, 163, 209, 146, 232, 25, 214, 153, 6, 36, 244, 14, 53, 133, 16, 106, 160, 112, 25, 164, 193, 22, 30, 55, 108, 8, 39, 72, 119, 76, 52, 176, 188, 181, 57, 28, 12, 179, 78, 216, 170, 74, 91, 156, 202, 79, 104, 46, 111, 243, 116, 143, 130, 238, 120, 165, 99, 111, 132, 200, 120, 20, 140, 199, 2, 8, 144, 190, 255, 250, 164, 80, 108, 235, 190, 249, 163, 247, 198, 113, 120, 242]
theorem roundsB : ∀ i : Fin 64, be4 (kBytes.getD (4 * i.val) 0) (kBytes.getD (4 * i.val + 1) 0) (kBytes.getD (4 * i.val + 2) 0) (kBytes.getD (4 * i.val + 3) 0) = shaK.getD i.val 0 := by decide +kernel
theorem rounds_at (k : IntKind) {s : ByteArray} (hs : strB s = kBytes) {i : Nat} (hi : i < 64) (h : 4 * i + 4 ≤ (strB s).length) : be4 (strB s)[4 * i] (strB s)[4 * i + 1] (strB s)[4 * i + 2] (strB s)[4 * i + 3] = shaK[i]'hi := by
  have := roundsB ⟨i, hi⟩
  simp only [← hs, List.getD_eq_getElem?_getD] at this
  rw [List.getElem?_eq_getElem (by omega), List.getElem?_eq_getElem (by omega), List.getElem?_eq_getElem (by omega), List.getElem?_eq_getElem (by omega), List.getElem?_eq_getElem (show i < shaK.length from hi)] at this
  exact this
def addL (a b : List (BitVec 32)) : Nat → List (BitVec 32)
  | 0 => a
  | k + 1 => (addL a b k).set k (a.getD k 0 + b.getD k 0)
theorem addL_len (a b : List (BitVec 32)) : ∀ k, (addL a b k).length = a.length
  | 0 => rfl
  | k + 1 => by simp [addL, addL_len a b k]
theorem addL_get (a b : List (BitVec 32)) : ∀ (k j : Nat) (hj : j < a.length), k ≤ j → (addL a b k)[j]'(by rw [addL_len]; exact hj) = a[j]
  | 0, j, hj, _ => rfl
  | k + 1, j, hj, h => by
    simp only [addL]
    rw [List.getElem_set_ne (by omega)]
    exact addL_get a b k j hj (by omega)
set_option maxHeartbeats 2000000 in
theorem spec101 (ok : OkHash P F) (st : St) (h : V8) (s : ByteArray) (hs : (strB s).length = 64) : ACalls P (F 101) [.agg (cells8 h), .str s] st fun v st' => v = .agg (cells8 (blockM h (strB s))) := by
  refine shows_call ok.mixed ok.h101 (by simp [k101]) ?_
  simp only [k101]
  simp
  intro hid hhid
  have S := (Sep.new (L := []) (st := st) trivial hhid (.cells (cells8 h)))
  generalize st.upd hid _ = st1 at S ⊢
  intro rid hrid
  have S := S.new hrid (.cells [w32 0#32, w32 0#32, w32 0#32, w32 0#32, w32 0#32, w32 0#32, w32 0#32, w32 0#32])
  generalize st1.upd rid _ = st2 at S ⊢
  simp
  intro wid hwid
  have S := S.new hwid (.cells zR64_w320)
  generalize st2.upd wid _ = st3 at S ⊢
  rw [zR64_rep] at S
  simp
  obtain ⟨W, hW⟩ : ∃ W, W = words (strB s) := ⟨_, rfl⟩
  have hWl : W.length = 16 := by rw [hW, words_len, hs]
  refine vc_loopJ (fun k env' st' => ∃ i, i ≤ 16 ∧ k = 16 - i ∧ env' 21 = .int .i64 (i : Nat) ∧ Sep [pt wid (.cells ((W.take i ++ List.replicate (64 - (W.take i).length) (0#32)).map w32)), pt rid (.cells [w32 0#32, w32 0#32, w32 0#32, w32 0#32, w32 0#32, w32 0#32, w32 0#32, w32 0#32]), pt hid (.cells (cells8 h))] st') 16
    ⟨0, by omega, by omega, rfl, S⟩ ?_
  clear S
  rintro J hJ k env' st4 hsame ⟨i, hi, rfl, h21, S⟩
  have g1 : env' 1 = .str s := hsame.get 1 rfl
  have g2 : env' 2 = .ptr (some (hid, 0)) := hsame.get 2 rfl
  have g4 : env' 4 = .ptr (some (rid, 0)) := hsame.get 4 rfl
  have g5 : env' 5 = .ptr (some (wid, 0)) := hsame.get 5 rfl
  clear hsame
  have w2 : IntKind.i64.wrap ((i : Int) + 1) = (i : Int) + 1 := wrap64 (by omega) (by omega)
  have w4 : IntKind.i64.wrap (4 * (i : Int)) = 4 * (i : Int) := wrap64 (by omega) (by omega)
  by_cases hlt : i < 16
  · have hlt' : (i : Int) < 16 := by omega
    have hi64 : (i : Int) < 64 := by omega
    have htl : (W.take i).length = i := by simp; omega
    simp [g1, g2, g4, g5, h21, hlt', w4]
    have hsp : ACalls P (F 100) [.str s, .int .i64 (4 * (i : Int))] st4 _ := spec100 ok st4 s (i := 4 * i) (by omega) (by omega)
    refine hsp.mono ?_
    rintro v st5 ⟨rfl, rfl⟩
    have hwi : W[i] = be4 (strB s)[4 * i] (strB s)[4 * i + 1] (strB s)[4 * i + 2] (strB s)[4 * i + 3] := by
      have := words_get (strB s) i (by omega)
      rw [← this]
      congr 1
    rw [← hwi]
    obtain ⟨xs, hxs⟩ : ∃ xs, xs = W.take i ++ List.replicate (64 - (W.take i).length) (0#32) := ⟨_, rfl⟩
    have hxl : i < xs.length := by rw [hxs, htl]; simp; omega
    have hnx : xs.set i W[i] = W.take (i + 1) ++ List.replicate (64 - (W.take (i + 1)).length) (0#32) := by
      have hse := set_fill (W.take i) 64 0#32 W[i] (by omega)
      rw [hxs]
      rw [htl] at hse ⊢
      rw [hse, List.take_succ_eq_append_getElem (by omega), List.length_append, htl]
      rfl
    rw [← hxs] at S
    have hst := arr_store (f := w32) S.get hxl (x := W[i]) (v := w32 W[i]) rfl
    simp [-List.map_set, g5, idxArrV, hi64, hst, h21, w2]
    refine Round.mk (16 - (i + 1)) _ (by omega) (sub_self _) (hJ _ _ _ ⟨i + 1, by omega, rfl, by simp, ?_⟩)
    rw [← hnx]
    exact S.set _
  · have : i = 16 := by omega
    subst this
    rw [List.take_of_length_le (by omega)] at S
    simp [g1, g2, g4, g5, h21]
    clear hJ J
    refine vc_loopJ (fun k env' st' => ∃ i, i ≤ 48 ∧ k = 48 - i ∧ env' 7 = .int .i64 ((i : Int) + 16) ∧ Sep [pt wid (.cells ((sched W i ++ List.replicate (64 - (sched W i).length) (0#32)).map w32)), pt rid (.cells [w32 0#32, w32 0#32, w32 0#32, w32 0#32, w32 0#32, w32 0#32, w32 0#32, w32 0#32]), pt hid (.cells (cells8 h))] st') 48
      ⟨0, by omega, by omega, rfl, S⟩ ?_
    clear S
    rintro J hJ k env' st5 hsame ⟨i, hi, rfl, h7, S⟩
    have g1 : env' 1 = .str s := (hsame.get 1 rfl).trans g1
    have g2 : env' 2 = .ptr (some (hid, 0)) := (hsame.get 2 rfl).trans g2
    have g4 : env' 4 = .ptr (some (rid, 0)) := (hsame.get 4 rfl).trans g4
    have g5 : env' 5 = .ptr (some (wid, 0)) := (hsame.get 5 rfl).trans g5
    clear hsame
    have hsl := sched_len W i
    rw [hWl] at hsl
    by_cases hlt : i < 48
    · obtain ⟨xs, hxs⟩ : ∃ xs, xs = sched W i ++ List.replicate (64 - (sched W i).length) (0#32) := ⟨_, rfl⟩
      rw [← hxs] at S
      have hxl : xs.length = 64 := by rw [hxs]; simp; omega
      have hget : ∀ j (hj : j < 16 + i), xs[j] = (sched W i)[j] := fun j hj => by
        simp only [hxs]
        rw [List.getElem_append_left]
      have hD : ∀ j (hj : j < 16 + i), (sched W i).getD j 0 = xs[j] := fun j hj => by
        rw [hget j hj, List.getD_eq_getElem?_getD, List.getElem?_eq_getElem (by omega)]
        rfl
      have hnw : nextW (sched W i) = xs[i] + sg0 xs[i + 1] + xs[i + 9] + sg1 xs[i + 14] := by
        have e1 := hD i (by omega)
        have e2 := hD (i + 1) (by omega)
        have e3 := hD (i + 9) (by omega)
        have e4 := hD (i + 14) (by omega)
        rw [nextW, hsl, show 16 + i - 16 = i by omega, show 16 + i - 15 = i + 1 by omega, show 16 + i - 7 = i + 9 by omega, show 16 + i - 2 = i + 14 by omega]
        rw [e1, e2, e3, e4]
      have hnx : xs.set (i + 16) (nextW (sched W i)) = sched W (i + 1) ++ List.replicate (64 - (sched W (i + 1)).length) (0#32) := by
        have hse := set_fill (sched W i) 64 0#32 (nextW (sched W i)) (by omega)
        rw [hsl] at hse
        rw [hxs, hsl, show i + 16 = 16 + i by omega, hse, sched, List.length_append, hsl]
        rfl
      have r0 := arr_read (f := w32) S.get (i := i) (by omega)
      have r1 := arr_read (f := w32) S.get (i := i + 1) (by omega)
      have r9 := arr_read (f := w32) S.get (i := i + 9) (by omega)
      have r14 := arr_read (f := w32) S.get (i := i + 14) (by omega)
      have hst := arr_store (f := w32) S.get (i := i + 16) (by omega) (x := nextW (sched W i)) (v := w32 (nextW (sched W i))) rfl
      have b1 : IntKind.i64.wrap ((i : Int) + 16 - 15) = ((i + 1 : Nat) : Int) := by rw [wrap64 (by omega) (by omega)]; omega
      have b2 : IntKind.i64.wrap ((i : Int) + 16 - 2) = ((i + 14 : Nat) : Int) := by rw [wrap64 (by omega) (by omega)]; omega
      have b3 : IntKind.i64.wrap ((i : Int) + 16 - 16) = ((i : Nat) : Int) := by rw [wrap64 (by omega) (by omega)]; omega
      have b3' : IntKind.i64.wrap (i : Int) = (i : Int) := wrap64 (by omega) (by omega)
      have b4 : IntKind.i64.wrap ((i : Int) + 16 - 7) = ((i + 9 : Nat) : Int) := by rw [wrap64 (by omega) (by omega)]; omega
      have b5 : IntKind.i64.wrap ((i : Int) + 16 + 1) = (i : Int) + 17 := by rw [wrap64 (by omega) (by omega)]; omega
      have a1 := idxArr_ptr 64 wid (z := (i : Int) + 1) (j := i + 1) (by omega) (by omega)
      have a2 := idxArr_ptr 64 wid (z := (i : Int) + 14) (j := i + 14) (by omega) (by omega)
      have a3 := idxArr_ptr 64 wid (z := (i : Int)) (j := i) (by omega) (by omega)
      have a4 := idxArr_ptr 64 wid (z := (i : Int) + 9) (j := i + 9) (by omega) (by omega)
      have a5 := idxArr_ptr 64 wid (z := (i : Int) + 16) (j := i + 16) (by omega) (by omega)
      have hlt' : (i : Int) + 16 < 64 := by omega
      simp [g1, g2, g4, g5, h7, hlt', b1, b2, a1, a2, r1, r14]
      refine (spec102 ok _ xs[i + 1] (n := 7) (by omega) (by omega) rfl).mono ?_
      rintro v st6 ⟨rfl, rfl⟩
      simp
      refine (spec102 ok _ xs[i + 1] (n := 18) (by omega) (by omega) rfl).mono ?_
      rintro v st6 ⟨rfl, rfl⟩
      simp
      refine (spec102 ok _ xs[i + 14] (n := 17) (by omega) (by omega) rfl).mono ?_
      rintro v st6 ⟨rfl, rfl⟩
      simp
      refine (spec102 ok _ xs[i + 14] (n := 19) (by omega) (by omega) rfl).mono ?_
      rintro v st6 ⟨rfl, rfl⟩
      have e0 : ror xs[i + 1] 7 ^^^ ror xs[i + 1] 18 ^^^ xs[i + 1] >>> 3 = sg0 xs[i + 1] := rfl
      have e1 : ror xs[i + 14] 17 ^^^ ror xs[i + 14] 19 ^^^ xs[i + 14] >>> 10 = sg1 xs[i + 14] := rfl
      simp [-List.map_set, g5, h7, b3, b3', b4, b5, a3, a4, a5, r0, r9, e0, e1, ← hnw, hst]
      refine Round.mk (48 - (i + 1)) _ (show 48 - (i + 1) < 48 - i by omega) (sub_self _) (hJ _ _ _ ⟨i + 1, by omega, rfl, by simp; omega, ?_⟩)
      rw [← hnx]
      exact S.set _
    · have : i = 48 := by omega
      subst this
      obtain ⟨X, hX⟩ : ∃ X, X = sched W 48 := ⟨_, rfl⟩
      have hXl : X.length = 64 := by rw [hX, hsl]
      rw [← hX, hXl] at S
      simp only [Nat.sub_self, List.replicate_zero, List.append_nil] at S
      have oh := S.mem (i := hid) (o := .cells (cells8 h)) (by simp)
      have hcc : cells8 h = [w32 h.a, w32 h.b, w32 h.c, w32 h.d, w32 h.e, w32 h.f, w32 h.g, w32 h.h] := rfl
      have h64 : (48 : Int) + 16 = 64 := rfl
      simp [g1, g2, g4, g5, h7, St.seg, oh, hcc, segOf]
      intro vid hvid
      have S := S.new hvid (.cells (cells8 h))
      simp [storeS, spliceV]
      rw [hcc] at S
      generalize st5.upd vid _ = st6 at S ⊢
      rw [← hcc] at S
      clear hJ J
      refine vc_loopJ (fun k env' st' => ∃ i, i ≤ 64 ∧ k = 64 - i ∧ env' 75 = .int .i64 (i : Nat) ∧ Sep [pt vid (.cells (cells8 (rnds (shaK.take i) (X.take i) h))), pt wid (.cells (X.map w32)), pt rid (.cells [w32 0#32, w32 0#32, w32 0#32, w32 0#32, w32 0#32, w32 0#32, w32 0#32, w32 0#32]), pt hid (.cells (cells8 h))] st') 64
        ⟨0, by omega, by omega, rfl, S⟩ ?_
      clear S
      rintro J hJ k env' st7 hsame ⟨i, hi, rfl, h75, S⟩
      have g2 : env' 2 = .ptr (some (hid, 0)) := (hsame.get 2 rfl).trans g2
      have g4 : env' 4 = .ptr (some (rid, 0)) := (hsame.get 4 rfl).trans g4
      have g5 : env' 5 = .ptr (some (wid, 0)) := (hsame.get 5 rfl).trans g5
      have g12 : env' 12 = .ptr (some (vid, 0)) := hsame.get 12 rfl
      clear hsame
      have w2 : IntKind.i64.wrap ((i : Int) + 1) = (i : Int) + 1 := wrap64 (by omega) (by omega)
      have w4 : IntKind.i64.wrap (4 * (i : Int)) = 4 * (i : Int) := wrap64 (by omega) (by omega)
      obtain ⟨v, hv⟩ : ∃ v, v = rnds (shaK.take i) (X.take i) h := ⟨_, rfl⟩
      rw [← hv] at S
      have ov : st7 vid = some (.cells [w32 v.a, w32 v.b, w32 v.c, w32 v.d, w32 v.e, w32 v.f, w32 v.g, w32 v.h]) := S.get
      by_cases hlt : i < 64
      · have hlt' : (i : Int) < 64 := by omega
        simp [g2, g4, g5, g12, h75, hlt', idxArrV, St.seg, segOf, ov]
        refine (spec102 ok _ v.e (n := 6) (by omega) (by omega) rfl).mono ?_
        rintro y st8 ⟨rfl, rfl⟩
        simp
        refine (spec102 ok _ v.e (n := 11) (by omega) (by omega) rfl).mono ?_
        rintro y st8 ⟨rfl, rfl⟩
        simp
        refine (spec102 ok _ v.e (n := 25) (by omega) (by omega) rfl).mono ?_
        rintro y st8 ⟨rfl, rfl⟩
        have e1 : ror v.e 6 ^^^ ror v.e 11 ^^^ ror v.e 25 = bg1 v.e := rfl
        have rw0 := arr_read (f := w32) S.swap.get (i := i) (by omega)
        simp only [St.seg] at rw0
        simp [g2, g4, g5, g12, h75, hlt', idxArrV, St.seg, segOf, ov, w4, e1]
        have hk : strB ⟨⟨kBytes⟩⟩ = kBytes := rfl
        have hkl : kBytes.length = 256 := rfl
        have hw : ACalls P (F 100) [.str ⟨⟨kBytes⟩⟩, .int .i64 (4 * (i : Int))] st8 fun v' st' => v' = w32 (shaK[i]'hlt) ∧ st' = st8 := by
          have := spec100 ok st8 ⟨⟨kBytes⟩⟩ (i := 4 * i) (by rw [hk, hkl]; omega) (by rw [hk, hkl]; omega)
          rwa [rounds_at .i64 hk hlt] at this
        refine still_call _ _ _ _ (v := w32 (shaK[i]'hlt)) (by simp; exact hw) ?_
        simp [idxArrV, hlt', rw0, St.seg]
        refine (spec102 ok _ v.a (n := 2) (by omega) (by omega) rfl).mono ?_
        rintro y st9 ⟨rfl, rfl⟩
        simp
        refine (spec102 ok _ v.a (n := 13) (by omega) (by omega) rfl).mono ?_
        rintro y st9 ⟨rfl, rfl⟩
        simp
        refine (spec102 ok _ v.a (n := 22) (by omega) (by omega) rfl).mono ?_
        rintro y st9 ⟨rfl, rfl⟩
        have e0 : ror v.a 2 ^^^ ror v.a 13 ^^^ ror v.a 22 = bg0 v.a := rfl
        obtain ⟨t, ht⟩ : ∃ t, t = v.h + bg1 v.e + (v.e &&& v.f ^^^ ~~~v.e &&& v.g) + (shaK[i]'hlt) + X[i] := ⟨_, rfl⟩
        have hnx : rnds (shaK.take (i + 1)) (X.take (i + 1)) h = ⟨t + bg0 v.a + (v.a &&& v.b ^^^ v.a &&& v.c ^^^ v.b &&& v.c), v.a, v.b, v.c, v.d + t, v.e, v.f, v.g⟩ := by
          have hkl : shaK.length = 64 := rfl
          rw [List.take_succ_eq_append_getElem (show i < shaK.length from hlt), List.take_succ_eq_append_getElem (by omega), rnds_snoc _ _ _ _ _ (by simp; omega), ← hv, ht]
          rfl
        simp [g2, g4, g5, g12, idxArrV, St.seg, segOf, ov, e0, fillV, spliceV, ← ht, h75, w2, storeS]
        refine Round.mk (64 - (i + 1)) _ (show 64 - (i + 1) < 64 - i by omega) (sub_self _) (hJ _ _ _ ⟨i + 1, by omega, rfl, by simp, ?_⟩)
        rw [hnx]
        exact S.set _
      · have : i = 64 := by omega
        subst this
        have hkl : shaK.length = 64 := rfl
        rw [List.take_of_length_le (by omega), List.take_of_length_le (by omega)] at hv
        have hfin : blockM h (strB s) = addV h v := by rw [blockM, ← hW, ← hX, ← hv]
        rw [hfin]
        simp [g2, g4, g12, h75]
        clear hJ J ov
        have S : Sep [pt hid (.cells (cells8 h)), pt vid (.cells (cells8 v)), pt rid (.cells [w32 0#32, w32 0#32, w32 0#32, w32 0#32, w32 0#32, w32 0#32, w32 0#32, w32 0#32])] st7 := Sep.tail (fun r hr => Sep.tail (fun r hr => hr.drop) hr) (Sep.pull 3 _ S)
        refine vc_loopJ (fun k env' st' => ∃ i, i ≤ 8 ∧ k = 8 - i ∧ env' 159 = .int .i64 (i : Nat) ∧ Sep [pt hid (.cells ((addL h.list v.list i).map w32)), pt vid (.cells (cells8 v)), pt rid (.cells [w32 0#32, w32 0#32, w32 0#32, w32 0#32, w32 0#32, w32 0#32, w32 0#32, w32 0#32])] st') 8
          ⟨0, by omega, by omega, rfl, S⟩ ?_
        clear S
        rintro J hJ k env' st7 hsame ⟨i, hi, rfl, h159, S⟩
        have g2 : env' 2 = .ptr (some (hid, 0)) := (hsame.get 2 rfl).trans g2
        have g4 : env' 4 = .ptr (some (rid, 0)) := (hsame.get 4 rfl).trans g4
        have g12 : env' 12 = .ptr (some (vid, 0)) := (hsame.get 12 rfl).trans g12
        clear hsame
        have w2 : IntKind.i64.wrap ((i : Int) + 1) = (i : Int) + 1 := wrap64 (by omega) (by omega)
        have l1 : h.list.length = 8 := rfl
        have l2 : v.list.length = 8 := rfl
        have l3 := addL_len h.list v.list i
        by_cases hlt : i < 8
        · have hlt' : (i : Int) < 8 := by omega
          have d1 : (addL h.list v.list i)[i]'(by omega) = h.list.getD i 0 := by
            rw [addL_get _ _ _ _ (by omega) (Nat.le_refl _), List.getD_eq_getElem?_getD, List.getElem?_eq_getElem (by omega)]
            rfl
          have d2 : v.list[i]'(by omega) = v.list.getD i 0 := by
            rw [List.getD_eq_getElem?_getD, List.getElem?_eq_getElem (by omega)]
            rfl
          obtain ⟨A, hA⟩ : ∃ A, A = h.list.getD i 0 := ⟨_, rfl⟩
          obtain ⟨B, hB⟩ : ∃ B, B = v.list.getD i 0 := ⟨_, rfl⟩
          have r1 : st7.seg hid i 1 = some [w32 A] := (arr_read (f := w32) S.get (i := i) (by omega)).trans (congrArg (fun z => some [w32 z]) (d1.trans hA.symm))
          have r2 : st7.seg vid i 1 = some [w32 B] := (arr_read (f := w32) (xs := v.list) S.swap.get (i := i) (by omega)).trans (congrArg (fun z => some [w32 z]) (d2.trans hB.symm))
          have a1 := idxArr_ptr 8 hid (z := (i : Int)) (j := i) rfl hlt
          have a2 := idxArr_ptr 8 vid (z := (i : Int)) (j := i) rfl hlt
          have hst := arr_store (f := w32) S.get (i := i) (by omega) (x := A + B) (v := w32 (A + B)) rfl
          simp [-List.map_set, g2, g4, g12, h159, hlt', a1, a2, r1, r2, hst, w2]
          refine Round.mk (8 - (i + 1)) _ (show 8 - (i + 1) < 8 - i by omega) (sub_self _) (hJ _ _ _ ⟨i + 1, by omega, rfl, by simp, ?_⟩)
          have e : addL h.list v.list (i + 1) = (addL h.list v.list i).set i (A + B) := by
            rw [hA, hB, addL]
          rw [e]
          exact S.set _
        · have : i = 8 := by omega
          subst this
          have oh := S.get
          have or := S.mem (i := rid) (o := .cells [w32 0#32, w32 0#32, w32 0#32, w32 0#32, w32 0#32, w32 0#32, w32 0#32, w32 0#32]) (by simp)
          have e : (addL h.list v.list 8).map w32 = cells8 (addV h v) := rfl
          rw [e] at oh
          have hc : cells8 (addV h v) = [w32 (addV h v).a, w32 (addV h v).b, w32 (addV h v).c, w32 (addV h v).d, w32 (addV h v).e, w32 (addV h v).f, w32 (addV h v).g, w32 (addV h v).h] := rfl
          rw [hc] at oh ⊢
          simp [g2, g4, g12, h159, St.seg, oh, or, segOf, storeS, spliceV]
          exact ⟨_, sub_self _⟩
end
end Go.Ab
set_option linter.unusedSimpArgs false
set_option linter.unusedVariables false
set_option maxRecDepth 10000
namespace Go.Ab
open Go Go.RowKit
section
variable {P : Program} {F : Fn}
theorem limb_bit (x : U) (j i : Nat) (hi : i < 64) : (limb x j).getLsbD i = x.getLsbD (64 * j + i) := by
  have e : (18446744073709551616 : Nat) ^ j = 2 ^ (64 * j) := by
    rw [Nat.pow_mul]
  rw [limb, e, BitVec.getLsbD_ofNat, decide_eq_true hi, Bool.true_and, Nat.testBit_div_two_pow, BitVec.getLsbD, Nat.add_comm]
theorem limb_or (x y : U) (j : Nat) : limb (x ||| y) j = limb x j ||| limb y j := by
  apply BitVec.eq_of_getLsbD_eq
  intro i hi
  rw [BitVec.getLsbD_or, limb_bit _ _ _ hi, limb_bit _ _ _ hi, limb_bit _ _ _ hi, BitVec.getLsbD_or]
theorem splice_or (x y : U) {j : Nat} (hj : j < 4) (hy : ∀ k, k < 4 → k ≠ j → limb y k = 0#64) : spliceV (eU x) j [w64 (limb x j ||| limb y j)] = eU (x ||| y) := by
  have e : ∀ k, k < 4 → limb (x ||| y) k = if k = j then limb x j ||| limb y j else limb x k := fun k hk => by
    rw [limb_or]
    split
    · rename_i h; rw [h]
    · rename_i h; rw [hy k hk h, BitVec.or_zero]
  simp only [eU, e 0 (by omega), e 1 (by omega), e 2 (by omega), e 3 (by omega)]
  have : j = 0 ∨ j = 1 ∨ j = 2 ∨ j = 3 := by omega
  rcases this with rfl | rfl | rfl | rfl <;> rfl
theorem seg_limb (x : U) {j : Nat} (hj : j < 4) : segOf (eU x) j 1 = some [w64 (limb x j)] := by
  have : j = 0 ∨ j = 1 ∨ j = 2 ∨ j = 3 := by omega
  rcases this with rfl | rfl | rfl | rfl <;> rfl
def putU (v : W) (i : Nat) : U := v.setWidth 256 <<< i
theorem limb_put (v : W) (q r k : Nat) (hr : r < 64) (hk : k < 4) (hv : v.toNat < 2 ^ (64 - r)) : limb (putU v (64 * q + r)) k = if k = q then v <<< r else 0#64 := by
  have zero : ∀ t, 64 - r ≤ t → v.getLsbD t = false := fun t ht => by
    rw [BitVec.getLsbD]
    exact Nat.testBit_lt_two_pow (Nat.lt_of_lt_of_le hv (Nat.pow_le_pow_right (by omega) ht))
  apply BitVec.eq_of_getLsbD_eq
  intro t ht
  rw [limb_bit _ _ _ ht, putU, BitVec.getLsbD_shiftLeft, BitVec.getLsbD_setWidth]
  rw [decide_eq_true (show 64 * k + t < 256 by omega), Bool.true_and]
  split
  · rename_i h
    subst h
    rw [BitVec.getLsbD_shiftLeft, decide_eq_true ht, Bool.true_and]
    by_cases h2 : t < r
    · simp [h2]
    · rw [decide_eq_false (show ¬ 64 * k + t < 64 * k + r by omega), decide_eq_false h2, decide_eq_true (show 64 * k + t - (64 * k + r) < 256 by omega), show 64 * k + t - (64 * k + r) = t - r by omega]
      simp
  · rename_i h
    rcases Nat.lt_or_gt_of_ne h with h2 | h2
    · rw [decide_eq_true (show 64 * k + t < 64 * q + r by omega)]
      simp
    · rw [zero _ (show 64 - r ≤ 64 * k + t - (64 * q + r) by omega)]
      simp
theorem put_nat (v : W) (i : Nat) : (putU v i).toNat = v.toNat * 2 ^ i % 2 ^ 256 := by
  have := v.isLt
  rw [putU, BitVec.toNat_shiftLeft, Nat.shiftLeft_eq, BitVec.toNat_setWidth, Nat.mod_eq_of_lt (show v.toNat < 2 ^ 256 from Nat.lt_of_lt_of_le this (Nat.pow_le_pow_right (by omega) (by omega)))]
theorem eU_zero0 : [w64 0, w64 0, w64 0, w64 0] = eU 0#256 := eU_zero
theorem or_put {x : U} {v : W} {i : Nat} (hx : x.toNat < 2 ^ i) (hs : v.toNat * 2 ^ i < 2 ^ 256) : (x ||| putU v i).toNat = v.toNat * 2 ^ i + x.toNat := by
  rw [BitVec.toNat_or, put_nat, Nat.mod_eq_of_lt hs, Nat.or_comm]
  exact or_disj _ _ _ hx
theorem or_low {x : U} {i : Nat} (hx : x.toNat % 2 ^ (i + 1) = 0) (hi : i < 256) : (x ||| putU 1#64 i).toNat = x.toNat + 2 ^ i := by
  have h1 : 2 ^ i < 2 ^ 256 := Nat.pow_lt_pow_right (by omega) hi
  have e1 : (1#64 : W).toNat = 1 := rfl
  rw [BitVec.toNat_or, put_nat, e1, Nat.one_mul, Nat.mod_eq_of_lt h1]
  have e : x.toNat = x.toNat / 2 ^ (i + 1) * 2 ^ (i + 1) := by
    have := Nat.div_add_mod x.toNat (2 ^ (i + 1))
    rw [hx, Nat.add_zero, Nat.mul_comm] at this
    exact this.symm
  rw [e]
  exact or_disj _ _ _ (Nat.pow_lt_pow_right (by omega) (by omega))
def divU (x y : U) : U := BitVec.ofNat 256 (x.toNat / y.toNat)
def modU (x y : U) : U := BitVec.ofNat 256 (x.toNat % y.toNat)
theorem bitlen_ge {n : Nat} (h : 0 < n) : 2 ^ (bitlen n - 1) ≤ n := by
  have := bitlen_pos.2 h
  exact bitlen_lt.1 (by omega)
theorem div_start {x y : Nat} (hy : 0 < y) (h : bitlen y ≤ bitlen x) : x < y * 2 ^ (bitlen x - bitlen y + 1) := by
  have h1 := lt_bitlen x
  have h2 := bitlen_ge hy
  have h3 := bitlen_pos.2 hy
  calc x < 2 ^ bitlen x := h1
    _ = 2 ^ (bitlen y - 1) * 2 ^ (bitlen x - bitlen y + 1) := by rw [← Nat.pow_add]; congr 1; omega
    _ ≤ y * 2 ^ (bitlen x - bitlen y + 1) := Nat.mul_le_mul_right _ h2
theorem div_none {x y : Nat} (h : bitlen x < bitlen y) : x < y := by
  have h1 := lt_bitlen x
  have : 2 ^ bitlen x ≤ y := bitlen_lt.1 h
  omega
theorem div_fit {x y i : Nat} (hy : 0 < y) (hx : x < 2 ^ 256) (h : i + bitlen y ≤ bitlen x) : y * 2 ^ i < 2 ^ 256 := by
  have h1 := lt_bitlen y
  have h2 : bitlen x ≤ 256 := bitlen_le.2 hx
  calc y * 2 ^ i < 2 ^ bitlen y * 2 ^ i := Nat.mul_lt_mul_of_pos_right h1 (Nat.two_pow_pos i)
    _ = 2 ^ (bitlen y + i) := (Nat.pow_add _ _ _).symm
    _ ≤ 2 ^ 256 := Nat.pow_le_pow_right (by omega) (by omega)
set_option maxHeartbeats 2000000 in
theorem spec116 (ok : OkNum P F) (st : St) (x y : U) : ACalls P (F 116) [nU x, nU y] st fun v st' => v = (if y = 0#256 then .tup [nU 0#256, nU 0#256, .int .i64 1] else .tup [nU (divU x y), nU (modU x y), .int .i64 0]) ∧ st' = st := by
  refine shows_call ok.mixed ok.h116 (by simp [k116]) ?_
  simp only [k116, nU, eU_zero0]
  simp
  intro i2 h2
  have S := (Sep.start st).new h2 (.cells (eU x))
  generalize st.upd i2 _ = st1 at S ⊢
  intro i3 h3
  have S := S.new h3 (.cells (eU y))
  generalize st1.upd i3 _ = st2 at S ⊢
  simp
  intro i4 h4
  have S := S.new h4 (.cells (eU 0#256))
  generalize st2.upd i4 _ = st3 at S ⊢
  simp
  intro i5 h5
  have S := S.new h5 (.cells (eU 0#256))
  generalize st3.upd i5 _ = st4 at S ⊢
  have o3 := S.mem (i := i3) (o := .cells (eU y)) (by simp)
  have o4 := S.mem (i := i4) (o := .cells (eU 0#256)) (by simp)
  have o5 := S.mem (i := i5) (o := .cells (eU 0#256)) (by simp)
  have n45 : i5 ≠ i4 := S.ne
  have hsp : ∀ x y : U, spliceV (eU x) 0 (eU y) = eU y := fun _ _ => rfl
  simp [St.seg, o3, segU]
  refine (spec107 ok st4 y).mono ?_
  rintro v s ⟨rfl, rfl⟩
  by_cases hy0 : y = 0#256
  · have hz : fillV (eU 0#256) [] = some (eU 0#256) := rfl
    simp [hy0, hz, storeS, o4, o5, n45, n45.symm, hsp, eU_len, St.seg, segU]
    have S := (S.setAt (.cells (eU 0#256)) 1 rfl).setAt (.cells (eU 0#256)) 0 rfl
    exact S.was' (st0 := st) (by simp)
  · have ypos : 0 < y.toNat := by
      have : y.toNat ≠ 0 := fun e => hy0 (BitVec.eq_of_toNat_eq e)
      omega
    simp [hy0]
    intro i7 h7
    have S := S.new h7 (.cells (eU 0#256))
    generalize s.upd i7 _ = s2 at S ⊢
    have o2 := S.mem (i := i2) (o := .cells (eU x)) (by simp)
    have o3 := S.mem (i := i3) (o := .cells (eU y)) (by simp)
    simp [St.seg, o2, o3, segU]
    refine ⟨_, spec114 ok s2 x, ?_⟩
    simp [St.seg, o2, o3, segU]
    refine ⟨_, spec114 ok s2 y, ?_⟩
    have bx : bitlen x.toNat ≤ 256 := bitlen_le.2 x.isLt
    have hby := bitlen_pos.2 ypos
    have by' : bitlen y.toNat ≤ 256 := bitlen_le.2 y.isLt
    have w1 : IntKind.i64.wrap ((bitlen x.toNat : Int) - bitlen y.toNat) = (bitlen x.toNat : Int) - bitlen y.toNat := wrap64 (by omega) (by omega)
    simp [w1]
    refine vc_loopJ (fun k env' st' => ∃ a q : U, (∃ j : Int, env' 8 = .int .i64 j ∧ (j + 1 = (k : Int) ∨ j < 0 ∧ k = 0)) ∧ k ≤ 256 ∧ (k ≠ 0 → k + bitlen y.toNat ≤ bitlen x.toNat + 1) ∧ a.toNat < y.toNat * 2 ^ k ∧ q.toNat % 2 ^ k = 0 ∧ x.toNat = q.toNat * y.toNat + a.toNat ∧
        Sep [pt i7 (.cells (eU q)), pt i5 (.cells (eU 0#256)), pt i4 (.cells (eU 0#256)), pt i3 (.cells (eU y)), pt i2 (.cells (eU a)), Was st] st') (bitlen x.toNat + 1 - bitlen y.toNat) ?_ ?_
    · by_cases hb : bitlen y.toNat ≤ bitlen x.toNat
      · refine ⟨x, 0#256, ⟨_, rfl, by omega⟩, by omega, fun _ => by omega, ?_, by simp, by simp, S⟩
        have := div_start ypos hb
        rw [show bitlen x.toNat + 1 - bitlen y.toNat = bitlen x.toNat - bitlen y.toNat + 1 by omega]
        exact this
      · refine ⟨x, 0#256, ⟨_, rfl, by omega⟩, by omega, fun _ => by omega, ?_, by simp, by simp, S⟩
        rw [show bitlen x.toNat + 1 - bitlen y.toNat = 0 by omega, Nat.pow_zero, Nat.mul_one]
        exact div_none (by omega)
    rintro J hJ k env' st5 hsame ⟨a, q, ⟨j, h8, hj⟩, hk, hkl, ha, hq, hx, S⟩
    have g2 := hsame.get 2 rfl
    have g3 := hsame.get 3 rfl
    have g4 := hsame.get 4 rfl
    have g5 := hsame.get 5 rfl
    have g7 := hsame.get 7 rfl
    simp at g2 g3 g4 g5 g7
    clear hsame
    have o2 := S.mem (i := i2) (o := .cells (eU a)) (by simp)
    have o3 := S.mem (i := i3) (o := .cells (eU y)) (by simp)
    have o7 := S.mem (i := i7) (o := .cells (eU q)) (by simp)
    by_cases hk0 : k = 0
    · subst hk0
      have hjn : ¬ 0 ≤ j := by omega
      simp [h8, hjn]
      have n74 := S.neq (i := i7) (j := i4) 0 2 rfl rfl (by omega)
      have n75 := S.neq (i := i7) (j := i5) 0 1 rfl rfl (by omega)
      have n54 := S.neq (i := i5) (j := i4) 1 2 rfl rfl (by omega)
      have n42 := S.neq (i := i4) (j := i2) 2 4 rfl rfl (by omega)
      have n52 := S.neq (i := i5) (j := i2) 1 4 rfl rfl (by omega)
      have o4 := S.mem (i := i4) (o := .cells (eU 0#256)) (by simp)
      have o5 := S.mem (i := i5) (o := .cells (eU 0#256)) (by simp)
      rw [Nat.pow_zero, Nat.mul_one] at ha
      have eq1 : q = divU x y := by
        rw [divU, hx, Nat.add_comm, Nat.add_mul_div_right _ _ ypos, Nat.div_eq_of_lt ha, Nat.zero_add, BitVec.ofNat_toNat, BitVec.setWidth_eq]
      have eq2 : a = modU x y := by
        rw [modU, hx, Nat.add_comm, Nat.add_mul_mod_self_right, Nat.mod_eq_of_lt ha, BitVec.ofNat_toNat, BitVec.setWidth_eq]
      refine ⟨?_, ?_⟩
      · intro p hp
        simp only [List.mem_cons, List.not_mem_nil, or_false] at hp
        rcases hp with rfl | rfl | rfl | rfl
        · simpa [g7, g4, apartV] using n74
        · simpa [g7, g5, apartV] using n75
        · simpa [g2, g4, apartV] using n42.symm
        · simpa [g2, g5, apartV] using n52.symm
      · have T := (S.setAt (.cells (eU q)) 2 rfl).setAt (.cells (eU a)) 1 rfl
        simp [g7, g2, g4, g5, St.seg, o7, o2, o4, o5, segU, storeS, eU_len, hsp, n54, n54.symm, n74, n74.symm, n75, n75.symm, n42, n42.symm, n52, n52.symm, ← eq1, ← eq2]
        exact T.was' (by simp)
    · obtain ⟨i, rfl⟩ : ∃ i, k = i + 1 := ⟨k - 1, by omega⟩
      have hji : j = (i : Int) := by omega
      subst hji
      simp [h8, g2, g3, g4, g5, g7, St.seg, o3, segU]
      refine (spec112 ok st5 y i).mono ?_
      rintro v st5 ⟨rfl, rfl⟩
      simp
      intro i9 h9
      have n92 : i9 ≠ i2 := fun e => by rw [e, o2] at h9; cases h9
      have n93 : i9 ≠ i3 := fun e => by rw [e, o3] at h9; cases h9
      have n97 : i9 ≠ i7 := fun e => by rw [e, o7] at h9; cases h9
      have n72 := S.neq (i := i7) (j := i2) 0 4 rfl rfl (by omega)
      have hfit := div_fit ypos x.isLt (show i + bitlen y.toNat ≤ bitlen x.toNat by omega)
      have hsh : (shlU y i).toNat = y.toNat * 2 ^ i := by
        rw [shlU, if_neg (by omega), Int.toNat_natCast, BitVec.toNat_shiftLeft, Nat.shiftLeft_eq, Nat.mod_eq_of_lt hfit]
      have T := S.new h9 (.cells (eU (shlU y i)))
      have hst9 : storeS (st5.upd i9 (.cells (eU 0#256))) 4 (.ptr (some (i9, 0))) (nU (shlU y i)) = some (st5.upd i9 (.cells (eU (shlU y i)))) := by
        simp [storeS, nU, eU_len, hsp]
      simp [hst9, n92.symm, St.seg, segU, g2, o2]
      have hcmp : decide (cmpU (shlU y i) a ≤ 0) = decide (y.toNat * 2 ^ i ≤ a.toNat) := by
        congr 1
        rw [← hsh, eq_iff_iff]
        unfold cmpU
        constructor
        · intro h
          split at h
          · omega
          · split at h
            · rename_i e; rw [e]; exact Nat.le_refl _
            · omega
        · intro h
          split
          · omega
          · rename_i h1
            have : shlU y i = a := BitVec.eq_of_toNat_eq (by omega)
            rw [if_pos this]
            omega
      refine (spec106 ok (st5.upd i9 (.cells (eU (shlU y i)))) (shlU y i) a).mono ?_
      rintro v s ⟨rfl, rfl⟩
      simp [hcmp]
      by_cases hle : y.toNat * 2 ^ i ≤ a.toNat
      · simp [hle, g2, n92.symm, St.seg, segU, o2]
        refine (spec109 ok (st5.upd i9 (.cells (eU (shlU y i)))) a (shlU y i)).mono ?_
        rintro v s ⟨rfl, rfl⟩
        have hsub2 : ∀ z : U, storeS (st5.upd i9 (.cells (eU (shlU y i)))) 4 (.ptr (some (i2, 0))) (nU z) = some ((st5.upd i9 (.cells (eU (shlU y i)))).upd i2 (.cells (eU z))) := fun z => by
          simp [storeS, nU, eU_len, hsp, n92.symm, o2]
        obtain ⟨qq, r, hr, hi⟩ : ∃ qq r, r < 64 ∧ i = 64 * qq + r := ⟨i / 64, i % 64, Nat.mod_lt _ (by omega), by omega⟩
        have hqq : qq < 4 := by omega
        have e1 : Int.tdiv (i : Int) 64 = (qq : Int) := by rw [Int.tdiv_eq_ediv_of_nonneg (by omega)]; omega
        have e2 : Int.tmod (i : Int) 64 = (r : Int) := by rw [Int.tmod_eq_emod_of_nonneg (by omega)]; omega
        have wq : IntKind.i64.wrap (qq : Int) = qq := wrap64 (by omega) (by omega)
        have hR : (BitVec.ofNat 64 r).toNat = r := by rw [BitVec.toNat_ofNat]; exact Nat.mod_eq_of_lt (by omega)
        have hconv : convV .u64 (.int .i64 (r : Int)) = some (w64 (BitVec.ofNat 64 r)) := by rw [conv_i_64, BitVec.ofInt_natCast]
        have hidx := idxArr_ptr 4 i7 (z := (qq : Int)) (j := qq) rfl hqq
        have hone : (1#64 : W).toNat < 2 ^ (64 - r) := by
          show 1 < 2 ^ (64 - r)
          exact Nat.one_lt_two_pow (by omega)
        have hput : ∀ k, k < 4 → limb (putU 1#64 i) k = if k = qq then 1#64 <<< r else 0#64 := fun k hk => by
          rw [hi]; exact limb_put 1#64 qq r k hr hk hone
        have hspl : spliceV (eU q) qq [w64 (limb q qq ||| 1#64 <<< r)] = eU (q ||| putU 1#64 i) := by
          have := splice_or q (putU 1#64 i) hqq (fun k hk hne => by rw [hput k hk, if_neg hne])
          rwa [hput qq hqq, if_pos rfl] at this
        have wi : IntKind.i64.wrap ((i : Int) - 1) = (i : Int) - 1 := wrap64 (by omega) (by omega)
        have hql : qq + 1 ≤ 4 := hqq
        have hst7 : ∀ s7 : St, s7 i7 = some (.cells (eU q)) → storeS s7 1 (.ptr (some (i7, qq))) (w64 (limb q qq ||| 1#64 <<< r)) = some (s7.upd i7 (.cells (eU (q ||| putU 1#64 i)))) := fun s7 h => by
          simp [storeS, h, eU_len, hql, hspl]
        simp [hsub2, h8, e1, e2, wq, g2, g7, hidx, hst7, St.seg, n97.symm, n72, o7, seg_limb q hqq, hconv, -conv_i_64, hR, wi]
        have hk2 := or_low hq (show i < 256 by omega)
        have hp2 : y.toNat * 2 ^ (i + 1) = 2 * (y.toNat * 2 ^ i) := by rw [Nat.pow_succ, ← Nat.mul_assoc, Nat.mul_comm]
        have hYq : (q.toNat + 2 ^ i) * y.toNat = q.toNat * y.toNat + y.toNat * 2 ^ i := by rw [Nat.add_mul, Nat.mul_comm (2 ^ i)]
        have hsubn : (a - shlU y i).toNat = a.toNat - y.toNat * 2 ^ i := by
          rw [BitVec.toNat_sub_of_le (by rw [BitVec.le_def, hsh]; exact hle), hsh]
        have T2 := ((T.setAt (.cells (eU (a - shlU y i))) 5 rfl).setAt (.cells (eU (q ||| putU 1#64 i))) 1 rfl).drop
        refine Round.mk i _ (Nat.lt_succ_self i) (sub_self _) (hJ _ _ _ ⟨a - shlU y i, q ||| putU 1#64 i, ⟨(i : Int) - 1, by simp, by omega⟩, by omega, fun h => by omega, ?_, ?_, ?_, T2⟩)
        · rw [hsubn]
          rw [hp2] at ha
          generalize y.toNat * 2 ^ i = Y at *
          omega
        · rw [hk2, Nat.add_mod_right]
          exact Nat.mod_eq_zero_of_dvd (Nat.dvd_trans (Nat.pow_dvd_pow 2 (Nat.le_succ i)) (Nat.dvd_of_mod_eq_zero hq))
        · rw [hk2, hsubn, hYq, hx]
          generalize y.toNat * 2 ^ i = Y at *
          omega
      · have wi : IntKind.i64.wrap ((i : Int) - 1) = (i : Int) - 1 := wrap64 (by omega) (by omega)
        simp [hle, h8, wi]
        refine Round.mk i _ (Nat.lt_succ_self i) (sub_self _) (hJ _ _ _ ⟨a, q, ⟨(i : Int) - 1, by simp, by omega⟩, by omega, fun h => by omega, by omega, ?_, hx, T.drop⟩)
        exact Nat.mod_eq_zero_of_dvd (Nat.dvd_trans (Nat.pow_dvd_pow 2 (Nat.le_succ i)) (Nat.dvd_of_mod_eq_zero hq))
theorem leN_append : ∀ a b : List UInt8, leN (a ++ b) = leN a + 256 ^ a.length * leN b
  | [], b => by simp [leN]
  | x :: a, b => by
    have ih := leN_append a b
    simp only [List.cons_append, leN, ih, List.length_cons, Nat.pow_succ]
    rw [Nat.mul_add, ← Nat.mul_assoc, Nat.mul_comm 256 (256 ^ a.length)]
    omega
theorem idx_id (x : Id) (k : IntKind) {i : Nat} (hi : i < 32) : idxV 32 false 1 (.agg (eId x)) (.int k (i : Int)) = some (w8 (x.toList[i]'(by simpa using hi))) := by
  simp only [idxV]
  rw [if_pos (by omega), Int.toNat_natCast, Nat.mul_one, segOf, if_pos (by rw [eId_len]; omega), List.drop_eq_getElem_cons (by rw [eId_len]; exact hi)]
  simp [packV, eId, w8]
theorem segId (x : Id) : segOf (eId x) 0 32 = some (eId x) := by
  rw [segOf, if_pos (by rw [eId_len]; omega), List.drop_zero, List.take_of_length_le (by rw [eId_len]; omega)]
set_option maxHeartbeats 1000000 in
theorem spec117 (ok : OkNum P F) (st : St) (x : Id) : ACalls P (F 117) [.agg (eId x)] st fun v st' => v = nU (BitVec.ofNat 256 (idN x)) ∧ st' = st := by
  refine shows_call ok.mixed ok.h117 (by simp [k117]) ?_
  simp only [k117, nU, eU_zero0]
  simp
  intro i1 h1
  have S := (Sep.start st).new h1 (.cells (eId x))
  generalize st.upd i1 _ = st1 at S ⊢
  simp
  intro i2 h2
  have S := S.new h2 (.cells (eU 0#256))
  generalize st1.upd i2 _ = st2 at S ⊢
  simp
  intro i3 h3
  have S := S.new h3 (.cells (eU 0#256))
  generalize st2.upd i3 _ = st3 at S ⊢
  have o1 := S.mem (i := i1) (o := .cells (eId x)) (by simp)
  simp [St.seg, o1, segId]
  refine vc_loopJ (fun k env' st' => ∃ i, i ≤ 32 ∧ k = 32 - i ∧ env' 7 = .int .i64 (i : Nat) ∧ Sep [pt i3 (.cells (eU (BitVec.ofNat 256 (leN (x.toList.take i))))), pt i2 (.cells (eU 0#256)), pt i1 (.cells (eId x)), Was st] st') 32
    ⟨0, by omega, by omega, rfl, S⟩ ?_
  clear S
  rintro J hJ k env' st4 hsame ⟨i, hi, rfl, h7, S⟩
  have g2 := hsame.get 2 rfl
  have g3 := hsame.get 3 rfl
  have g6 := hsame.get 6 rfl
  simp at g2 g3 g6
  clear hsame
  have hsp : ∀ x y : U, spliceV (eU x) 0 (eU y) = eU y := fun _ _ => rfl
  have hxl : x.toList.length = 32 := by simp
  have n32 := S.neq (i := i3) (j := i2) 0 1 rfl rfl (by omega)
  by_cases hlt : i < 32
  · have hlt' : (i : Int) < 32 := by omega
    have hix := idx_id x .i64 hlt
    obtain ⟨b, hb⟩ : ∃ b, b = x.toList[i] := ⟨_, rfl⟩
    rw [← hb] at hix
    obtain ⟨m, hm⟩ : ∃ m, m = leN (x.toList.take i) := ⟨_, rfl⟩
    have hml : m < 2 ^ (8 * i) := by
      have := leN_lt (x.toList.take i)
      rw [List.length_take, hxl, Nat.min_eq_left hi, ← hm] at this
      rwa [Nat.pow_mul]
    have hnx : leN (x.toList.take (i + 1)) = b.toNat * 2 ^ (8 * i) + m := by
      rw [List.take_succ_eq_append_getElem (by omega), leN_append, ← hm, ← hb, List.length_take, hxl, Nat.min_eq_left hi, leN, leN, Nat.pow_mul, Nat.mul_zero, Nat.add_zero, Nat.mul_comm, Nat.add_comm]
    rw [← hm] at S
    have o3 := S.get
    have hp256 : 2 ^ (8 * i) ≤ 2 ^ 248 := Nat.pow_le_pow_right (by omega) (by omega)
    have hbl := b.toNat_lt
    obtain ⟨q, hqq⟩ : ∃ q, q = i / 8 := ⟨_, rfl⟩
    obtain ⟨p, hpp⟩ : ∃ p, p = i % 8 := ⟨_, rfl⟩
    obtain ⟨r, hr⟩ : ∃ r, r = 8 * p := ⟨_, rfl⟩
    have e1 : Int.tdiv (i : Int) 8 = (q : Int) := by rw [Int.tdiv_eq_ediv_of_nonneg (by omega)]; omega
    have e2 : Int.tmod (i : Int) 8 = (p : Int) := by rw [Int.tmod_eq_emod_of_nonneg (by omega)]; omega
    have w1 : IntKind.i64.wrap (q : Int) = (q : Int) := wrap64 (by omega) (by omega)
    have w2 : IntKind.i64.wrap (8 * (p : Int)) = (r : Int) := by rw [wrap64 (by omega) (by omega)]; omega
    have w3 : IntKind.i64.wrap ((i : Int) + 1) = (i : Int) + 1 := wrap64 (by omega) (by omega)
    have hR : (BitVec.ofNat 64 r).toNat = r := by rw [BitVec.toNat_ofNat]; exact Nat.mod_eq_of_lt (by omega)
    have hconv : convV .u64 (.int .i64 ((r : Nat) : Int)) = some (w64 (BitVec.ofNat 64 r)) := by rw [conv_i_64, BitVec.ofInt_natCast]
    have hidx := idxArr_ptr 4 i3 (z := ((q : Nat) : Int)) (j := q) rfl (by omega)
    have hv : (b.toBitVec.setWidth 64).toNat = b.toNat := by
      rw [BitVec.toNat_setWidth]
      exact Nat.mod_eq_of_lt (Nat.lt_of_lt_of_le hbl (by decide))
    have hv2 : (b.toBitVec.setWidth 64).toNat < 2 ^ (64 - r) := by
      rw [hv]
      calc b.toNat < 2 ^ 8 := hbl
        _ ≤ 2 ^ (64 - r) := Nat.pow_le_pow_right (by omega) (by omega)
    have hi8 : 8 * i = 64 * q + r := by omega
    have hput : ∀ k, k < 4 → limb (putU (b.toBitVec.setWidth 64) (8 * i)) k = if k = q then b.toBitVec.setWidth 64 <<< r else 0#64 := fun k hk => by
      rw [hi8]; exact limb_put _ q r k (by omega) hk hv2
    have hspl : spliceV (eU (BitVec.ofNat 256 m)) q [w64 (limb (BitVec.ofNat 256 m) q ||| b.toBitVec.setWidth 64 <<< r)] = eU (BitVec.ofNat 256 m ||| putU (b.toBitVec.setWidth 64) (8 * i)) := by
      have := splice_or (BitVec.ofNat 256 m) (putU (b.toBitVec.setWidth 64) (8 * i)) (j := q) (by omega) (fun k hk hne => by rw [hput k hk, if_neg hne])
      rwa [hput q (by omega), if_pos rfl] at this
    have hM : (BitVec.ofNat 256 m).toNat = m := by
      rw [BitVec.toNat_ofNat]
      exact Nat.mod_eq_of_lt (Nat.lt_of_lt_of_le hml (Nat.le_trans hp256 (Nat.pow_le_pow_right (by omega) (by omega))))
    have hnew : BitVec.ofNat 256 m ||| putU (b.toBitVec.setWidth 64) (8 * i) = BitVec.ofNat 256 (leN (x.toList.take (i + 1))) := by
      have hfit : b.toNat * 2 ^ (8 * i) < 2 ^ 256 := by
        calc b.toNat * 2 ^ (8 * i) < 2 ^ 8 * 2 ^ (8 * i) := Nat.mul_lt_mul_of_pos_right hbl (Nat.two_pow_pos _)
          _ = 2 ^ (8 + 8 * i) := (Nat.pow_add _ _ _).symm
          _ ≤ 2 ^ 256 := Nat.pow_le_pow_right (by omega) (by omega)
      have h := or_put (x := BitVec.ofNat 256 m) (v := b.toBitVec.setWidth 64) (i := 8 * i) (by rw [hM]; exact hml) (by rw [hv]; exact hfit)
      rw [hv, hM, ← hnx] at h
      rw [← h, BitVec.ofNat_toNat, BitVec.setWidth_eq]
    have hst : storeS st4 1 (.ptr (some (i3, q))) (w64 (limb (BitVec.ofNat 256 m) q ||| b.toBitVec.setWidth 64 <<< r)) = some (st4.upd i3 (.cells (eU (BitVec.ofNat 256 (leN (x.toList.take (i + 1))))))) := by
      have : q + 1 ≤ 4 := by omega
      simp only [storeS, o3, w64_cells, hspl, hnew]
      rw [if_pos ⟨rfl, by rw [eU_len]; omega⟩]
    simp [-conv_i_64, h7, hlt', g3, g6, hix, e1, e2, w1, w2, w3, hconv, hR, hidx, St.seg, o3, seg_limb _ (show q < 4 by omega), hst]
    refine Round.mk (32 - (i + 1)) _ (by omega) (sub_self _) (hJ _ _ _ ⟨i + 1, by omega, rfl, by simp, S.set _⟩)
  · have : i = 32 := by omega
    subst this
    rw [List.take_of_length_le (by omega)] at S
    have o3 := S.get
    have o2 := S.mem (i := i2) (o := .cells (eU 0#256)) (by simp)
    have T := S.setAt (.cells (eU (BitVec.ofNat 256 (leN x.toList)))) 1 rfl
    simp [h7, g2, g3, St.seg, o3, o2, segU, storeS, eU_len, hsp, n32, n32.symm]
    exact ⟨T.was' (by simp), rfl⟩
end
end Go.Ab
set_option linter.unusedSimpArgs false
set_option linter.unusedVariables false
set_option maxRecDepth 10000
namespace Go.Ab
open Go Go.RowKit
section
variable {P : Program} {F : Fn}
def atI (l : List Bool) (i : Int) : Bool := if 0 ≤ i then atB l i.toNat else false
theorem atI_nat (l : List Bool) (i : Nat) : atI l (i : Int) = atB l i := by simp [atI]
theorem spec123 (ok : OkRef02 P F) {st : St} {s : V} {l : List Bool} (h : Rd 1 eB s l st) (i : Int) : ACalls P (F 123) [s, .int .i64 i] st fun v st' => v = .bool (atI l i) ∧ st' = st := by
  refine shows_call ok.mixed ok.h123 (by simp [k123]) ?_
  simp only [k123]
  have hl := h.len
  by_cases h0 : 0 ≤ i
  · obtain ⟨n, rfl⟩ := Int.eq_ofNat_of_zero_le h0
    rw [atI_nat]
    by_cases hn : n < l.length
    · obtain ⟨p, hp1, hp2⟩ := h.idx eB_len hn .i64
      have e : atB l n = l[n] := by simp [atB, hn]
      simp [hl, hn, hp1, hp2, e, eB]
    · have e : atB l n = false := by simp [atB, hn]
      simp [hl, hn, e]
  · have e : atI l i = false := by simp [atI, h0]
    simp [h0, e]
theorem w64_bit (x : W) : (x % 2#64 == 1#64) = (x.toNat % 2 == 1) := by
  rw [Bool.eq_iff_iff, beq_iff_eq, beq_iff_eq]
  constructor
  · intro h
    have := congrArg BitVec.toNat h
    rw [BitVec.toNat_umod] at this
    exact this
  · intro h
    apply BitVec.eq_of_toNat_eq
    rw [BitVec.toNat_umod]
    exact h
def slB (l : List Bool) : V := .sl .some (rowsOf eB l) l.length
theorem bfill (b : Bool) : fillV (repV [.bool false] 1) [(0, 1, .bool b)] = some (eB b) := rfl
theorem belems (st : St) (k : SK) (b : Bool) : elems st 1 (.sl k (eB b) 1) = some (eB b, 1) := by simp [elems, eB]
theorem limb_shr_bit (x : U) (i k : Nat) (hk : k < 64) : (limb x i).toNat / 2 ^ k % 2 = x.toNat / 2 ^ (64 * i + k) % 2 := by
  have e : (18446744073709551616 : Nat) ^ i = 2 ^ (64 * i) := by rw [Nat.pow_mul]
  rw [limb_nat, e, Nat.pow_add, ← Nat.div_div_eq_div_mul]
  generalize x.toNat / 2 ^ (64 * i) = y
  have h1 : (y % 18446744073709551616).testBit k = y.testBit k := by
    rw [show (18446744073709551616 : Nat) = 2 ^ 64 from rfl, Nat.testBit_mod_two_pow, decide_eq_true hk, Bool.true_and]
  rw [Nat.testBit_eq_decide_div_mod_eq, Nat.testBit_eq_decide_div_mod_eq, decide_eq_decide] at h1
  omega
theorem half_shr (x : W) (k : Nat) : (x >>> k) / 2#64 = x >>> (k + 1) := by
  apply BitVec.eq_of_toNat_eq
  rw [BitVec.toNat_udiv, shr_nat64, shr_nat64, Nat.pow_succ, Nat.div_div_eq_div_mul]
  rfl
set_option maxHeartbeats 1000000 in
theorem spec121 (ok : OkRef02 P F) (st : St) (x : U) : ACalls P (F 121) [nU x] st fun v st' => v = slB (bitsN 256 x.toNat) ∧ st' = st := by
  refine shows_call ok.mixed ok.h121 (by simp [k121]) ?_
  simp only [k121, nU]
  simp
  intro i1 h1
  have S := (Sep.start st).new h1 (.cells (eU x))
  generalize st.upd i1 _ = st1 at S ⊢
  have S : Sep [Sl 1 eB (.sl .nil [] 0) (bitsN (64 * 0) x.toNat), pt i1 (.cells (eU x)), Was st] st1 := S.slNil
  refine vc_loopJ (fun k env' st' => ∃ i s, i ≤ 4 ∧ k = 4 - i ∧ env' 4 = .int .i64 (i : Nat) ∧ env' 3 = s ∧ Sep [Sl 1 eB s (bitsN (64 * i) x.toNat), pt i1 (.cells (eU x)), Was st] st') 4
    ⟨0, _, by omega, by omega, rfl, rfl, S⟩ ?_
  clear S
  rintro J hJ k env' st2 hsame ⟨i, s, hi, rfl, h4, h3, S⟩
  have g1 := hsame.get 1 rfl
  simp at g1
  clear hsame
  have w1 : IntKind.i64.wrap ((i : Int) + 1) = (i : Int) + 1 := wrap64 (by omega) (by omega)
  by_cases hlt : i < 4
  · have hlt' : (i : Int) < 4 := by omega
    have o1 := S.mem (i := i1) (o := .cells (eU x)) (by simp)
    have hix := idxArr_ptr 4 i1 (z := (i : Int)) rfl hlt
    simp [g1, h4, h3, hlt', hix, St.seg, o1, seg_limb x hlt]
    have S : Sep [Sl 1 eB s (bitsN (64 * i + 0) x.toNat), pt i1 (.cells (eU x)), Was st] st2 := S
    refine vc_loopJ (fun k env' st' => ∃ q s, q ≤ 64 ∧ k = 64 - q ∧ env' 6 = .int .i64 (q : Nat) ∧ env' 5 = w64 (limb x i >>> q) ∧ env' 3 = s ∧ Sep [Sl 1 eB s (bitsN (64 * i + q) x.toNat), pt i1 (.cells (eU x)), Was st] st') 64
      ⟨0, _, by omega, by omega, rfl, by simp, by simp [h3], S⟩ ?_
    clear S
    rintro J2 hJ2 k env2 st3 hsame ⟨q, s3, hq, rfl, h6, h5, h3, S⟩
    have g4 := hsame.get 4 rfl
    simp [h4] at g4
    clear hsame
    have w2 : IntKind.i64.wrap ((q : Int) + 1) = (q : Int) + 1 := wrap64 (by omega) (by omega)
    by_cases hq64 : q < 64
    · have hq' : (q : Int) < 64 := by omega
      have hbit : (limb x i >>> q % 2#64 == 1#64) = (x.toNat / 2 ^ (64 * i + q) % 2 == 1) := by
        rw [w64_bit, shr_nat64, limb_shr_bit _ _ _ hq64]
      have hsn := bitsN_snoc (64 * i + q) x.toNat
      simp [h6, h5, h3, hq', hbit, bfill, belems]
      refine Sep.app1 (b := 1) eB_len (by omega) S (a := (x.toNat / 2 ^ (64 * i + q) % 2 == 1)) rfl (by rw [bitsN_len]; omega) ?_
      intro s4 st4 S
      simp [h6, w2, h5, half_shr]
      refine Round.mk (64 - (q + 1)) _ (by omega) (sub_self _) (hJ2 _ _ _ ⟨q + 1, s4, by omega, rfl, by simp, by simp, by simp, ?_⟩)
      rw [show 64 * i + (q + 1) = 64 * i + q + 1 by omega, hsn]
      exact S
    · have : q = 64 := by omega
      subst this
      simp [h6, g4, w1]
      exact Round.mk (4 - (i + 1)) _ (by omega) (sub_self _) (hJ _ _ _ ⟨i + 1, s3, by omega, rfl, by simp, by simp [h3], S⟩)
  · have : i = 4 := by omega
    subst this
    simp [h4]
    obtain ⟨k, st4, hf, S, hk⟩ := S.frzSl eB_len
    refine frzP_one (v := .sl k (rowsOf eB (bitsN (64 * 4) x.toNat)) (bitsN (64 * 4) x.toNat).length) (st' := st4) (by simp [h3, hf]) ?_
    have hk := hk (fun e => by have := congrArg List.length e; rw [bitsN_len] at this; simp at this)
    subst hk
    simp [slB]
    exact S.was' (by simp)
def wF (V i j : Nat) : Nat := if 64 * (j + 1) ≤ i then 0 else V / 2 ^ (max i (64 * j)) % 2 ^ (64 * (j + 1) - max i (64 * j))
theorem wF_other (V i j : Nat) (h : j ≠ i / 64) : wF V i j = wF V (i + 1) j := by
  unfold wF
  by_cases h1 : 64 * (j + 1) ≤ i
  · rw [if_pos h1, if_pos (by omega)]
  · rw [if_neg h1, if_neg (by omega), show max i (64 * j) = 64 * j by omega, show max (i + 1) (64 * j) = 64 * j by omega]
theorem wF_step (V i : Nat) : wF V i (i / 64) = 2 * wF V (i + 1) (i / 64) + V / 2 ^ i % 2 := by
  have e1 : max i (64 * (i / 64)) = i := by omega
  have e2 : max (i + 1) (64 * (i / 64)) = i + 1 := by omega
  have hd : V / 2 ^ (i + 1) = V / 2 ^ i / 2 := by rw [Nat.pow_succ, Nat.div_div_eq_div_mul]
  unfold wF
  rw [if_neg (by omega), e1, e2, hd]
  generalize V / 2 ^ i = q
  by_cases h : 64 * (i / 64 + 1) ≤ i + 1
  · rw [if_pos h, show 64 * (i / 64 + 1) - i = 1 by omega]
    omega
  · rw [if_neg h]
    obtain ⟨m, hm⟩ : ∃ m, 64 * (i / 64 + 1) - i = m + 1 := ⟨64 * (i / 64 + 1) - i - 1, by omega⟩
    rw [hm, show 64 * (i / 64 + 1) - (i + 1) = m by omega, Nat.pow_succ, Nat.mul_comm (2 ^ m) 2, Nat.mod_mul]
    omega
def wX (V i : Nat) : List W := [BitVec.ofNat 64 (wF V i 0), BitVec.ofNat 64 (wF V i 1), BitVec.ofNat 64 (wF V i 2), BitVec.ofNat 64 (wF V i 3)]
theorem wX_set (V i : Nat) (hi : i < 256) (x : W) (hx : x = BitVec.ofNat 64 (wF V i (i / 64))) : (wX V (i + 1)).set (i / 64) x = wX V i := by
  subst hx
  have o : ∀ j, j ≠ i / 64 → wF V (i + 1) j = wF V i j := fun j h => (wF_other V i j h).symm
  have : i / 64 = 0 ∨ i / 64 = 1 ∨ i / 64 = 2 ∨ i / 64 = 3 := by omega
  rcases this with h | h | h | h <;> rw [h] at o ⊢ <;> simp [wX, o]
theorem wX_get (V i : Nat) {j : Nat} (hj : j < 4) : (wX V i)[j]? = some (BitVec.ofNat 64 (wF V i j)) := by
  have : j = 0 ∨ j = 1 ∨ j = 2 ∨ j = 3 := by omega
  rcases this with h | h | h | h <;> subst h <;> rfl
theorem wX_end (V : Nat) : (wX V 0).map w64 = eU (natU V) := by
  have e : ∀ j, j < 4 → BitVec.ofNat 64 (wF V 0 j) = limb (natU V) j := fun j hj => by
    apply BitVec.eq_of_toNat_eq
    have e64 : (18446744073709551616 : Nat) ^ j = 2 ^ (64 * j) := by rw [Nat.pow_mul]
    rw [BitVec.toNat_ofNat, limb_nat, natU, BitVec.toNat_ofNat, e64]
    unfold wF
    rw [if_neg (by omega), show max 0 (64 * j) = 64 * j by omega, show 64 * (j + 1) - 64 * j = 64 by omega]
    rw [Nat.mod_mod]
    apply Nat.eq_of_testBit_eq
    intro t
    rw [show (18446744073709551616 : Nat) = 2 ^ 64 from rfl, Nat.testBit_mod_two_pow, Nat.testBit_mod_two_pow, Nat.testBit_div_two_pow, Nat.testBit_div_two_pow, Nat.testBit_mod_two_pow]
    by_cases ht : t < 64
    · simp [ht]
      omega
    · simp [ht]
  simp only [wX, List.map_cons, List.map_nil, e 0 (by omega), e 1 (by omega), e 2 (by omega), e 3 (by omega)]
  rfl
theorem wX_skip (V i : Nat) (h : 256 ≤ i) : wX V i = wX V (i + 1) := by
  have e : ∀ j k, j < 4 → 256 ≤ k → wF V k j = 0 := fun j k hj hk => by
    unfold wF
    rw [if_pos (by omega)]
  simp only [wX, e 0 _ (by omega) h, e 1 _ (by omega) h, e 2 _ (by omega) h, e 3 _ (by omega) h, e 0 (i + 1) (by omega) (by omega), e 1 (i + 1) (by omega) (by omega), e 2 (i + 1) (by omega) (by omega), e 3 (i + 1) (by omega) (by omega)]
theorem dbl0 (a : Nat) : BitVec.ofNat 64 a * 2#64 = BitVec.ofNat 64 (2 * a + 0) := by
  apply BitVec.eq_of_toNat_eq
  rw [BitVec.toNat_mul, BitVec.toNat_ofNat, BitVec.toNat_ofNat]
  show a % 18446744073709551616 * 2 % 18446744073709551616 = (2 * a + 0) % 18446744073709551616
  omega
theorem dbl1 (a : Nat) : BitVec.ofNat 64 a * 2#64 + 1#64 = BitVec.ofNat 64 (2 * a + 1) := by
  apply BitVec.eq_of_toNat_eq
  rw [BitVec.toNat_add, BitVec.toNat_mul, BitVec.toNat_ofNat, BitVec.toNat_ofNat]
  show (a % 18446744073709551616 * 2 % 18446744073709551616 + 1) % 18446744073709551616 = (2 * a + 1) % 18446744073709551616
  omega
def overN (V i : Nat) : Bool := decide (0 < V / 2 ^ (max i 256))
theorem overN_step (V i : Nat) (h : 256 ≤ i) : overN V i = (overN V (i + 1) || (V / 2 ^ i % 2 == 1)) := by
  have hd : V / 2 ^ (i + 1) = V / 2 ^ i / 2 := by rw [Nat.pow_succ, Nat.div_div_eq_div_mul]
  unfold overN
  rw [show max i 256 = i by omega, show max (i + 1) 256 = i + 1 by omega, hd]
  generalize V / 2 ^ i = q
  rw [Bool.eq_iff_iff]
  simp
  omega
theorem wF_zero_top (l : List Bool) : ∀ j, j < 4 → wF (valB l) l.length j = 0 := fun j hj => by
  have h := valB_lt l
  unfold wF
  split
  · rfl
  · rw [Nat.div_eq_of_lt (Nat.lt_of_lt_of_le h (Nat.pow_le_pow_right (by omega) (by omega))), Nat.zero_mod]
set_option maxHeartbeats 2000000 in
theorem spec122 (ok : OkRef02 P F) {st : St} {s : V} {l : List Bool} (h : Rd 1 eB s l st) (hl : l.length ≤ 100000) : ACalls P (F 122) [s] st fun v st' => v = .tup [nU (natU (valB l)), .bool (overN (valB l) 0)] ∧ st' = st := by
  refine shows_call ok.mixed ok.h122 (by simp [k122]) ?_
  simp only [k122, eU_zero0]
  simp
  intro i2 h2
  have S := (Sep.start st).new h2 (.cells (eU 0#256))
  generalize st.upd i2 _ = st1 at S ⊢
  have hz : fillV (eU 0#256) [] = some (eU 0#256) := rfl
  simp [hz]
  intro i4 h4
  have hsp : ∀ x y : U, spliceV (eU x) 0 (eU y) = eU y := fun _ _ => rfl
  obtain ⟨Vl, hV⟩ : ∃ V, V = valB l := ⟨_, rfl⟩
  rw [← hV]
  have hstart : (wX Vl l.length).map w64 = eU 0#256 := by
    have e := wF_zero_top l
    rw [← hV] at e
    simp only [wX, e 0 (by omega), e 1 (by omega), e 2 (by omega), e 3 (by omega)]
    rfl
  have S : Sep [pt i4 (.cells ((wX Vl l.length).map w64)), pt i2 (.cells (eU 0#256)), Was st] (st1.upd i4 (.cells (eU 0#256))) := by
    rw [hstart]; exact S.new h4 _
  have hst : storeS (st1.upd i4 (.cells (eU 0#256))) 4 (.ptr (some (i4, 0))) (.agg (eU 0#256)) = some (st1.upd i4 (.cells (eU 0#256))) := by
    simp [storeS, eU_len, hsp]
  simp [hst]
  generalize st1.upd i4 (.cells (eU 0#256)) = st2 at S ⊢
  have hlen := h.len
  have w0 : IntKind.i64.wrap ((l.length : Int) - 1) = (l.length : Int) - 1 := wrap64 (by omega) (by omega)
  simp [hlen, w0]
  have hov0 : overN Vl l.length = false := by
    have := valB_lt l
    rw [← hV] at this
    unfold overN
    rw [Nat.div_eq_of_lt (Nat.lt_of_lt_of_le this (Nat.pow_le_pow_right (by omega) (by omega)))]
    rfl
  refine vc_loopJ (fun k env' st' => k ≤ l.length ∧ env' 6 = .int .i64 ((k : Int) - 1) ∧ env' 5 = .bool (overN Vl k) ∧ Sep [pt i4 (.cells ((wX Vl k).map w64)), pt i2 (.cells (eU 0#256)), Was st] st') l.length
    ⟨by omega, rfl, by simp [hov0], S⟩ ?_
  clear S
  rintro J hJ k env' st3 hsame ⟨hk, h6, h5, S⟩
  have g0 := hsame.get 0 rfl
  have g2 := hsame.get 2 rfl
  have g4 := hsame.get 4 rfl
  simp at g0 g2 g4
  clear hsame
  have n42 := S.neq (i := i4) (j := i2) 0 1 rfl rfl (by omega)
  cases k with
  | zero =>
    have hn : ¬ (0 : Int) ≤ ((0 : Nat) : Int) - 1 := by omega
    have o4 := S.get
    rw [wX_end] at o4
    have o2 := S.mem (i := i2) (o := .cells (eU 0#256)) (by simp)
    have T := S.setAt (.cells (eU (natU Vl))) 1 rfl
    simp at h6 hn
    simp [h6, h5, g2, g4, St.seg, o4, o2, segU, storeS, eU_len, hsp, n42, n42.symm]
    exact ⟨T.was' (by simp), rfl⟩
  | succ i =>
    have h6' : env' 6 = .int .i64 (i : Int) := by rw [h6]; congr 1; omega
    have hi : i < l.length := by omega
    obtain ⟨p, hp1, hp2⟩ := (h.sub (S.was' (by simp))).idx eB_len hi .i64
    have hbit : l[i] = (Vl / 2 ^ i % 2 == 1) := by
      have := atB_eq l i
      rw [← hV] at this
      rw [← this]
      simp [atB, hi]
    have w1 : IntKind.i64.wrap ((i : Int) - 1) = (i : Int) - 1 := wrap64 (by omega) (by omega)
    by_cases hbig : 256 ≤ i
    · have hbig' : (256 : Int) ≤ i := by omega
      have ho := overN_step Vl i hbig
      rw [← hbit] at ho
      rw [← wX_skip Vl i hbig] at S
      cases hov : overN Vl (i + 1) with
      | true =>
        rw [hov] at h5 ho
        simp [h6', h5, hbig', w1]
        exact Round.mk i _ (by omega) (sub_self _) (hJ _ _ _ ⟨by omega, by simp, by simp [ho], S⟩)
      | false =>
        rw [hov] at h5 ho
        simp [h6', h5, hbig', g0, hp1, hp2, eB, w1]
        exact Round.mk i _ (by omega) (sub_self _) (hJ _ _ _ ⟨by omega, by simp, by simp [ho], S⟩)
    · have hbig' : ¬ (256 : Int) ≤ i := by omega
      obtain ⟨q, hq⟩ : ∃ q, q = i / 64 := ⟨_, rfl⟩
      have hq4 : q < 4 := by omega
      have e1 : Int.tdiv (i : Int) 64 = (q : Int) := by rw [Int.tdiv_eq_ediv_of_nonneg (by omega)]; omega
      have e1' : (i : Int) / 64 = (q : Int) := by omega
      have wq : IntKind.i64.wrap (q : Int) = (q : Int) := wrap64 (by omega) (by omega)
      have hidx := idxArr_ptr 4 i4 (z := (q : Int)) rfl hq4
      have hxl : (wX Vl (i + 1)).length = 4 := rfl
      have hget : (wX Vl (i + 1))[q]'(by rw [hxl]; exact hq4) = BitVec.ofNat 64 (wF Vl (i + 1) q) := by
        have := wX_get Vl (i + 1) hq4
        rw [List.getElem?_eq_getElem (by rw [hxl]; exact hq4)] at this
        exact Option.some.inj this
      obtain ⟨Y, hY⟩ : ∃ Y : W, Y = BitVec.ofNat 64 (wF Vl (i + 1) q) := ⟨_, rfl⟩
      rw [← hY] at hget
      have hrd := arr_read (f := w64) S.get (i := q) (by rw [hxl]; exact hq4)
      rw [hget] at hrd
      have hst := arr_store (f := w64) S.get (i := q) (by rw [hxl]; exact hq4) (x := Y * 2#64) (v := w64 (Y * 2#64)) rfl
      have S1 := S.set (.cells (((wX Vl (i + 1)).set q (Y * 2#64)).map w64))
      have hov : overN Vl (i + 1) = overN Vl i := by unfold overN; rw [show max i 256 = 256 by omega, show max (i + 1) 256 = 256 by omega]
      rw [hov] at h5
      have hstep := wF_step Vl i
      rw [← hq] at hstep
      simp [h6', hbig', e1', wq, g4, hidx, hrd, hst, -List.map_set]
      generalize st3.upd i4 _ = st4 at S1 ⊢
      obtain ⟨p, hp1, hp2⟩ := (h.sub (S1.was' (by simp))).idx eB_len hi .i64
      simp [h6', g0, hp1, hp2, eB]
      cases hb : l[i] with
      | true =>
        rw [hb] at hbit
        have h1 : Vl / 2 ^ i % 2 = 1 := by simpa using hbit.symm
        have hfin : Y * 2#64 + 1#64 = BitVec.ofNat 64 (wF Vl i q) := by
          rw [hstep, h1, hY]; exact dbl1 _
        have hxl2 : ((wX Vl (i + 1)).set q (Y * 2#64)).length = 4 := by rw [List.length_set]; rfl
        have hrd2 := arr_read (f := w64) S1.get (i := q) (by rw [hxl2]; exact hq4)
        rw [List.getElem_set_self] at hrd2
        have hst2 := arr_store (f := w64) S1.get (i := q) (by rw [hxl2]; exact hq4) (x := Y * 2#64 + 1#64) (v := w64 (Y * 2#64 + 1#64)) rfl
        have S2 := S1.set (.cells ((((wX Vl (i + 1)).set q (Y * 2#64)).set q (Y * 2#64 + 1#64)).map w64))
        rw [List.set_set] at S2 hst2
        rw [hq] at S2 hst2 hfin
        rw [wX_set Vl i (by omega) _ hfin] at S2 hst2
        rw [← hq] at hst2
        simp [h6', e1', wq, g4, hidx, hrd2, hst2, w1, -List.map_set]
        exact Round.mk i _ (by omega) (sub_self _) (hJ _ _ _ ⟨by omega, by simp, by simp [h5], S2⟩)
      | false =>
        rw [hb] at hbit
        have h1 : Vl / 2 ^ i % 2 = 0 := by
          have : ¬ Vl / 2 ^ i % 2 = 1 := by simpa using hbit.symm
          omega
        have hfin : Y * 2#64 = BitVec.ofNat 64 (wF Vl i q) := by
          rw [hstep, h1, hY]; exact dbl0 _
        rw [hq] at S1 hfin
        rw [wX_set Vl i (by omega) _ hfin] at S1
        simp [h6', w1]
        exact Round.mk i _ (by omega) (sub_self _) (hJ _ _ _ ⟨by omega, by simp, by simp [h5], S1⟩)
end
end Go.Ab
set_option linter.unusedSimpArgs false
set_option linter.unusedVariables false
set_option maxRecDepth 10000
namespace Go.Ab
open Go Go.RowKit
section
variable {P : Program} {F : Fn}
theorem bit_step (V i : Nat) : V % 2 ^ (i + 1) = V % 2 ^ i + V / 2 ^ i % 2 * 2 ^ i := by
  rw [Nat.pow_succ, Nat.mod_mul, Nat.mul_comm (2 ^ i) (V / 2 ^ i % 2)]
def carN (a b i : Nat) : Bool := decide (2 ^ i ≤ a % 2 ^ i + b % 2 ^ i)
theorem sum_bit (a b i : Nat) : ((a + b) / 2 ^ i % 2 == 1) = ((((a / 2 ^ i % 2 == 1) != (b / 2 ^ i % 2 == 1)) != carN a b i)) ∧
    carN a b (i + 1) = ((a / 2 ^ i % 2 == 1) && (b / 2 ^ i % 2 == 1) || carN a b i && ((a / 2 ^ i % 2 == 1) || (b / 2 ^ i % 2 == 1))) := by
  have hp := Nat.two_pow_pos i
  have ha := Nat.div_add_mod a (2 ^ i)
  have hb := Nat.div_add_mod b (2 ^ i)
  have la := Nat.mod_lt a hp
  have lb := Nat.mod_lt b hp
  have hs : (a + b) / 2 ^ i = a / 2 ^ i + b / 2 ^ i + (if 2 ^ i ≤ a % 2 ^ i + b % 2 ^ i then 1 else 0) := by
    have e : a + b = 2 ^ i * (a / 2 ^ i + b / 2 ^ i) + (a % 2 ^ i + b % 2 ^ i) := by rw [Nat.mul_add]; omega
    rw [e, Nat.mul_add_div hp]
    congr 1
    split
    · rename_i h
      exact Nat.div_eq_of_lt_le (by omega) (by omega)
    · rename_i h
      exact Nat.div_eq_of_lt (by omega)
  unfold carN
  rw [hs, bit_step a, bit_step b]
  generalize a / 2 ^ i = A at *
  generalize b / 2 ^ i = B at *
  generalize a % 2 ^ i = x at *
  generalize b % 2 ^ i = y at *
  rw [Nat.pow_succ]
  generalize 2 ^ i = p at *
  have hA : A % 2 = 0 ∨ A % 2 = 1 := by omega
  have hB : B % 2 = 0 ∨ B % 2 = 1 := by omega
  by_cases hc : p ≤ x + y <;> rcases hA with h1 | h1 <;> rcases hB with h2 | h2 <;> simp [hc, h1, h2] <;> omega
set_option maxHeartbeats 2000000 in
theorem spec124 (ok : OkRef02 P F) {st : St} {s t : V} {a b : List Bool} (ha : Rd 1 eB s a st) (hb : Rd 1 eB t b st) (la : a.length ≤ 100000) (lb : b.length ≤ 100000) : ACalls P (F 124) [s, t] st fun v st' => v = slB (addB a b) ∧ st' = st := by
  refine shows_call ok.mixed ok.h124 (by simp [k124]) ?_
  simp only [k124]
  have hla := ha.len
  have hlb := hb.len
  have hm : foldV max2V (.int .i64 (a.length : Int)) [.int .i64 (b.length : Int)] = some (.int .i64 ((max a.length b.length : Nat) : Int)) := by
    simp only [foldV, max2V, if_true, Option.bind_some]
    congr 2
    split <;> omega
  obtain ⟨n, hn⟩ : ∃ n, n = max a.length b.length := ⟨_, rfl⟩
  rw [← hn] at hm
  have w0 : IntKind.i64.wrap ((n : Int) + 1) = (n : Int) + 1 := wrap64 (by omega) (by omega)
  simp [hla, hlb, hm, w0]
  have S : Sep [Sl 1 eB (.sl .nil [] 0) (bitsN 0 (valB a + valB b)), Was st] st := (Sep.start st).slNil
  refine vc_loopJ (fun k env' st' => ∃ i s, i ≤ n + 1 ∧ k = n + 1 - i ∧ env' 8 = .int .i64 (i : Nat) ∧ env' 6 = s ∧ env' 7 = .bool (carN (valB a) (valB b) i) ∧ Sep [Sl 1 eB s (bitsN i (valB a + valB b)), Was st] st') (n + 1)
    ⟨0, _, by omega, by omega, rfl, rfl, by simp [carN, Nat.mod_one], S⟩ ?_
  clear S
  rintro J hJ k env' st2 hsame ⟨i, s2, hi, rfl, h8, h6, h7, S⟩
  have g0 := hsame.get 0 rfl
  have g1 := hsame.get 1 rfl
  have g5 := hsame.get 5 rfl
  simp at g0 g1 g5
  clear hsame
  have w1 : IntKind.i64.wrap ((i : Int) + 1) = (i : Int) + 1 := wrap64 (by omega) (by omega)
  by_cases hlt : i < n + 1
  · have hlt' : (i : Int) < (n : Int) + 1 := by omega
    have hsub := S.was' (st0 := st) (by simp)
    simp [g0, g1, g5, h8, hlt']
    refine (spec123 ok (ha.sub hsub) i).mono ?_
    rintro v st2 ⟨rfl, rfl⟩
    simp [h8, g1]
    refine (spec123 ok (hb.sub hsub) i).mono ?_
    rintro v st2 ⟨rfl, rfl⟩
    obtain ⟨e1, e2⟩ := sum_bit (valB a) (valB b) i
    have x1 : atI a i = (valB a / 2 ^ i % 2 == 1) := by rw [atI_nat, atB_eq]
    have x2 : atI b i = (valB b / 2 ^ i % 2 == 1) := by rw [atI_nat, atB_eq]
    rw [← x1, ← x2] at e1 e2
    have hsn := bitsN_snoc i (valB a + valB b)
    generalize atI a i = x at *
    generalize atI b i = y at *
    obtain ⟨c, hc⟩ : ∃ c, c = carN (valB a) (valB b) i := ⟨_, rfl⟩
    rw [← hc] at e1 e2 h7
    have hbn : (!((!(x == y)) == c)) = ((x != y) != c) := by cases x <;> cases y <;> cases c <;> rfl
    simp [h6, h7, eqK, bfill, belems]
    refine Sep.app1 (b := 1) eB_len (by omega) S (a := (!((!(x == y)) == c))) rfl (by rw [bitsN_len]; omega) ?_
    intro s4 st4 S
    rw [hbn, ← e1, ← hsn] at S
    have fin : ∀ env'', env'' 8 = .int .i64 ((i : Int) + 1) → env'' 6 = s4 → env'' 7 = .bool (x && y || c && (x || y)) → Round J (n + 1 - i) env'' st4 := fun env'' q1 q2 q3 =>
      Round.mk (n + 1 - (i + 1)) _ (by omega) (sub_self _) (hJ _ _ _ ⟨i + 1, s4, by omega, rfl, by simpa using q1, q2, by rw [e2]; exact q3, S⟩)
    cases x <;> cases y <;> cases c <;> simp [h7, h8, w1] <;> exact fin _ (by simp) (by simp) (by simp)
  · have : i = n + 1 := by omega
    subst this
    simp [h8, g5]
    obtain ⟨k, st4, hf, S, hk⟩ := S.frzSl eB_len
    refine frzP_one (v := .sl k (rowsOf eB (bitsN (n + 1) (valB a + valB b))) (bitsN (n + 1) (valB a + valB b)).length) (st' := st4) (by simp [h6, hf]) ?_
    have hk := hk (fun e => by have := congrArg List.length e; rw [bitsN_len] at this; simp at this)
    subst hk
    simp [slB, addB, hn]
    exact S.was' (by simp)
theorem lt_step {A B i : Nat} (h : A / 2 ^ (i + 1) = B / 2 ^ (i + 1)) (hne : (A / 2 ^ i % 2 == 1) ≠ (B / 2 ^ i % 2 == 1)) : decide (A < B) = (B / 2 ^ i % 2 == 1) := by
  have hp := Nat.two_pow_pos i
  have e1 : A / 2 ^ (i + 1) = A / 2 ^ i / 2 := by rw [Nat.pow_succ, Nat.div_div_eq_div_mul]
  have e2 : B / 2 ^ (i + 1) = B / 2 ^ i / 2 := by rw [Nat.pow_succ, Nat.div_div_eq_div_mul]
  rw [e1, e2] at h
  have ha := Nat.div_add_mod A (2 ^ i)
  have hb := Nat.div_add_mod B (2 ^ i)
  have la := Nat.mod_lt A hp
  have lb := Nat.mod_lt B hp
  have hlt : ∀ X Y : Nat, X / 2 ^ i < Y / 2 ^ i → X < Y := fun X Y h => by
    rcases Nat.lt_or_ge X Y with g | g
    · exact g
    · have := Nat.div_le_div_right (c := 2 ^ i) g
      omega
  have hA : A / 2 ^ i % 2 = 0 ∨ A / 2 ^ i % 2 = 1 := by omega
  have hB : B / 2 ^ i % 2 = 0 ∨ B / 2 ^ i % 2 = 1 := by omega
  rcases hA with h1 | h1 <;> rcases hB with h2 | h2 <;> rw [h1, h2] at hne <;> simp at hne
  · rw [h2, decide_eq_true (hlt A B (by omega))]; rfl
  · have := hlt B A (by omega)
    rw [h2, decide_eq_false (by omega)]; rfl
theorem eq_step {A B i : Nat} (h : A / 2 ^ (i + 1) = B / 2 ^ (i + 1)) (he : (A / 2 ^ i % 2 == 1) = (B / 2 ^ i % 2 == 1)) : A / 2 ^ i = B / 2 ^ i := by
  have e1 : A / 2 ^ (i + 1) = A / 2 ^ i / 2 := by rw [Nat.pow_succ, Nat.div_div_eq_div_mul]
  have e2 : B / 2 ^ (i + 1) = B / 2 ^ i / 2 := by rw [Nat.pow_succ, Nat.div_div_eq_div_mul]
  rw [e1, e2] at h
  have hA : A / 2 ^ i % 2 = 0 ∨ A / 2 ^ i % 2 = 1 := by omega
  have hB : B / 2 ^ i % 2 = 0 ∨ B / 2 ^ i % 2 = 1 := by omega
  rcases hA with h1 | h1 <;> rcases hB with h2 | h2 <;> rw [h1, h2] at he <;> simp at he <;> omega
set_option maxHeartbeats 1000000 in
theorem spec125 (ok : OkRef02 P F) {st : St} {s t : V} {a b : List Bool} (ha : Rd 1 eB s a st) (hb : Rd 1 eB t b st) (la : a.length ≤ 100000) (lb : b.length ≤ 100000) : ACalls P (F 125) [s, t] st fun v st' => v = .bool (decide (valB a < valB b)) ∧ st' = st := by
  refine shows_call ok.mixed ok.h125 (by simp [k125]) ?_
  simp only [k125]
  have hla := ha.len
  have hlb := hb.len
  have hm : foldV max2V (.int .i64 (a.length : Int)) [.int .i64 (b.length : Int)] = some (.int .i64 ((max a.length b.length : Nat) : Int)) := by
    simp only [foldV, max2V, if_true, Option.bind_some]
    congr 2
    split <;> omega
  obtain ⟨n, hn⟩ : ∃ n, n = max a.length b.length := ⟨_, rfl⟩
  rw [← hn] at hm
  have w0 : IntKind.i64.wrap ((n : Int) - 1) = (n : Int) - 1 := wrap64 (by omega) (by omega)
  simp [hla, hlb, hm, w0]
  have top : ∀ l : List Bool, l.length ≤ n → valB l / 2 ^ n = 0 := fun l h => Nat.div_eq_of_lt (Nat.lt_of_lt_of_le (valB_lt l) (Nat.pow_le_pow_right (by omega) h))
  refine vc_loopJ (fun k env' st' => k ≤ n ∧ env' 5 = .int .i64 ((k : Int) - 1) ∧ valB a / 2 ^ k = valB b / 2 ^ k ∧ st' = st) n
    ⟨by omega, rfl, by rw [top a (by omega), top b (by omega)], rfl⟩ ?_
  rintro J hJ k env' st2 hsame ⟨hk, h5, he, rfl⟩
  have g0 := hsame.get 0 rfl
  have g1 := hsame.get 1 rfl
  simp at g0 g1
  clear hsame
  cases k with
  | zero =>
    simp at h5
    have : ¬ valB a < valB b := by simp at he; omega
    simp [h5, this]
  | succ i =>
    have h5' : env' 5 = .int .i64 (i : Int) := by rw [h5]; congr 1; omega
    have w1 : IntKind.i64.wrap ((i : Int) - 1) = (i : Int) - 1 := wrap64 (by omega) (by omega)
    simp [g0, g1, h5']
    refine (spec123 ok ha i).mono ?_
    rintro v st2 ⟨rfl, rfl⟩
    simp [h5', g1]
    refine (spec123 ok hb i).mono ?_
    rintro v st2 ⟨rfl, rfl⟩
    have x1 : atI a i = (valB a / 2 ^ i % 2 == 1) := by rw [atI_nat, atB_eq]
    have x2 : atI b i = (valB b / 2 ^ i % 2 == 1) := by rw [atI_nat, atB_eq]
    by_cases hne : atI a i = atI b i
    · have := eq_step he (by rw [← x1, ← x2]; exact hne)
      simp [eqK, hne, h5', w1]
      exact Round.mk i _ (by omega) (sub_self _) (hJ _ _ _ ⟨by omega, by simp, this, rfl⟩)
    · have hlt := lt_step he (by rw [← x1, ← x2]; exact hne)
      have hb' : (!(atI a i == atI b i)) = true := by simpa using hne
      simp [eqK, hb', h5', g1]
      refine (spec123 ok hb i).mono ?_
      rintro v st2 ⟨rfl, rfl⟩
      rw [hlt, ← x2]
      simp
end
end Go.Ab

/- Several texts in one: La1, Nk1, Nk2, Nk3, Nk4, Lb0, Lb1. -/
import Derived.Test.YtmenfnapbggglaaRows
import Derived.Test.YtmenfnapbggglaaChecked
import Derived.OwnWalk
import Derived.Stop.Texts
import Derived.Deep.RegionWith
import Derived.Deep.Cut
import Derived.Maps.AppendAt
import Derived.Sort.OwnSortedInts
import Derived.Shelf.Sort.Plain
import Derived.Shelf.Slices.In.SortNone
import Derived.Test.YtmenfnapbggglaaM4

/- The functions of the seat in the evaluator's compact form, and that they are the program's. PRINTED BY PROGRAM (emit.py). -/
set_option linter.unusedVariables false
namespace Go.Proofs.Ytmenfnapbggglaa
open Go.Ev
set_option maxRecDepth 100000

/- (*herald/heraldlaw16.sent).step -/
def r29_0 : List AOper := [⟨some 5, none, .op (.box (.tmp 2))⟩, ⟨some 6, none, .op (.mv (.const (.bool false)))⟩]
def r29_1 : List AOper := [⟨some 17, none, .op (.fieldAddr (.tmp 5) 0)⟩, ⟨some 18, none, .op (.load1 (.tmp 17))⟩]
def r29_2 : List AOper := [⟨some 20, none, .op (.bin .eql (.tmp 18) (.const (.int .i64 1)))⟩, ⟨some 19, none, .op (.mv (.tmp 20))⟩]
def r29_3 : List AOper := [⟨some 21, none, .op (.fieldAddr (.tmp 5) 2)⟩, ⟨some 22, none, .op (.load1 (.tmp 21))⟩, ⟨some 23, none, .call (.func 14) [.tmp 22]⟩, ⟨some 7, none, .op (.mv (.tmp 23))⟩]
def r29_4 : List AOper := [⟨some 24, none, .op (.mv (.tmp 1))⟩, ⟨some 25, none, .op (.mv (.tmp 7))⟩, ⟨some 26, none, .call (.func 16) [.tmp 24, .tmp 25]⟩, ⟨some 8, none, .op (.mv (.tmp 26))⟩]
def r29_5 : List AOper := [⟨some 27, none, .op (.mv (.tmp 8))⟩, ⟨some 28, none, .op (.lenSlice (.tmp 27))⟩, ⟨some 29, none, .op (.mv (.tmp 7))⟩, ⟨some 30, none, .op (.lenSlice (.tmp 29))⟩, ⟨some 31, none, .op (.bin .neq (.tmp 28) (.tmp 30))⟩]
def r29_6 : List AOper := [⟨some 6, none, .op (.mv (.const (.bool false)))⟩]
def r29_7 : List AOper := [⟨some 9, none, .op (.mv (.const (.int .i64 0)))⟩]
def r29_8 : List AOper := [⟨some 32, none, .op (.mv (.tmp 9))⟩, ⟨some 33, none, .op (.mv (.tmp 8))⟩, ⟨some 34, none, .op (.lenSlice (.tmp 33))⟩, ⟨some 35, none, .op (.bin .lss (.tmp 32) (.tmp 34))⟩]
def r29_9 : List AOper := [⟨some 38, none, .op (.mv (.tmp 0))⟩, ⟨some 39, none, .call (.func 30) [.tmp 38]⟩, ⟨some 40, none, .op (.bin .geq (.tmp 39) (.const (.int .i64 256)))⟩, ⟨some 10, none, .op (.mv (.tmp 40))⟩]
def d29_10 : List DOp := [⟨0, ⟨some 41, none, .op (.mv (.tmp 10))⟩, [10]⟩, ⟨1, ⟨some 42, none, .op (.mv (.tmp 8))⟩, [8]⟩, ⟨2, ⟨some 43, none, .op (.mv (.tmp 9))⟩, [9]⟩, ⟨3, ⟨some 44, none, .op (.indexAddr 1 (.tmp 42) (.tmp 43))⟩, [42, 43]⟩, ⟨4, ⟨some 45, none, .op (.load1 (.tmp 44))⟩, [44]⟩, ⟨5, ⟨some 46, none, .op (.bin .eql (.tmp 45) (.const (.int .i64 (-1))))⟩, [45]⟩, ⟨6, ⟨some 47, none, .op (.eqNil .bool true (.tmp 41) (.tmp 46))⟩, [41, 46]⟩, ⟨7, ⟨some 48, none, .op (.mv (.tmp 47))⟩, [47]⟩, ⟨8, ⟨some 49, some (48, false), .op (.mv (.tmp 10))⟩, [48, 10]⟩, ⟨9, ⟨some 50, some (48, false), .op (.un .not (.tmp 49))⟩, [48, 49]⟩, ⟨10, ⟨some 51, some (48, false), .op (.mv (.tmp 50))⟩, [48, 50]⟩, ⟨11, ⟨some 52, some (51, true), .op (.mv (.tmp 0))⟩, [51, 0]⟩, ⟨12, ⟨some 53, some (51, true), .op (.mv (.tmp 8))⟩, [51, 8]⟩, ⟨13, ⟨some 54, some (51, true), .op (.mv (.tmp 9))⟩, [51, 9]⟩, ⟨14, ⟨some 55, some (51, true), .op (.indexAddr 1 (.tmp 53) (.tmp 54))⟩, [51, 53, 54]⟩, ⟨15, ⟨some 56, some (51, true), .op (.load1 (.tmp 55))⟩, [51, 55]⟩, ⟨16, ⟨some 57, some (51, true), .op (.mv (.tmp 7))⟩, [51, 7]⟩, ⟨17, ⟨some 58, some (51, true), .op (.mv (.tmp 9))⟩, [51, 9]⟩, ⟨18, ⟨some 59, some (51, true), .op (.indexAddr 3 (.tmp 57) (.tmp 58))⟩, [51, 57, 58]⟩, ⟨19, ⟨some 60, some (51, true), .op (.loadN 3 (.tmp 59))⟩, [51, 59]⟩, ⟨20, ⟨some 61, some (51, true), .call (.func 42) [.tmp 52, .tmp 56, .tmp 60]⟩, [51, 52, 56, 60]⟩, ⟨21, ⟨some 62, some (51, true), .op (.un .not (.tmp 61))⟩, [51, 61]⟩, ⟨22, ⟨some 63, some (48, false), .op (.pick (.tmp 51) (.tmp 62) (.const (.bool false)))⟩, [48, 51, 62]⟩, ⟨23, ⟨some 64, none, .op (.pick (.tmp 48) (.const (.bool true)) (.tmp 63))⟩, [48, 63]⟩]
def r29_11 : List AOper := [⟨some 6, none, .op (.mv (.const (.bool false)))⟩]
def r29_12 : List AOper := [⟨some 36, none, .op (.mv (.tmp 9))⟩, ⟨some 37, none, .op (.bin .add (.tmp 36) (.const (.int .i64 1)))⟩, ⟨some 9, none, .op (.mv (.tmp 37))⟩]
def l29_13 : ACode := (.seq (.seq (.region r29_8 [0, 7, 8, 9, 35]) (.cond (.tmp 35) .skip (.exit 1))) (.seq (.block 2 (.seq (.region r29_9 [0, 7, 8, 9, 10]) (.seq (.regionD d29_10 [] [0, 7, 8, 9, 64]) (.cond (.tmp 64) (.seq (.region r29_11 [6]) .ret) .skip)))) (.region r29_12 [0, 7, 8, 9])))
def r29_14 : List AOper := [⟨some 66, none, .op (.bin .eql (.tmp 18) (.const (.int .i64 2)))⟩, ⟨some 65, none, .op (.mv (.tmp 66))⟩]
def r29_15 : List AOper := [⟨some 68, none, .op (.mv (.tmp 1))⟩, ⟨some 69, none, .op (.fieldAddr (.tmp 5) 3)⟩, ⟨some 70, none, .op (.load1 (.tmp 69))⟩, ⟨some 71, none, .call (.func 35) [.tmp 68, .tmp 70]⟩, ⟨some 67, none, .op (.mv (.tmp 71))⟩, ⟨some 72, none, .op (.extract (.tmp 67) 0)⟩, ⟨some 73, none, .op (.extract (.tmp 67) 1)⟩, ⟨some 11, none, .op (.alloc [.int .i64 0, .int .i64 0, .string { data := #[] }])⟩, ⟨none, none, .op (.store 3 (.tmp 11) (.tmp 72))⟩, ⟨some 12, none, .op (.mv (.tmp 73))⟩]
def r29_16 : List AOper := [⟨some 74, none, .op (.mv (.tmp 0))⟩, ⟨some 75, none, .op (.fieldAddr (.tmp 5) 3)⟩, ⟨some 76, none, .op (.load1 (.tmp 75))⟩, ⟨some 77, none, .call (.func 31) [.tmp 74, .tmp 76]⟩, ⟨some 13, none, .op (.mv (.tmp 77))⟩]
def r29_17 : List AOper := [⟨some 78, none, .op (.mv (.tmp 12))⟩, ⟨some 79, none, .call (.func 20) [.tmp 78]⟩, ⟨some 80, none, .op (.bin .neq (.tmp 79) (.const (.int .i64 0)))⟩]
def r29_18 : List AOper := [⟨some 81, none, .op (.mv (.tmp 13))⟩, ⟨some 82, none, .op (.bin .lss (.tmp 81) (.const (.int .i64 0)))⟩, ⟨some 83, none, .op (.mv (.tmp 82))⟩, ⟨some 84, some (83, false), .op (.mv (.tmp 0))⟩, ⟨some 85, some (83, false), .op (.nilCheck (.tmp 84))⟩, ⟨some 86, some (83, false), .op (.fieldAddr (.tmp 85) 2)⟩, ⟨some 87, some (83, false), .op (.load1 (.tmp 86))⟩, ⟨some 88, some (83, false), .op (.mv (.tmp 13))⟩, ⟨some 89, some (83, false), .op (.indexAddr 1 (.tmp 87) (.tmp 88))⟩, ⟨some 90, some (83, false), .op (.load1 (.tmp 89))⟩, ⟨some 91, none, .op (.pick (.tmp 83) (.const (.bool true)) (.tmp 90))⟩, ⟨some 92, none, .op (.mv (.tmp 91))⟩, ⟨some 93, some (92, true), .op (.loadN 3 (.tmp 11))⟩, ⟨some 94, some (92, true), .op (.build [.int .i64 0, .int .i64 0, .string { data := #[] }] [])⟩, ⟨some 95, some (92, true), .op (.eqAgg false [.int, .int, .str] (.tmp 93) (.tmp 94))⟩, ⟨some 96, none, .op (.pick (.tmp 92) (.tmp 95) (.const (.bool false)))⟩, ⟨some 6, none, .op (.mv (.tmp 96))⟩]
def d29_19 : List DOp := [⟨0, ⟨some 97, none, .op (.mv (.tmp 13))⟩, [13]⟩, ⟨1, ⟨some 98, none, .op (.bin .lss (.tmp 97) (.const (.int .i64 0)))⟩, [97]⟩, ⟨2, ⟨some 99, none, .op (.mv (.tmp 98))⟩, [98]⟩, ⟨3, ⟨some 100, some (99, false), .op (.mv (.tmp 0))⟩, [99, 0]⟩, ⟨4, ⟨some 101, some (99, false), .op (.nilCheck (.tmp 100))⟩, [99, 100]⟩, ⟨5, ⟨some 102, some (99, false), .op (.fieldAddr (.tmp 101) 2)⟩, [99, 101]⟩, ⟨6, ⟨some 103, some (99, false), .op (.load1 (.tmp 102))⟩, [99, 102]⟩, ⟨7, ⟨some 104, some (99, false), .op (.mv (.tmp 13))⟩, [99, 13]⟩, ⟨8, ⟨some 105, some (99, false), .op (.indexAddr 1 (.tmp 103) (.tmp 104))⟩, [99, 103, 104]⟩, ⟨9, ⟨some 106, some (99, false), .op (.load1 (.tmp 105))⟩, [99, 105]⟩, ⟨10, ⟨some 107, none, .op (.pick (.tmp 99) (.const (.bool true)) (.tmp 106))⟩, [99, 106]⟩, ⟨11, ⟨some 108, none, .op (.mv (.tmp 107))⟩, [107]⟩, ⟨12, ⟨some 109, some (108, false), .op (.loadN 3 (.tmp 11))⟩, [108, 11]⟩, ⟨13, ⟨some 110, some (108, false), .op (.mv (.tmp 0))⟩, [108, 0]⟩, ⟨14, ⟨some 111, some (108, false), .op (.nilCheck (.tmp 110))⟩, [108, 110]⟩, ⟨15, ⟨some 112, some (108, false), .op (.fieldAddr (.tmp 111) 1)⟩, [108, 111]⟩, ⟨16, ⟨some 113, some (108, false), .op (.load1 (.tmp 112))⟩, [108, 112]⟩, ⟨17, ⟨some 114, some (108, false), .op (.mv (.tmp 13))⟩, [108, 13]⟩, ⟨18, ⟨some 115, some (108, false), .op (.indexAddr 3 (.tmp 113) (.tmp 114))⟩, [108, 113, 114]⟩, ⟨19, ⟨some 116, some (108, false), .op (.loadN 3 (.tmp 115))⟩, [108, 115]⟩, ⟨20, ⟨some 117, some (108, false), .call (.func 22) [.tmp 109, .tmp 116]⟩, [108, 109, 116]⟩, ⟨21, ⟨some 118, some (108, false), .op (.un .not (.tmp 117))⟩, [108, 117]⟩, ⟨22, ⟨some 119, none, .op (.pick (.tmp 108) (.const (.bool true)) (.tmp 118))⟩, [108, 118]⟩]
def r29_20 : List AOper := [⟨some 6, none, .op (.mv (.const (.bool false)))⟩]
def r29_21 : List AOper := [⟨some 120, none, .op (.mv (.tmp 0))⟩, ⟨some 121, none, .op (.nilCheck (.tmp 120))⟩, ⟨some 122, none, .op (.fieldAddr (.tmp 121) 2)⟩, ⟨some 123, none, .op (.load1 (.tmp 122))⟩, ⟨some 124, none, .op (.mv (.tmp 13))⟩, ⟨some 125, none, .op (.indexAddr 1 (.tmp 123) (.tmp 124))⟩, ⟨none, none, .op (.store 1 (.tmp 125) (.const (.bool true)))⟩]
def r29_22 : List AOper := [⟨some 127, none, .op (.bin .eql (.tmp 18) (.const (.int .i64 3)))⟩, ⟨some 126, none, .op (.mv (.tmp 127))⟩]
def r29_23 : List AOper := [⟨some 129, none, .op (.mv (.tmp 1))⟩, ⟨some 130, none, .op (.fieldAddr (.tmp 5) 3)⟩, ⟨some 131, none, .op (.load1 (.tmp 130))⟩, ⟨some 132, none, .call (.func 17) [.tmp 129, .tmp 131]⟩, ⟨some 128, none, .op (.mv (.tmp 132))⟩, ⟨some 133, none, .op (.extract (.tmp 128) 0)⟩, ⟨some 134, none, .op (.extract (.tmp 128) 1)⟩, ⟨some 14, none, .op (.mv (.tmp 133))⟩, ⟨some 15, none, .op (.mv (.tmp 134))⟩]
def r29_24 : List AOper := [⟨some 135, none, .op (.mv (.tmp 0))⟩, ⟨some 136, none, .op (.fieldAddr (.tmp 5) 3)⟩, ⟨some 137, none, .op (.load1 (.tmp 136))⟩, ⟨some 138, none, .call (.func 31) [.tmp 135, .tmp 137]⟩, ⟨some 16, none, .op (.mv (.tmp 138))⟩]
def r29_25 : List AOper := [⟨some 139, none, .op (.mv (.tmp 15))⟩, ⟨some 140, none, .call (.func 20) [.tmp 139]⟩, ⟨some 141, none, .op (.bin .neq (.tmp 140) (.const (.int .i64 0)))⟩]
def r29_26 : List AOper := [⟨some 142, none, .op (.mv (.tmp 16))⟩, ⟨some 143, none, .op (.bin .lss (.tmp 142) (.const (.int .i64 0)))⟩, ⟨some 144, none, .op (.mv (.tmp 143))⟩, ⟨some 145, some (144, false), .op (.mv (.tmp 0))⟩, ⟨some 146, some (144, false), .op (.nilCheck (.tmp 145))⟩, ⟨some 147, some (144, false), .op (.fieldAddr (.tmp 146) 2)⟩, ⟨some 148, some (144, false), .op (.load1 (.tmp 147))⟩, ⟨some 149, some (144, false), .op (.mv (.tmp 16))⟩, ⟨some 150, some (144, false), .op (.indexAddr 1 (.tmp 148) (.tmp 149))⟩, ⟨some 151, some (144, false), .op (.load1 (.tmp 150))⟩, ⟨some 152, none, .op (.pick (.tmp 144) (.const (.bool true)) (.tmp 151))⟩, ⟨some 153, none, .op (.mv (.tmp 152))⟩, ⟨some 154, some (153, false), .op (.mv (.tmp 0))⟩, ⟨some 155, some (153, false), .call (.func 30) [.tmp 154]⟩, ⟨some 156, some (153, false), .op (.bin .geq (.tmp 155) (.const (.int .i64 256)))⟩, ⟨some 157, none, .op (.pick (.tmp 153) (.const (.bool true)) (.tmp 156))⟩, ⟨some 158, none, .op (.mv (.tmp 157))⟩, ⟨some 159, some (158, true), .op (.mv (.tmp 14))⟩, ⟨some 160, some (158, true), .op (.bin .eql (.tmp 159) (.const (.int .i64 0)))⟩, ⟨some 161, none, .op (.pick (.tmp 158) (.tmp 160) (.const (.bool false)))⟩, ⟨some 6, none, .op (.mv (.tmp 161))⟩]
def r29_27 : List AOper := [⟨some 162, none, .op (.mv (.tmp 16))⟩, ⟨some 163, none, .op (.bin .lss (.tmp 162) (.const (.int .i64 0)))⟩, ⟨some 164, none, .op (.mv (.tmp 163))⟩, ⟨some 165, some (164, false), .op (.mv (.tmp 0))⟩, ⟨some 166, some (164, false), .op (.nilCheck (.tmp 165))⟩, ⟨some 167, some (164, false), .op (.fieldAddr (.tmp 166) 2)⟩, ⟨some 168, some (164, false), .op (.load1 (.tmp 167))⟩, ⟨some 169, some (164, false), .op (.mv (.tmp 16))⟩, ⟨some 170, some (164, false), .op (.indexAddr 1 (.tmp 168) (.tmp 169))⟩, ⟨some 171, some (164, false), .op (.load1 (.tmp 170))⟩, ⟨some 172, none, .op (.pick (.tmp 164) (.const (.bool true)) (.tmp 171))⟩]
def r29_28 : List AOper := [⟨some 6, none, .op (.mv (.const (.bool false)))⟩]
def r29_29 : List AOper := [⟨some 173, none, .op (.mv (.tmp 0))⟩, ⟨some 174, none, .op (.mv (.tmp 14))⟩, ⟨some 175, none, .op (.mv (.tmp 0))⟩, ⟨some 176, none, .op (.nilCheck (.tmp 175))⟩, ⟨some 177, none, .op (.fieldAddr (.tmp 176) 1)⟩, ⟨some 178, none, .op (.load1 (.tmp 177))⟩, ⟨some 179, none, .op (.mv (.tmp 16))⟩, ⟨some 180, none, .op (.indexAddr 3 (.tmp 178) (.tmp 179))⟩, ⟨some 181, none, .op (.loadN 3 (.tmp 180))⟩, ⟨some 182, none, .call (.func 42) [.tmp 173, .tmp 174, .tmp 181]⟩, ⟨some 6, none, .op (.mv (.tmp 182))⟩]
def r29_30 : List AOper := [⟨some 184, none, .op (.bin .eql (.tmp 18) (.const (.int .i64 4)))⟩, ⟨some 183, none, .op (.mv (.tmp 184))⟩]
def r29_31 : List AOper := [⟨some 185, none, .op (.mv (.tmp 1))⟩, ⟨some 186, none, .op (.fieldAddr (.tmp 5) 3)⟩, ⟨some 187, none, .op (.load1 (.tmp 186))⟩, ⟨some 188, none, .op (.fieldAddr (.tmp 5) 4)⟩, ⟨some 189, none, .op (.load1 (.tmp 188))⟩, ⟨some 190, none, .op (.fieldAddr (.tmp 5) 5)⟩, ⟨some 191, none, .op (.load1 (.tmp 190))⟩, ⟨some 192, none, .call (.func 18) [.tmp 185, .tmp 187, .tmp 189, .tmp 191]⟩]
def r29_32 : List AOper := [⟨some 6, none, .op (.mv (.const (.bool true)))⟩]
def a29 : AFn := ⟨193, (.seq (.region r29_0 [0, 1, 5]) (.seq (.seq (.region r29_1 [0, 1, 5, 18]) (.block 0 (.seq (.region r29_2 [0, 1, 5, 18, 19]) (.cond (.tmp 19) (.seq (.region r29_3 [0, 1, 7]) (.seq (.region r29_4 [0, 7, 8]) (.seq (.seq (.region r29_5 [0, 7, 8, 31]) (.cond (.tmp 31) (.seq (.region r29_6 [6]) .ret) .skip)) (.seq (.region r29_7 [0, 7, 8, 9]) (.block 1 (.loop [0, 7, 8, 9] l29_13)))))) (.seq (.region r29_14 [0, 1, 5, 18, 65]) (.cond (.tmp 65) (.seq (.region r29_15 [0, 5, 11, 12]) (.seq (.region r29_16 [0, 11, 12, 13]) (.seq (.seq (.region r29_17 [0, 11, 13, 80]) (.cond (.tmp 80) (.seq (.region r29_18 [6]) .ret) .skip)) (.seq (.seq (.regionD d29_19 [] [0, 13, 119]) (.cond (.tmp 119) (.seq (.region r29_20 [6]) .ret) .skip)) (.region r29_21 []))))) (.seq (.region r29_22 [0, 1, 5, 18, 126]) (.cond (.tmp 126) (.seq (.region r29_23 [0, 5, 14, 15]) (.seq (.region r29_24 [0, 14, 15, 16]) (.seq (.seq (.region r29_25 [0, 14, 16, 141]) (.cond (.tmp 141) (.seq (.region r29_26 [6]) .ret) .skip)) (.seq (.seq (.region r29_27 [0, 14, 16, 172]) (.cond (.tmp 172) (.seq (.region r29_28 [6]) .ret) .skip)) (.seq (.region r29_29 [6]) .ret))))) (.seq (.region r29_30 [1, 5, 183]) (.cond (.tmp 183) (.region r29_31 []) .skip)))))))))) (.seq (.region r29_32 [6]) .ret))), [.tmp 6]⟩
theorem a29_ok : compFn Try.prog Try.f29 [[0, 1, 5], [0, 1, 5, 18], [0, 1, 5, 18, 19], [0, 1, 7], [0, 7, 8], [0, 7, 8, 31], [6], [0, 7, 8, 9], [0, 7, 8, 9], [0, 7, 8, 9, 35], [0, 7, 8, 9, 10], [0, 7, 8, 9, 64], [6], [0, 7, 8, 9], [0, 1, 5, 18, 65], [0, 5, 11, 12], [0, 11, 12, 13], [0, 11, 13, 80], [6], [0, 13, 119], [6], [], [0, 1, 5, 18, 126], [0, 5, 14, 15], [0, 14, 15, 16], [0, 14, 16, 141], [6], [0, 14, 16, 172], [6], [6], [1, 5, 183], [], [6]] = some a29 := by kernel_rfl

/- (*herald/heraldlaw16.sent).live -/
def r30_0 : List AOper := [⟨some 2, none, .op (.mv (.const (.int .i64 0)))⟩]
def r30_1 : List AOper := [⟨some 3, none, .op (.mv (.const (.int .i64 0)))⟩]
def r30_2 : List AOper := [⟨some 4, none, .op (.mv (.const (.int .i64 0)))⟩]
def r30_3 : List AOper := [⟨some 5, none, .op (.mv (.tmp 4))⟩, ⟨some 6, none, .op (.mv (.tmp 0))⟩, ⟨some 7, none, .op (.nilCheck (.tmp 6))⟩, ⟨some 8, none, .op (.fieldAddr (.tmp 7) 2)⟩, ⟨some 9, none, .op (.load1 (.tmp 8))⟩, ⟨some 10, none, .op (.lenSlice (.tmp 9))⟩, ⟨some 11, none, .op (.bin .lss (.tmp 5) (.tmp 10))⟩]
def r30_4 : List AOper := [⟨some 14, none, .op (.mv (.tmp 0))⟩, ⟨some 15, none, .op (.nilCheck (.tmp 14))⟩, ⟨some 16, none, .op (.fieldAddr (.tmp 15) 2)⟩, ⟨some 17, none, .op (.load1 (.tmp 16))⟩, ⟨some 18, none, .op (.mv (.tmp 4))⟩, ⟨some 19, none, .op (.indexAddr 1 (.tmp 17) (.tmp 18))⟩, ⟨some 20, none, .op (.load1 (.tmp 19))⟩, ⟨some 21, none, .op (.un .not (.tmp 20))⟩]
def r30_5 : List AOper := [⟨some 22, none, .op (.mv (.tmp 3))⟩, ⟨some 23, none, .op (.bin .add (.tmp 22) (.const (.int .i64 1)))⟩, ⟨some 3, none, .op (.mv (.tmp 23))⟩]
def r30_6 : List AOper := [⟨some 12, none, .op (.mv (.tmp 4))⟩, ⟨some 13, none, .op (.bin .add (.tmp 12) (.const (.int .i64 1)))⟩, ⟨some 4, none, .op (.mv (.tmp 13))⟩]
def l30_7 : ACode := (.seq (.seq (.region r30_3 [0, 3, 4, 11]) (.cond (.tmp 11) .skip (.exit 0))) (.seq (.block 1 (.seq (.region r30_4 [0, 3, 4, 21]) (.cond (.tmp 21) (.region r30_5 [0, 3, 4]) .skip))) (.region r30_6 [0, 3, 4])))
def r30_8 : List AOper := [⟨some 24, none, .op (.mv (.tmp 3))⟩, ⟨some 2, none, .op (.mv (.tmp 24))⟩]
def a30 : AFn := ⟨25, (.seq (.region r30_0 [0]) (.seq (.region r30_1 [0, 3]) (.seq (.seq (.region r30_2 [0, 3, 4]) (.block 0 (.loop [0, 3, 4] l30_7))) (.seq (.region r30_8 [2]) .ret)))), [.tmp 2]⟩
theorem a30_ok : compFn Try.prog Try.f30 [[0], [0, 3], [0, 3, 4], [0, 3, 4], [0, 3, 4, 11], [0, 3, 4, 21], [0, 3, 4], [0, 3, 4], [2]] = some a30 := by kernel_rfl

/- (*herald/heraldlaw16.sent).find -/
def r31_0 : List AOper := [⟨some 4, none, .op (.mv (.const (.int .i64 0)))⟩]
def r31_1 : List AOper := [⟨some 5, none, .op (.mv (.const (.int .i64 0)))⟩]
def r31_2 : List AOper := [⟨some 6, none, .op (.mv (.tmp 5))⟩, ⟨some 7, none, .op (.mv (.tmp 0))⟩, ⟨some 8, none, .op (.nilCheck (.tmp 7))⟩, ⟨some 9, none, .op (.fieldAddr (.tmp 8) 0)⟩, ⟨some 10, none, .op (.load1 (.tmp 9))⟩, ⟨some 11, none, .op (.lenSlice (.tmp 10))⟩, ⟨some 12, none, .op (.bin .lss (.tmp 6) (.tmp 11))⟩]
def r31_3 : List AOper := [⟨some 15, none, .op (.mv (.tmp 0))⟩, ⟨some 16, none, .op (.nilCheck (.tmp 15))⟩, ⟨some 17, none, .op (.fieldAddr (.tmp 16) 0)⟩, ⟨some 18, none, .op (.load1 (.tmp 17))⟩, ⟨some 19, none, .op (.mv (.tmp 5))⟩, ⟨some 20, none, .op (.indexAddr 1 (.tmp 18) (.tmp 19))⟩, ⟨some 21, none, .op (.load1 (.tmp 20))⟩, ⟨some 22, none, .op (.mv (.tmp 1))⟩, ⟨some 23, none, .op (.bin .eql (.tmp 21) (.tmp 22))⟩]
def r31_4 : List AOper := [⟨some 24, none, .op (.mv (.tmp 5))⟩, ⟨some 4, none, .op (.mv (.tmp 24))⟩]
def r31_5 : List AOper := [⟨some 13, none, .op (.mv (.tmp 5))⟩, ⟨some 14, none, .op (.bin .add (.tmp 13) (.const (.int .i64 1)))⟩, ⟨some 5, none, .op (.mv (.tmp 14))⟩]
def l31_6 : ACode := (.seq (.seq (.region r31_2 [0, 1, 5, 12]) (.cond (.tmp 12) .skip (.exit 0))) (.seq (.block 1 (.seq (.region r31_3 [0, 1, 5, 23]) (.cond (.tmp 23) (.seq (.region r31_4 [4]) .ret) .skip))) (.region r31_5 [0, 1, 5])))
def r31_7 : List AOper := [⟨some 4, none, .op (.mv (.const (.int .i64 (-1))))⟩]
def a31 : AFn := ⟨25, (.seq (.region r31_0 [0, 1]) (.seq (.seq (.region r31_1 [0, 1, 5]) (.block 0 (.loop [0, 1, 5] l31_6))) (.seq (.region r31_7 [4]) .ret))), [.tmp 4]⟩
theorem a31_ok : compFn Try.prog Try.f31 [[0, 1], [0, 1, 5], [0, 1, 5], [0, 1, 5, 12], [0, 1, 5, 23], [4], [0, 1, 5], [4]] = some a31 := by kernel_rfl

/- herald/heraldlaw16.marked -/
def r32_0 : List AOper := [⟨some 6, none, .op (.mv (.const (.bool false)))⟩]
def r32_1 : List AOper := [⟨some 7, none, .op (.mv (.const (.slice none 0 0)))⟩]
def r32_2 : List AOper := [⟨some 8, none, .op (.mv (.const (.int .i64 0)))⟩]
def r32_3 : List AOper := [⟨some 13, none, .op (.mv (.tmp 8))⟩, ⟨some 14, none, .op (.mv (.tmp 2))⟩, ⟨some 15, none, .op (.lenSlice (.tmp 14))⟩, ⟨some 16, none, .op (.bin .lss (.tmp 13) (.tmp 15))⟩, ⟨some 17, none, .op (.mv (.tmp 16))⟩, ⟨some 18, some (17, true), .op (.mv (.tmp 8))⟩, ⟨some 19, some (17, true), .op (.bin .lss (.tmp 18) (.const (.int .i64 40)))⟩, ⟨some 20, none, .op (.pick (.tmp 17) (.tmp 19) (.const (.bool false)))⟩]
def r32_4 : List AOper := [⟨some 23, none, .op (.mv (.tmp 0))⟩, ⟨some 24, none, .op (.mv (.tmp 2))⟩, ⟨some 25, none, .op (.mv (.tmp 8))⟩, ⟨some 26, none, .op (.indexAddr 6 (.tmp 24) (.tmp 25))⟩, ⟨some 27, none, .op (.loadN 6 (.tmp 26))⟩, ⟨some 28, none, .call (.func 43) [.tmp 23, .tmp 27]⟩, ⟨some 9, none, .op (.mv (.tmp 28))⟩]
def r32_5 : List AOper := [⟨some 29, none, .op (.mv (.tmp 1))⟩, ⟨some 30, none, .op (.mv (.tmp 2))⟩, ⟨some 31, none, .op (.mv (.tmp 8))⟩, ⟨some 32, none, .op (.indexAddr 6 (.tmp 30) (.tmp 31))⟩, ⟨some 33, none, .op (.loadN 6 (.tmp 32))⟩, ⟨some 34, none, .call (.func 43) [.tmp 29, .tmp 33]⟩, ⟨some 10, none, .op (.mv (.tmp 34))⟩]
def r32_6 : List AOper := [⟨some 35, none, .op (.mv (.tmp 0))⟩, ⟨some 36, none, .call (.func 26) [.tmp 35]⟩, ⟨some 11, none, .op (.mv (.tmp 36))⟩]
def r32_7 : List AOper := [⟨some 37, none, .op (.mv (.tmp 1))⟩, ⟨some 38, none, .call (.func 26) [.tmp 37]⟩, ⟨some 12, none, .op (.mv (.tmp 38))⟩]
def r32_8 : List AOper := [⟨some 39, none, .op (.mv (.tmp 9))⟩, ⟨some 40, none, .op (.mv (.tmp 10))⟩, ⟨some 41, none, .call (.func 27) [.tmp 39, .tmp 40]⟩, ⟨some 42, none, .op (.un .not (.tmp 41))⟩, ⟨some 43, none, .op (.mv (.tmp 42))⟩, ⟨some 44, some (43, false), .op (.mv (.tmp 11))⟩, ⟨some 45, some (43, false), .op (.mv (.tmp 12))⟩, ⟨some 46, some (43, false), .call (.func 27) [.tmp 44, .tmp 45]⟩, ⟨some 47, some (43, false), .op (.un .not (.tmp 46))⟩, ⟨some 48, none, .op (.pick (.tmp 43) (.const (.bool true)) (.tmp 47))⟩]
def r32_9 : List AOper := [⟨some 6, none, .op (.mv (.const (.bool false)))⟩]
def r32_10 : List AOper := [⟨some 49, none, .op (.mv (.tmp 7))⟩, ⟨some 50, none, .op (.mv (.tmp 9))⟩, ⟨some 51, none, .op (.mv (.tmp 8))⟩, ⟨some 52, none, .op (.bin .mul (.const (.int .i64 (-200))) (.tmp 51))⟩, ⟨some 53, none, .op (.bin .sub (.tmp 52) (.const (.int .i64 100)))⟩, ⟨some 54, none, .call (.func 44) [.tmp 50, .tmp 53]⟩, ⟨some 55, none, .op (.mkSlice 3 1 [.slice none 0 0, .slice none 0 0, .int .i64 0] [(0, 3, .tmp 54)])⟩, ⟨some 56, none, .op (.append false 3 56 (.tmp 49) (.tmp 55))⟩, ⟨some 7, none, .op (.mv (.tmp 56))⟩]
def r32_11 : List AOper := [⟨some 57, none, .op (.mv (.tmp 7))⟩, ⟨some 58, none, .op (.mv (.tmp 11))⟩, ⟨some 59, none, .op (.mv (.tmp 8))⟩, ⟨some 60, none, .op (.bin .mul (.const (.int .i64 (-200))) (.tmp 59))⟩, ⟨some 61, none, .op (.bin .sub (.tmp 60) (.const (.int .i64 200)))⟩, ⟨some 62, none, .call (.func 44) [.tmp 58, .tmp 61]⟩, ⟨some 63, none, .op (.mkSlice 3 1 [.slice none 0 0, .slice none 0 0, .int .i64 0] [(0, 3, .tmp 62)])⟩, ⟨some 64, none, .op (.append false 3 56 (.tmp 57) (.tmp 63))⟩, ⟨some 7, none, .op (.mv (.tmp 64))⟩]
def r32_12 : List AOper := [⟨some 65, none, .op (.mv (.tmp 7))⟩, ⟨some 66, none, .call (.func 45) [.tmp 65]⟩, ⟨some 67, none, .op (.un .not (.tmp 66))⟩]
def r32_13 : List AOper := [⟨some 6, none, .op (.mv (.const (.bool false)))⟩]
def r32_14 : List AOper := [⟨some 21, none, .op (.mv (.tmp 8))⟩, ⟨some 22, none, .op (.bin .add (.tmp 21) (.const (.int .i64 1)))⟩, ⟨some 8, none, .op (.mv (.tmp 22))⟩]
def l32_15 : ACode := (.seq (.seq (.region r32_3 [0, 1, 2, 7, 8, 20]) (.cond (.tmp 20) .skip (.exit 0))) (.seq (.block 1 (.seq (.region r32_4 [0, 1, 2, 7, 8, 9]) (.seq (.region r32_5 [0, 1, 2, 7, 8, 9, 10]) (.seq (.region r32_6 [0, 1, 2, 7, 8, 9, 10, 11]) (.seq (.region r32_7 [0, 1, 2, 7, 8, 9, 10, 11, 12]) (.seq (.seq (.region r32_8 [0, 1, 2, 7, 8, 9, 11, 48]) (.cond (.tmp 48) (.seq (.region r32_9 [6]) .ret) .skip)) (.seq (.region r32_10 [0, 1, 2, 7, 8, 11]) (.seq (.region r32_11 [0, 1, 2, 7, 8]) (.seq (.region r32_12 [0, 1, 2, 7, 8, 67]) (.cond (.tmp 67) (.seq (.region r32_13 [6]) .ret) .skip)))))))))) (.region r32_14 [0, 1, 2, 7, 8])))
def r32_16 : List AOper := [⟨some 6, none, .op (.mv (.const (.bool true)))⟩]
def a32 : AFn := ⟨68, (.seq (.region r32_0 [0, 1, 2]) (.seq (.region r32_1 [0, 1, 2, 7]) (.seq (.seq (.region r32_2 [0, 1, 2, 7, 8]) (.block 0 (.loop [0, 1, 2, 7, 8] l32_15))) (.seq (.region r32_16 [6]) .ret)))), [.tmp 6]⟩
theorem a32_ok : compFn Try.prog Try.f32 [[0, 1, 2], [0, 1, 2, 7], [0, 1, 2, 7, 8], [0, 1, 2, 7, 8], [0, 1, 2, 7, 8, 20], [0, 1, 2, 7, 8, 9], [0, 1, 2, 7, 8, 9, 10], [0, 1, 2, 7, 8, 9, 10, 11], [0, 1, 2, 7, 8, 9, 10, 11, 12], [0, 1, 2, 7, 8, 9, 11, 48], [6], [0, 1, 2, 7, 8, 11], [0, 1, 2, 7, 8], [0, 1, 2, 7, 8, 67], [6], [0, 1, 2, 7, 8], [6]] = some a32 := by kernel_rfl

/- herald/heraldlaw16.held -/
def r33_0 : List AOper := [⟨some 4, none, .op (.mv (.const (.bool false)))⟩]
def r33_1 : List AOper := [⟨some 5, none, .op (.mv (.const (.slice none 0 0)))⟩]
def r33_2 : List AOper := [⟨some 6, none, .op (.mv (.const (.slice none 0 0)))⟩]
def r33_3 : List AOper := [⟨some 7, none, .op (.mv (.const (.int .i64 0)))⟩]
def r33_4 : List AOper := [⟨some 16, none, .op (.mv (.tmp 7))⟩, ⟨some 17, none, .op (.mv (.tmp 1))⟩, ⟨some 18, none, .op (.lenSlice (.tmp 17))⟩, ⟨some 19, none, .op (.bin .lss (.tmp 16) (.tmp 18))⟩, ⟨some 20, none, .op (.mv (.tmp 19))⟩, ⟨some 21, some (20, true), .op (.mv (.tmp 7))⟩, ⟨some 22, some (20, true), .op (.bin .lss (.tmp 21) (.const (.int .i64 40)))⟩, ⟨some 23, none, .op (.pick (.tmp 20) (.tmp 22) (.const (.bool false)))⟩]
def r33_5 : List AOper := [⟨some 26, none, .op (.mv (.tmp 0))⟩, ⟨some 27, none, .op (.mv (.tmp 1))⟩, ⟨some 28, none, .op (.mv (.tmp 7))⟩, ⟨some 29, none, .op (.indexAddr 6 (.tmp 27) (.tmp 28))⟩, ⟨some 30, none, .op (.loadN 6 (.tmp 29))⟩, ⟨some 31, none, .call (.func 43) [.tmp 26, .tmp 30]⟩, ⟨some 8, none, .op (.mv (.tmp 31))⟩]
def r33_6 : List AOper := [⟨some 32, none, .op (.mv (.tmp 0))⟩, ⟨some 33, none, .call (.func 26) [.tmp 32]⟩, ⟨some 9, none, .op (.mv (.tmp 33))⟩]
def r33_7 : List AOper := [⟨some 34, none, .op (.mv (.tmp 0))⟩, ⟨some 35, none, .call (.func 26) [.tmp 34]⟩, ⟨some 10, none, .op (.mv (.tmp 35))⟩]
def r33_8 : List AOper := [⟨some 36, none, .op (.mv (.tmp 5))⟩, ⟨some 37, none, .op (.mv (.tmp 8))⟩, ⟨some 38, none, .op (.mv (.tmp 9))⟩, ⟨some 39, none, .op (.mv (.tmp 10))⟩, ⟨some 40, none, .op (.mkSlice 1 3 [.slice none 0 0, .slice none 0 0, .slice none 0 0] [(0, 1, .tmp 37), (1, 1, .tmp 38), (2, 1, .tmp 39)])⟩, ⟨some 41, none, .op (.append false 1 24 (.tmp 36) (.tmp 40))⟩, ⟨some 5, none, .op (.mv (.tmp 41))⟩]
def r33_9 : List AOper := [⟨some 42, none, .op (.mv (.tmp 6))⟩, ⟨some 43, none, .op (.mv (.tmp 8))⟩, ⟨some 44, none, .call (.func 46) [.tmp 43]⟩, ⟨some 45, none, .op (.mv (.tmp 9))⟩, ⟨some 46, none, .call (.func 46) [.tmp 45]⟩, ⟨some 47, none, .op (.mv (.tmp 10))⟩, ⟨some 48, none, .call (.func 46) [.tmp 47]⟩, ⟨some 49, none, .op (.mkSlice 1 3 [.slice none 0 0, .slice none 0 0, .slice none 0 0] [(0, 1, .tmp 44), (1, 1, .tmp 46), (2, 1, .tmp 48)])⟩, ⟨some 50, none, .op (.append false 1 24 (.tmp 42) (.tmp 49))⟩, ⟨some 6, none, .op (.mv (.tmp 50))⟩]
def r33_10 : List AOper := [⟨some 24, none, .op (.mv (.tmp 7))⟩, ⟨some 25, none, .op (.bin .add (.tmp 24) (.const (.int .i64 1)))⟩, ⟨some 7, none, .op (.mv (.tmp 25))⟩]
def l33_11 : ACode := (.seq (.seq (.region r33_4 [0, 1, 5, 6, 7, 23]) (.cond (.tmp 23) .skip (.exit 0))) (.seq (.block 1 (.seq (.region r33_5 [0, 1, 5, 6, 7, 8]) (.seq (.region r33_6 [0, 1, 5, 6, 7, 8, 9]) (.seq (.region r33_7 [0, 1, 5, 6, 7, 8, 9, 10]) (.seq (.region r33_8 [0, 1, 5, 6, 7, 8, 9, 10]) (.region r33_9 [0, 1, 5, 6, 7])))))) (.region r33_10 [0, 1, 5, 6, 7])))
def r33_12 : List AOper := [⟨some 11, none, .op (.mv (.const (.int .i64 0)))⟩]
def r33_13 : List AOper := [⟨some 51, none, .op (.mv (.tmp 11))⟩, ⟨some 52, none, .op (.bin .lss (.tmp 51) (.const (.int .i64 3)))⟩]
def r33_14 : List AOper := [⟨some 55, none, .op (.mv (.tmp 0))⟩, ⟨some 56, none, .op (.mv (.tmp 11))⟩, ⟨some 57, none, .op (.bin .add (.tmp 56) (.const (.int .i64 1)))⟩, ⟨some 58, none, .op (.build [.int .i64 0, .int .i64 0, .slice none 0 0, .int .i64 0, .int .i64 0, .int .i64 0] [(0, 1, .const (.int .i64 2)), (3, 1, .tmp 57)])⟩, ⟨some 59, none, .call (.func 43) [.tmp 55, .tmp 58]⟩]
def r33_15 : List AOper := [⟨some 60, none, .op (.mv (.tmp 0))⟩, ⟨some 61, none, .call (.func 26) [.tmp 60]⟩, ⟨some 12, none, .op (.mv (.tmp 61))⟩]
def r33_16 : List AOper := [⟨some 62, none, .op (.mv (.tmp 5))⟩, ⟨some 63, none, .op (.mv (.tmp 12))⟩, ⟨some 64, none, .op (.mkSlice 1 1 [.slice none 0 0] [(0, 1, .tmp 63)])⟩, ⟨some 65, none, .op (.append false 1 24 (.tmp 62) (.tmp 64))⟩, ⟨some 5, none, .op (.mv (.tmp 65))⟩]
def r33_17 : List AOper := [⟨some 66, none, .op (.mv (.tmp 6))⟩, ⟨some 67, none, .op (.mv (.tmp 12))⟩, ⟨some 68, none, .call (.func 46) [.tmp 67]⟩, ⟨some 69, none, .op (.mkSlice 1 1 [.slice none 0 0] [(0, 1, .tmp 68)])⟩, ⟨some 70, none, .op (.append false 1 24 (.tmp 66) (.tmp 69))⟩, ⟨some 6, none, .op (.mv (.tmp 70))⟩]
def r33_18 : List AOper := [⟨some 53, none, .op (.mv (.tmp 11))⟩, ⟨some 54, none, .op (.bin .add (.tmp 53) (.const (.int .i64 1)))⟩, ⟨some 11, none, .op (.mv (.tmp 54))⟩]
def l33_19 : ACode := (.seq (.seq (.region r33_13 [0, 5, 6, 11, 52]) (.cond (.tmp 52) .skip (.exit 2))) (.seq (.block 3 (.seq (.region r33_14 [0, 5, 6, 11]) (.seq (.region r33_15 [0, 5, 6, 11, 12]) (.seq (.region r33_16 [0, 5, 6, 11, 12]) (.region r33_17 [0, 5, 6, 11]))))) (.region r33_18 [0, 5, 6, 11])))
def r33_20 : List AOper := [⟨some 13, none, .op (.mv (.const (.int .i64 0)))⟩]
def r33_21 : List AOper := [⟨some 71, none, .op (.mv (.tmp 13))⟩, ⟨some 72, none, .op (.mv (.tmp 5))⟩, ⟨some 73, none, .op (.lenSlice (.tmp 72))⟩, ⟨some 74, none, .op (.bin .lss (.tmp 71) (.tmp 73))⟩]
def d33_22 : List DOp := [⟨0, ⟨some 77, none, .op (.mv (.tmp 5))⟩, [5]⟩, ⟨1, ⟨some 78, none, .op (.mv (.tmp 13))⟩, [13]⟩, ⟨2, ⟨some 79, none, .op (.indexAddr 1 (.tmp 77) (.tmp 78))⟩, [77, 78]⟩, ⟨3, ⟨some 80, none, .op (.load1 (.tmp 79))⟩, [79]⟩, ⟨4, ⟨some 81, none, .op (.mv (.tmp 6))⟩, [6]⟩, ⟨5, ⟨some 82, none, .op (.mv (.tmp 13))⟩, [13]⟩, ⟨6, ⟨some 83, none, .op (.indexAddr 1 (.tmp 81) (.tmp 82))⟩, [81, 82]⟩, ⟨7, ⟨some 84, none, .op (.load1 (.tmp 83))⟩, [83]⟩, ⟨8, ⟨some 85, none, .call (.func 27) [.tmp 80, .tmp 84]⟩, [80, 84]⟩, ⟨9, ⟨some 86, none, .op (.un .not (.tmp 85))⟩, [85]⟩]
def r33_23 : List AOper := [⟨some 4, none, .op (.mv (.const (.bool false)))⟩]
def r33_24 : List AOper := [⟨some 75, none, .op (.mv (.tmp 13))⟩, ⟨some 76, none, .op (.bin .add (.tmp 75) (.const (.int .i64 1)))⟩, ⟨some 13, none, .op (.mv (.tmp 76))⟩]
def l33_25 : ACode := (.seq (.seq (.region r33_21 [5, 6, 13, 74]) (.cond (.tmp 74) .skip (.exit 4))) (.seq (.block 5 (.seq (.regionD d33_22 [] [5, 6, 13, 86]) (.cond (.tmp 86) (.seq (.region r33_23 [4]) .ret) .skip))) (.region r33_24 [5, 6, 13])))
def r33_26 : List AOper := [⟨some 14, none, .op (.mv (.const (.slice none 0 0)))⟩]
def r33_27 : List AOper := [⟨some 15, none, .op (.mv (.const (.int .i64 0)))⟩]
def r33_28 : List AOper := [⟨some 87, none, .op (.mv (.tmp 15))⟩, ⟨some 88, none, .op (.mv (.tmp 5))⟩, ⟨some 89, none, .op (.lenSlice (.tmp 88))⟩, ⟨some 90, none, .op (.bin .lss (.tmp 87) (.tmp 89))⟩]
def r33_29 : List AOper := [⟨some 93, none, .op (.mv (.tmp 14))⟩, ⟨some 94, none, .op (.mv (.tmp 5))⟩, ⟨some 95, none, .op (.mv (.tmp 15))⟩, ⟨some 96, none, .op (.indexAddr 1 (.tmp 94) (.tmp 95))⟩, ⟨some 97, none, .op (.load1 (.tmp 96))⟩, ⟨some 98, none, .op (.mv (.tmp 15))⟩, ⟨some 99, none, .op (.bin .mul (.const (.int .i64 (-100))) (.tmp 98))⟩, ⟨some 100, none, .op (.bin .sub (.tmp 99) (.const (.int .i64 100)))⟩, ⟨some 101, none, .call (.func 44) [.tmp 97, .tmp 100]⟩, ⟨some 102, none, .op (.mkSlice 3 1 [.slice none 0 0, .slice none 0 0, .int .i64 0] [(0, 3, .tmp 101)])⟩, ⟨some 103, none, .op (.append false 3 56 (.tmp 93) (.tmp 102))⟩, ⟨some 14, none, .op (.mv (.tmp 103))⟩]
def r33_30 : List AOper := [⟨some 91, none, .op (.mv (.tmp 15))⟩, ⟨some 92, none, .op (.bin .add (.tmp 91) (.const (.int .i64 1)))⟩, ⟨some 15, none, .op (.mv (.tmp 92))⟩]
def l33_31 : ACode := (.seq (.seq (.region r33_28 [5, 14, 15, 90]) (.cond (.tmp 90) .skip (.exit 6))) (.seq (.block 7 (.region r33_29 [5, 14, 15])) (.region r33_30 [5, 14, 15])))
def r33_32 : List AOper := [⟨some 104, none, .op (.mv (.tmp 14))⟩, ⟨some 105, none, .call (.func 45) [.tmp 104]⟩, ⟨some 4, none, .op (.mv (.tmp 105))⟩]
def a33 : AFn := ⟨106, (.seq (.region r33_0 [0, 1]) (.seq (.region r33_1 [0, 1, 5]) (.seq (.region r33_2 [0, 1, 5, 6]) (.seq (.seq (.region r33_3 [0, 1, 5, 6, 7]) (.block 0 (.loop [0, 1, 5, 6, 7] l33_11))) (.seq (.seq (.region r33_12 [0, 5, 6, 11]) (.block 2 (.loop [0, 5, 6, 11] l33_19))) (.seq (.seq (.region r33_20 [5, 6, 13]) (.block 4 (.loop [5, 6, 13] l33_25))) (.seq (.region r33_26 [5, 14]) (.seq (.seq (.region r33_27 [5, 14, 15]) (.block 6 (.loop [5, 14, 15] l33_31))) (.seq (.region r33_32 [4]) .ret))))))))), [.tmp 4]⟩
theorem a33_ok : compFn Try.prog Try.f33 [[0, 1], [0, 1, 5], [0, 1, 5, 6], [0, 1, 5, 6, 7], [0, 1, 5, 6, 7], [0, 1, 5, 6, 7, 23], [0, 1, 5, 6, 7, 8], [0, 1, 5, 6, 7, 8, 9], [0, 1, 5, 6, 7, 8, 9, 10], [0, 1, 5, 6, 7, 8, 9, 10], [0, 1, 5, 6, 7], [0, 1, 5, 6, 7], [0, 5, 6, 11], [0, 5, 6, 11], [0, 5, 6, 11, 52], [0, 5, 6, 11], [0, 5, 6, 11, 12], [0, 5, 6, 11, 12], [0, 5, 6, 11], [0, 5, 6, 11], [5, 6, 13], [5, 6, 13], [5, 6, 13, 74], [5, 6, 13, 86], [4], [5, 6, 13], [5, 14], [5, 14, 15], [5, 14, 15], [5, 14, 15, 90], [5, 14, 15], [5, 14, 15], [4]] = some a33 := by kernel_rfl

/- (*herald/line.Line).put -/
def r34_0 : List AOper := [⟨some 3, none, .op (.box (.tmp 1))⟩, ⟨some 4, none, .op (.mv (.const (.int .i64 0)))⟩]
def r34_1 : List AOper := [⟨some 5, none, .op (.mv (.tmp 0))⟩, ⟨some 6, none, .op (.eqNil .ptr false (.tmp 5) (.const (.pointer none)))⟩, ⟨some 7, none, .op (.mv (.tmp 6))⟩, ⟨some 8, some (7, false), .op (.mv (.tmp 0))⟩, ⟨some 9, some (7, false), .op (.nilCheck (.tmp 8))⟩, ⟨some 10, some (7, false), .op (.fieldAddr (.tmp 9) 0)⟩, ⟨some 11, some (7, false), .op (.load1 (.tmp 10))⟩, ⟨some 12, some (7, false), .op (.lenMap (.tmp 11))⟩, ⟨some 13, some (7, false), .op (.bin .geq (.tmp 12) (.const (.int .i64 256)))⟩, ⟨some 14, none, .op (.pick (.tmp 7) (.const (.bool true)) (.tmp 13))⟩]
def r34_2 : List AOper := [⟨some 4, none, .op (.mv (.const (.int .i64 (-1))))⟩]
def r34_3 : List AOper := [⟨some 15, none, .op (.mv (.tmp 0))⟩, ⟨some 16, none, .op (.nilCheck (.tmp 15))⟩, ⟨some 17, none, .op (.fieldAddr (.tmp 16) 0)⟩, ⟨some 18, none, .op (.load1 (.tmp 17))⟩, ⟨some 19, none, .op (.eqNil .map false (.tmp 18) (.const (.map none)))⟩]
def r34_4 : List AOper := [⟨some 20, none, .op (.mv (.tmp 0))⟩, ⟨some 21, none, .op .mkMap⟩, ⟨some 22, none, .op (.nilCheck (.tmp 20))⟩, ⟨some 23, none, .op (.fieldAddr (.tmp 22) 0)⟩, ⟨none, none, .op (.store 1 (.tmp 23) (.tmp 21))⟩]
def r34_5 : List AOper := [⟨some 24, none, .op (.mv (.tmp 0))⟩, ⟨some 25, none, .op (.nilCheck (.tmp 24))⟩, ⟨some 26, none, .op (.fieldAddr (.tmp 25) 1)⟩, ⟨some 27, none, .op (.load1 (.tmp 26))⟩, ⟨some 28, none, .op (.bin .add (.tmp 27) (.const (.int .i64 1)))⟩, ⟨some 29, none, .op (.nilCheck (.tmp 24))⟩, ⟨some 30, none, .op (.fieldAddr (.tmp 29) 1)⟩, ⟨none, none, .op (.store 1 (.tmp 30) (.tmp 28))⟩]
def d34_6 : List DOp := [⟨0, ⟨some 31, none, .op (.mv (.tmp 0))⟩, [0]⟩, ⟨1, ⟨some 32, none, .op (.nilCheck (.tmp 31))⟩, [31]⟩, ⟨2, ⟨some 33, none, .op (.fieldAddr (.tmp 32) 0)⟩, [32]⟩, ⟨3, ⟨some 34, none, .op (.load1 (.tmp 33))⟩, [33]⟩, ⟨4, ⟨some 35, none, .op (.mv (.tmp 0))⟩, [0]⟩, ⟨5, ⟨some 36, none, .op (.nilCheck (.tmp 35))⟩, [35]⟩, ⟨6, ⟨some 37, none, .op (.fieldAddr (.tmp 36) 1)⟩, [36]⟩, ⟨7, ⟨some 38, none, .op (.load1 (.tmp 37))⟩, [37]⟩, ⟨8, ⟨some 39, none, .op (.loadN 4 (.tmp 3))⟩, [3]⟩, ⟨9, ⟨none, none, .op (.mapUpd .int (.tmp 34) (.tmp 38) (.tmp 39))⟩, [34, 38, 39]⟩]
def r34_7 : List AOper := [⟨some 40, none, .op (.mv (.tmp 0))⟩, ⟨some 41, none, .op (.nilCheck (.tmp 40))⟩, ⟨some 42, none, .op (.fieldAddr (.tmp 41) 1)⟩, ⟨some 43, none, .op (.load1 (.tmp 42))⟩, ⟨some 4, none, .op (.mv (.tmp 43))⟩]
def a34 : AFn := ⟨44, (.seq (.region r34_0 [0, 3]) (.seq (.seq (.region r34_1 [0, 3, 14]) (.cond (.tmp 14) (.seq (.region r34_2 [4]) .ret) .skip)) (.seq (.seq (.region r34_3 [0, 3, 19]) (.cond (.tmp 19) (.region r34_4 [0, 3]) .skip)) (.seq (.region r34_5 [0, 3]) (.seq (.regionD d34_6 [] [0]) (.seq (.region r34_7 [4]) .ret)))))), [.tmp 4]⟩
theorem a34_ok : compFn Try.prog Try.f34 [[0, 3], [0, 3, 14], [4], [0, 3, 19], [0, 3], [0, 3], [0], [4]] = some a34 := by kernel_rfl

/- (*herald/line.Line).Take -/
def r35_0 : List AOper := [⟨some 4, none, .op (.alloc [.int .i64 0, .int .i64 0, .string { data := #[] }])⟩, ⟨some 5, none, .op (.mv (.const (.int .i64 0)))⟩]
def r35_1 : List AOper := [⟨some 9, none, .op (.mv (.tmp 0))⟩, ⟨some 10, none, .op (.mv (.tmp 1))⟩, ⟨some 11, none, .call (.func 19) [.tmp 9, .tmp 10]⟩, ⟨some 8, none, .op (.mv (.tmp 11))⟩, ⟨some 12, none, .op (.extract (.tmp 8) 0)⟩, ⟨some 13, none, .op (.extract (.tmp 8) 1)⟩, ⟨some 6, none, .op (.alloc [.int .i64 0, .int .i64 0, .string { data := #[] }])⟩, ⟨none, none, .op (.store 3 (.tmp 6) (.tmp 12))⟩, ⟨some 7, none, .op (.mv (.tmp 13))⟩]
def r35_2 : List AOper := [⟨some 14, none, .op (.mv (.tmp 7))⟩, ⟨some 15, none, .op (.bin .eql (.tmp 14) (.const (.int .i64 0)))⟩]
def r35_3 : List AOper := [⟨some 16, none, .op (.mv (.tmp 0))⟩, ⟨some 17, none, .op (.nilCheck (.tmp 16))⟩, ⟨some 18, none, .op (.fieldAddr (.tmp 17) 0)⟩, ⟨some 19, none, .op (.load1 (.tmp 18))⟩, ⟨some 20, none, .op (.mv (.tmp 1))⟩, ⟨none, none, .op (.delete .int (.tmp 19) (.tmp 20))⟩]
def r35_4 : List AOper := [⟨some 21, none, .op (.loadN 3 (.tmp 6))⟩, ⟨some 22, none, .op (.mv (.tmp 7))⟩, ⟨none, none, .op (.store 3 (.tmp 4) (.tmp 21))⟩, ⟨some 5, none, .op (.mv (.tmp 22))⟩]
def a35 : AFn := ⟨23, (.seq (.region r35_0 [0, 1, 4]) (.seq (.region r35_1 [0, 1, 4, 6, 7]) (.seq (.seq (.region r35_2 [0, 1, 4, 6, 7, 15]) (.cond (.tmp 15) (.region r35_3 [4, 6, 7]) .skip)) (.seq (.region r35_4 [4, 5]) .ret)))), [.cellN 4 3, .tmp 5]⟩
theorem a35_ok : compFn Try.prog Try.f35 [[0, 1, 4], [0, 1, 4, 6, 7], [0, 1, 4, 6, 7, 15], [4, 6, 7], [4, 5]] = some a35 := by kernel_rfl

/- herald/heraldref16.Send -/
def r36_0 : List AOper := [⟨some 2, none, .op (.box (.tmp 0))⟩, ⟨some 4, none, .op (.alloc [.slice none 0 0, .int .i64 0, .bool false])⟩, ⟨some 5, none, .op (.mv (.const (.slice none 0 0)))⟩]
def r36_1 : List AOper := [⟨some 6, none, .op (.mv (.const (.slice none 0 0)))⟩]
def r36_2 : List AOper := [⟨some 7, none, .op (.mv (.const (.int .i64 0)))⟩]
def r36_3 : List AOper := [⟨some 10, none, .op (.mv (.tmp 7))⟩, ⟨some 11, none, .op (.mv (.tmp 1))⟩, ⟨some 12, none, .op (.lenSlice (.tmp 11))⟩, ⟨some 13, none, .op (.bin .lss (.tmp 10) (.tmp 12))⟩]
def d36_4 : List DOp := [⟨9, ⟨some 8, none, .op (.alloc [.slice none 0 0, .int .i64 0, .bool false])⟩, []⟩, ⟨0, ⟨some 17, none, .op (.loadN 3 (.tmp 2))⟩, [2]⟩, ⟨1, ⟨some 18, none, .op (.mv (.tmp 1))⟩, [1]⟩, ⟨2, ⟨some 19, none, .op (.mv (.tmp 7))⟩, [7]⟩, ⟨3, ⟨some 20, none, .op (.indexAddr 3 (.tmp 18) (.tmp 19))⟩, [18, 19]⟩, ⟨4, ⟨some 21, none, .op (.loadN 3 (.tmp 20))⟩, [20]⟩, ⟨5, ⟨some 22, none, .call (.func 47) [.tmp 17, .tmp 21, .const (.bool false)]⟩, [17, 21]⟩, ⟨6, ⟨some 16, none, .op (.mv (.tmp 22))⟩, [22]⟩, ⟨7, ⟨some 23, none, .op (.extract (.tmp 16) 0)⟩, [16]⟩, ⟨8, ⟨some 24, none, .op (.extract (.tmp 16) 1)⟩, [16]⟩, ⟨10, ⟨none, none, .op (.store 3 (.tmp 8) (.tmp 23))⟩, [8, 23]⟩, ⟨11, ⟨some 9, none, .op (.mv (.tmp 24))⟩, [24]⟩]
def r36_5 : List AOper := [⟨some 25, none, .op (.loadN 3 (.tmp 8))⟩, ⟨none, none, .op (.store 3 (.tmp 2) (.tmp 25))⟩]
def r36_6 : List AOper := [⟨some 26, none, .op (.mv (.tmp 6))⟩, ⟨some 27, none, .op (.mv (.tmp 9))⟩, ⟨some 28, none, .op (.mkSlice 1 1 [.int .i64 0] [(0, 1, .tmp 27)])⟩, ⟨some 29, none, .op (.append false 1 8 (.tmp 26) (.tmp 28))⟩, ⟨some 6, none, .op (.mv (.tmp 29))⟩]
def r36_7 : List AOper := [⟨some 14, none, .op (.mv (.tmp 7))⟩, ⟨some 15, none, .op (.bin .add (.tmp 14) (.const (.int .i64 1)))⟩, ⟨some 7, none, .op (.mv (.tmp 15))⟩]
def l36_8 : ACode := (.seq (.seq (.region r36_3 [1, 2, 4, 6, 7, 13]) (.cond (.tmp 13) .skip (.exit 0))) (.seq (.block 1 (.seq (.regionD d36_4 [] [1, 2, 4, 6, 7, 8, 9]) (.seq (.region r36_5 [1, 2, 4, 6, 7, 9]) (.region r36_6 [1, 2, 4, 6, 7])))) (.region r36_7 [1, 2, 4, 6, 7])))
def r36_9 : List AOper := [⟨some 30, none, .op (.loadN 3 (.tmp 2))⟩, ⟨some 31, none, .op (.mv (.tmp 6))⟩, ⟨none, none, .op (.store 3 (.tmp 4) (.tmp 30))⟩, ⟨some 5, none, .op (.mv (.tmp 31))⟩]
def a36 : AFn := ⟨32, (.seq (.region r36_0 [1, 2, 4]) (.seq (.region r36_1 [1, 2, 4, 6]) (.seq (.seq (.region r36_2 [1, 2, 4, 6, 7]) (.block 0 (.loop [1, 2, 4, 6, 7] l36_8))) (.seq (.region r36_9 [4, 5]) .ret)))), [.cellN 4 3, .tmp 5]⟩
theorem a36_ok : compFn Try.prog Try.f36 [[1, 2, 4], [1, 2, 4, 6], [1, 2, 4, 6, 7], [1, 2, 4, 6, 7], [1, 2, 4, 6, 7, 13], [1, 2, 4, 6, 7, 8, 9], [1, 2, 4, 6, 7, 9], [1, 2, 4, 6, 7], [1, 2, 4, 6, 7], [4, 5]] = some a36 := by kernel_rfl

/- herald/heraldref16.Take -/
def r37_0 : List AOper := [⟨some 2, none, .op (.box (.tmp 0))⟩, ⟨some 4, none, .op (.alloc [.slice none 0 0, .int .i64 0, .bool false])⟩, ⟨some 5, none, .op (.alloc [.int .i64 0, .int .i64 0, .string { data := #[] }])⟩, ⟨some 6, none, .op (.mv (.const (.int .i64 0)))⟩]
def r37_1 : List AOper := [⟨some 12, none, .op (.loadN 3 (.tmp 2))⟩, ⟨some 13, none, .op (.mv (.tmp 1))⟩, ⟨some 14, none, .call (.func 40) [.tmp 12, .tmp 13]⟩, ⟨some 11, none, .op (.mv (.tmp 14))⟩, ⟨some 15, none, .op (.extract (.tmp 11) 0)⟩, ⟨some 16, none, .op (.extract (.tmp 11) 1)⟩, ⟨some 7, none, .op (.alloc [.int .i64 0, .int .i64 0, .string { data := #[] }])⟩, ⟨none, none, .op (.store 3 (.tmp 7) (.tmp 15))⟩, ⟨some 8, none, .op (.mv (.tmp 16))⟩]
def r37_2 : List AOper := [⟨some 17, none, .op (.mv (.tmp 8))⟩, ⟨some 18, none, .op (.bin .neq (.tmp 17) (.const (.int .i64 0)))⟩]
def d37_3 : List DOp := [⟨0, ⟨some 19, none, .op (.loadN 3 (.tmp 2))⟩, [2]⟩, ⟨1, ⟨some 20, none, .op (.loadN 3 (.tmp 7))⟩, [7]⟩, ⟨2, ⟨some 21, none, .op (.mv (.tmp 8))⟩, [8]⟩, ⟨3, ⟨none, none, .op (.store 3 (.tmp 4) (.tmp 19))⟩, [4, 19]⟩, ⟨4, ⟨none, none, .op (.store 3 (.tmp 5) (.tmp 20))⟩, [5, 20]⟩, ⟨5, ⟨some 6, none, .op (.mv (.tmp 21))⟩, [21]⟩]
def r37_4 : List AOper := [⟨some 22, none, .op (.fieldAddr (.tmp 2) 1)⟩, ⟨some 23, none, .op (.load1 (.tmp 22))⟩, ⟨some 24, none, .op (.build [.slice none 0 0, .int .i64 0, .bool false] [(1, 1, .tmp 23)])⟩, ⟨some 9, none, .op (.alloc [.slice none 0 0, .int .i64 0, .bool false])⟩, ⟨none, none, .op (.store 3 (.tmp 9) (.tmp 24))⟩]
def r37_5 : List AOper := [⟨some 10, none, .op (.mv (.const (.int .i64 0)))⟩]
def r37_6 : List AOper := [⟨some 25, none, .op (.mv (.tmp 10))⟩, ⟨some 26, none, .op (.fieldAddr (.tmp 2) 0)⟩, ⟨some 27, none, .op (.load1 (.tmp 26))⟩, ⟨some 28, none, .op (.lenSlice (.tmp 27))⟩, ⟨some 29, none, .op (.bin .lss (.tmp 25) (.tmp 28))⟩]
def r37_7 : List AOper := [⟨some 32, none, .op (.fieldAddr (.tmp 2) 0)⟩, ⟨some 33, none, .op (.load1 (.tmp 32))⟩, ⟨some 34, none, .op (.mv (.tmp 10))⟩, ⟨some 35, none, .op (.indexAddr 5 (.tmp 33) (.tmp 34))⟩, ⟨some 36, none, .op (.fieldAddr (.tmp 35) 0)⟩, ⟨some 37, none, .op (.load1 (.tmp 36))⟩, ⟨some 38, none, .op (.mv (.tmp 1))⟩, ⟨some 39, none, .op (.bin .neq (.tmp 37) (.tmp 38))⟩]
def d37_8 : List DOp := [⟨0, ⟨some 40, none, .op (.fieldAddr (.tmp 9) 0)⟩, [9]⟩, ⟨1, ⟨some 41, none, .op (.load1 (.tmp 40))⟩, [40]⟩, ⟨2, ⟨some 42, none, .op (.fieldAddr (.tmp 2) 0)⟩, [2]⟩, ⟨3, ⟨some 43, none, .op (.load1 (.tmp 42))⟩, [42]⟩, ⟨4, ⟨some 44, none, .op (.mv (.tmp 10))⟩, [10]⟩, ⟨5, ⟨some 45, none, .op (.indexAddr 5 (.tmp 43) (.tmp 44))⟩, [43, 44]⟩, ⟨6, ⟨some 46, none, .op (.loadN 5 (.tmp 45))⟩, [45]⟩, ⟨7, ⟨some 47, none, .op (.mkSlice 5 1 [.int .i64 0, .int .i64 0, .int .i64 0, .string { data := #[] }, .bool false] [(0, 5, .tmp 46)])⟩, [46]⟩, ⟨8, ⟨some 48, none, .op (.append false 5 48 (.tmp 41) (.tmp 47))⟩, [41, 47]⟩, ⟨9, ⟨some 49, none, .op (.fieldAddr (.tmp 9) 0)⟩, [9]⟩, ⟨10, ⟨none, none, .op (.store 1 (.tmp 49) (.tmp 48))⟩, [49, 48]⟩]
def r37_9 : List AOper := [⟨some 30, none, .op (.mv (.tmp 10))⟩, ⟨some 31, none, .op (.bin .add (.tmp 30) (.const (.int .i64 1)))⟩, ⟨some 10, none, .op (.mv (.tmp 31))⟩]
def l37_10 : ACode := (.seq (.seq (.region r37_6 [1, 2, 4, 5, 7, 9, 10, 29]) (.cond (.tmp 29) .skip (.exit 0))) (.seq (.block 1 (.seq (.region r37_7 [1, 2, 4, 5, 7, 9, 10, 39]) (.cond (.tmp 39) (.regionD d37_8 [] [1, 2, 4, 5, 7, 9, 10]) .skip))) (.region r37_9 [1, 2, 4, 5, 7, 9, 10])))
def d37_11 : List DOp := [⟨0, ⟨some 50, none, .op (.loadN 3 (.tmp 9))⟩, [9]⟩, ⟨1, ⟨some 51, none, .op (.loadN 3 (.tmp 7))⟩, [7]⟩, ⟨2, ⟨none, none, .op (.store 3 (.tmp 4) (.tmp 50))⟩, [4, 50]⟩, ⟨3, ⟨none, none, .op (.store 3 (.tmp 5) (.tmp 51))⟩, [5, 51]⟩, ⟨4, ⟨some 6, none, .op (.mv (.const (.int .i64 0)))⟩, []⟩]
def a37 : AFn := ⟨52, (.seq (.region r37_0 [1, 2, 4, 5]) (.seq (.region r37_1 [1, 2, 4, 5, 7, 8]) (.seq (.seq (.region r37_2 [1, 2, 4, 5, 7, 8, 18]) (.cond (.tmp 18) (.seq (.regionD d37_3 [(1, [4])] [4, 5, 6]) .ret) .skip)) (.seq (.region r37_4 [1, 2, 4, 5, 7, 9]) (.seq (.seq (.region r37_5 [1, 2, 4, 5, 7, 9, 10]) (.block 0 (.loop [1, 2, 4, 5, 7, 9, 10] l37_10))) (.seq (.regionD d37_11 [(1, [3])] [4, 5, 6]) .ret)))))), [.cellN 4 3, .cellN 5 3, .tmp 6]⟩
theorem a37_ok : compFn Try.prog Try.f37 [[1, 2, 4, 5], [1, 2, 4, 5, 7, 8], [1, 2, 4, 5, 7, 8, 18], [4, 5, 6], [1, 2, 4, 5, 7, 9], [1, 2, 4, 5, 7, 9, 10], [1, 2, 4, 5, 7, 9, 10], [1, 2, 4, 5, 7, 9, 10, 29], [1, 2, 4, 5, 7, 9, 10, 39], [1, 2, 4, 5, 7, 9, 10], [1, 2, 4, 5, 7, 9, 10], [4, 5, 6]] = some a37 := by kernel_rfl

/- herald/heraldref16.Double -/
def r38_0 : List AOper := [⟨some 2, none, .op (.box (.tmp 0))⟩, ⟨some 4, none, .op (.alloc [.slice none 0 0, .int .i64 0, .bool false])⟩, ⟨some 5, none, .op (.mv (.const (.int .i64 0)))⟩, ⟨some 6, none, .op (.mv (.const (.int .i64 0)))⟩]
def r38_1 : List AOper := [⟨some 10, none, .op (.loadN 3 (.tmp 2))⟩, ⟨some 11, none, .op (.mv (.tmp 1))⟩, ⟨some 12, none, .call (.func 48) [.tmp 10, .tmp 11]⟩, ⟨some 7, none, .op (.mv (.tmp 12))⟩]
def r38_2 : List AOper := [⟨some 13, none, .op (.mv (.tmp 7))⟩, ⟨some 14, none, .op (.bin .lss (.tmp 13) (.const (.int .i64 0)))⟩]
def r38_3 : List AOper := [⟨some 15, none, .op (.loadN 3 (.tmp 2))⟩, ⟨none, none, .op (.store 3 (.tmp 4) (.tmp 15))⟩, ⟨some 5, none, .op (.mv (.const (.int .i64 0)))⟩, ⟨some 6, none, .op (.mv (.const (.int .i64 160)))⟩]
def d38_4 : List DOp := [⟨17, ⟨some 8, none, .op (.alloc [.slice none 0 0, .int .i64 0, .bool false])⟩, []⟩, ⟨0, ⟨some 17, none, .op (.loadN 3 (.tmp 2))⟩, [2]⟩, ⟨1, ⟨some 18, none, .op (.fieldAddr (.tmp 2) 0)⟩, [2]⟩, ⟨2, ⟨some 19, none, .op (.load1 (.tmp 18))⟩, [18]⟩, ⟨3, ⟨some 20, none, .op (.mv (.tmp 7))⟩, [7]⟩, ⟨4, ⟨some 21, none, .op (.indexAddr 5 (.tmp 19) (.tmp 20))⟩, [19, 20]⟩, ⟨5, ⟨some 22, none, .op (.fieldAddr (.tmp 21) 1)⟩, [21]⟩, ⟨6, ⟨some 23, none, .op (.loadN 3 (.tmp 22))⟩, [22]⟩, ⟨7, ⟨some 24, none, .op (.fieldAddr (.tmp 2) 0)⟩, [2]⟩, ⟨8, ⟨some 25, none, .op (.load1 (.tmp 24))⟩, [24]⟩, ⟨9, ⟨some 26, none, .op (.mv (.tmp 7))⟩, [7]⟩, ⟨10, ⟨some 27, none, .op (.indexAddr 5 (.tmp 25) (.tmp 26))⟩, [25, 26]⟩, ⟨11, ⟨some 28, none, .op (.fieldAddr (.tmp 27) 4)⟩, [27]⟩, ⟨12, ⟨some 29, none, .op (.load1 (.tmp 28))⟩, [28]⟩, ⟨13, ⟨some 30, none, .call (.func 47) [.tmp 17, .tmp 23, .tmp 29]⟩, [17, 23, 29]⟩, ⟨14, ⟨some 16, none, .op (.mv (.tmp 30))⟩, [30]⟩, ⟨15, ⟨some 31, none, .op (.extract (.tmp 16) 0)⟩, [16]⟩, ⟨16, ⟨some 32, none, .op (.extract (.tmp 16) 1)⟩, [16]⟩, ⟨18, ⟨none, none, .op (.store 3 (.tmp 8) (.tmp 31))⟩, [8, 31]⟩, ⟨19, ⟨some 9, none, .op (.mv (.tmp 32))⟩, [32]⟩]
def r38_5 : List AOper := [⟨some 33, none, .op (.mv (.tmp 9))⟩, ⟨some 34, none, .op (.bin .lss (.tmp 33) (.const (.int .i64 0)))⟩]
def r38_6 : List AOper := [⟨some 35, none, .op (.loadN 3 (.tmp 2))⟩, ⟨none, none, .op (.store 3 (.tmp 4) (.tmp 35))⟩, ⟨some 5, none, .op (.mv (.const (.int .i64 0)))⟩, ⟨some 6, none, .op (.mv (.const (.int .i64 46)))⟩]
def r38_7 : List AOper := [⟨some 36, none, .op (.loadN 3 (.tmp 8))⟩, ⟨some 37, none, .op (.mv (.tmp 9))⟩, ⟨none, none, .op (.store 3 (.tmp 4) (.tmp 36))⟩, ⟨some 5, none, .op (.mv (.tmp 37))⟩, ⟨some 6, none, .op (.mv (.const (.int .i64 0)))⟩]
def a38 : AFn := ⟨38, (.seq (.region r38_0 [1, 2, 4]) (.seq (.region r38_1 [2, 4, 7]) (.seq (.seq (.region r38_2 [2, 4, 7, 14]) (.cond (.tmp 14) (.seq (.region r38_3 [4, 5, 6]) .ret) .skip)) (.seq (.regionD d38_4 [] [2, 4, 8, 9]) (.seq (.seq (.region r38_5 [2, 4, 8, 9, 34]) (.cond (.tmp 34) (.seq (.region r38_6 [4, 5, 6]) .ret) .skip)) (.seq (.region r38_7 [4, 5, 6]) .ret)))))), [.cellN 4 3, .tmp 5, .tmp 6]⟩
theorem a38_ok : compFn Try.prog Try.f38 [[1, 2, 4], [2, 4, 7], [2, 4, 7, 14], [4, 5, 6], [2, 4, 8, 9], [2, 4, 8, 9, 34], [4, 5, 6], [4, 5, 6]] = some a38 := by kernel_rfl

/- herald/heraldref16.Spoil -/
def r39_0 : List AOper := [⟨some 4, none, .op (.box (.tmp 0))⟩, ⟨some 8, none, .op (.alloc [.slice none 0 0, .int .i64 0, .bool false])⟩, ⟨some 9, none, .op (.mv (.const (.int .i64 0)))⟩]
def r39_1 : List AOper := [⟨some 18, none, .op (.loadN 3 (.tmp 4))⟩, ⟨some 19, none, .op (.mv (.tmp 1))⟩, ⟨some 20, none, .call (.func 48) [.tmp 18, .tmp 19]⟩, ⟨some 10, none, .op (.mv (.tmp 20))⟩]
def r39_2 : List AOper := [⟨some 21, none, .op (.mv (.tmp 10))⟩, ⟨some 22, none, .op (.bin .lss (.tmp 21) (.const (.int .i64 0)))⟩]
def r39_3 : List AOper := [⟨some 23, none, .op (.loadN 3 (.tmp 4))⟩, ⟨none, none, .op (.store 3 (.tmp 8) (.tmp 23))⟩, ⟨some 9, none, .op (.mv (.const (.int .i64 160)))⟩]
def r39_4 : List AOper := [⟨some 24, none, .op (.fieldAddr (.tmp 4) 0)⟩, ⟨some 25, none, .op (.load1 (.tmp 24))⟩, ⟨some 26, none, .op (.mv (.tmp 10))⟩, ⟨some 27, none, .op (.indexAddr 5 (.tmp 25) (.tmp 26))⟩, ⟨some 28, none, .op (.fieldAddr (.tmp 27) 1)⟩, ⟨some 29, none, .op (.loadN 3 (.tmp 28))⟩, ⟨some 11, none, .op (.alloc [.int .i64 0, .int .i64 0, .string { data := #[] }])⟩, ⟨none, none, .op (.store 3 (.tmp 11) (.tmp 29))⟩]
def r39_5 : List AOper := [⟨some 30, none, .op (.mv (.tmp 2))⟩, ⟨some 31, none, .op (.bin .lss (.tmp 30) (.const (.int .i64 0)))⟩, ⟨some 32, none, .op (.mv (.tmp 31))⟩, ⟨some 33, some (32, false), .op (.mv (.tmp 3))⟩, ⟨some 34, some (32, false), .op (.bin .lss (.tmp 33) (.const (.int .i64 1)))⟩, ⟨some 35, none, .op (.pick (.tmp 32) (.const (.bool true)) (.tmp 34))⟩, ⟨some 36, none, .op (.mv (.tmp 35))⟩, ⟨some 37, some (36, false), .op (.mv (.tmp 3))⟩, ⟨some 38, some (36, false), .op (.bin .gtr (.tmp 37) (.const (.int .i64 255)))⟩, ⟨some 39, none, .op (.pick (.tmp 36) (.const (.bool true)) (.tmp 38))⟩, ⟨some 40, none, .op (.mv (.tmp 39))⟩, ⟨some 41, some (40, false), .op (.fieldAddr (.tmp 11) 2)⟩, ⟨some 42, some (40, false), .op (.load1 (.tmp 41))⟩, ⟨some 43, some (40, false), .op (.bin .eql (.tmp 42) (.const (.string { data := #[] })))⟩, ⟨some 44, none, .op (.pick (.tmp 40) (.const (.bool true)) (.tmp 43))⟩]
def r39_6 : List AOper := [⟨some 45, none, .op (.loadN 3 (.tmp 4))⟩, ⟨none, none, .op (.store 3 (.tmp 8) (.tmp 45))⟩, ⟨some 9, none, .op (.mv (.const (.int .i64 1)))⟩]
def r39_7 : List AOper := [⟨some 46, none, .op (.fieldAddr (.tmp 4) 0)⟩, ⟨some 47, none, .op (.load1 (.tmp 46))⟩, ⟨some 48, none, .op (.mv (.tmp 10))⟩, ⟨some 49, none, .op (.indexAddr 5 (.tmp 47) (.tmp 48))⟩, ⟨some 50, none, .op (.fieldAddr (.tmp 49) 4)⟩, ⟨some 51, none, .op (.load1 (.tmp 50))⟩]
def r39_8 : List AOper := [⟨some 52, none, .op (.loadN 3 (.tmp 4))⟩, ⟨none, none, .op (.store 3 (.tmp 8) (.tmp 52))⟩, ⟨some 9, none, .op (.mv (.const (.int .i64 161)))⟩]
def r39_9 : List AOper := [⟨some 12, none, .op (.mv (.const (.slice none 0 0)))⟩]
def r39_10 : List AOper := [⟨some 13, none, .op (.mv (.const (.int .i64 0)))⟩]
def r39_11 : List AOper := [⟨some 53, none, .op (.mv (.tmp 13))⟩, ⟨some 54, none, .op (.fieldAddr (.tmp 11) 2)⟩, ⟨some 55, none, .op (.load1 (.tmp 54))⟩, ⟨some 56, none, .op (.lenStr (.tmp 55))⟩, ⟨some 57, none, .op (.bin .lss (.tmp 53) (.tmp 56))⟩]
def r39_12 : List AOper := [⟨some 60, none, .op (.fieldAddr (.tmp 11) 2)⟩, ⟨some 61, none, .op (.load1 (.tmp 60))⟩, ⟨some 62, none, .op (.mv (.tmp 13))⟩, ⟨some 63, none, .op (.indexStr (.tmp 61) (.tmp 62))⟩, ⟨some 14, none, .op (.mv (.tmp 63))⟩]
def r39_13 : List AOper := [⟨some 64, none, .op (.mv (.tmp 13))⟩, ⟨some 65, none, .op (.mv (.tmp 2))⟩, ⟨some 66, none, .op (.fieldAddr (.tmp 11) 2)⟩, ⟨some 67, none, .op (.load1 (.tmp 66))⟩, ⟨some 68, none, .op (.lenStr (.tmp 67))⟩, ⟨some 69, none, .op (.bin .rem (.tmp 65) (.tmp 68))⟩, ⟨some 70, none, .op (.bin .eql (.tmp 64) (.tmp 69))⟩]
def r39_14 : List AOper := [⟨some 71, none, .op (.mv (.tmp 14))⟩, ⟨some 72, none, .op (.mv (.tmp 3))⟩, ⟨some 73, none, .op (.conv (.int .u8) (.tmp 72))⟩, ⟨some 74, none, .op (.bin .xor (.tmp 71) (.tmp 73))⟩, ⟨some 14, none, .op (.mv (.tmp 74))⟩]
def r39_15 : List AOper := [⟨some 75, none, .op (.mv (.tmp 12))⟩, ⟨some 76, none, .op (.mv (.tmp 14))⟩, ⟨some 77, none, .op (.mkSlice 1 1 [.int .u8 0] [(0, 1, .tmp 76)])⟩, ⟨some 78, none, .op (.append false 1 1 (.tmp 75) (.tmp 77))⟩, ⟨some 12, none, .op (.mv (.tmp 78))⟩]
def r39_16 : List AOper := [⟨some 58, none, .op (.mv (.tmp 13))⟩, ⟨some 59, none, .op (.bin .add (.tmp 58) (.const (.int .i64 1)))⟩, ⟨some 13, none, .op (.mv (.tmp 59))⟩]
def l39_17 : ACode := (.seq (.seq (.region r39_11 [1, 2, 3, 4, 8, 10, 11, 12, 13, 57]) (.cond (.tmp 57) .skip (.exit 0))) (.seq (.block 1 (.seq (.region r39_12 [1, 2, 3, 4, 8, 10, 11, 12, 13, 14]) (.seq (.seq (.region r39_13 [1, 2, 3, 4, 8, 10, 11, 12, 13, 14, 70]) (.cond (.tmp 70) (.region r39_14 [1, 2, 3, 4, 8, 10, 11, 12, 13, 14]) .skip)) (.region r39_15 [1, 2, 3, 4, 8, 10, 11, 12, 13])))) (.region r39_16 [1, 2, 3, 4, 8, 10, 11, 12, 13])))
def r39_18 : List AOper := [⟨some 79, none, .op (.mv (.tmp 12))⟩, ⟨some 80, none, .op (.conv .toString (.tmp 79))⟩, ⟨some 81, none, .op (.fieldAddr (.tmp 11) 2)⟩, ⟨none, none, .op (.store 1 (.tmp 81) (.tmp 80))⟩]
def r39_19 : List AOper := [⟨some 82, none, .op (.fieldAddr (.tmp 4) 1)⟩, ⟨some 83, none, .op (.load1 (.tmp 82))⟩, ⟨some 84, none, .op (.build [.slice none 0 0, .int .i64 0, .bool false] [(1, 1, .tmp 83)])⟩, ⟨some 15, none, .op (.alloc [.slice none 0 0, .int .i64 0, .bool false])⟩, ⟨none, none, .op (.store 3 (.tmp 15) (.tmp 84))⟩]
def r39_20 : List AOper := [⟨some 16, none, .op (.mv (.const (.int .i64 0)))⟩]
def r39_21 : List AOper := [⟨some 85, none, .op (.mv (.tmp 16))⟩, ⟨some 86, none, .op (.fieldAddr (.tmp 4) 0)⟩, ⟨some 87, none, .op (.load1 (.tmp 86))⟩, ⟨some 88, none, .op (.lenSlice (.tmp 87))⟩, ⟨some 89, none, .op (.bin .lss (.tmp 85) (.tmp 88))⟩]
def r39_22 : List AOper := [⟨some 92, none, .op (.fieldAddr (.tmp 4) 0)⟩, ⟨some 93, none, .op (.load1 (.tmp 92))⟩, ⟨some 94, none, .op (.mv (.tmp 16))⟩, ⟨some 95, none, .op (.indexAddr 5 (.tmp 93) (.tmp 94))⟩, ⟨some 96, none, .op (.loadN 5 (.tmp 95))⟩, ⟨some 17, none, .op (.alloc [.int .i64 0, .int .i64 0, .int .i64 0, .string { data := #[] }, .bool false])⟩, ⟨none, none, .op (.store 5 (.tmp 17) (.tmp 96))⟩]
def r39_23 : List AOper := [⟨some 97, none, .op (.mv (.tmp 16))⟩, ⟨some 98, none, .op (.mv (.tmp 10))⟩, ⟨some 99, none, .op (.bin .eql (.tmp 97) (.tmp 98))⟩]
def r39_24 : List AOper := [⟨some 100, none, .op (.mv (.tmp 1))⟩, ⟨some 101, none, .op (.loadN 3 (.tmp 11))⟩, ⟨some 102, none, .op (.build [.int .i64 0, .int .i64 0, .int .i64 0, .string { data := #[] }, .bool false] [(0, 1, .tmp 100), (1, 3, .tmp 101), (4, 1, .const (.bool true))])⟩, ⟨none, none, .op (.store 5 (.tmp 17) (.tmp 102))⟩]
def r39_25 : List AOper := [⟨some 103, none, .op (.fieldAddr (.tmp 15) 0)⟩, ⟨some 104, none, .op (.load1 (.tmp 103))⟩, ⟨some 105, none, .op (.loadN 5 (.tmp 17))⟩, ⟨some 106, none, .op (.mkSlice 5 1 [.int .i64 0, .int .i64 0, .int .i64 0, .string { data := #[] }, .bool false] [(0, 5, .tmp 105)])⟩, ⟨some 107, none, .op (.append false 5 48 (.tmp 104) (.tmp 106))⟩, ⟨some 108, none, .op (.fieldAddr (.tmp 15) 0)⟩, ⟨none, none, .op (.store 1 (.tmp 108) (.tmp 107))⟩]
def r39_26 : List AOper := [⟨some 90, none, .op (.mv (.tmp 16))⟩, ⟨some 91, none, .op (.bin .add (.tmp 90) (.const (.int .i64 1)))⟩, ⟨some 16, none, .op (.mv (.tmp 91))⟩]
def l39_27 : ACode := (.seq (.seq (.region r39_21 [1, 4, 8, 10, 11, 15, 16, 89]) (.cond (.tmp 89) .skip (.exit 2))) (.seq (.block 3 (.seq (.region r39_22 [1, 4, 8, 10, 11, 15, 16, 17]) (.seq (.seq (.region r39_23 [1, 4, 8, 10, 11, 15, 16, 17, 99]) (.cond (.tmp 99) (.region r39_24 [1, 4, 8, 10, 11, 15, 16, 17]) .skip)) (.region r39_25 [1, 4, 8, 10, 11, 15, 16])))) (.region r39_26 [1, 4, 8, 10, 11, 15, 16])))
def r39_28 : List AOper := [⟨some 109, none, .op (.loadN 3 (.tmp 15))⟩, ⟨none, none, .op (.store 3 (.tmp 8) (.tmp 109))⟩, ⟨some 9, none, .op (.mv (.const (.int .i64 0)))⟩]
def a39 : AFn := ⟨110, (.seq (.region r39_0 [1, 2, 3, 4, 8]) (.seq (.region r39_1 [1, 2, 3, 4, 8, 10]) (.seq (.seq (.region r39_2 [1, 2, 3, 4, 8, 10, 22]) (.cond (.tmp 22) (.seq (.region r39_3 [8, 9]) .ret) .skip)) (.seq (.region r39_4 [1, 2, 3, 4, 8, 10, 11]) (.seq (.seq (.region r39_5 [1, 2, 3, 4, 8, 10, 11, 44]) (.cond (.tmp 44) (.seq (.region r39_6 [8, 9]) .ret) .skip)) (.seq (.seq (.region r39_7 [1, 2, 3, 4, 8, 10, 11, 51]) (.cond (.tmp 51) (.seq (.region r39_8 [8, 9]) .ret) .skip)) (.seq (.region r39_9 [1, 2, 3, 4, 8, 10, 11, 12]) (.seq (.seq (.region r39_10 [1, 2, 3, 4, 8, 10, 11, 12, 13]) (.block 0 (.loop [1, 2, 3, 4, 8, 10, 11, 12, 13] l39_17))) (.seq (.region r39_18 [1, 4, 8, 10, 11]) (.seq (.region r39_19 [1, 4, 8, 10, 11, 15]) (.seq (.seq (.region r39_20 [1, 4, 8, 10, 11, 15, 16]) (.block 2 (.loop [1, 4, 8, 10, 11, 15, 16] l39_27))) (.seq (.region r39_28 [8, 9]) .ret)))))))))))), [.cellN 8 3, .tmp 9]⟩
theorem a39_ok : compFn Try.prog Try.f39 [[1, 2, 3, 4, 8], [1, 2, 3, 4, 8, 10], [1, 2, 3, 4, 8, 10, 22], [8, 9], [1, 2, 3, 4, 8, 10, 11], [1, 2, 3, 4, 8, 10, 11, 44], [8, 9], [1, 2, 3, 4, 8, 10, 11, 51], [8, 9], [1, 2, 3, 4, 8, 10, 11, 12], [1, 2, 3, 4, 8, 10, 11, 12, 13], [1, 2, 3, 4, 8, 10, 11, 12, 13], [1, 2, 3, 4, 8, 10, 11, 12, 13, 57], [1, 2, 3, 4, 8, 10, 11, 12, 13, 14], [1, 2, 3, 4, 8, 10, 11, 12, 13, 14, 70], [1, 2, 3, 4, 8, 10, 11, 12, 13, 14], [1, 2, 3, 4, 8, 10, 11, 12, 13], [1, 2, 3, 4, 8, 10, 11, 12, 13], [1, 4, 8, 10, 11], [1, 4, 8, 10, 11, 15], [1, 4, 8, 10, 11, 15, 16], [1, 4, 8, 10, 11, 15, 16], [1, 4, 8, 10, 11, 15, 16, 89], [1, 4, 8, 10, 11, 15, 16, 17], [1, 4, 8, 10, 11, 15, 16, 17, 99], [1, 4, 8, 10, 11, 15, 16, 17], [1, 4, 8, 10, 11, 15, 16], [1, 4, 8, 10, 11, 15, 16], [8, 9]] = some a39 := by kernel_rfl

/- herald/heraldref16.Look -/
def r40_0 : List AOper := [⟨some 2, none, .op (.box (.tmp 0))⟩, ⟨some 4, none, .op (.alloc [.int .i64 0, .int .i64 0, .string { data := #[] }])⟩, ⟨some 5, none, .op (.mv (.const (.int .i64 0)))⟩]
def r40_1 : List AOper := [⟨some 7, none, .op (.loadN 3 (.tmp 2))⟩, ⟨some 8, none, .op (.mv (.tmp 1))⟩, ⟨some 9, none, .call (.func 48) [.tmp 7, .tmp 8]⟩, ⟨some 6, none, .op (.mv (.tmp 9))⟩]
def r40_2 : List AOper := [⟨some 10, none, .op (.mv (.tmp 6))⟩, ⟨some 11, none, .op (.bin .lss (.tmp 10) (.const (.int .i64 0)))⟩]
def r40_3 : List AOper := [⟨some 12, none, .op (.build [.int .i64 0, .int .i64 0, .string { data := #[] }] [])⟩, ⟨none, none, .op (.store 3 (.tmp 4) (.tmp 12))⟩, ⟨some 5, none, .op (.mv (.const (.int .i64 160)))⟩]
def r40_4 : List AOper := [⟨some 13, none, .op (.fieldAddr (.tmp 2) 0)⟩, ⟨some 14, none, .op (.load1 (.tmp 13))⟩, ⟨some 15, none, .op (.mv (.tmp 6))⟩, ⟨some 16, none, .op (.indexAddr 5 (.tmp 14) (.tmp 15))⟩, ⟨some 17, none, .op (.fieldAddr (.tmp 16) 1)⟩, ⟨some 18, none, .op (.loadN 3 (.tmp 17))⟩, ⟨none, none, .op (.store 3 (.tmp 4) (.tmp 18))⟩, ⟨some 5, none, .op (.mv (.const (.int .i64 0)))⟩]
def a40 : AFn := ⟨19, (.seq (.region r40_0 [1, 2, 4]) (.seq (.region r40_1 [2, 4, 6]) (.seq (.seq (.region r40_2 [2, 4, 6, 11]) (.cond (.tmp 11) (.seq (.region r40_3 [4, 5]) .ret) .skip)) (.seq (.region r40_4 [4, 5]) .ret)))), [.cellN 4 3, .tmp 5]⟩
theorem a40_ok : compFn Try.prog Try.f40 [[1, 2, 4], [2, 4, 6], [2, 4, 6, 11], [4, 5], [4, 5]] = some a40 := by kernel_rfl

/- (*herald/heraldlaw16.sent).put -/
def r42_0 : List AOper := [⟨some 5, none, .op (.box (.tmp 2))⟩, ⟨some 6, none, .op (.mv (.const (.bool false)))⟩]
def r42_1 : List AOper := [⟨some 8, none, .op (.mv (.tmp 0))⟩, ⟨some 9, none, .op (.nilCheck (.tmp 8))⟩, ⟨some 10, none, .op (.fieldAddr (.tmp 9) 0)⟩, ⟨some 11, none, .op (.load1 (.tmp 10))⟩, ⟨some 12, none, .op (.lenSlice (.tmp 11))⟩, ⟨some 7, none, .op (.mv (.tmp 12))⟩]
def r42_2 : List AOper := [⟨some 13, none, .op (.mv (.tmp 1))⟩, ⟨some 14, none, .op (.mv (.tmp 7))⟩, ⟨some 15, none, .op (.bin .add (.tmp 14) (.const (.int .i64 1)))⟩, ⟨some 16, none, .op (.bin .neq (.tmp 13) (.tmp 15))⟩]
def r42_3 : List AOper := [⟨some 6, none, .op (.mv (.const (.bool false)))⟩]
def r42_4 : List AOper := [⟨some 17, none, .op (.mv (.tmp 0))⟩, ⟨some 18, none, .op (.mv (.tmp 0))⟩, ⟨some 19, none, .op (.nilCheck (.tmp 18))⟩, ⟨some 20, none, .op (.fieldAddr (.tmp 19) 0)⟩, ⟨some 21, none, .op (.load1 (.tmp 20))⟩, ⟨some 22, none, .op (.mv (.tmp 1))⟩, ⟨some 23, none, .op (.mkSlice 1 1 [.int .i64 0] [(0, 1, .tmp 22)])⟩, ⟨some 24, none, .op (.append false 1 8 (.tmp 21) (.tmp 23))⟩, ⟨some 25, none, .op (.nilCheck (.tmp 17))⟩, ⟨some 26, none, .op (.fieldAddr (.tmp 25) 0)⟩, ⟨none, none, .op (.store 1 (.tmp 26) (.tmp 24))⟩]
def d42_5 : List DOp := [⟨0, ⟨some 27, none, .op (.mv (.tmp 0))⟩, [0]⟩, ⟨1, ⟨some 28, none, .op (.mv (.tmp 0))⟩, [0]⟩, ⟨2, ⟨some 29, none, .op (.nilCheck (.tmp 28))⟩, [28]⟩, ⟨3, ⟨some 30, none, .op (.fieldAddr (.tmp 29) 1)⟩, [29]⟩, ⟨4, ⟨some 31, none, .op (.load1 (.tmp 30))⟩, [30]⟩, ⟨5, ⟨some 32, none, .op (.loadN 3 (.tmp 5))⟩, [5]⟩, ⟨6, ⟨some 33, none, .op (.mkSlice 3 1 [.int .i64 0, .int .i64 0, .string { data := #[] }] [(0, 3, .tmp 32)])⟩, [32]⟩, ⟨7, ⟨some 34, none, .op (.append false 3 32 (.tmp 31) (.tmp 33))⟩, [31, 33]⟩, ⟨8, ⟨some 35, none, .op (.nilCheck (.tmp 27))⟩, [27]⟩, ⟨9, ⟨some 36, none, .op (.fieldAddr (.tmp 35) 1)⟩, [35]⟩, ⟨10, ⟨none, none, .op (.store 1 (.tmp 36) (.tmp 34))⟩, [36, 34]⟩]
def r42_6 : List AOper := [⟨some 37, none, .op (.mv (.tmp 0))⟩, ⟨some 38, none, .op (.mv (.tmp 0))⟩, ⟨some 39, none, .op (.nilCheck (.tmp 38))⟩, ⟨some 40, none, .op (.fieldAddr (.tmp 39) 2)⟩, ⟨some 41, none, .op (.load1 (.tmp 40))⟩, ⟨some 42, none, .op (.mkSlice 1 1 [.bool false] [(0, 1, .const (.bool false))])⟩, ⟨some 43, none, .op (.append false 1 1 (.tmp 41) (.tmp 42))⟩, ⟨some 44, none, .op (.nilCheck (.tmp 37))⟩, ⟨some 45, none, .op (.fieldAddr (.tmp 44) 2)⟩, ⟨none, none, .op (.store 1 (.tmp 45) (.tmp 43))⟩]
def r42_7 : List AOper := [⟨some 6, none, .op (.mv (.const (.bool true)))⟩]
def a42 : AFn := ⟨46, (.seq (.region r42_0 [0, 1, 5]) (.seq (.region r42_1 [0, 1, 5, 7]) (.seq (.seq (.region r42_2 [0, 1, 5, 16]) (.cond (.tmp 16) (.seq (.region r42_3 [6]) .ret) .skip)) (.seq (.region r42_4 [0, 5]) (.seq (.regionD d42_5 [] [0]) (.seq (.region r42_6 []) (.seq (.region r42_7 [6]) .ret))))))), [.tmp 6]⟩
theorem a42_ok : compFn Try.prog Try.f42 [[0, 1, 5], [0, 1, 5, 7], [0, 1, 5, 16], [6], [0, 5], [0], [], [6]] = some a42 := by kernel_rfl

/- herald/heraldlaw16.act -/
def r43_0 : List AOper := [⟨some 3, none, .op (.box (.tmp 1))⟩, ⟨some 4, none, .op (.mv (.const (.slice none 0 0)))⟩]
def r43_1 : List AOper := [⟨some 5, none, .op (.fieldAddr (.tmp 3) 0)⟩, ⟨some 6, none, .op (.load1 (.tmp 5))⟩]
def r43_2 : List AOper := [⟨some 8, none, .op (.bin .eql (.tmp 6) (.const (.int .i64 1)))⟩, ⟨some 7, none, .op (.mv (.tmp 8))⟩]
def r43_3 : List AOper := [⟨some 9, none, .op (.mv (.tmp 0))⟩, ⟨some 10, none, .op (.fieldAddr (.tmp 3) 2)⟩, ⟨some 11, none, .op (.load1 (.tmp 10))⟩, ⟨some 12, none, .call (.func 14) [.tmp 11]⟩, ⟨some 13, none, .call (.func 16) [.tmp 9, .tmp 12]⟩, ⟨some 4, none, .op (.mv (.tmp 13))⟩]
def r43_4 : List AOper := [⟨some 15, none, .op (.bin .eql (.tmp 6) (.const (.int .i64 2)))⟩, ⟨some 14, none, .op (.mv (.tmp 15))⟩]
def r43_5 : List AOper := [⟨some 16, none, .op (.mv (.tmp 0))⟩, ⟨some 17, none, .op (.fieldAddr (.tmp 3) 3)⟩, ⟨some 18, none, .op (.load1 (.tmp 17))⟩, ⟨some 19, none, .call (.func 35) [.tmp 16, .tmp 18]⟩]
def r43_6 : List AOper := [⟨some 21, none, .op (.bin .eql (.tmp 6) (.const (.int .i64 3)))⟩, ⟨some 20, none, .op (.mv (.tmp 21))⟩]
def r43_7 : List AOper := [⟨some 22, none, .op (.mv (.tmp 0))⟩, ⟨some 23, none, .op (.fieldAddr (.tmp 3) 3)⟩, ⟨some 24, none, .op (.load1 (.tmp 23))⟩, ⟨some 25, none, .call (.func 17) [.tmp 22, .tmp 24]⟩]
def r43_8 : List AOper := [⟨some 27, none, .op (.bin .eql (.tmp 6) (.const (.int .i64 4)))⟩, ⟨some 26, none, .op (.mv (.tmp 27))⟩]
def r43_9 : List AOper := [⟨some 28, none, .op (.mv (.tmp 0))⟩, ⟨some 29, none, .op (.fieldAddr (.tmp 3) 3)⟩, ⟨some 30, none, .op (.load1 (.tmp 29))⟩, ⟨some 31, none, .op (.fieldAddr (.tmp 3) 4)⟩, ⟨some 32, none, .op (.load1 (.tmp 31))⟩, ⟨some 33, none, .op (.fieldAddr (.tmp 3) 5)⟩, ⟨some 34, none, .op (.load1 (.tmp 33))⟩, ⟨some 35, none, .call (.func 18) [.tmp 28, .tmp 30, .tmp 32, .tmp 34]⟩]
def r43_10 : List AOper := [⟨some 4, none, .op (.mv (.const (.slice none 0 0)))⟩]
def a43 : AFn := ⟨36, (.seq (.region r43_0 [0, 3]) (.seq (.seq (.region r43_1 [0, 3, 6]) (.block 0 (.seq (.region r43_2 [0, 3, 6, 7]) (.cond (.tmp 7) (.seq (.region r43_3 [4]) .ret) (.seq (.region r43_4 [0, 3, 6, 14]) (.cond (.tmp 14) (.region r43_5 []) (.seq (.region r43_6 [0, 3, 6, 20]) (.cond (.tmp 20) (.region r43_7 []) (.seq (.region r43_8 [0, 3, 26]) (.cond (.tmp 26) (.region r43_9 []) .skip)))))))))) (.seq (.region r43_10 [4]) .ret))), [.tmp 4]⟩
theorem a43_ok : compFn Try.prog Try.f43 [[0, 3], [0, 3, 6], [0, 3, 6, 7], [4], [0, 3, 6, 14], [], [0, 3, 6, 20], [], [0, 3, 26], [], [4]] = some a43 := by kernel_rfl

/- herald/heraldlaw16.kept -/
def r44_0 : List AOper := [⟨some 4, none, .op (.alloc [.slice none 0 0, .slice none 0 0, .int .i64 0])⟩]
def r44_1 : List AOper := [⟨some 5, none, .op (.mv (.const (.int .i64 0)))⟩]
def r44_2 : List AOper := [⟨some 8, none, .op (.mv (.tmp 5))⟩, ⟨some 9, none, .op (.mv (.tmp 0))⟩, ⟨some 10, none, .op (.lenSlice (.tmp 9))⟩, ⟨some 11, none, .op (.bin .lss (.tmp 8) (.tmp 10))⟩]
def r44_3 : List AOper := [⟨some 14, none, .op (.mv (.tmp 0))⟩, ⟨some 15, none, .op (.mv (.tmp 5))⟩, ⟨some 16, none, .op (.mv (.tmp 1))⟩, ⟨some 17, none, .op (.indexAddr 1 (.tmp 14) (.tmp 15))⟩, ⟨none, none, .op (.store 1 (.tmp 17) (.tmp 16))⟩]
def r44_4 : List AOper := [⟨some 12, none, .op (.mv (.tmp 5))⟩, ⟨some 13, none, .op (.bin .add (.tmp 12) (.const (.int .i64 1)))⟩, ⟨some 5, none, .op (.mv (.tmp 13))⟩]
def l44_5 : ACode := (.seq (.seq (.region r44_2 [0, 1, 4, 5, 11]) (.cond (.tmp 11) .skip (.exit 0))) (.seq (.block 1 (.region r44_3 [0, 1, 4, 5])) (.region r44_4 [0, 1, 4, 5])))
def r44_6 : List AOper := [⟨some 18, none, .op (.mv (.tmp 0))⟩, ⟨some 19, none, .op (.mv (.tmp 0))⟩, ⟨some 20, none, .op (.mv (.tmp 1))⟩, ⟨some 21, none, .op (.build [.slice none 0 0, .slice none 0 0, .int .i64 0] [(0, 1, .tmp 18), (1, 1, .tmp 19), (2, 1, .tmp 20)])⟩, ⟨some 6, none, .op (.alloc [.slice none 0 0, .slice none 0 0, .int .i64 0])⟩, ⟨none, none, .op (.store 3 (.tmp 6) (.tmp 21))⟩]
def r44_7 : List AOper := [⟨some 7, none, .op (.mv (.const (.int .i64 0)))⟩]
def r44_8 : List AOper := [⟨some 22, none, .op (.mv (.tmp 7))⟩, ⟨some 23, none, .op (.bin .lss (.tmp 22) (.const (.int .i64 64)))⟩]
def r44_9 : List AOper := [⟨some 26, none, .op (.fieldAddr (.tmp 6) 1)⟩, ⟨some 27, none, .op (.load1 (.tmp 26))⟩, ⟨some 28, none, .op (.mv (.tmp 1))⟩, ⟨some 29, none, .op (.bin .sub (.tmp 28) (.const (.int .i64 1)))⟩, ⟨some 30, none, .op (.mv (.tmp 7))⟩, ⟨some 31, none, .op (.bin .sub (.tmp 29) (.tmp 30))⟩, ⟨some 32, none, .op (.mkSlice 1 1 [.int .i64 0] [(0, 1, .tmp 31)])⟩, ⟨some 33, none, .op (.append false 1 8 (.tmp 27) (.tmp 32))⟩, ⟨some 34, none, .op (.fieldAddr (.tmp 6) 1)⟩, ⟨none, none, .op (.store 1 (.tmp 34) (.tmp 33))⟩]
def r44_10 : List AOper := [⟨some 24, none, .op (.mv (.tmp 7))⟩, ⟨some 25, none, .op (.bin .add (.tmp 24) (.const (.int .i64 1)))⟩, ⟨some 7, none, .op (.mv (.tmp 25))⟩]
def l44_11 : ACode := (.seq (.seq (.region r44_8 [1, 4, 6, 7, 23]) (.cond (.tmp 23) .skip (.exit 2))) (.seq (.block 3 (.region r44_9 [1, 4, 6, 7])) (.region r44_10 [1, 4, 6, 7])))
def r44_12 : List AOper := [⟨some 35, none, .op (.loadN 3 (.tmp 6))⟩, ⟨none, none, .op (.store 3 (.tmp 4) (.tmp 35))⟩]
def a44 : AFn := ⟨36, (.seq (.region r44_0 [0, 1, 4]) (.seq (.seq (.region r44_1 [0, 1, 4, 5]) (.block 0 (.loop [0, 1, 4, 5] l44_5))) (.seq (.region r44_6 [1, 4, 6]) (.seq (.seq (.region r44_7 [1, 4, 6, 7]) (.block 2 (.loop [1, 4, 6, 7] l44_11))) (.seq (.region r44_12 [4]) .ret))))), [.cellN 4 3]⟩
theorem a44_ok : compFn Try.prog Try.f44 [[0, 1, 4], [0, 1, 4, 5], [0, 1, 4, 5], [0, 1, 4, 5, 11], [0, 1, 4, 5], [0, 1, 4, 5], [1, 4, 6], [1, 4, 6, 7], [1, 4, 6, 7], [1, 4, 6, 7, 23], [1, 4, 6, 7], [1, 4, 6, 7], [4]] = some a44 := by kernel_rfl

/- herald/heraldlaw16.still -/
def r45_0 : List AOper := [⟨some 2, none, .op (.mv (.const (.bool false)))⟩]
def r45_1 : List AOper := [⟨some 3, none, .op (.mv (.const (.int .i64 0)))⟩]
def r45_2 : List AOper := [⟨some 8, none, .op (.mv (.tmp 3))⟩, ⟨some 9, none, .op (.mv (.tmp 0))⟩, ⟨some 10, none, .op (.lenSlice (.tmp 9))⟩, ⟨some 11, none, .op (.bin .lss (.tmp 8) (.tmp 10))⟩]
def r45_3 : List AOper := [⟨some 14, none, .op (.mv (.tmp 0))⟩, ⟨some 15, none, .op (.mv (.tmp 3))⟩, ⟨some 16, none, .op (.indexAddr 3 (.tmp 14) (.tmp 15))⟩, ⟨some 17, none, .op (.loadN 3 (.tmp 16))⟩, ⟨some 4, none, .op (.alloc [.slice none 0 0, .slice none 0 0, .int .i64 0])⟩, ⟨none, none, .op (.store 3 (.tmp 4) (.tmp 17))⟩]
def r45_4 : List AOper := [⟨some 18, none, .op (.fieldAddr (.tmp 4) 0)⟩, ⟨some 19, none, .op (.load1 (.tmp 18))⟩, ⟨some 20, none, .op (.lenSlice (.tmp 19))⟩, ⟨some 5, none, .op (.mv (.tmp 20))⟩]
def r45_5 : List AOper := [⟨some 6, none, .op (.mv (.const (.int .i64 0)))⟩]
def r45_6 : List AOper := [⟨some 21, none, .op (.mv (.tmp 6))⟩, ⟨some 22, none, .op (.fieldAddr (.tmp 4) 1)⟩, ⟨some 23, none, .op (.load1 (.tmp 22))⟩, ⟨some 24, none, .op (.lenSlice (.tmp 23))⟩, ⟨some 25, none, .op (.bin .lss (.tmp 21) (.tmp 24))⟩]
def r45_7 : List AOper := [⟨some 28, none, .op (.fieldAddr (.tmp 4) 2)⟩, ⟨some 29, none, .op (.load1 (.tmp 28))⟩, ⟨some 7, none, .op (.mv (.tmp 29))⟩]
def r45_8 : List AOper := [⟨some 30, none, .op (.mv (.tmp 6))⟩, ⟨some 31, none, .op (.mv (.tmp 5))⟩, ⟨some 32, none, .op (.bin .geq (.tmp 30) (.tmp 31))⟩]
def r45_9 : List AOper := [⟨some 33, none, .op (.fieldAddr (.tmp 4) 2)⟩, ⟨some 34, none, .op (.load1 (.tmp 33))⟩, ⟨some 35, none, .op (.bin .sub (.tmp 34) (.const (.int .i64 1)))⟩, ⟨some 36, none, .op (.mv (.tmp 6))⟩, ⟨some 37, none, .op (.bin .sub (.tmp 35) (.tmp 36))⟩, ⟨some 38, none, .op (.mv (.tmp 5))⟩, ⟨some 39, none, .op (.bin .add (.tmp 37) (.tmp 38))⟩, ⟨some 7, none, .op (.mv (.tmp 39))⟩]
def r45_10 : List AOper := [⟨some 40, none, .op (.fieldAddr (.tmp 4) 1)⟩, ⟨some 41, none, .op (.load1 (.tmp 40))⟩, ⟨some 42, none, .op (.mv (.tmp 6))⟩, ⟨some 43, none, .op (.indexAddr 1 (.tmp 41) (.tmp 42))⟩, ⟨some 44, none, .op (.load1 (.tmp 43))⟩, ⟨some 45, none, .op (.mv (.tmp 7))⟩, ⟨some 46, none, .op (.bin .neq (.tmp 44) (.tmp 45))⟩, ⟨some 47, none, .op (.mv (.tmp 46))⟩, ⟨some 48, some (47, false), .op (.mv (.tmp 6))⟩, ⟨some 49, some (47, false), .op (.mv (.tmp 5))⟩, ⟨some 50, some (47, false), .op (.bin .lss (.tmp 48) (.tmp 49))⟩, ⟨some 51, some (47, false), .op (.mv (.tmp 50))⟩, ⟨some 52, some (51, true), .op (.fieldAddr (.tmp 4) 0)⟩, ⟨some 53, some (51, true), .op (.load1 (.tmp 52))⟩, ⟨some 54, some (51, true), .op (.mv (.tmp 6))⟩, ⟨some 55, some (51, true), .op (.indexAddr 1 (.tmp 53) (.tmp 54))⟩, ⟨some 56, some (51, true), .op (.load1 (.tmp 55))⟩, ⟨some 57, some (51, true), .op (.mv (.tmp 7))⟩, ⟨some 58, some (51, true), .op (.bin .neq (.tmp 56) (.tmp 57))⟩, ⟨some 59, some (47, false), .op (.pick (.tmp 51) (.tmp 58) (.const (.bool false)))⟩, ⟨some 60, none, .op (.pick (.tmp 47) (.const (.bool true)) (.tmp 59))⟩]
def r45_11 : List AOper := [⟨some 2, none, .op (.mv (.const (.bool false)))⟩]
def r45_12 : List AOper := [⟨some 26, none, .op (.mv (.tmp 6))⟩, ⟨some 27, none, .op (.bin .add (.tmp 26) (.const (.int .i64 1)))⟩, ⟨some 6, none, .op (.mv (.tmp 27))⟩]
def l45_13 : ACode := (.seq (.seq (.region r45_6 [0, 3, 4, 5, 6, 25]) (.cond (.tmp 25) .skip (.exit 2))) (.seq (.block 3 (.seq (.region r45_7 [0, 3, 4, 5, 6, 7]) (.seq (.seq (.region r45_8 [0, 3, 4, 5, 6, 7, 32]) (.cond (.tmp 32) (.region r45_9 [0, 3, 4, 5, 6, 7]) .skip)) (.seq (.region r45_10 [0, 3, 4, 5, 6, 60]) (.cond (.tmp 60) (.seq (.region r45_11 [2]) .ret) .skip))))) (.region r45_12 [0, 3, 4, 5, 6])))
def r45_14 : List AOper := [⟨some 12, none, .op (.mv (.tmp 3))⟩, ⟨some 13, none, .op (.bin .add (.tmp 12) (.const (.int .i64 1)))⟩, ⟨some 3, none, .op (.mv (.tmp 13))⟩]
def l45_15 : ACode := (.seq (.seq (.region r45_2 [0, 3, 11]) (.cond (.tmp 11) .skip (.exit 0))) (.seq (.block 1 (.seq (.region r45_3 [0, 3, 4]) (.seq (.region r45_4 [0, 3, 4, 5]) (.seq (.region r45_5 [0, 3, 4, 5, 6]) (.block 2 (.loop [0, 3, 4, 5, 6] l45_13)))))) (.region r45_14 [0, 3])))
def r45_16 : List AOper := [⟨some 2, none, .op (.mv (.const (.bool true)))⟩]
def a45 : AFn := ⟨61, (.seq (.region r45_0 [0]) (.seq (.seq (.region r45_1 [0, 3]) (.block 0 (.loop [0, 3] l45_15))) (.seq (.region r45_16 [2]) .ret))), [.tmp 2]⟩
theorem a45_ok : compFn Try.prog Try.f45 [[0], [0, 3], [0, 3], [0, 3, 11], [0, 3, 4], [0, 3, 4, 5], [0, 3, 4, 5, 6], [0, 3, 4, 5, 6], [0, 3, 4, 5, 6, 25], [0, 3, 4, 5, 6, 7], [0, 3, 4, 5, 6, 7, 32], [0, 3, 4, 5, 6, 7], [0, 3, 4, 5, 6, 60], [2], [0, 3, 4, 5, 6], [0, 3], [2]] = some a45 := by kernel_rfl

/- herald/heraldlaw16.copied -/
def r46_0 : List AOper := [⟨some 2, none, .op (.mv (.const (.slice none 0 0)))⟩]
def r46_1 : List AOper := [⟨some 3, none, .op (.mv (.const (.slice none 0 0)))⟩]
def r46_2 : List AOper := [⟨some 4, none, .op (.mv (.tmp 3))⟩, ⟨some 5, none, .op (.mv (.tmp 0))⟩, ⟨some 6, none, .op (.append false 1 8 (.tmp 4) (.tmp 5))⟩, ⟨some 3, none, .op (.mv (.tmp 6))⟩]
def r46_3 : List AOper := [⟨some 7, none, .op (.mv (.tmp 3))⟩, ⟨some 2, none, .op (.mv (.tmp 7))⟩]
def a46 : AFn := ⟨8, (.seq (.region r46_0 [0]) (.seq (.region r46_1 [0, 3]) (.seq (.region r46_2 [3]) (.seq (.region r46_3 [2]) .ret)))), [.tmp 2]⟩
theorem a46_ok : compFn Try.prog Try.f46 [[0], [0, 3], [3], [2]] = some a46 := by kernel_rfl

/- herald/heraldref16.put -/
def r47_0 : List AOper := [⟨some 3, none, .op (.box (.tmp 0))⟩, ⟨some 4, none, .op (.box (.tmp 1))⟩, ⟨some 6, none, .op (.alloc [.slice none 0 0, .int .i64 0, .bool false])⟩, ⟨some 7, none, .op (.mv (.const (.int .i64 0)))⟩]
def r47_1 : List AOper := [⟨some 10, none, .op (.fieldAddr (.tmp 3) 2)⟩, ⟨some 11, none, .op (.load1 (.tmp 10))⟩, ⟨some 12, none, .op (.mv (.tmp 11))⟩, ⟨some 13, some (12, false), .op (.fieldAddr (.tmp 3) 0)⟩, ⟨some 14, some (12, false), .op (.load1 (.tmp 13))⟩, ⟨some 15, some (12, false), .op (.lenSlice (.tmp 14))⟩, ⟨some 16, some (12, false), .op (.bin .geq (.tmp 15) (.const (.int .i64 256)))⟩, ⟨some 17, none, .op (.pick (.tmp 12) (.const (.bool true)) (.tmp 16))⟩]
def r47_2 : List AOper := [⟨some 18, none, .op (.loadN 3 (.tmp 3))⟩, ⟨none, none, .op (.store 3 (.tmp 6) (.tmp 18))⟩, ⟨some 7, none, .op (.mv (.const (.int .i64 (-1))))⟩]
def r47_3 : List AOper := [⟨some 19, none, .op (.fieldAddr (.tmp 3) 1)⟩, ⟨some 20, none, .op (.load1 (.tmp 19))⟩, ⟨some 21, none, .op (.bin .add (.tmp 20) (.const (.int .i64 1)))⟩, ⟨some 22, none, .op (.build [.slice none 0 0, .int .i64 0, .bool false] [(1, 1, .tmp 21)])⟩, ⟨some 8, none, .op (.alloc [.slice none 0 0, .int .i64 0, .bool false])⟩, ⟨none, none, .op (.store 3 (.tmp 8) (.tmp 22))⟩]
def r47_4 : List AOper := [⟨some 9, none, .op (.mv (.const (.int .i64 0)))⟩]
def r47_5 : List AOper := [⟨some 23, none, .op (.mv (.tmp 9))⟩, ⟨some 24, none, .op (.fieldAddr (.tmp 3) 0)⟩, ⟨some 25, none, .op (.load1 (.tmp 24))⟩, ⟨some 26, none, .op (.lenSlice (.tmp 25))⟩, ⟨some 27, none, .op (.bin .lss (.tmp 23) (.tmp 26))⟩]
def d47_6 : List DOp := [⟨0, ⟨some 30, none, .op (.fieldAddr (.tmp 8) 0)⟩, [8]⟩, ⟨1, ⟨some 31, none, .op (.load1 (.tmp 30))⟩, [30]⟩, ⟨2, ⟨some 32, none, .op (.fieldAddr (.tmp 3) 0)⟩, [3]⟩, ⟨3, ⟨some 33, none, .op (.load1 (.tmp 32))⟩, [32]⟩, ⟨4, ⟨some 34, none, .op (.mv (.tmp 9))⟩, [9]⟩, ⟨5, ⟨some 35, none, .op (.indexAddr 5 (.tmp 33) (.tmp 34))⟩, [33, 34]⟩, ⟨6, ⟨some 36, none, .op (.loadN 5 (.tmp 35))⟩, [35]⟩, ⟨7, ⟨some 37, none, .op (.mkSlice 5 1 [.int .i64 0, .int .i64 0, .int .i64 0, .string { data := #[] }, .bool false] [(0, 5, .tmp 36)])⟩, [36]⟩, ⟨8, ⟨some 38, none, .op (.append false 5 48 (.tmp 31) (.tmp 37))⟩, [31, 37]⟩, ⟨9, ⟨some 39, none, .op (.fieldAddr (.tmp 8) 0)⟩, [8]⟩, ⟨10, ⟨none, none, .op (.store 1 (.tmp 39) (.tmp 38))⟩, [39, 38]⟩]
def r47_7 : List AOper := [⟨some 28, none, .op (.mv (.tmp 9))⟩, ⟨some 29, none, .op (.bin .add (.tmp 28) (.const (.int .i64 1)))⟩, ⟨some 9, none, .op (.mv (.tmp 29))⟩]
def l47_8 : ACode := (.seq (.seq (.region r47_5 [2, 3, 4, 6, 8, 9, 27]) (.cond (.tmp 27) .skip (.exit 0))) (.seq (.block 1 (.regionD d47_6 [] [2, 3, 4, 6, 8, 9])) (.region r47_7 [2, 3, 4, 6, 8, 9])))
def r47_9 : List AOper := [⟨some 40, none, .op (.fieldAddr (.tmp 8) 0)⟩, ⟨some 41, none, .op (.load1 (.tmp 40))⟩, ⟨some 42, none, .op (.fieldAddr (.tmp 8) 1)⟩, ⟨some 43, none, .op (.load1 (.tmp 42))⟩, ⟨some 44, none, .op (.loadN 3 (.tmp 4))⟩, ⟨some 45, none, .op (.mv (.tmp 2))⟩, ⟨some 46, none, .op (.build [.int .i64 0, .int .i64 0, .int .i64 0, .string { data := #[] }, .bool false] [(0, 1, .tmp 43), (1, 3, .tmp 44), (4, 1, .tmp 45)])⟩, ⟨some 47, none, .op (.mkSlice 5 1 [.int .i64 0, .int .i64 0, .int .i64 0, .string { data := #[] }, .bool false] [(0, 5, .tmp 46)])⟩, ⟨some 48, none, .op (.append false 5 48 (.tmp 41) (.tmp 47))⟩, ⟨some 49, none, .op (.fieldAddr (.tmp 8) 0)⟩, ⟨none, none, .op (.store 1 (.tmp 49) (.tmp 48))⟩]
def d47_10 : List DOp := [⟨0, ⟨some 50, none, .op (.loadN 3 (.tmp 8))⟩, [8]⟩, ⟨1, ⟨some 51, none, .op (.fieldAddr (.tmp 8) 1)⟩, [8]⟩, ⟨2, ⟨some 52, none, .op (.load1 (.tmp 51))⟩, [51]⟩, ⟨3, ⟨none, none, .op (.store 3 (.tmp 6) (.tmp 50))⟩, [6, 50]⟩, ⟨4, ⟨some 7, none, .op (.mv (.tmp 52))⟩, [52]⟩]
def a47 : AFn := ⟨53, (.seq (.region r47_0 [2, 3, 4, 6]) (.seq (.seq (.region r47_1 [2, 3, 4, 6, 17]) (.cond (.tmp 17) (.seq (.region r47_2 [6, 7]) .ret) .skip)) (.seq (.region r47_3 [2, 3, 4, 6, 8]) (.seq (.seq (.region r47_4 [2, 3, 4, 6, 8, 9]) (.block 0 (.loop [2, 3, 4, 6, 8, 9] l47_8))) (.seq (.region r47_9 [6, 8]) (.seq (.regionD d47_10 [(2, [5])] [6, 7]) .ret)))))), [.cellN 6 3, .tmp 7]⟩
theorem a47_ok : compFn Try.prog Try.f47 [[2, 3, 4, 6], [2, 3, 4, 6, 17], [6, 7], [2, 3, 4, 6, 8], [2, 3, 4, 6, 8, 9], [2, 3, 4, 6, 8, 9], [2, 3, 4, 6, 8, 9, 27], [2, 3, 4, 6, 8, 9], [2, 3, 4, 6, 8, 9], [6, 8], [6, 7]] = some a47 := by kernel_rfl

/- herald/heraldref16.find -/
def r48_0 : List AOper := [⟨some 2, none, .op (.box (.tmp 0))⟩, ⟨some 4, none, .op (.mv (.const (.int .i64 0)))⟩]
def r48_1 : List AOper := [⟨some 5, none, .op (.mv (.const (.int .i64 0)))⟩]
def r48_2 : List AOper := [⟨some 6, none, .op (.mv (.tmp 5))⟩, ⟨some 7, none, .op (.fieldAddr (.tmp 2) 0)⟩, ⟨some 8, none, .op (.load1 (.tmp 7))⟩, ⟨some 9, none, .op (.lenSlice (.tmp 8))⟩, ⟨some 10, none, .op (.bin .lss (.tmp 6) (.tmp 9))⟩]
def r48_3 : List AOper := [⟨some 13, none, .op (.fieldAddr (.tmp 2) 0)⟩, ⟨some 14, none, .op (.load1 (.tmp 13))⟩, ⟨some 15, none, .op (.mv (.tmp 5))⟩, ⟨some 16, none, .op (.indexAddr 5 (.tmp 14) (.tmp 15))⟩, ⟨some 17, none, .op (.fieldAddr (.tmp 16) 0)⟩, ⟨some 18, none, .op (.load1 (.tmp 17))⟩, ⟨some 19, none, .op (.mv (.tmp 1))⟩, ⟨some 20, none, .op (.bin .eql (.tmp 18) (.tmp 19))⟩]
def r48_4 : List AOper := [⟨some 21, none, .op (.mv (.tmp 5))⟩, ⟨some 4, none, .op (.mv (.tmp 21))⟩]
def r48_5 : List AOper := [⟨some 11, none, .op (.mv (.tmp 5))⟩, ⟨some 12, none, .op (.bin .add (.tmp 11) (.const (.int .i64 1)))⟩, ⟨some 5, none, .op (.mv (.tmp 12))⟩]
def l48_6 : ACode := (.seq (.seq (.region r48_2 [1, 2, 5, 10]) (.cond (.tmp 10) .skip (.exit 0))) (.seq (.block 1 (.seq (.region r48_3 [1, 2, 5, 20]) (.cond (.tmp 20) (.seq (.region r48_4 [4]) .ret) .skip))) (.region r48_5 [1, 2, 5])))
def r48_7 : List AOper := [⟨some 4, none, .op (.mv (.const (.int .i64 (-1))))⟩]
def a48 : AFn := ⟨22, (.seq (.region r48_0 [1, 2]) (.seq (.seq (.region r48_1 [1, 2, 5]) (.block 0 (.loop [1, 2, 5] l48_6))) (.seq (.region r48_7 [4]) .ret))), [.tmp 4]⟩
theorem a48_ok : compFn Try.prog Try.f48 [[1, 2], [1, 2, 5], [1, 2, 5], [1, 2, 5, 10], [1, 2, 5, 20], [4], [1, 2, 5], [4]] = some a48 := by kernel_rfl


end Go.Proofs.Ytmenfnapbggglaa

/- Numbers: the walk through its loop over the map, up to the library's sort. -/
set_option linter.unusedSimpArgs false
set_option linter.unusedVariables false
namespace Go.Proofs.Ytmenfnapbggglaa
open Go.ChangeShapes Go.WideShapes Go.ChangeAt Go.RowKit Go.Kit Go.Deep Go.Maps Go.WideElems Go.Sort

theorem Try.info3' : (Try.prog.info? 3).map (fun i => (i.zero, i.size, i.bytes)) = some (some (.int .i64 0), 1, 8) := by kernel_rfl

/-- What sorts the numbers: the library's own. -/
structure Sorts : Prop where
  some' : ∀ (blk off cap : Nat) (zs : List Int) (w : World), Holds (Value.int .i64) w blk off zs.toArray → blk < w.heap.size → zs.length < 4611686018427387904 →
    Calls Try.prog 41 #[.slice (some ⟨blk, off, none⟩) zs.length cap] w fun e w' => e = .returned (.tuple #[]) ∧ ∃ n os, w' = grow (putRow (Value.int .i64) (Sort.ahead w n) blk off (zs.mergeSort fun x y => decide (x ≤ y)).toArray) os
  none' : ∀ (p : Option Addr) (cap : Nat) (w : World), Calls Try.prog 41 #[.slice p 0 cap] w fun e w' => e = .returned (.tuple #[]) ∧ w' = w

abbrev anyR : Value → Option (DataW Unit × List MemPlace) := fun _ => some (.nil, [])

/-- The keys met so far. -/
def Coll (D0 : DataW Unit) (left : Lit → Bool) (ks : List Int) : Prop := ks.Nodup ∧ ∀ x, x ∈ ks ↔ (has D0 (.int .i64 x) = true ∧ left (.int .i64 x) = false)

theorem Coll.start (D0 : DataW Unit) : Coll D0 (has D0) [] := ⟨List.nodup_nil, fun x => by cases has D0 (.int .i64 x) <;> simp⟩

theorem Coll.step {D0 : DataW Unit} {left : Lit → Bool} {ks : List Int} (h : Coll D0 left ks) {x : Int} (hlk : left (.int .i64 x) = true) (hhas : has D0 (.int .i64 x) = true) : Coll D0 (fun z => left z && !z.sameKey (.int .i64 x)) (ks ++ [x]) := by
  have hnew : x ∉ ks := fun hx => by have := ((h.2 x).1 hx).2; rw [hlk] at this; cases this
  refine ⟨List.nodup_append.2 ⟨h.1, by simp, fun a ha b hb => by simp at hb; subst hb; exact fun e => hnew (e ▸ ha)⟩, fun y => ?_⟩
  by_cases hy : y = x
  · subst hy; simp [hhas, Lit.sameKey]
  · simp [h.2 y, hy, Lit.sameKey]

theorem sort_perm {l l' : List Int} (h : l.Perm l') : (l.mergeSort fun x y => decide (x ≤ y)) = (l'.mergeSort fun x y => decide (x ≤ y)) := by
  have tr : ∀ a b c : Int, decide (a ≤ b) = true → decide (b ≤ c) = true → decide (a ≤ c) = true := fun a b c h1 h2 => by simp only [decide_eq_true_eq] at *; omega
  have to : ∀ a b : Int, (decide (a ≤ b) || decide (b ≤ a)) = true := fun a b => by simp only [Bool.or_eq_true, decide_eq_true_eq]; omega
  refine List.Perm.eq_of_pairwise (le := fun a b => decide (a ≤ b) = true) (fun a b _ _ h1 h2 => ?_) (List.pairwise_mergeSort tr to l) (List.pairwise_mergeSort tr to l') (((List.mergeSort_perm l _).trans h).trans (List.mergeSort_perm l' _).symm)
  simp only [decide_eq_true_eq] at h1 h2
  omega

theorem fit_of {es : Array MapEntry} {clock : Nat} {K0 : List Int} (hk : es.toList.map (·.key) = K0.map (Value.int .i64)) (hn : K0.Nodup) (hr : ∀ n ∈ K0, 0 ≤ n ∧ n ≤ 1000000000) (hlen : K0.length ≤ 1000000) (h1 : ∀ x ∈ es.toList, x.born < clock) (h2 : (es.toList.map (·.born)).Nodup) : Fit Try.prog 3 anyR es clock := by
  have hsz : es.size = K0.length := by have := congrArg List.length hk; simpa using this
  refine ⟨by unfold maxLen; omega, ⟨h1, h2, ?_⟩, ?_⟩
  · rw [hk]
    unfold List.Nodup
    rw [List.pairwise_map]
    exact hn.imp fun hne e => hne (by injection e)
  · intro x hx
    have : x.key ∈ K0.map (Value.int .i64) := by rw [← hk]; exact List.mem_map.2 ⟨x, hx, rfl⟩
    obtain ⟨n, hn', e⟩ := List.mem_map.1 this
    have hrn := hr n hn'
    refine ⟨(.int .i64 n, .nil), ?_⟩
    have hwf : (Lit.int .i64 n).wf = true := by
      simp only [Lit.wf, IntKind.min, IntKind.max, IntKind.signed, IntKind.bits, Bool.and_eq_true, decide_eq_true_eq]
      constructor
      · have : (-(2 ^ (64 - 1)) : Int) = -9223372036854775808 := rfl
        simp
        omega
      · have : (2 ^ (64 - 1) - 1 : Int) = 9223372036854775807 := rfl
        simp
        omega
    rw [rd, ← e, keyOf_int_mk Try.underlying3 hwf]
    rfl

set_option maxRecDepth 100000 in
/-- Which keys the map has. -/
theorem has_iff {es : Array MapEntry} {clock : Nat} (F : Fit Try.prog 3 anyR es clock) {K0 : List Int} (hk : es.toList.map (·.key) = K0.map (Value.int .i64)) (x : Int) : has (DataW.map ((es.toList.map (rg Try.prog 3 anyR)).foldr DataW.insert [])) (.int .i64 x) = true ↔ x ∈ K0 := by
  rw [has_eq, List.any_eq_true]
  constructor
  · rintro ⟨p, hp, hs⟩
    obtain ⟨e, he, rfl⟩ := List.mem_map.1 (mem_sorted.1 hp)
    obtain ⟨y, hy⟩ := F.reads e he
    rw [rg_of hy] at hs
    have h1 := rd_key hy
    obtain ⟨z, hz1, hz2, _⟩ := keyOf_int_inv Try.underlying3 h1
    rw [hz2] at hs
    have hzx : z = x := by simpa [Lit.sameKey] using hs
    have : e.key ∈ K0.map (Value.int .i64) := by rw [← hk]; exact List.mem_map.2 ⟨e, he, rfl⟩
    rw [hz1] at this
    obtain ⟨n, hn, e2⟩ := List.mem_map.1 this
    injection e2 with _ e2
    rw [← hzx, ← e2]
    exact hn
  · intro hx
    have : (Value.int .i64 x) ∈ es.toList.map (·.key) := by rw [hk]; exact List.mem_map.2 ⟨x, hx, rfl⟩
    obtain ⟨e, he, e2⟩ := List.mem_map.1 this
    obtain ⟨y, hy⟩ := F.reads e he
    refine ⟨rg Try.prog 3 anyR e, mem_sorted.2 (List.mem_map.2 ⟨e, he, rfl⟩), ?_⟩
    rw [rg_of hy]
    have h1 := rd_key hy
    obtain ⟨z, hz1, hz2, _⟩ := keyOf_int_inv Try.underlying3 h1
    rw [e2] at hz1
    injection hz1 with _ hz1
    rw [hz2, ← hz1]
    simp [Lit.sameKey]

def NumPost (W : World) (K0 : List Int) : Ending → World → Prop := fun e w' =>
  ∃ v, e = .returned v ∧ w'.ownsRow W.heap.size 3 1 v K0.length ((K0.mergeSort fun x y => decide (x ≤ y)).map (Value.int .i64)) ∧ (K0 = [] → v = .slice none 0 0) ∧ W.grownBy w' none

theorem iter_row {w : World} {b r n : Nat} {D : DataW Unit} {left : Lit → Bool} {cnt : Nat} {base : Nat} {v : Value} {m : Nat} {xs : List Value} (h : w.ranges Try.prog 3 anyR b r n D left cnt) (o : w.ownsRow base 3 1 v m xs) : ∀ g, v.ownBlock = some g → g ≠ r := by
  intro g hg e
  subst e
  obtain ⟨_, _, _, _, _, _, _, _, _, hit, _⟩ := h
  rcases o.2 with ⟨rfl, _⟩ | ⟨g', cap, cur, rfl, _, hb, _⟩
  · cases hg
  · cases hg
    rw [hit] at hb
    cases hb

set_option maxRecDepth 1000000 in
set_option maxHeartbeats 3200000 in
theorem numbers_walk (S : Sorts) {W : World} {a : Addr} (bm : Nat) {es : Array MapEntry} {clock : Nat} {K0 : List Int} (hl : W.cell? a = some (.map (some bm))) (hb : W.heap[bm]? = some (.map es clock))
    (hk : es.toList.map (·.key) = K0.map (Value.int .i64)) (hn : K0.Nodup) (hr : ∀ n ∈ K0, 0 ≤ n ∧ n ≤ 1000000000) (hlen : K0.length ≤ 1000000) (h1 : ∀ x ∈ es.toList, x.born < clock) (h2 : (es.toList.map (·.born)).Nodup) :
    Calls Try.prog 26 #[.pointer (some a)] W (NumPost W K0) := by
  have F := fit_of hk hn hr hlen h1 h2
  have hsz : es.size = K0.length := by have := congrArg List.length hk; simpa using this
  obtain ⟨D0, hD0⟩ : ∃ D0, D0 = DataW.map ((es.toList.map (rg Try.prog 3 anyR)).foldr DataW.insert []) := ⟨_, rfl⟩
  have hown : W.ownsMap Try.prog 3 anyR bm K0.length D0 := ⟨es, clock, hb, F, by omega, hD0⟩
  have hhas : ∀ x, has D0 (.int .i64 x) = true ↔ x ∈ K0 := by rw [hD0]; exact has_iff F hk
  have hsize : Maps.size D0 = K0.length := by rw [hD0]; simp [Maps.size, length_sorted, hsz]
  obtain ⟨i0, hi, hz0, hz1, hz2⟩ := info_parts Try.info3'
  have HH : Hid (∀ x, has D0 (.int .i64 x) = true ↔ x ∈ K0) := hhas
  have HN : Hid K0.Nodup := hn
  have HS : Hid (Maps.size D0 = K0.length) := hsize
  have HL : Hid (K0.length ≤ 1000000) := hlen
  have HB : Hid (bm < W.heap.size) := hown.lt
  clear hb hD0 F hk hhas hn hsize hlen hr h1 h2 hsz
  go_enter Try.func26, Try.ntmps26
  go_wp2_with (first
    | (at_range; refine wpList_range_own _ rfl _ 43 rfl 3 _ (int_keyed Try.underlying3) Try.underlying43 _ bm K0.length D0 rfl hown ?_; intro w0 hrg0 hg0 hs0)
    | go_in)
  go_frame
  go_loopw [3] (fun v wr => ∃ (left : Lit → Bool) (cnt : Nat) (ks : List Int), wr.ranges Try.prog 3 anyR bm W.heap.size K0.length D0 left cnt ∧
      wr.ownsRow W.heap.size 3 1 v ks.length (ks.map (Value.int .i64)) ∧ Hid (Coll D0 left ks) ∧ Hid (ks.length + cnt ≤ K0.length) ∧ Hid (ks = [] → v = .slice none 0 0) ∧ W.grownBy wr none)
    (fun _ wr => wr.rangeLeft bm W.heap.size)
  case atStart =>
    exact ⟨_, _, [], hrg0, World.ownsRow_nil _ _ _ _, Coll.start _, (by show _ ≤ _; rw [HS.out]; simp), (fun _ => rfl), hg0⟩
  case round =>
    obtain ⟨left, cnt, ks, hrg, hrow, hC, hlen2, HE, hg⟩ := hrel
    go_wp2_with (first
      | (at_next; refine wpList_next_ranges _ rfl _ rfl 3 (int_keyed Try.underlying3) anyR (Value.int .i64) id (fun key kl h => by obtain ⟨x, hx, _⟩ := keyOf_int_inv Try.underlying3 h; exact ⟨x, hx⟩) (fun v y _ => ⟨v, rfl⟩) bm W.heap.size K0.length _ _ _ rfl hrg ?_ ?_)
      | go_in)
    · intro hc0 hl0
      have HPm : Hid (ks.Perm K0) := (List.perm_ext_iff_of_nodup hC.out.1 HN.out).2 fun x => by rw [hC.out.2 x, hl0, ← HH.out x]; simp
      clear hl0 hC hlen2
      rcases hrow.2 with ⟨hnil, hk0⟩ | ⟨g, cap, cur, hv, hbase, hbg, e1, e2, e3, e4⟩
      · subst hnil
        obtain rfl : ks = [] := List.eq_nil_of_length_eq_zero hk0
        clear hrg
        go_wp2_with (go_at_call 41; refine (S.none' none 0 _).mono ?_; rintro e w' ⟨rfl, rfl⟩)
        go_ret
        refine ⟨_, rfl, ?_, fun _ => rfl, hg⟩
        rw [← sort_perm HPm.out, ← HPm.out.length_eq]
        simpa using hrow
      · subst hv
        have hH : Holds (Value.int .i64) wr g 0 ks.toArray := holds_of_blockI hbg (by simpa using e4)
        have hgl : g < wr.heap.size := (Array.getElem?_eq_some_iff.1 hbg).1
        have hsort := S.some' g 0 cap ks wr hH hgl (by have := HPm.out.length_eq; have := HL.out; omega)
        clear hrg hH
        go_wp2_with (go_at_call 41; refine hsort.mono ?_; rintro e w' ⟨rfl, nn, os, rfl⟩)
        go_ret
        have hl2 : (ks.mergeSort fun x y => decide (x ≤ y)).length = ks.length := List.length_mergeSort ks
        have hgs := grownBy_sortedI (w := wr) (g := g) (n := nn) (os := os) (ks.mergeSort fun x y => decide (x ≤ y)).toArray
        have hro := ownsRow_sortedI (n := nn) (os := os) (ts := ks.mergeSort fun x y => decide (x ≤ y)) hl2 hbase hbg e1 e2 e3
        refine ⟨_, rfl, ?_, fun e0 => HE.out (by have := HPm.out; rw [e0] at this; exact this.eq_nil), hg.andThen hgs (fun j hj => by cases hj; exact .inl hbase)⟩
        rw [← sort_perm HPm.out, ← HPm.out.length_eq]
        exact hro
    · intro x c kl y1 y2 w1 cnt1 hkx hlx hRy1 hRy2 hat hrg1 hlt hg1 hs1 hen
      obtain ⟨z, hz, hz', _⟩ := keyOf_int_inv Try.underlying3 hkx
      injection hz with _ hz
      subst hz
      subst hz'
      have hm0 : wr.rangeLeft bm W.heap.size = cnt := hrg.left_eq
      have hhx : has D0 (.int .i64 x) = true := has_true_of_atKey hat
      have hbW := HB.out
      have hrow1 := hrow.kept hg1 (by
        cases hob : u3.ownBlock with
        | none => exact Or.inl rfl
        | some g => exact Or.inr (fun e => iter_row hrg hrow g hob (by cases e; rfl)))
      have hgW1 : W.grownBy w1 none := hg.andThen hg1 (fun j hj => by cases hj; exact .inl (Nat.le_refl _))
      have HS1 : Hid (wr.heap.size = w1.heap.size) := hs1.symm
      clear hrow hrg hs1
      go_wp2_with (first
        | (at_builtin; refine wpList_append_own_at _ rfl _ _ 28 rfl W.heap.size 3 i0 (.int .i64 0) 1 8 Try.underlying28 hi hz0 hz1 hz2 rfl (by decide) _ _ _ rfl (hrow1.alloc _) ⟨w1.heap.size, 0, none⟩ 1 1 [.int .i64 x] rfl rfl ?c1 ?c2 ?c3 ?c4 ?c5 ?_)
        | go_in)
      case c2 => first | rfl | (intro u hu; simp at hu; subst hu; rfl)
      case c3 => have := HL.out; have := hlen2.out; unfold maxLen; omega
      case c4 => have := HL.out; have := hlen2.out; omega
      case c5 => have := hgW1.size; simp; omega
      · intro v' w4 hown' hgrow _ hloc
        have hgA : W.grownBy (w1.alloc (.cells #[.int .i64 x] 3)) none := hgW1.andThen (World.grownBy_alloc w1 _ none) (fun j hj => by cases hj)
        have hrgA := hrg1.alloc (.cells #[.int .i64 x] 3)
        have hrowA := hrow1.alloc (.cells #[.int .i64 x] 3)
        have hne : ∀ g, u3.ownBlock = some g → g ≠ W.heap.size ∧ W.heap.size ≤ g := fun g hg => ⟨iter_row hrgA hrowA g hg, (hrowA.lt g hg).1⟩
        have hrg4 := hrgA.kept hgrow (by
          intro e
          have := (hne bm e.symm).2
          omega) (by
          intro e
          exact (hne _ e.symm).1 rfl)
        have hgW4 : W.grownBy w4 none := hgA.andThen hgrow (fun j hj => .inl (hne j hj).2)
        have hrow4 : w4.ownsRow W.heap.size 3 1 v' (ks ++ [x]).length ((ks ++ [x]).map (Value.int .i64)) := by simpa using hown'
        have HC4 : Hid (Coll D0 (fun z => left z && !z.sameKey (.int .i64 x)) (ks ++ [x])) := hC.out.step hlx hhx
        have HL4 : Hid ((ks ++ [x]).length + cnt1 ≤ K0.length) := by
          show _ ≤ _
          have := hlen2.out
          simp
          omega
        clear hown' hgrow hloc hrgA hrowA hgA hrow1 hrg1 hgW1 hne
        go_wp2
        refine ⟨⟨v', ⟨_, cnt1, hrg4, ks ++ [x], hrow4, HC4, HL4, (fun h => by simp at h), hgW4⟩, _, _, _, _, _, _, _, _, _, rfl⟩, ?_⟩
        rw [hrg4.left_eq]
        exact hlt

end Go.Proofs.Ytmenfnapbggglaa

/- The library's sort at this program: its numbers told, each body compared by the kernel. -/
set_option linter.unusedSimpArgs false
set_option linter.unusedVariables false
namespace Go.Proofs
open Go.Shelf
namespace Ytmenfnapbggglaa

def sortRen : Go.Shelf.Ren := ⟨fun | 189 => 41 | 125 => 50 | 257 => 49 | 128 => 60 | 129 => 61 | 294 => 51 | 295 => 52 | 296 => 53 | 297 => 54 | 298 => 55 | 299 => 56 | 216 => 57 | 300 => 58 | 301 => 59 | 328 => 62 | 329 => 63 | 330 => 64 | 331 => 65 | 332 => 66 | 215 => 67 | 343 => 68 | n => n, fun | 28 => 28 | 3 => 3 | 46 => 100 | 0 => 0 | 51 => 111 | 53 => 113 | 4 => 4 | 183 => 103 | 182 => 102 | 131 => 108 | 5 => 5 | 9 => 9 | 218 => 114 | 222 => 118 | 228 => 121 | 229 => 122 | n => n, fun n => n⟩

theorem sortLays : Lays.n189 Try.prog sortRen where
  mixed := by kernel_rfl
  f125 := Try.func50.trans (congrArg some (by kernel_rfl))
  f128 := Try.func60.trans (congrArg some (by kernel_rfl))
  f129 := Try.func61.trans (congrArg some (by kernel_rfl))
  f189 := Try.func41.trans (congrArg some (by kernel_rfl))
  f215 := Try.func67.trans (congrArg some (by kernel_rfl))
  f216 := Try.func57.trans (congrArg some (by kernel_rfl))
  f257 := Try.func49.trans (congrArg some (by kernel_rfl))
  f294 := Try.func51.trans (congrArg some (by kernel_rfl))
  f295 := Try.func52.trans (congrArg some (by kernel_rfl))
  f296 := Try.func53.trans (congrArg some (by kernel_rfl))
  f297 := Try.func54.trans (congrArg some (by kernel_rfl))
  f298 := Try.func55.trans (congrArg some (by kernel_rfl))
  f299 := Try.func56.trans (congrArg some (by kernel_rfl))
  f300 := Try.func58.trans (congrArg some (by kernel_rfl))
  f301 := Try.func59.trans (congrArg some (by kernel_rfl))
  f328 := Try.func62.trans (congrArg some (by kernel_rfl))
  f329 := Try.func63.trans (congrArg some (by kernel_rfl))
  f330 := Try.func64.trans (congrArg some (by kernel_rfl))
  f331 := Try.func65.trans (congrArg some (by kernel_rfl))
  f332 := Try.func66.trans (congrArg some (by kernel_rfl))
  f343 := Try.func68.trans (congrArg some (by kernel_rfl))
  t0 := Try.underlying0
  a0 := Try.isAgg0
  z0 := Try.sizeOf0
  v0 := Try.zeroValue0
  t3 := Try.underlying3
  a3 := Try.isAgg3
  z3 := Try.sizeOf3
  v3 := Try.zeroValue3
  t4 := Try.underlying4
  a4 := Try.isAgg4
  z4 := Try.sizeOf4
  v4 := Try.zeroValue4
  t5 := Try.underlying5
  a5 := Try.isAgg5
  z5 := Try.sizeOf5
  v5 := Try.zeroValue5
  t9 := Try.underlying9
  a9 := Try.isAgg9
  z9 := Try.sizeOf9
  v9 := Try.zeroValue9
  t28 := Try.underlying28
  a28 := Try.isAgg28
  z28 := Try.sizeOf28
  v28 := Try.zeroValue28
  t46 := Try.underlying100
  a46 := Try.isAgg100
  z46 := Try.sizeOf100
  v46 := Try.zeroValue100
  t51 := Try.underlying111
  a51 := Try.isAgg111
  z51 := Try.sizeOf111
  v51 := Try.zeroValue111
  t53 := Try.underlying113
  a53 := Try.isAgg113
  z53 := Try.sizeOf113
  v53 := Try.zeroValue113
  t131 := Try.underlying108
  a131 := Try.isAgg108
  z131 := Try.sizeOf108
  v131 := Try.zeroValue108
  t182 := Try.underlying102
  a182 := Try.isAgg102
  z182 := Try.sizeOf102
  v182 := Try.zeroValue102
  t183 := Try.underlying103
  a183 := Try.isAgg103
  z183 := Try.sizeOf103
  v183 := Try.zeroValue103
  t218 := Try.underlying114
  a218 := Try.isAgg114
  z218 := Try.sizeOf114
  v218 := Try.zeroValue114
  t222 := Try.underlying118
  a222 := Try.isAgg118
  z222 := Try.sizeOf118
  v222 := Try.zeroValue118
  t228 := Try.underlying121
  a228 := Try.isAgg121
  z228 := Try.sizeOf121
  v228 := Try.zeroValue121
  t229 := Try.underlying122
  a229 := Try.isAgg122
  z229 := Try.sizeOf122
  v229 := Try.zeroValue122

theorem sorts : Sorts :=
  ⟨fun blk off cap zs w h1 h2 h3 => Any.slices_Sort_int sortLays blk off cap zs w h1 h2 h3, fun p cap w => Any.slices_Sort_int_none sortLays p cap w⟩

end Ytmenfnapbggglaa
end Go.Proofs

/- Numbers of a nil line, and of a line that has no map yet. -/
set_option linter.unusedSimpArgs false
set_option linter.unusedVariables false
namespace Go.Proofs.Ytmenfnapbggglaa
open Go.ChangeShapes Go.WideShapes Go.ChangeAt Go.RowKit Go.Kit Go.Deep Go.Maps Go.WideElems Go.Sort

set_option maxRecDepth 1000000 in
theorem numbers_nil (W : World) : Calls Try.prog 26 #[.pointer none] W fun e w' => e = .returned (.slice none 0 0) ∧ w' = W := by
  go_enter Try.func26, Try.ntmps26
  go_wp2
  go_ret
  exact ⟨rfl, rfl⟩

set_option maxRecDepth 1000000 in
theorem numbers_none {W : World} {a : Addr} (hl : W.cell? a = some (.map none)) : Calls Try.prog 26 #[.pointer (some a)] W fun e w' => e = .returned (.slice none 0 0) ∧ W.grownBy w' none := by
  have hrg := run_range_nilMap W 43 3 _ Try.underlying43
  have hnx : ∀ ty, (Instr.next (.pointer (some ⟨W.heap.size, 0, none⟩)) false ty).run Try.prog (W.alloc (.mapIter none 0 #[] 0)) = _ := fun ty => run_next_nilMap W ty 0 0 #[]
  have hS := sorts.none' none 0 (W.alloc (.mapIter none 0 #[] 0))
  go_enter Try.func26, Try.ntmps26
  go_wp2
  go_loopw [3] (fun v wr => v = .slice none 0 0 ∧ wr = W.alloc (.mapIter none 0 #[] 0)) (fun _ _ => 0)
  case atStart => exact ⟨rfl, rfl⟩
  case round =>
    obtain ⟨rfl, rfl⟩ := hrel
    go_wp2_with (go_at_call 41; refine hS.mono ?_; rintro e w' ⟨rfl, rfl⟩)
    go_ret
    exact ⟨rfl, World.grownBy_alloc W _ none⟩

end Go.Proofs.Ytmenfnapbggglaa

/- Numbers behind the evaluator. -/
set_option linter.unusedSimpArgs false
set_option linter.unusedVariables false
namespace Go.Proofs.Ytmenfnapbggglaa
open Go.Ev

theorem intKeys_map : ∀ {es : List (Value × Value)} {ks : List Int}, intKeys es = some ks → es.map (·.1) = ks.map (Value.int .i64)
  | [], ks, h => by simp [intKeys] at h; subst h; rfl
  | (k, v) :: r, ks, h => by
    cases k with
    | int q n =>
      cases q with
      | i64 =>
        simp only [intKeys, Option.map_eq_some_iff] at h
        obtain ⟨ks', h1, rfl⟩ := h
        simp [intKeys_map h1]
      | _ => simp [intKeys] at h
    | _ => simp [intKeys] at h

theorem vrs_ints {ρ : Ev.Ren} : ∀ {ks : List Int} {l' : List Value}, VRs ρ (ks.map (Value.int .i64)) l' → l' = ks.map (Value.int .i64)
  | [], _, .nil => rfl
  | k :: ks, _, .cons h t => by rw [h.int_inv, vrs_ints t]; rfl
theorem ints_vrs {ρ : Ev.Ren} : ∀ (ks : List Int), VRs ρ (ks.map (Value.int .i64)) (ks.map (Value.int .i64))
  | [] => .nil
  | k :: ks => .cons (.int _ _) (ints_vrs ks)

def X : FuncId → Option (List Value → H → Res)
  | 26 => some keysX
  | _ => none
def XD : FuncId → Option (List Value → H → Res) := fun _ => none

theorem XD_ok : CallDOk Try.prog (cfX XD) := fun f args h r h' e => by simp [cfX, XD] at e

theorem keysX_inv {args : List Value} {h h' : H} {r : Value} (e : keysX args h = some (r, h')) :
    (args = [.pointer none] ∧ r = .slice none 0 0 ∧ h' = h) ∨
    ∃ b o, args = [.pointer (some ⟨b, o, none⟩)] ∧ ((rd h b o 1 = some [.map none] ∧ r = .slice none 0 0 ∧ h' = h) ∨
      ∃ m es lv ks, rd h b o 1 = some [.map (some m)] ∧ h[m]? = some (.map es lv) ∧ intKeys es = some ks ∧ ks.Nodup ∧ ks.length ≤ 1000000 ∧ (∀ n ∈ ks, 0 ≤ n ∧ n ≤ 1000000000) ∧
        ((ks = [] ∧ r = .slice none 0 0 ∧ h' = h) ∨ (ks ≠ [] ∧ r = .slice (some ⟨h.size, 0, none⟩) ks.length ks.length ∧ h' = Ev.newRow h ((ks.mergeSort fun x y => decide (x ≤ y)).map (Value.int .i64)) 1 []))) := by
  unfold keysX at e
  split at e
  · cases e; exact .inl ⟨rfl, rfl, rfl⟩
  · rename_i b o
    refine .inr ⟨b, o, rfl, ?_⟩
    split at e
    · rename_i hr
      cases e
      exact .inl ⟨hr, rfl, rfl⟩
    · rename_i m hr
      split at e
      · rename_i es lv hm
        split at e
        · rename_i ks hk
          split at e
          · rename_i hc
            refine .inr ⟨m, es, lv, ks, hr, hm, hk, hc.1, hc.2.1, hc.2.2, ?_⟩
            split at e
            · rename_i hn
              cases e
              exact .inl ⟨hn, rfl, rfl⟩
            · rename_i hn
              cases e
              exact .inr ⟨hn, rfl, rfl⟩
          · cases e
        · cases e
      · cases e
    · cases e
  · cases e

theorem keysX_ok : CallOk Try.prog (fun g args h => if g = 26 then keysX args h else none) := by
  intro f args h r h' e
  simp only at e
  split at e
  · rename_i hf
    subst hf
    refine ⟨by unfold callable; rw [Try.func26]; rfl, ?_⟩
    intro ρ w args' rr hv
    rcases keysX_inv e with ⟨rfl, rfl, rfl⟩ | ⟨b, o, rfl, h2⟩
    · cases hv with
      | cons hp ht =>
        cases ht
        cases hp
        refine (numbers_nil w).mono ?_
        rintro e w' ⟨rfl, rfl⟩
        exact ⟨_, ρ, rfl, .snil, rr, .refl _ _ _⟩
    · cases hv with
      | cons hp ht =>
        cases ht
        cases hp with
        | ptr hb =>
          rename_i i
          rcases h2 with ⟨hr, rfl, rfl⟩ | ⟨m, es, lv, ks, hr, hm, hk, hn, hl, hbd, h3⟩
          · obtain ⟨_, l', q1, q2⟩ := rd_rel rr hb hr
            cases q1 with
            | cons q3 q4 =>
              cases q4
              have := q3.mnil_inv
              subst this
              have hc := q2 0 _ rfl
              refine (numbers_none hc).mono ?_
              rintro e w' ⟨rfl, hg⟩
              obtain ⟨g1, g2⟩ := grown_rel rr hg
              exact ⟨_, ρ, rfl, .snil, g1, g2⟩
          · obtain ⟨_, l', q1, q2⟩ := rd_rel rr hb hr
            cases q1 with
            | cons q3 q4 =>
              cases q4
              obtain ⟨j, hj, rfl⟩ := q3.map_inv
              have hc := q2 0 _ rfl
              obtain ⟨es', clock, g1, g2, _, g4, g5⟩ := rr.blk m j _ hj hm
              rw [intKeys_map hk] at g2
              have hk' := vrs_ints g2
              refine (numbers_walk sorts j.blk hc g1 hk' hn hbd hl g4 g5).mono ?_
              rintro e w' ⟨v, rfl, hown, hnil, hg⟩
              rcases h3 with ⟨rfl, rfl, rfl⟩ | ⟨hne, rfl, rfl⟩
              · rw [hnil rfl]
                obtain ⟨a1, a2⟩ := grown_rel rr hg
                exact ⟨_, ρ, rfl, .snil, a1, a2⟩
              · rcases hown.2 with ⟨_, h0⟩ | ⟨g, cap, cur, rfl, hbase, hcur, e1, e2, e3, e4⟩
                · exact (hne (List.eq_nil_of_length_eq_zero h0)).elim
                · have hl2 : (ks.mergeSort fun x y => decide (x ≤ y)).length = ks.length := List.length_mergeSort ks
                  obtain ⟨a1, a2, a3⟩ := own_rel rr hg (n := ks.length) hcur hbase e1 (by omega) (by rw [List.length_map, hl2]) (by simpa using e4) (ints_vrs _)
                  exact ⟨_, _, rfl, a3, a1, a2⟩
  · cases e

theorem X_ok : XOk Try.prog X := by
  intro f x h
  unfold X at h
  split at h <;> cases h
  exact keysX_ok

end Go.Proofs.Ytmenfnapbggglaa

/- The table of the seat's functions, and what the small ones answer. -/
set_option linter.unusedSimpArgs false
set_option linter.unusedVariables false
namespace Go.Proofs.Ytmenfnapbggglaa
open Go.Ev

def tbl : FuncId → Option AFn
  | 3 => some a3
  | 4 => some a4
  | 5 => some a5
  | 6 => some a6
  | 7 => some a7
  | 8 => some a8
  | 9 => some a9
  | 10 => some a10
  | 11 => some a11
  | 12 => some a12
  | 13 => some a13
  | 14 => some a14
  | 15 => some a15
  | 16 => some a16
  | 17 => some a17
  | 18 => some a18
  | 19 => some a19
  | 20 => some a20
  | 21 => some a21
  | 22 => some a22
  | 23 => some a23
  | 24 => some a24
  | 25 => some a25
  | 27 => some a27
  | 28 => some a28
  | 29 => some a29
  | 30 => some a30
  | 31 => some a31
  | 32 => some a32
  | 33 => some a33
  | 34 => some a34
  | 35 => some a35
  | 36 => some a36
  | 37 => some a37
  | 38 => some a38
  | 39 => some a39
  | 40 => some a40
  | 42 => some a42
  | 43 => some a43
  | 44 => some a44
  | 45 => some a45
  | 46 => some a46
  | 47 => some a47
  | 48 => some a48
  | _ => none

theorem tbl_ok : TblOk Try.prog tbl := by
  intro f af h
  unfold tbl at h
  split at h <;> cases h
  · exact ⟨_, _, Try.func3, a3_ok⟩
  · exact ⟨_, _, Try.func4, a4_ok⟩
  · exact ⟨_, _, Try.func5, a5_ok⟩
  · exact ⟨_, _, Try.func6, a6_ok⟩
  · exact ⟨_, _, Try.func7, a7_ok⟩
  · exact ⟨_, _, Try.func8, a8_ok⟩
  · exact ⟨_, _, Try.func9, a9_ok⟩
  · exact ⟨_, _, Try.func10, a10_ok⟩
  · exact ⟨_, _, Try.func11, a11_ok⟩
  · exact ⟨_, _, Try.func12, a12_ok⟩
  · exact ⟨_, _, Try.func13, a13_ok⟩
  · exact ⟨_, _, Try.func14, a14_ok⟩
  · exact ⟨_, _, Try.func15, a15_ok⟩
  · exact ⟨_, _, Try.func16, a16_ok⟩
  · exact ⟨_, _, Try.func17, a17_ok⟩
  · exact ⟨_, _, Try.func18, a18_ok⟩
  · exact ⟨_, _, Try.func19, a19_ok⟩
  · exact ⟨_, _, Try.func20, a20_ok⟩
  · exact ⟨_, _, Try.func21, a21_ok⟩
  · exact ⟨_, _, Try.func22, a22_ok⟩
  · exact ⟨_, _, Try.func23, a23_ok⟩
  · exact ⟨_, _, Try.func24, a24_ok⟩
  · exact ⟨_, _, Try.func25, a25_ok⟩
  · exact ⟨_, _, Try.func27, a27_ok⟩
  · exact ⟨_, _, Try.func28, a28_ok⟩
  · exact ⟨_, _, Try.func29, a29_ok⟩
  · exact ⟨_, _, Try.func30, a30_ok⟩
  · exact ⟨_, _, Try.func31, a31_ok⟩
  · exact ⟨_, _, Try.func32, a32_ok⟩
  · exact ⟨_, _, Try.func33, a33_ok⟩
  · exact ⟨_, _, Try.func34, a34_ok⟩
  · exact ⟨_, _, Try.func35, a35_ok⟩
  · exact ⟨_, _, Try.func36, a36_ok⟩
  · exact ⟨_, _, Try.func37, a37_ok⟩
  · exact ⟨_, _, Try.func38, a38_ok⟩
  · exact ⟨_, _, Try.func39, a39_ok⟩
  · exact ⟨_, _, Try.func40, a40_ok⟩
  · exact ⟨_, _, Try.func42, a42_ok⟩
  · exact ⟨_, _, Try.func43, a43_ok⟩
  · exact ⟨_, _, Try.func44, a44_ok⟩
  · exact ⟨_, _, Try.func45, a45_ok⟩
  · exact ⟨_, _, Try.func46, a46_ok⟩
  · exact ⟨_, _, Try.func47, a47_ok⟩
  · exact ⟨_, _, Try.func48, a48_ok⟩

abbrev cf (F : Nat) : CF := evFn X XD tbl F

theorem cf_ok (F : Nat) : CallOk Try.prog (cf F) := evFn_sound (Checked.mixed Try.checked) tbl_ok X_ok XD_ok F

theorem cf_step {F : Nat} {f : FuncId} {args : List Value} {h : H} {a : AFn} (hX : X f = none) (ht : tbl f = some a) (hl : args.length ≤ a.ntmps) :
    cf (F + 1) f args h = evC F (cf F) a.body (endK (cfX XD) a.results) noK (endK (cfX XD) a.results) (envOf 0 args) h [] := by
  simp only [cf, evFn, hX, ht, if_pos hl]
  rfl

theorem cf_X {F : Nat} {f : FuncId} {args : List Value} {h : H} {x : List Value → H → Res} (hX : X f = some x) : cf (F + 1) f args h = x args h := by
  simp only [cf, evFn, hX]

theorem num_eq (F : Nat) (n : Int) (h : H) : cf (F + 1) 20 [.int .i64 n] h = some (.int .i64 n, h) := by
  rw [cf_step (a := a20) rfl rfl (by simp [a20])]
  simp [a20, r20_0, r20_1]

theorem new_eq (F : Nat) (h : H) : cf (F + 1) 15 [] h = some (.pointer (some ⟨h.size, 0, none⟩), Ev.newRow h [.map none, .int .i64 0] 0 []) := by
  rw [cf_step (a := a15) rfl rfl (by simp [a15])]
  simp [a15, r15_0, r15_1, partsOf, fillL]

end Go.Proofs.Ytmenfnapbggglaa

/- The program's line, as the evaluator's memory holds it; Look, put, Take, Double, Spoil. -/
set_option linter.unusedSimpArgs false
set_option linter.unusedVariables false
namespace Go.Proofs.Ytmenfnapbggglaa
open Go.Ev

structure Msg where
  fr : Int
  to : Int
  b : ByteArray

def Msg.cells (m : Msg) : List Value := [.int .i64 m.fr, .int .i64 m.to, .string m.b]
def Msg.val (m : Msg) : Value := .agg ⟨m.cells⟩
def Msg.zero : Msg := ⟨0, 0, ⟨#[]⟩⟩
abbrev Parcel := Msg × Bool
def pcells (p : Parcel) : List Value := p.1.cells ++ [.bool p.2]
def pval (p : Parcel) : Value := .agg ⟨pcells p⟩
abbrev Flight := List (Int × Parcel)
def ents (fl : Flight) : List (Value × Value) := fl.map fun p => (.int .i64 p.1, pval p.2)

def lk (n : Int) : Flight → Nat → Option (Nat × Parcel)
  | [], _ => none
  | p :: r, i => if n = p.1 then some (i, p.2) else lk n r (i + 1)

theorem findM_ents (n : Int) : ∀ (fl : Flight) (i : Nat), findM (.int .i64 n) (ents fl) i = some ((lk n fl i).map fun q => (q.1, pval q.2))
  | [], i => rfl
  | p :: r, i => by
    have ih := findM_ents n r (i + 1)
    unfold ents at ih
    unfold ents lk
    simp only [List.map_cons, findM, keyEq, if_true]
    by_cases h : n = p.1
    · simp [h]
    · have : (n == p.1) = false := by simpa using h
      simp [this, h, ih]

structure LineAt (h : H) (b : Nat) (m : Option Nat) (fl : Flight) (last : Int) : Prop where
  line : hget h b = some (.cells [.map m, .int .i64 last] 0 true [])
  no : m = none → fl = []
  yes : ∀ x, m = some x → x ≠ b ∧ hget h x = some (.map (ents fl) true)

theorem LineAt.entries {h : H} {b : Nat} {m : Option Nat} {fl : Flight} {last : Int} (l : LineAt h b m fl last) : entriesOf h (.map m) = some (ents fl) := by
  cases m with
  | none => rw [l.no rfl]; rfl
  | some x => simp [entriesOf, (l.yes x rfl).2]

theorem look_spec (F : Nat) {h : H} {b : Nat} {m : Option Nat} {fl : Flight} {last : Int} (l : LineAt h b m fl last) (n : Int) :
    Ans (cf (F + 1) 19 [.pointer (some ⟨b, 0, none⟩), .int .i64 n] h) fun v h' =>
      v = .tuple ⟨match lk n fl 0 with | some (_, p) => [p.1.val, .int .i64 0] | none => [Msg.zero.val, .int .i64 160]⟩ ∧ Keeps h h' fun _ => False := by
  have hb := l.line
  have hbs := lt_of_get hb
  have he := l.entries
  rw [cf_step (a := a19) rfl rfl (by simp [a19])]
  simp [a19, r19_0, r19_1, nilEq, r19_3, rd, hbs, hb]
  cases m with
  | none =>
    have := l.no rfl
    subst this
    simp [entriesOf, findM, wr, hbs, lk, r19_4, aUn, r19_5, partsOf, fillL, rd]
    refine .of ⟨rfl, ?_⟩
    repeat first | exact Keeps.refl _ _ | apply Keeps.row | refine Keeps.set_new ?_ (by omega) _
  | some x =>
    obtain ⟨hx1, hx2⟩ := l.yes x rfl
    have hxs := lt_of_get hx2
    simp [entriesOf, hxs, hx2, findM_ents]
    cases lk n fl 0 with
    | none =>
      simp [wr, r19_4, aUn, r19_5, partsOf, fillL, rd]
      refine .of ⟨rfl, ?_⟩
      repeat first | exact Keeps.refl _ _ | apply Keeps.row | refine Keeps.set_new ?_ (by omega) _
    | some q =>
      obtain ⟨i, p⟩ := q
      simp [wr, r19_4, aUn, r19_6, rd, pval, pcells, Msg.cells]
      refine .of ⟨rfl, ?_⟩
      repeat first | exact Keeps.refl _ _ | apply Keeps.row | refine Keeps.set_new ?_ (by omega) _

theorem LineAt.length_le {h : H} {b : Nat} {m : Option Nat} {fl : Flight} {last : Int} (l : LineAt h b m fl last) : (ents fl).length = fl.length := by simp [ents]

/-- Numbers rise, up to the last one. -/
structure Fl (fl : Flight) (last : Int) : Prop where
  rise : fl.Pairwise fun p q => p.1 < q.1
  bnd : ∀ p ∈ fl, 1 ≤ p.1 ∧ p.1 ≤ last
  pos : 0 ≤ last

theorem lk_none {n : Int} : ∀ {fl : Flight} (i : Nat), (∀ p ∈ fl, p.1 ≠ n) → lk n fl i = none
  | [], _, _ => rfl
  | p :: r, i, h => by
    unfold lk
    rw [if_neg (fun e => h p (by simp) e.symm)]
    exact lk_none (i + 1) fun q hq => h q (by simp [hq])

theorem Fl.fresh {fl : Flight} {last : Int} (w : Fl fl last) : lk (last + 1) fl 0 = none :=
  lk_none 0 fun p hp => by have := (w.bnd p hp).2; omega

theorem Fl.put {fl : Flight} {last : Int} (w : Fl fl last) (p : Parcel) : Fl (fl ++ [(last + 1, p)]) (last + 1) := by
  refine ⟨List.pairwise_append.2 ⟨w.rise, by simp, fun a ha q hq => ?_⟩, fun q hq => ?_, by have := w.pos; omega⟩
  · simp at hq; subst hq
    have := (w.bnd a ha).2
    show a.1 < last + 1
    omega
  · rcases List.mem_append.1 hq with h | h
    · have := w.bnd q h; omega
    · simp at h; subst h
      have := w.pos
      exact ⟨by show 1 ≤ last + 1; omega, Int.le_refl _⟩

theorem put_spec (F : Nat) {h : H} {b : Nat} {m : Option Nat} {fl : Flight} {last : Int} (l : LineAt h b m fl last) (w : Fl fl last) (hmax : last ≤ 1000000000) (p : Parcel) :
    Ans (cf (F + 1) 34 [.pointer (some ⟨b, 0, none⟩), pval p] h) fun v h' =>
      if 256 ≤ fl.length then v = .int .i64 (-1) ∧ Keeps h h' fun _ => False
      else v = .int .i64 (last + 1) ∧ (Keeps h h' fun x => x = b ∨ m = some x) ∧ ∃ m', LineAt h' b (some m') (fl ++ [(last + 1, p)]) (last + 1) ∧ (m = some m' ∨ (m = none ∧ h.size ≤ m')) := by
  have hb := l.line
  have hbs := lt_of_get hb
  have hpos := w.pos
  have hwrap : IntKind.i64.wrap (last + 1) = last + 1 := wrap_in (by omega) (by omega)
  rw [cf_step (a := a34) rfl rfl (by simp [a34])]
  simp [a34, r34_0, r34_1, nilEq, pval, pcells, Msg.cells, rd, hbs, hb, aBin, intBin]
  cases m with
  | none =>
    have := l.no rfl
    subst this
    simp [entriesOf, r34_3, r34_4, r34_5, rd, wr, hbs, hb, nilEq, aBin, intBin, hwrap, d34_6, r34_7, ne_at hbs, ne_at' hbs, ne_far hbs, ne_far' hbs, findM]
    refine .of ⟨rfl, ?_, h.size + 1, ⟨?_, nofun, ?_⟩, by omega⟩
    · repeat first | exact Keeps.refl _ _ | apply Keeps.row | refine Keeps.set_new ?_ (by omega) _ | refine Keeps.set_may ?_ (by simp) _ | apply Keeps.push
    · simp [ne_at hbs, ne_at' hbs, ne_far hbs, ne_far' hbs, hbs]
    · intro x hx
      cases hx
      simp [ne_at hbs, ne_at' hbs, ne_far hbs, ne_far' hbs, hbs, ents, pval, pcells, Msg.cells]
  | some x =>
    obtain ⟨hx1, hx2⟩ := l.yes x rfl
    have hxs := lt_of_get hx2
    simp [entriesOf, hxs, hx2, ents]
    by_cases hfull : 256 ≤ fl.length
    · have hf' : (256 : Int) ≤ (fl.length : Int) := by omega
      simp [hfull, hf', r34_2]
      refine Ans.of ?_
      refine ⟨rfl, ?_⟩
      repeat first | exact Keeps.refl _ _ | apply Keeps.row | refine Keeps.set_new ?_ (by omega) _
    · have hf' : ¬ (256 : Int) ≤ (fl.length : Int) := by omega
      have hf := findM_ents (last + 1) fl 0
      rw [w.fresh] at hf
      simp [hfull, hf', r34_3, r34_5, d34_6, r34_7, rd, wr, hbs, hb, nilEq, aBin, intBin, hwrap, ne_at hbs, ne_at' hbs, ne_far hbs, ne_far' hbs, ne_at hxs, ne_at' hxs, ne_far hxs, ne_far' hxs, hx1, hx1.symm, hx2, hxs, hf]
      refine Ans.of ?_
      refine ⟨rfl, ?_, ⟨?_, nofun, ?_⟩⟩
      · repeat first | exact Keeps.refl _ _ | apply Keeps.row | refine Keeps.set_new ?_ (by omega) _ | refine Keeps.set_may ?_ (by simp) _ | apply Keeps.push
      · simp [ne_at hbs, ne_at' hbs, ne_far hbs, ne_far' hbs, hbs, hxs, hx1, hx1.symm]
      · intro y hy
        cases hy
        simp [ne_at hbs, ne_at' hbs, ne_far hbs, ne_far' hbs, hbs, ents, pval, pcells, Msg.cells, hxs, hx1, hx1.symm]

end Go.Proofs.Ytmenfnapbggglaa

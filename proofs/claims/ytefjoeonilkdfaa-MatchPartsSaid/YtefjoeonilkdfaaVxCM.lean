/- A part of the proof: what it shows stands in its theorems. No condition beyond those that they name. -/
import Derived.Test.YtefjoeonilkdfaaVxN
import Derived.Test.YtefjoeonilkdfaaProg
namespace Go.Vx
open Go.Proofs
set_option maxRecDepth 4000

/-! The functions' code. -/

-- "tansy/tansylaw04.MatchMost"
def c3_0 : C := .seq (.ops [⟨none, some 14, false, .mov (.tmp 3)⟩,
    ⟨none, some 2, false, .mov (.tmp 14)⟩]) .ret
def c3_1 : C := .seq (.ops [⟨none, some 22, false, .mov (.tmp 3)⟩,
    ⟨none, some 23, false, .mov (.tmp 22)⟩,
    ⟨some (23, true), some 24, false, .mov (.tmp 4)⟩,
    ⟨some (23, true), some 25, false, .bin .eql (.tmp 24) (.const (.int .i64 0))⟩,
    ⟨none, some 26, false, .pick (.tmp 23) (.tmp 25) (.const (.bool false))⟩,
    ⟨none, some 2, false, .mov (.tmp 26)⟩]) .ret
def c3_2 : C := .seq (.ops [⟨none, some 2, false, .mov (.const (.bool false))⟩]) .ret
def c3_3 : C := .seq (.ops [⟨none, some 56, false, .mov (.tmp 3)⟩,
    ⟨none, some 2, false, .mov (.tmp 56)⟩]) .ret
def c3_4 : C := .seq (.ops [⟨none, some 64, false, .mov (.tmp 3)⟩,
    ⟨none, some 65, false, .mov (.tmp 64)⟩,
    ⟨some (65, true), some 66, false, .mov (.tmp 9)⟩,
    ⟨some (65, true), some 67, false, .bin .eql (.tmp 66) (.const (.int .i64 3))⟩,
    ⟨none, some 68, false, .pick (.tmp 65) (.tmp 67) (.const (.bool false))⟩,
    ⟨none, some 69, false, .mov (.tmp 68)⟩,
    ⟨some (69, true), some 70, false, .mov (.tmp 8)⟩,
    ⟨some (69, true), some 71, false, .lenSl (.tmp 70)⟩,
    ⟨some (69, true), some 72, false, .bin .eql (.tmp 71) (.const (.int .i64 0))⟩,
    ⟨none, some 73, false, .pick (.tmp 69) (.tmp 72) (.const (.bool false))⟩,
    ⟨none, some 2, false, .mov (.tmp 73)⟩]) .ret
def c3_5 : C := .seq (.ops [⟨none, some 58, false, .mov (.tmp 0)⟩,
    ⟨none, some 59, false, .mov (.tmp 4)⟩,
    ⟨none, some 60, false, .bin .sub (.tmp 59) (.const (.int .i64 1))⟩,
    ⟨none, some 61, false, .call 16 [.tmp 58, .tmp 60]⟩,
    ⟨none, some 57, false, .mov (.tmp 61)⟩,
    ⟨none, some 62, false, .extract (.tmp 57) 0⟩,
    ⟨none, some 63, false, .extract (.tmp 57) 1⟩,
    ⟨none, some 8, false, .mov (.tmp 62)⟩,
    ⟨none, some 9, false, .mov (.tmp 63)⟩]) c3_4
def c3_6 : C := .seq (.seq (.ops [⟨none, some 54, false, .mov (.tmp 4)⟩,
    ⟨none, some 55, false, .bin .eql (.tmp 54) (.const (.int .i64 0))⟩]) (.cond (.tmp 55) c3_3 .skip)) c3_5
def c3_7 : C := .seq (.seq (.ops [⟨none, some 33, false, .mov (.tmp 7)⟩,
    ⟨none, some 34, false, .bin .neq (.tmp 33) (.const (.int .i64 0))⟩,
    ⟨none, some 35, false, .mov (.tmp 34)⟩,
    ⟨some (35, false), some 36, false, .mov (.tmp 6)⟩,
    ⟨some (35, false), some 37, false, .lenSl (.tmp 36)⟩,
    ⟨some (35, false), some 38, false, .mov (.tmp 4)⟩,
    ⟨some (35, false), some 39, false, .bin .neq (.tmp 37) (.tmp 38)⟩,
    ⟨none, some 40, false, .pick (.tmp 35) (.const (.bool true)) (.tmp 39)⟩,
    ⟨none, some 41, false, .mov (.tmp 40)⟩,
    ⟨some (41, false), some 42, false, .mov (.tmp 4)⟩,
    ⟨some (41, false), some 43, false, .mov (.tmp 0)⟩,
    ⟨some (41, false), some 44, false, .lenSl (.tmp 43)⟩,
    ⟨some (41, false), some 45, false, .bin .mul (.const (.int .i64 18)) (.tmp 44)⟩,
    ⟨some (41, false), some 46, false, .bin .gtr (.tmp 42) (.tmp 45)⟩,
    ⟨none, some 47, false, .pick (.tmp 41) (.const (.bool true)) (.tmp 46)⟩,
    ⟨none, some 48, false, .mov (.tmp 47)⟩,
    ⟨some (48, false), some 49, false, .mov (.tmp 4)⟩,
    ⟨some (48, false), some 50, false, .mov (.tmp 0)⟩,
    ⟨some (48, false), some 51, false, .lenSl (.tmp 50)⟩,
    ⟨some (48, false), some 52, false, .bin .lss (.tmp 49) (.tmp 51)⟩,
    ⟨none, some 53, false, .pick (.tmp 48) (.const (.bool true)) (.tmp 52)⟩]) (.cond (.tmp 53) c3_2 .skip)) c3_6
def c3_8 : C := .seq (.ops [⟨none, some 28, false, .mov (.tmp 0)⟩,
    ⟨none, some 29, false, .mov (.tmp 4)⟩,
    ⟨none, some 30, false, .call 16 [.tmp 28, .tmp 29]⟩,
    ⟨none, some 27, false, .mov (.tmp 30)⟩,
    ⟨none, some 31, false, .extract (.tmp 27) 0⟩,
    ⟨none, some 32, false, .extract (.tmp 27) 1⟩,
    ⟨none, some 6, false, .mov (.tmp 31)⟩,
    ⟨none, some 7, false, .mov (.tmp 32)⟩]) c3_7
def c3_9 : C := .seq (.seq (.ops [⟨none, some 20, false, .mov (.tmp 5)⟩,
    ⟨none, some 21, false, .bin .neq (.tmp 20) (.const (.int .i64 0))⟩]) (.cond (.tmp 21) c3_1 .skip)) c3_8
def c3_10 : C := .seq (.ops [⟨none, some 16, false, .mov (.tmp 0)⟩,
    ⟨none, some 17, false, .call 15 [.tmp 16]⟩,
    ⟨none, some 15, false, .mov (.tmp 17)⟩,
    ⟨none, some 18, false, .extract (.tmp 15) 0⟩,
    ⟨none, some 19, false, .extract (.tmp 15) 1⟩,
    ⟨none, some 4, false, .mov (.tmp 18)⟩,
    ⟨none, some 5, false, .mov (.tmp 19)⟩]) c3_9
def c3_11 : C := .seq (.seq (.ops [⟨none, some 11, false, .mov (.tmp 0)⟩,
    ⟨none, some 12, false, .lenSl (.tmp 11)⟩,
    ⟨none, some 13, false, .bin .gtr (.tmp 12) (.const (.int .i64 200))⟩]) (.cond (.tmp 13) c3_0 .skip)) c3_10
def c3_12 : C := .seq (.ops [⟨none, some 10, false, .call 14 []⟩,
    ⟨none, some 3, false, .mov (.tmp 10)⟩]) c3_11
def c3 : C := .seq (.ops [⟨none, some 2, false, .mov (.const (.bool false))⟩]) c3_12
theorem ok3 : compile Try.prog Try.f3.ntmps (Try.f3.body.getD .skip) = some c3 := by kernel_rfl

-- "tansy/tansylaw04.MatchParts"
def c4_0 : C := .seq (.ops [⟨none, some 23, false, .mov (.tmp 5)⟩,
    ⟨none, some 4, false, .mov (.tmp 23)⟩]) .ret
def c4_1 : C := .seq (.ops [⟨none, some 41, false, .mov (.tmp 5)⟩,
    ⟨none, some 4, false, .mov (.tmp 41)⟩]) .ret
def c4_2 : C := .seq (.ops [⟨none, some 4, false, .mov (.const (.bool false))⟩]) .ret
def c4_3 : C := .seq (.ops [⟨none, some 102, false, .mov (.tmp 5)⟩,
    ⟨none, some 103, false, .mov (.tmp 102)⟩,
    ⟨some (103, true), some 104, false, .mov (.tmp 10)⟩,
    ⟨some (103, true), some 105, false, .lenSl (.tmp 104)⟩,
    ⟨some (103, true), some 106, false, .mov (.tmp 8)⟩,
    ⟨some (103, true), some 107, false, .lenSl (.tmp 106)⟩,
    ⟨some (103, true), some 108, false, .bin .add (.tmp 107) (.const (.int .i64 1))⟩,
    ⟨some (103, true), some 109, false, .bin .eql (.tmp 105) (.tmp 108)⟩,
    ⟨none, some 110, false, .pick (.tmp 103) (.tmp 109) (.const (.bool false))⟩,
    ⟨none, some 111, false, .mov (.tmp 110)⟩,
    ⟨some (111, true), some 112, false, .mov (.tmp 10)⟩,
    ⟨some (111, true), some 113, false, .mov (.tmp 8)⟩,
    ⟨some (111, true), some 114, false, .lenSl (.tmp 113)⟩,
    ⟨some (111, true), some 115, false, .idxSl 1 (.tmp 112) (.tmp 114)⟩,
    ⟨some (111, true), some 116, false, .load none (.tmp 115)⟩,
    ⟨some (111, true), some 117, false, .fieldAddr 0 (.tmp 12)⟩,
    ⟨some (111, true), some 118, false, .load none (.tmp 117)⟩,
    ⟨some (111, true), some 119, false, .bin .eql (.tmp 116) (.tmp 118)⟩,
    ⟨none, some 120, false, .pick (.tmp 111) (.tmp 119) (.const (.bool false))⟩,
    ⟨none, some 4, false, .mov (.tmp 120)⟩]) .ret
def c4_4 : C := .seq (.ops [⟨none, some 4, false, .mov (.const (.bool false))⟩]) .ret
def c4_5 : C := .seq (.ops [⟨none, some 129, false, .fieldAddr 2 (.tmp 12)⟩,
    ⟨none, some 130, false, .load none (.tmp 129)⟩,
    ⟨none, some 131, false, .bin .lss (.tmp 130) (.const (.int .i64 1))⟩,
    ⟨none, some 132, false, .mov (.tmp 131)⟩,
    ⟨some (132, false), some 133, false, .fieldAddr 2 (.tmp 12)⟩,
    ⟨some (132, false), some 134, false, .load none (.tmp 133)⟩,
    ⟨some (132, false), some 135, false, .mov (.tmp 13)⟩,
    ⟨some (132, false), some 136, false, .bin .gtr (.tmp 134) (.tmp 135)⟩,
    ⟨none, some 137, false, .pick (.tmp 132) (.const (.bool true)) (.tmp 136)⟩,
    ⟨none, some 138, false, .mov (.tmp 137)⟩,
    ⟨some (138, false), some 139, false, .mov (.tmp 10)⟩,
    ⟨some (138, false), some 140, false, .mov (.tmp 13)⟩,
    ⟨some (138, false), some 141, false, .idxSl 1 (.tmp 139) (.tmp 140)⟩,
    ⟨some (138, false), some 142, false, .load none (.tmp 141)⟩,
    ⟨some (138, false), some 143, false, .mov (.tmp 10)⟩,
    ⟨some (138, false), some 144, false, .mov (.tmp 13)⟩,
    ⟨some (138, false), some 145, false, .fieldAddr 2 (.tmp 12)⟩,
    ⟨some (138, false), some 146, false, .load none (.tmp 145)⟩,
    ⟨some (138, false), some 147, false, .bin .sub (.tmp 144) (.tmp 146)⟩,
    ⟨some (138, false), some 148, false, .idxSl 1 (.tmp 143) (.tmp 147)⟩,
    ⟨some (138, false), some 149, false, .load none (.tmp 148)⟩,
    ⟨some (138, false), some 150, false, .bin .neq (.tmp 142) (.tmp 149)⟩,
    ⟨none, some 151, false, .pick (.tmp 138) (.const (.bool true)) (.tmp 150)⟩]) (.cond (.tmp 151) c4_4 .skip)
def c4_6 : C := .ops [⟨none, some 127, false, .mov (.tmp 13)⟩,
    ⟨none, some 128, false, .bin .add (.tmp 127) (.const (.int .i64 1))⟩,
    ⟨none, some 13, false, .mov (.tmp 128)⟩]
def c4_7 : C := .seq (.seq (.ops [⟨none, some 123, false, .mov (.tmp 13)⟩,
    ⟨none, some 124, false, .mov (.tmp 10)⟩,
    ⟨none, some 125, false, .lenSl (.tmp 124)⟩,
    ⟨none, some 126, false, .bin .lss (.tmp 123) (.tmp 125)⟩]) (.cond (.tmp 126) .skip (.exit 0))) (.seq (.block 1 c4_5) c4_6)
def c4_8 : C := .seq (.ops [⟨none, some 152, false, .mov (.tmp 5)⟩,
    ⟨none, some 153, false, .mov (.tmp 152)⟩,
    ⟨some (153, true), some 154, false, .mov (.tmp 10)⟩,
    ⟨some (153, true), some 155, false, .lenSl (.tmp 154)⟩,
    ⟨some (153, true), some 156, false, .mov (.tmp 8)⟩,
    ⟨some (153, true), some 157, false, .lenSl (.tmp 156)⟩,
    ⟨some (153, true), some 158, false, .fieldAddr 1 (.tmp 12)⟩,
    ⟨some (153, true), some 159, false, .load none (.tmp 158)⟩,
    ⟨some (153, true), some 160, false, .bin .add (.tmp 157) (.tmp 159)⟩,
    ⟨some (153, true), some 161, false, .bin .eql (.tmp 155) (.tmp 160)⟩,
    ⟨none, some 162, false, .pick (.tmp 153) (.tmp 161) (.const (.bool false))⟩,
    ⟨none, some 4, false, .mov (.tmp 162)⟩]) .ret
def c4_9 : C := .seq (.seq (.ops [⟨none, some 121, false, .mov (.tmp 8)⟩,
    ⟨none, some 122, false, .lenSl (.tmp 121)⟩,
    ⟨none, some 13, false, .mov (.tmp 122)⟩]) (.block 0 (.loop c4_7))) c4_8
def c4_10 : C := .seq (.seq (.ops [⟨none, some 99, false, .fieldAddr 1 (.tmp 12)⟩,
    ⟨none, some 100, false, .load none (.tmp 99)⟩,
    ⟨none, some 101, false, .bin .eql (.tmp 100) (.const (.int .i64 0))⟩]) (.cond (.tmp 101) c4_3 .skip)) c4_9
def c4_11 : C := .seq (.ops [⟨none, some 95, false, .mov (.tmp 0)⟩,
    ⟨none, some 96, false, .mov (.tmp 1)⟩,
    ⟨none, some 97, false, .idxSl 3 (.tmp 95) (.tmp 96)⟩,
    ⟨none, some 98, false, .load (some 3) (.tmp 97)⟩,
    ⟨none, some 12, false, .alloc [.int .u8 0, .int .i64 0, .int .i64 0]⟩,
    ⟨none, none, false, .store 3 (.tmp 12) (.tmp 98)⟩]) c4_10
def c4_12 : C := .seq (.seq (.ops [⟨none, some 57, false, .mov (.tmp 9)⟩,
    ⟨none, some 58, false, .bin .neq (.tmp 57) (.const (.int .i64 0))⟩,
    ⟨none, some 59, false, .mov (.tmp 58)⟩,
    ⟨some (59, false), some 60, false, .mov (.tmp 11)⟩,
    ⟨some (59, false), some 61, false, .bin .neq (.tmp 60) (.const (.int .i64 0))⟩,
    ⟨none, some 62, false, .pick (.tmp 59) (.const (.bool true)) (.tmp 61)⟩,
    ⟨none, some 63, false, .mov (.tmp 62)⟩,
    ⟨some (63, false), some 64, false, .mov (.tmp 10)⟩,
    ⟨some (63, false), some 65, false, .lenSl (.tmp 64)⟩,
    ⟨some (63, false), some 66, false, .mov (.tmp 6)⟩,
    ⟨some (63, false), some 67, false, .lenSl (.tmp 66)⟩,
    ⟨some (63, false), some 68, false, .bin .gtr (.tmp 65) (.tmp 67)⟩,
    ⟨none, some 69, false, .pick (.tmp 63) (.const (.bool true)) (.tmp 68)⟩,
    ⟨none, some 70, false, .mov (.tmp 69)⟩,
    ⟨some (70, false), some 71, false, .mov (.tmp 8)⟩,
    ⟨some (70, false), some 72, false, .lenSl (.tmp 71)⟩,
    ⟨some (70, false), some 73, false, .mov (.tmp 10)⟩,
    ⟨some (70, false), some 74, false, .lenSl (.tmp 73)⟩,
    ⟨some (70, false), some 75, false, .bin .geq (.tmp 72) (.tmp 74)⟩,
    ⟨none, some 76, false, .pick (.tmp 70) (.const (.bool true)) (.tmp 75)⟩,
    ⟨none, some 77, false, .mov (.tmp 76)⟩,
    ⟨some (77, false), some 78, false, .mov (.tmp 10)⟩,
    ⟨some (77, false), some 79, false, .mov (.tmp 6)⟩,
    ⟨some (77, false), some 80, false, .mov (.tmp 10)⟩,
    ⟨some (77, false), some 81, false, .lenSl (.tmp 80)⟩,
    ⟨some (77, false), some 82, false, .slice 1 (.tmp 79) none (some (.tmp 81)) none⟩,
    ⟨some (77, false), some 83, false, .call 17 [.tmp 78, .tmp 82]⟩,
    ⟨some (77, false), some 84, false, .un .not (.tmp 83)⟩,
    ⟨none, some 85, false, .pick (.tmp 77) (.const (.bool true)) (.tmp 84)⟩,
    ⟨none, some 86, false, .mov (.tmp 85)⟩,
    ⟨some (86, false), some 87, false, .mov (.tmp 8)⟩,
    ⟨some (86, false), some 88, false, .mov (.tmp 10)⟩,
    ⟨some (86, false), some 89, false, .mov (.tmp 8)⟩,
    ⟨some (86, false), some 90, false, .lenSl (.tmp 89)⟩,
    ⟨some (86, false), some 91, false, .slice 1 (.tmp 88) none (some (.tmp 90)) none⟩,
    ⟨some (86, false), some 92, false, .call 17 [.tmp 87, .tmp 91]⟩,
    ⟨some (86, false), some 93, false, .un .not (.tmp 92)⟩,
    ⟨none, some 94, false, .pick (.tmp 86) (.const (.bool true)) (.tmp 93)⟩]) (.cond (.tmp 94) c4_2 .skip)) c4_11
def c4_13 : C := .seq (.ops [⟨none, some 50, false, .mov (.tmp 0)⟩,
    ⟨none, some 51, false, .mov (.tmp 1)⟩,
    ⟨none, some 52, false, .bin .add (.tmp 51) (.const (.int .i64 1))⟩,
    ⟨none, some 53, false, .slice 3 (.tmp 50) none (some (.tmp 52)) none⟩,
    ⟨none, some 54, false, .call 16 [.tmp 53, .const (.int .i64 65536)]⟩,
    ⟨none, some 49, false, .mov (.tmp 54)⟩,
    ⟨none, some 55, false, .extract (.tmp 49) 0⟩,
    ⟨none, some 56, false, .extract (.tmp 49) 1⟩,
    ⟨none, some 10, false, .mov (.tmp 55)⟩,
    ⟨none, some 11, false, .mov (.tmp 56)⟩]) c4_12
def c4_14 : C := .seq (.ops [⟨none, some 43, false, .mov (.tmp 0)⟩,
    ⟨none, some 44, false, .mov (.tmp 1)⟩,
    ⟨none, some 45, false, .slice 3 (.tmp 43) none (some (.tmp 44)) none⟩,
    ⟨none, some 46, false, .call 16 [.tmp 45, .const (.int .i64 65536)]⟩,
    ⟨none, some 42, false, .mov (.tmp 46)⟩,
    ⟨none, some 47, false, .extract (.tmp 42) 0⟩,
    ⟨none, some 48, false, .extract (.tmp 42) 1⟩,
    ⟨none, some 8, false, .mov (.tmp 47)⟩,
    ⟨none, some 9, false, .mov (.tmp 48)⟩]) c4_13
def c4_15 : C := .seq (.seq (.ops [⟨none, some 39, false, .mov (.tmp 7)⟩,
    ⟨none, some 40, false, .bin .neq (.tmp 39) (.const (.int .i64 0))⟩]) (.cond (.tmp 40) c4_1 .skip)) c4_14
def c4_16 : C := .seq (.ops [⟨none, some 35, false, .mov (.tmp 0)⟩,
    ⟨none, some 36, false, .call 16 [.tmp 35, .const (.int .i64 65536)]⟩,
    ⟨none, some 34, false, .mov (.tmp 36)⟩,
    ⟨none, some 37, false, .extract (.tmp 34) 0⟩,
    ⟨none, some 38, false, .extract (.tmp 34) 1⟩,
    ⟨none, some 6, false, .mov (.tmp 37)⟩,
    ⟨none, some 7, false, .mov (.tmp 38)⟩]) c4_15
def c4_17 : C := .seq (.ops [⟨none, some 24, false, .mov (.tmp 1)⟩,
    ⟨none, some 25, false, .mov (.tmp 0)⟩,
    ⟨none, some 26, false, .lenSl (.tmp 25)⟩,
    ⟨none, some 27, false, .bin .rem (.tmp 24) (.tmp 26)⟩,
    ⟨none, some 28, false, .mov (.tmp 0)⟩,
    ⟨none, some 29, false, .lenSl (.tmp 28)⟩,
    ⟨none, some 30, false, .bin .add (.tmp 27) (.tmp 29)⟩,
    ⟨none, some 31, false, .mov (.tmp 0)⟩,
    ⟨none, some 32, false, .lenSl (.tmp 31)⟩,
    ⟨none, some 33, false, .bin .rem (.tmp 30) (.tmp 32)⟩,
    ⟨none, some 1, false, .mov (.tmp 33)⟩]) c4_16
def c4_18 : C := .seq (.seq (.ops [⟨none, some 15, false, .mov (.tmp 0)⟩,
    ⟨none, some 16, false, .lenSl (.tmp 15)⟩,
    ⟨none, some 17, false, .bin .gtr (.tmp 16) (.const (.int .i64 200))⟩,
    ⟨none, some 18, false, .mov (.tmp 17)⟩,
    ⟨some (18, false), some 19, false, .mov (.tmp 0)⟩,
    ⟨some (18, false), some 20, false, .lenSl (.tmp 19)⟩,
    ⟨some (18, false), some 21, false, .bin .eql (.tmp 20) (.const (.int .i64 0))⟩,
    ⟨none, some 22, false, .pick (.tmp 18) (.const (.bool true)) (.tmp 21)⟩]) (.cond (.tmp 22) c4_0 .skip)) c4_17
def c4_19 : C := .seq (.ops [⟨none, some 14, false, .call 14 []⟩,
    ⟨none, some 5, false, .mov (.tmp 14)⟩]) c4_18
def c4 : C := .seq (.ops [⟨none, some 4, false, .mov (.const (.bool false))⟩]) c4_19
theorem ok4 : compile Try.prog Try.f4.ntmps (Try.f4.body.getD .skip) = some c4 := by kernel_rfl

-- "tansy/tansylaw04.MatchTells"
def c5_0 : C := .seq (.ops [⟨none, some 29, false, .mov (.tmp 5)⟩,
    ⟨none, some 4, false, .mov (.tmp 29)⟩]) .ret
def c5_1 : C := .seq (.ops [⟨none, some 54, false, .mov (.tmp 5)⟩,
    ⟨none, some 55, false, .mov (.tmp 54)⟩,
    ⟨some (55, true), some 56, false, .mov (.tmp 7)⟩,
    ⟨some (55, true), some 57, false, .mov (.tmp 9)⟩,
    ⟨some (55, true), some 58, false, .call 17 [.tmp 56, .tmp 57]⟩,
    ⟨none, some 59, false, .pick (.tmp 55) (.tmp 58) (.const (.bool false))⟩,
    ⟨none, some 60, false, .mov (.tmp 59)⟩,
    ⟨some (60, true), some 61, false, .mov (.tmp 8)⟩,
    ⟨some (60, true), some 62, false, .mov (.tmp 10)⟩,
    ⟨some (60, true), some 63, false, .bin .eql (.tmp 61) (.tmp 62)⟩,
    ⟨none, some 64, false, .pick (.tmp 60) (.tmp 63) (.const (.bool false))⟩,
    ⟨none, some 65, false, .mov (.tmp 64)⟩,
    ⟨some (65, true), some 66, false, .mov (.tmp 11)⟩,
    ⟨some (65, true), some 67, false, .mov (.tmp 13)⟩,
    ⟨some (65, true), some 68, false, .bin .eql (.tmp 66) (.tmp 67)⟩,
    ⟨none, some 69, false, .pick (.tmp 65) (.tmp 68) (.const (.bool false))⟩,
    ⟨none, some 70, false, .mov (.tmp 69)⟩,
    ⟨some (70, true), some 71, false, .mov (.tmp 12)⟩,
    ⟨some (70, true), some 72, false, .mov (.tmp 14)⟩,
    ⟨some (70, true), some 73, false, .bin .eql (.tmp 71) (.tmp 72)⟩,
    ⟨none, some 74, false, .pick (.tmp 70) (.tmp 73) (.const (.bool false))⟩,
    ⟨none, some 75, false, .mov (.tmp 74)⟩,
    ⟨some (75, true), some 76, false, .mov (.tmp 0)⟩,
    ⟨some (75, true), some 77, false, .call 20 [.tmp 76]⟩,
    ⟨some (75, true), some 78, false, .mov (.tmp 0)⟩,
    ⟨some (75, true), some 79, false, .call 21 [.tmp 78]⟩,
    ⟨some (75, true), some 80, false, .bin .eql (.tmp 77) (.tmp 79)⟩,
    ⟨none, some 81, false, .pick (.tmp 75) (.tmp 80) (.const (.bool false))⟩,
    ⟨none, some 82, false, .mov (.tmp 81)⟩,
    ⟨some (82, true), some 83, false, .mov (.tmp 0)⟩,
    ⟨some (82, true), some 84, false, .mov (.tmp 6)⟩,
    ⟨some (82, true), some 85, false, .call 22 [.tmp 83, .tmp 84]⟩,
    ⟨none, some 86, false, .pick (.tmp 82) (.tmp 85) (.const (.bool false))⟩,
    ⟨none, some 4, false, .mov (.tmp 86)⟩]) .ret
def c5_2 : C := .seq (.ops [⟨none, some 50, false, .mov (.tmp 0)⟩,
    ⟨none, some 51, false, .call 19 [.tmp 50]⟩,
    ⟨none, some 49, false, .mov (.tmp 51)⟩,
    ⟨none, some 52, false, .extract (.tmp 49) 0⟩,
    ⟨none, some 53, false, .extract (.tmp 49) 1⟩,
    ⟨none, some 13, false, .mov (.tmp 52)⟩,
    ⟨none, some 14, false, .mov (.tmp 53)⟩]) c5_1
def c5_3 : C := .seq (.ops [⟨none, some 45, false, .mov (.tmp 0)⟩,
    ⟨none, some 46, false, .call 15 [.tmp 45]⟩,
    ⟨none, some 44, false, .mov (.tmp 46)⟩,
    ⟨none, some 47, false, .extract (.tmp 44) 0⟩,
    ⟨none, some 48, false, .extract (.tmp 44) 1⟩,
    ⟨none, some 11, false, .mov (.tmp 47)⟩,
    ⟨none, some 12, false, .mov (.tmp 48)⟩]) c5_2
def c5_4 : C := .seq (.ops [⟨none, some 39, false, .mov (.tmp 0)⟩,
    ⟨none, some 40, false, .mov (.tmp 1)⟩,
    ⟨none, some 41, false, .call 18 [.tmp 39, .tmp 40]⟩,
    ⟨none, some 38, false, .mov (.tmp 41)⟩,
    ⟨none, some 42, false, .extract (.tmp 38) 0⟩,
    ⟨none, some 43, false, .extract (.tmp 38) 1⟩,
    ⟨none, some 9, false, .mov (.tmp 42)⟩,
    ⟨none, some 10, false, .mov (.tmp 43)⟩]) c5_3
def c5_5 : C := .seq (.ops [⟨none, some 33, false, .mov (.tmp 0)⟩,
    ⟨none, some 34, false, .mov (.tmp 1)⟩,
    ⟨none, some 35, false, .call 16 [.tmp 33, .tmp 34]⟩,
    ⟨none, some 32, false, .mov (.tmp 35)⟩,
    ⟨none, some 36, false, .extract (.tmp 32) 0⟩,
    ⟨none, some 37, false, .extract (.tmp 32) 1⟩,
    ⟨none, some 7, false, .mov (.tmp 36)⟩,
    ⟨none, some 8, false, .mov (.tmp 37)⟩]) c5_4
def c5_6 : C := .seq (.ops [⟨none, some 30, false, .mov (.tmp 0)⟩,
    ⟨none, some 31, false, .append 3 24 (.const (.slice none 0 0)) (.tmp 30)⟩,
    ⟨none, some 6, false, .mov (.tmp 31)⟩]) c5_5
def c5_7 : C := .seq (.seq (.ops [⟨none, some 16, false, .mov (.tmp 0)⟩,
    ⟨none, some 17, false, .lenSl (.tmp 16)⟩,
    ⟨none, some 18, false, .bin .gtr (.tmp 17) (.const (.int .i64 200))⟩,
    ⟨none, some 19, false, .mov (.tmp 18)⟩,
    ⟨some (19, true), some 20, false, .mov (.tmp 0)⟩,
    ⟨some (19, true), some 21, false, .lenSl (.tmp 20)⟩,
    ⟨some (19, true), some 22, false, .bin .leq (.tmp 21) (.const (.int .i64 65536))⟩,
    ⟨none, some 23, false, .pick (.tmp 19) (.tmp 22) (.const (.bool false))⟩,
    ⟨none, some 24, false, .mov (.tmp 23)⟩,
    ⟨some (24, false), some 25, false, .mov (.tmp 0)⟩,
    ⟨some (24, false), some 26, false, .lenSl (.tmp 25)⟩,
    ⟨some (24, false), some 27, false, .bin .gtr (.tmp 26) (.const (.int .i64 70000))⟩,
    ⟨none, some 28, false, .pick (.tmp 24) (.const (.bool true)) (.tmp 27)⟩]) (.cond (.tmp 28) c5_0 .skip)) c5_6
def c5_8 : C := .seq (.ops [⟨none, some 15, false, .call 14 []⟩,
    ⟨none, some 5, false, .mov (.tmp 15)⟩]) c5_7
def c5 : C := .seq (.ops [⟨none, some 4, false, .mov (.const (.bool false))⟩]) c5_8
theorem ok5 : compile Try.prog Try.f5.ntmps (Try.f5.body.getD .skip) = some c5 := by kernel_rfl

-- "tansy/tansylaw04.MatchBack"
def c6_0 : C := .seq (.ops [⟨none, some 14, false, .mov (.tmp 3)⟩,
    ⟨none, some 2, false, .mov (.tmp 14)⟩]) .ret
def c6_1 : C := .seq (.ops [⟨none, some 2, false, .mov (.const (.bool false))⟩]) .ret
def c6_2 : C := .seq (.ops [⟨none, some 34, false, .mov (.tmp 3)⟩,
    ⟨none, some 35, false, .mov (.tmp 34)⟩,
    ⟨some (35, true), some 36, false, .mov (.tmp 7)⟩,
    ⟨some (35, true), some 37, false, .bin .eql (.tmp 36) (.const (.int .i64 0))⟩,
    ⟨none, some 38, false, .pick (.tmp 35) (.tmp 37) (.const (.bool false))⟩,
    ⟨none, some 39, false, .mov (.tmp 38)⟩,
    ⟨some (39, true), some 40, false, .mov (.tmp 9)⟩,
    ⟨some (39, true), some 41, false, .bin .eql (.tmp 40) (.const (.int .i64 0))⟩,
    ⟨none, some 42, false, .pick (.tmp 39) (.tmp 41) (.const (.bool false))⟩,
    ⟨none, some 43, false, .mov (.tmp 42)⟩,
    ⟨some (43, true), some 44, false, .mov (.tmp 6)⟩,
    ⟨some (43, true), some 45, false, .mov (.tmp 0)⟩,
    ⟨some (43, true), some 46, false, .call 17 [.tmp 44, .tmp 45]⟩,
    ⟨none, some 47, false, .pick (.tmp 43) (.tmp 46) (.const (.bool false))⟩,
    ⟨none, some 48, false, .mov (.tmp 47)⟩,
    ⟨some (48, true), some 49, false, .mov (.tmp 8)⟩,
    ⟨some (48, true), some 50, false, .mov (.tmp 0)⟩,
    ⟨some (48, true), some 51, false, .lenSl (.tmp 50)⟩,
    ⟨some (48, true), some 52, false, .bin .eql (.tmp 49) (.tmp 51)⟩,
    ⟨none, some 53, false, .pick (.tmp 48) (.tmp 52) (.const (.bool false))⟩,
    ⟨none, some 54, false, .mov (.tmp 53)⟩,
    ⟨some (54, true), some 55, false, .mov (.tmp 4)⟩,
    ⟨some (54, true), some 56, false, .lenSl (.tmp 55)⟩,
    ⟨some (54, true), some 57, false, .mov (.tmp 0)⟩,
    ⟨some (54, true), some 58, false, .lenSl (.tmp 57)⟩,
    ⟨some (54, true), some 59, false, .bin .leq (.tmp 56) (.tmp 58)⟩,
    ⟨none, some 60, false, .pick (.tmp 54) (.tmp 59) (.const (.bool false))⟩,
    ⟨none, some 61, false, .mov (.tmp 60)⟩,
    ⟨some (61, true), some 62, false, .mov (.tmp 4)⟩,
    ⟨some (61, true), some 63, false, .call 20 [.tmp 62]⟩,
    ⟨some (61, true), some 64, false, .bin .eql (.tmp 63) (.const (.int .i64 0))⟩,
    ⟨none, some 65, false, .pick (.tmp 61) (.tmp 64) (.const (.bool false))⟩,
    ⟨none, some 2, false, .mov (.tmp 65)⟩]) .ret
def c6_3 : C := .seq (.ops [⟨none, some 30, false, .mov (.tmp 4)⟩,
    ⟨none, some 31, false, .call 15 [.tmp 30]⟩,
    ⟨none, some 29, false, .mov (.tmp 31)⟩,
    ⟨none, some 32, false, .extract (.tmp 29) 0⟩,
    ⟨none, some 33, false, .extract (.tmp 29) 1⟩,
    ⟨none, some 8, false, .mov (.tmp 32)⟩,
    ⟨none, some 9, false, .mov (.tmp 33)⟩]) c6_2
def c6_4 : C := .seq (.ops [⟨none, some 23, false, .mov (.tmp 4)⟩,
    ⟨none, some 24, false, .mov (.tmp 0)⟩,
    ⟨none, some 25, false, .lenSl (.tmp 24)⟩,
    ⟨none, some 26, false, .call 16 [.tmp 23, .tmp 25]⟩,
    ⟨none, some 22, false, .mov (.tmp 26)⟩,
    ⟨none, some 27, false, .extract (.tmp 22) 0⟩,
    ⟨none, some 28, false, .extract (.tmp 22) 1⟩,
    ⟨none, some 6, false, .mov (.tmp 27)⟩,
    ⟨none, some 7, false, .mov (.tmp 28)⟩]) c6_3
def c6_5 : C := .seq (.seq (.ops [⟨none, some 20, false, .mov (.tmp 5)⟩,
    ⟨none, some 21, false, .bin .neq (.tmp 20) (.const (.int .i64 0))⟩]) (.cond (.tmp 21) c6_1 .skip)) c6_4
def c6_6 : C := .seq (.ops [⟨none, some 16, false, .mov (.tmp 0)⟩,
    ⟨none, some 17, false, .call 23 [.tmp 16]⟩,
    ⟨none, some 15, false, .mov (.tmp 17)⟩,
    ⟨none, some 18, false, .extract (.tmp 15) 0⟩,
    ⟨none, some 19, false, .extract (.tmp 15) 1⟩,
    ⟨none, some 4, false, .mov (.tmp 18)⟩,
    ⟨none, some 5, false, .mov (.tmp 19)⟩]) c6_5
def c6_7 : C := .seq (.seq (.ops [⟨none, some 11, false, .mov (.tmp 0)⟩,
    ⟨none, some 12, false, .lenSl (.tmp 11)⟩,
    ⟨none, some 13, false, .bin .gtr (.tmp 12) (.const (.int .i64 500))⟩]) (.cond (.tmp 13) c6_0 .skip)) c6_6
def c6_8 : C := .seq (.ops [⟨none, some 10, false, .call 14 []⟩,
    ⟨none, some 3, false, .mov (.tmp 10)⟩]) c6_7
def c6 : C := .seq (.ops [⟨none, some 2, false, .mov (.const (.bool false))⟩]) c6_8
theorem ok6 : compile Try.prog Try.f6.ntmps (Try.f6.body.getD .skip) = some c6 := by kernel_rfl

-- "tansy/tansylaw04.live"
def c14_0 : C := .seq (.ops [⟨none, some 9, false, .mov (.tmp 2)⟩,
    ⟨none, some 10, false, .bin .eql (.tmp 9) (.const (.int .i64 0))⟩,
    ⟨none, some 11, false, .mov (.tmp 10)⟩,
    ⟨some (11, true), some 12, false, .mov (.tmp 1)⟩,
    ⟨some (11, true), some 13, false, .build [.int .u8 0, .int .i64 0, .int .i64 0] [(0, (1, .const (.int .u8 97)))]⟩,
    ⟨some (11, true), some 14, false, .build [.int .u8 0, .int .i64 0, .int .i64 0] [(1, (1, .const (.int .i64 4))), (2, (1, .const (.int .i64 1)))]⟩,
    ⟨some (11, true), some 15, false, .bslice 3 2 [.int .u8 0, .int .i64 0, .int .i64 0] [(0, (3, .tmp 13)), (3, (3, .tmp 14))]⟩,
    ⟨some (11, true), some 16, false, .call 22 [.tmp 12, .tmp 15]⟩,
    ⟨none, some 17, false, .pick (.tmp 11) (.tmp 16) (.const (.bool false))⟩,
    ⟨none, some 0, false, .mov (.tmp 17)⟩]) .ret
def c14_1 : C := .seq (.ops [⟨none, some 4, false, .bslice 1 5 [.int .u8 0] [(0, (1, .const (.int .u8 97))), (1, (1, .const (.int .u8 97))), (2, (1, .const (.int .u8 97))), (3, (1, .const (.int .u8 97))), (4, (1, .const (.int .u8 97)))]⟩,
    ⟨none, some 5, false, .mark (.tmp 4)⟩,
    ⟨none, some 6, false, .call 23 [.tmp 5]⟩,
    ⟨none, some 3, false, .mov (.tmp 6)⟩,
    ⟨none, some 7, false, .extract (.tmp 3) 0⟩,
    ⟨none, some 8, false, .extract (.tmp 3) 1⟩,
    ⟨none, some 1, false, .mov (.tmp 7)⟩,
    ⟨none, some 2, false, .mov (.tmp 8)⟩]) c14_0
def c14 : C := .seq (.ops [⟨none, some 0, false, .mov (.const (.bool false))⟩]) c14_1
theorem ok14 : compile Try.prog Try.f14.ntmps (Try.f14.body.getD .skip) = some c14 := by kernel_rfl

-- "tansy/match.Long"
def c15_0 : C := .seq (.ops [⟨none, some 2, false, .mov (.const (.int .i64 0))⟩,
    ⟨none, some 3, false, .mov (.const (.int .i64 1))⟩]) .ret
def c15_1 : C := .seq (.ops [⟨none, some 2, false, .mov (.const (.int .i64 0))⟩,
    ⟨none, some 3, false, .mov (.const (.int .i64 1))⟩]) .ret
def c15_2 : C := .ops [⟨none, some 50, false, .mov (.tmp 2)⟩,
    ⟨none, some 51, false, .load (some 3) (.tmp 5)⟩,
    ⟨none, some 52, false, .call 48 [.tmp 51]⟩,
    ⟨none, some 53, false, .bin .add (.tmp 50) (.tmp 52)⟩,
    ⟨none, some 2, false, .mov (.tmp 53)⟩]
def c15_3 : C := .seq (.seq (.ops [⟨none, some 41, false, .mov (.tmp 6)⟩,
    ⟨none, some 42, false, .un .not (.tmp 41)⟩,
    ⟨none, some 43, false, .mov (.tmp 42)⟩,
    ⟨some (43, true), some 44, false, .load (some 3) (.tmp 5)⟩,
    ⟨some (43, true), some 45, false, .fieldAddr 0 (.tmp 5)⟩,
    ⟨some (43, true), some 46, false, .load none (.tmp 45)⟩,
    ⟨some (43, true), some 47, false, .build [.int .u8 0, .int .i64 0, .int .i64 0] [(0, (1, .tmp 46))]⟩,
    ⟨some (43, true), some 48, false, .eqv true (.agg [(0, 1), (1, 1), (2, 1)]) (.tmp 44) (.tmp 47)⟩,
    ⟨none, some 49, false, .pick (.tmp 43) (.tmp 48) (.const (.bool false))⟩]) (.cond (.tmp 49) c15_1 .skip)) c15_2
def c15_4 : C := .seq (.ops [⟨none, some 16, false, .fieldAddr 1 (.tmp 5)⟩,
    ⟨none, some 17, false, .load none (.tmp 16)⟩,
    ⟨none, some 18, false, .bin .geq (.tmp 17) (.const (.int .i64 3))⟩,
    ⟨none, some 19, false, .mov (.tmp 18)⟩,
    ⟨some (19, true), some 20, false, .fieldAddr 1 (.tmp 5)⟩,
    ⟨some (19, true), some 21, false, .load none (.tmp 20)⟩,
    ⟨some (19, true), some 22, false, .bin .leq (.tmp 21) (.const (.int .i64 18))⟩,
    ⟨none, some 23, false, .pick (.tmp 19) (.tmp 22) (.const (.bool false))⟩,
    ⟨none, some 24, false, .mov (.tmp 23)⟩,
    ⟨some (24, true), some 25, false, .fieldAddr 2 (.tmp 5)⟩,
    ⟨some (24, true), some 26, false, .load none (.tmp 25)⟩,
    ⟨some (24, true), some 27, false, .bin .gtr (.tmp 26) (.const (.int .i64 0))⟩,
    ⟨none, some 28, false, .pick (.tmp 24) (.tmp 27) (.const (.bool false))⟩,
    ⟨none, some 29, false, .mov (.tmp 28)⟩,
    ⟨some (29, true), some 30, false, .fieldAddr 2 (.tmp 5)⟩,
    ⟨some (29, true), some 31, false, .load none (.tmp 30)⟩,
    ⟨some (29, true), some 32, false, .mov (.tmp 2)⟩,
    ⟨some (29, true), some 33, false, .mm false (.const (.int .i64 256)) [.tmp 32]⟩,
    ⟨some (29, true), some 34, false, .bin .leq (.tmp 31) (.tmp 33)⟩,
    ⟨none, some 35, false, .pick (.tmp 29) (.tmp 34) (.const (.bool false))⟩,
    ⟨none, some 36, false, .mov (.tmp 35)⟩,
    ⟨some (36, true), some 37, false, .fieldAddr 0 (.tmp 5)⟩,
    ⟨some (36, true), some 38, false, .load none (.tmp 37)⟩,
    ⟨some (36, true), some 39, false, .bin .eql (.tmp 38) (.const (.int .u8 0))⟩,
    ⟨none, some 40, false, .pick (.tmp 36) (.tmp 39) (.const (.bool false))⟩,
    ⟨none, some 6, false, .mov (.tmp 40)⟩]) c15_3
def c15_5 : C := .seq (.ops [⟨none, some 14, false, .idxSl 3 (.tmp 10) (.tmp 12)⟩,
    ⟨none, some 15, false, .load (some 3) (.tmp 14)⟩,
    ⟨none, some 5, false, .alloc [.int .u8 0, .int .i64 0, .int .i64 0]⟩,
    ⟨none, none, false, .store 3 (.tmp 5) (.tmp 15)⟩]) c15_4
def c15_6 : C := .ops [⟨none, some 54, false, .bin .add (.tmp 12) (.const (.int .i64 1))⟩,
    ⟨none, some 12, false, .mov (.tmp 54)⟩]
def c15_7 : C := .seq (.cond (.tmp 13) .skip (.exit 0)) (.seq (.block 1 c15_5) c15_6)
def c15_8 : C := .seq (.ops [⟨none, some 13, false, .bin .lss (.tmp 12) (.tmp 11)⟩]) c15_7
def c15_9 : C := .seq (.ops [⟨none, some 55, false, .mov (.tmp 2)⟩,
    ⟨none, some 2, false, .mov (.tmp 55)⟩,
    ⟨none, some 3, false, .mov (.const (.int .i64 0))⟩]) .ret
def c15_10 : C := .seq (.seq (.ops [⟨none, some 10, false, .mov (.tmp 0)⟩,
    ⟨none, some 11, false, .lenSl (.tmp 10)⟩,
    ⟨none, some 12, false, .mov (.const (.int .i64 0))⟩]) (.block 0 (.loop c15_8))) c15_9
def c15_11 : C := .seq (.seq (.ops [⟨none, some 7, false, .mov (.tmp 0)⟩,
    ⟨none, some 8, false, .lenSl (.tmp 7)⟩,
    ⟨none, some 9, false, .bin .gtr (.tmp 8) (.const (.int .i64 65536))⟩]) (.cond (.tmp 9) c15_0 .skip)) c15_10
def c15 : C := .seq (.ops [⟨none, some 2, false, .mov (.const (.int .i64 0))⟩,
    ⟨none, some 3, false, .mov (.const (.int .i64 0))⟩]) c15_11
theorem ok15 : compile Try.prog Try.f15.ntmps (Try.f15.body.getD .skip) = some c15 := by kernel_rfl

-- "tansy/match.Text"
def c16_0 : C := .seq (.ops [⟨none, some 4, false, .mov (.const (.slice none 0 0))⟩,
    ⟨none, some 5, false, .mov (.const (.int .i64 1))⟩]) .ret
def c16_1 : C := .seq (.ops [⟨none, some 4, false, .mov (.const (.slice none 0 0))⟩,
    ⟨none, some 5, false, .mov (.const (.int .i64 3))⟩]) .ret
def c16_2 : C := .seq (.ops [⟨none, some 25, false, .mov (.tmp 6)⟩,
    ⟨none, some 26, false, .mov (.tmp 1)⟩,
    ⟨none, some 27, false, .mm false (.tmp 26) [.const (.int .i64 65536)]⟩,
    ⟨none, some 28, false, .bin .gtr (.tmp 25) (.tmp 27)⟩,
    ⟨none, some 24, false, .mov (.tmp 28)⟩]) (.cond (.tmp 24) c16_1 .skip)
def c16_3 : C := .seq (.ops [⟨none, some 18, false, .mov (.tmp 7)⟩,
    ⟨none, some 19, false, .bin .neq (.tmp 18) (.const (.int .i64 0))⟩,
    ⟨none, some 20, false, .mov (.tmp 19)⟩,
    ⟨some (20, false), some 21, false, .mov (.tmp 1)⟩,
    ⟨some (20, false), some 22, false, .bin .lss (.tmp 21) (.const (.int .i64 0))⟩,
    ⟨none, some 23, false, .pick (.tmp 20) (.const (.bool true)) (.tmp 22)⟩,
    ⟨none, some 17, false, .mov (.tmp 23)⟩]) (.cond (.tmp 17) c16_0 c16_2)
def c16_4 : C := .seq (.ops [⟨none, some 40, false, .mov (.tmp 8)⟩,
    ⟨none, some 41, false, .fieldAddr 0 (.tmp 10)⟩,
    ⟨none, some 42, false, .load none (.tmp 41)⟩,
    ⟨none, some 43, false, .bslice 1 1 [.int .u8 0] [(0, (1, .tmp 42))]⟩,
    ⟨none, some 44, false, .append 1 1 (.tmp 40) (.tmp 43)⟩,
    ⟨none, some 8, false, .mov (.tmp 44)⟩]) (.exit 2)
def c16_5 : C := .ops [⟨none, some 64, false, .mov (.tmp 11)⟩,
    ⟨none, some 65, false, .bin .add (.tmp 64) (.const (.int .i64 1))⟩,
    ⟨none, some 11, false, .mov (.tmp 65)⟩]
def c16_6 : C := .seq (.ops [⟨none, some 57, false, .mov (.tmp 8)⟩,
    ⟨none, some 58, false, .mov (.tmp 8)⟩,
    ⟨none, some 59, false, .mov (.tmp 11)⟩,
    ⟨none, some 60, false, .idxSl 1 (.tmp 58) (.tmp 59)⟩,
    ⟨none, some 61, false, .load none (.tmp 60)⟩,
    ⟨none, some 62, false, .bslice 1 1 [.int .u8 0] [(0, (1, .tmp 61))]⟩,
    ⟨none, some 63, false, .append 1 1 (.tmp 57) (.tmp 62)⟩,
    ⟨none, some 8, false, .mov (.tmp 63)⟩]) c16_5
def c16_7 : C := .ops [⟨none, some 53, false, .fieldAddr 1 (.tmp 10)⟩,
    ⟨none, some 54, false, .load none (.tmp 53)⟩,
    ⟨none, some 55, false, .bin .sub (.tmp 54) (.const (.int .i64 1))⟩,
    ⟨none, some 56, false, .fieldAddr 1 (.tmp 10)⟩,
    ⟨none, none, false, .store 1 (.tmp 56) (.tmp 55)⟩]
def c16_8 : C := .seq (.seq (.ops [⟨none, some 50, false, .fieldAddr 1 (.tmp 10)⟩,
    ⟨none, some 51, false, .load none (.tmp 50)⟩,
    ⟨none, some 52, false, .bin .gtr (.tmp 51) (.const (.int .i64 0))⟩]) (.cond (.tmp 52) .skip (.exit 3))) (.seq (.block 4 c16_6) c16_7)
def c16_9 : C := .seq (.ops [⟨none, some 45, false, .mov (.tmp 8)⟩,
    ⟨none, some 46, false, .lenSl (.tmp 45)⟩,
    ⟨none, some 47, false, .fieldAddr 2 (.tmp 10)⟩,
    ⟨none, some 48, false, .load none (.tmp 47)⟩,
    ⟨none, some 49, false, .bin .sub (.tmp 46) (.tmp 48)⟩,
    ⟨none, some 11, false, .mov (.tmp 49)⟩]) (.block 3 (.loop c16_8))
def c16_10 : C := .seq (.seq (.ops [⟨none, some 37, false, .fieldAddr 1 (.tmp 10)⟩,
    ⟨none, some 38, false, .load none (.tmp 37)⟩,
    ⟨none, some 39, false, .bin .eql (.tmp 38) (.const (.int .i64 0))⟩]) (.cond (.tmp 39) c16_4 .skip)) c16_9
def c16_11 : C := .seq (.ops [⟨none, some 35, false, .idxSl 3 (.tmp 31) (.tmp 33)⟩,
    ⟨none, some 36, false, .load (some 3) (.tmp 35)⟩,
    ⟨none, some 10, false, .alloc [.int .u8 0, .int .i64 0, .int .i64 0]⟩,
    ⟨none, none, false, .store 3 (.tmp 10) (.tmp 36)⟩]) c16_10
def c16_12 : C := .ops [⟨none, some 66, false, .bin .add (.tmp 33) (.const (.int .i64 1))⟩,
    ⟨none, some 33, false, .mov (.tmp 66)⟩]
def c16_13 : C := .seq (.cond (.tmp 34) .skip (.exit 1)) (.seq (.block 2 c16_11) c16_12)
def c16_14 : C := .seq (.ops [⟨none, some 34, false, .bin .lss (.tmp 33) (.tmp 32)⟩]) c16_13
def c16_15 : C := .seq (.ops [⟨none, some 67, false, .mov (.tmp 8)⟩,
    ⟨none, some 4, false, .mov (.tmp 67)⟩,
    ⟨none, some 5, false, .mov (.const (.int .i64 0))⟩]) .ret
def c16_16 : C := .seq (.seq (.ops [⟨none, some 31, false, .mov (.tmp 0)⟩,
    ⟨none, some 32, false, .lenSl (.tmp 31)⟩,
    ⟨none, some 33, false, .mov (.const (.int .i64 0))⟩]) (.block 1 (.loop c16_14))) c16_15
def c16_17 : C := .seq (.ops [⟨none, some 29, false, .mov (.tmp 6)⟩,
    ⟨none, some 30, false, .mkslice 1 1 [.int .u8 0] (.const (.int .i64 0)) (.tmp 29)⟩,
    ⟨none, some 8, false, .mov (.tmp 30)⟩]) c16_16
def c16_18 : C := .seq (.ops [⟨none, some 13, false, .mov (.tmp 0)⟩,
    ⟨none, some 14, false, .call 15 [.tmp 13]⟩,
    ⟨none, some 12, false, .mov (.tmp 14)⟩,
    ⟨none, some 15, false, .extract (.tmp 12) 0⟩,
    ⟨none, some 16, false, .extract (.tmp 12) 1⟩,
    ⟨none, some 6, false, .mov (.tmp 15)⟩,
    ⟨none, some 7, false, .mov (.tmp 16)⟩]) (.seq (.block 0 c16_3) c16_17)
def c16 : C := .seq (.ops [⟨none, some 4, false, .mov (.const (.slice none 0 0))⟩,
    ⟨none, some 5, false, .mov (.const (.int .i64 0))⟩]) c16_18
theorem ok16 : compile Try.prog Try.f16.ntmps (Try.f16.body.getD .skip) = some c16 := by kernel_rfl

-- "tansy/tansyref01.SameBytes"
def c17_0 : C := .seq (.ops [⟨none, some 5, false, .mov (.tmp 0)⟩,
    ⟨none, some 6, false, .toStr (.tmp 5)⟩,
    ⟨none, some 7, false, .mov (.tmp 1)⟩,
    ⟨none, some 8, false, .toStr (.tmp 7)⟩,
    ⟨none, some 9, false, .bin .eql (.tmp 6) (.tmp 8)⟩,
    ⟨none, some 4, false, .mov (.tmp 9)⟩]) .ret
def c17 : C := .seq (.ops [⟨none, some 4, false, .mov (.const (.bool false))⟩]) c17_0
theorem ok17 : compile Try.prog Try.f17.ntmps (Try.f17.body.getD .skip) = some c17 := by kernel_rfl

-- "tansy/tansyref04.Text"
def c18_0 : C := .seq (.ops [⟨none, some 4, false, .mov (.const (.slice none 0 0))⟩,
    ⟨none, some 5, false, .mov (.const (.int .i64 1))⟩]) .ret
def c18_1 : C := .seq (.ops [⟨none, some 4, false, .mov (.const (.slice none 0 0))⟩,
    ⟨none, some 5, false, .mov (.const (.int .i64 3))⟩]) .ret
def c18_2 : C := .ops [⟨none, some 35, false, .mov (.tmp 8)⟩,
    ⟨none, some 36, false, .load (some 3) (.tmp 10)⟩,
    ⟨none, some 37, false, .call 49 [.tmp 35, .tmp 36]⟩,
    ⟨none, some 8, false, .mov (.tmp 37)⟩]
def c18_3 : C := .seq (.ops [⟨none, some 33, false, .idxSl 3 (.tmp 29) (.tmp 31)⟩,
    ⟨none, some 34, false, .load (some 3) (.tmp 33)⟩,
    ⟨none, some 10, false, .alloc [.int .u8 0, .int .i64 0, .int .i64 0]⟩,
    ⟨none, none, false, .store 3 (.tmp 10) (.tmp 34)⟩]) c18_2
def c18_4 : C := .ops [⟨none, some 38, false, .bin .add (.tmp 31) (.const (.int .i64 1))⟩,
    ⟨none, some 31, false, .mov (.tmp 38)⟩]
def c18_5 : C := .seq (.cond (.tmp 32) .skip (.exit 0)) (.seq (.block 1 c18_3) c18_4)
def c18_6 : C := .seq (.ops [⟨none, some 32, false, .bin .lss (.tmp 31) (.tmp 30)⟩]) c18_5
def c18_7 : C := .seq (.ops [⟨none, some 39, false, .mov (.tmp 8)⟩,
    ⟨none, some 4, false, .mov (.tmp 39)⟩,
    ⟨none, some 5, false, .mov (.const (.int .i64 0))⟩]) .ret
def c18_8 : C := .seq (.seq (.ops [⟨none, some 29, false, .mov (.tmp 0)⟩,
    ⟨none, some 30, false, .lenSl (.tmp 29)⟩,
    ⟨none, some 31, false, .mov (.const (.int .i64 0))⟩]) (.block 0 (.loop c18_6))) c18_7
def c18_9 : C := .seq (.ops [⟨none, some 8, false, .mov (.const (.slice none 0 0))⟩]) c18_8
def c18_10 : C := .seq (.seq (.ops [⟨none, some 22, false, .mov (.tmp 6)⟩,
    ⟨none, some 23, false, .mov (.tmp 1)⟩,
    ⟨none, some 24, false, .bin .gtr (.tmp 22) (.tmp 23)⟩,
    ⟨none, some 25, false, .mov (.tmp 24)⟩,
    ⟨some (25, false), some 26, false, .mov (.tmp 6)⟩,
    ⟨some (25, false), some 27, false, .bin .gtr (.tmp 26) (.const (.int .i64 65536))⟩,
    ⟨none, some 28, false, .pick (.tmp 25) (.const (.bool true)) (.tmp 27)⟩]) (.cond (.tmp 28) c18_1 .skip)) c18_9
def c18_11 : C := .seq (.seq (.ops [⟨none, some 16, false, .mov (.tmp 7)⟩,
    ⟨none, some 17, false, .bin .neq (.tmp 16) (.const (.int .i64 0))⟩,
    ⟨none, some 18, false, .mov (.tmp 17)⟩,
    ⟨some (18, false), some 19, false, .mov (.tmp 1)⟩,
    ⟨some (18, false), some 20, false, .bin .lss (.tmp 19) (.const (.int .i64 0))⟩,
    ⟨none, some 21, false, .pick (.tmp 18) (.const (.bool true)) (.tmp 20)⟩]) (.cond (.tmp 21) c18_0 .skip)) c18_10
def c18_12 : C := .seq (.ops [⟨none, some 12, false, .mov (.tmp 0)⟩,
    ⟨none, some 13, false, .call 19 [.tmp 12]⟩,
    ⟨none, some 11, false, .mov (.tmp 13)⟩,
    ⟨none, some 14, false, .extract (.tmp 11) 0⟩,
    ⟨none, some 15, false, .extract (.tmp 11) 1⟩,
    ⟨none, some 6, false, .mov (.tmp 14)⟩,
    ⟨none, some 7, false, .mov (.tmp 15)⟩]) c18_11
def c18 : C := .seq (.ops [⟨none, some 4, false, .mov (.const (.slice none 0 0))⟩,
    ⟨none, some 5, false, .mov (.const (.int .i64 0))⟩]) c18_12
theorem ok18 : compile Try.prog Try.f18.ntmps (Try.f18.body.getD .skip) = some c18 := by kernel_rfl

-- "tansy/tansyref04.Long"
def c19_0 : C := .seq (.ops [⟨none, some 2, false, .mov (.const (.int .i64 0))⟩,
    ⟨none, some 3, false, .mov (.const (.int .i64 1))⟩]) .ret
def c19_1 : C := .ops [⟨none, some 16, false, .mov (.tmp 4)⟩,
    ⟨none, some 17, false, .load (some 3) (.tmp 6)⟩,
    ⟨none, some 18, false, .call 50 [.tmp 17]⟩,
    ⟨none, some 19, false, .bin .add (.tmp 16) (.tmp 18)⟩,
    ⟨none, some 4, false, .mov (.tmp 19)⟩]
def c19_2 : C := .seq (.ops [⟨none, some 14, false, .idxSl 3 (.tmp 10) (.tmp 12)⟩,
    ⟨none, some 15, false, .load (some 3) (.tmp 14)⟩,
    ⟨none, some 6, false, .alloc [.int .u8 0, .int .i64 0, .int .i64 0]⟩,
    ⟨none, none, false, .store 3 (.tmp 6) (.tmp 15)⟩]) c19_1
def c19_3 : C := .ops [⟨none, some 20, false, .bin .add (.tmp 12) (.const (.int .i64 1))⟩,
    ⟨none, some 12, false, .mov (.tmp 20)⟩]
def c19_4 : C := .seq (.cond (.tmp 13) .skip (.exit 0)) (.seq (.block 1 c19_2) c19_3)
def c19_5 : C := .seq (.ops [⟨none, some 13, false, .bin .lss (.tmp 12) (.tmp 11)⟩]) c19_4
def c19_6 : C := .seq (.ops [⟨none, some 21, false, .mov (.tmp 4)⟩,
    ⟨none, some 2, false, .mov (.tmp 21)⟩,
    ⟨none, some 3, false, .mov (.const (.int .i64 0))⟩]) .ret
def c19_7 : C := .seq (.seq (.ops [⟨none, some 10, false, .mov (.tmp 0)⟩,
    ⟨none, some 11, false, .lenSl (.tmp 10)⟩,
    ⟨none, some 12, false, .mov (.const (.int .i64 0))⟩]) (.block 0 (.loop c19_5))) c19_6
def c19_8 : C := .seq (.ops [⟨none, some 4, false, .mov (.const (.int .i64 0))⟩]) c19_7
def c19_9 : C := .seq (.seq (.ops [⟨none, some 7, false, .mov (.tmp 0)⟩,
    ⟨none, some 8, false, .call 21 [.tmp 7]⟩,
    ⟨none, some 9, false, .bin .neq (.tmp 8) (.const (.int .i64 0))⟩]) (.cond (.tmp 9) c19_0 .skip)) c19_8
def c19 : C := .seq (.ops [⟨none, some 2, false, .mov (.const (.int .i64 0))⟩,
    ⟨none, some 3, false, .mov (.const (.int .i64 0))⟩]) c19_9
theorem ok19 : compile Try.prog Try.f19.ntmps (Try.f19.body.getD .skip) = some c19 := by kernel_rfl

-- "tansy/match.Check"
def c20_0 : C := .seq (.ops [⟨none, some 10, false, .mov (.tmp 4)⟩,
    ⟨none, some 2, false, .mov (.tmp 10)⟩]) .ret
def c20_1 : C := .seq (.ops [⟨none, some 6, false, .mov (.tmp 0)⟩,
    ⟨none, some 7, false, .call 15 [.tmp 6]⟩,
    ⟨none, some 5, false, .mov (.tmp 7)⟩,
    ⟨none, some 8, false, .extract (.tmp 5) 0⟩,
    ⟨none, some 9, false, .extract (.tmp 5) 1⟩,
    ⟨none, some 3, false, .mov (.tmp 8)⟩,
    ⟨none, some 4, false, .mov (.tmp 9)⟩]) c20_0
def c20 : C := .seq (.ops [⟨none, some 2, false, .mov (.const (.int .i64 0))⟩]) c20_1
theorem ok20 : compile Try.prog Try.f20.ntmps (Try.f20.body.getD .skip) = some c20 := by kernel_rfl

-- "tansy/tansyref04.Check"
def c21_0 : C := .seq (.ops [⟨none, some 2, false, .mov (.const (.int .i64 1))⟩]) .ret
def c21_1 : C := .seq (.ops [⟨none, some 2, false, .mov (.const (.int .i64 1))⟩]) .ret
def c21_2 : C := .ops [⟨none, some 19, false, .mov (.tmp 3)⟩,
    ⟨none, some 20, false, .load (some 3) (.tmp 5)⟩,
    ⟨none, some 21, false, .call 50 [.tmp 20]⟩,
    ⟨none, some 22, false, .bin .add (.tmp 19) (.tmp 21)⟩,
    ⟨none, some 3, false, .mov (.tmp 22)⟩]
def c21_3 : C := .seq (.seq (.ops [⟨none, some 15, false, .load (some 3) (.tmp 5)⟩,
    ⟨none, some 16, false, .mov (.tmp 3)⟩,
    ⟨none, some 17, false, .call 51 [.tmp 15, .tmp 16]⟩,
    ⟨none, some 18, false, .un .not (.tmp 17)⟩]) (.cond (.tmp 18) c21_1 .skip)) c21_2
def c21_4 : C := .seq (.ops [⟨none, some 13, false, .idxSl 3 (.tmp 9) (.tmp 11)⟩,
    ⟨none, some 14, false, .load (some 3) (.tmp 13)⟩,
    ⟨none, some 5, false, .alloc [.int .u8 0, .int .i64 0, .int .i64 0]⟩,
    ⟨none, none, false, .store 3 (.tmp 5) (.tmp 14)⟩]) c21_3
def c21_5 : C := .ops [⟨none, some 23, false, .bin .add (.tmp 11) (.const (.int .i64 1))⟩,
    ⟨none, some 11, false, .mov (.tmp 23)⟩]
def c21_6 : C := .seq (.cond (.tmp 12) .skip (.exit 0)) (.seq (.block 1 c21_4) c21_5)
def c21_7 : C := .seq (.ops [⟨none, some 12, false, .bin .lss (.tmp 11) (.tmp 10)⟩]) c21_6
def c21_8 : C := .seq (.ops [⟨none, some 2, false, .mov (.const (.int .i64 0))⟩]) .ret
def c21_9 : C := .seq (.seq (.ops [⟨none, some 9, false, .mov (.tmp 0)⟩,
    ⟨none, some 10, false, .lenSl (.tmp 9)⟩,
    ⟨none, some 11, false, .mov (.const (.int .i64 0))⟩]) (.block 0 (.loop c21_7))) c21_8
def c21_10 : C := .seq (.ops [⟨none, some 3, false, .mov (.const (.int .i64 0))⟩]) c21_9
def c21_11 : C := .seq (.seq (.ops [⟨none, some 6, false, .mov (.tmp 0)⟩,
    ⟨none, some 7, false, .lenSl (.tmp 6)⟩,
    ⟨none, some 8, false, .bin .gtr (.tmp 7) (.const (.int .i64 65536))⟩]) (.cond (.tmp 8) c21_0 .skip)) c21_10
def c21 : C := .seq (.ops [⟨none, some 2, false, .mov (.const (.int .i64 0))⟩]) c21_11
theorem ok21 : compile Try.prog Try.f21.ntmps (Try.f21.body.getD .skip) = some c21 := by kernel_rfl

-- "tansy/tansyref04.Same"
def c22_0 : C := .seq (.ops [⟨none, some 4, false, .mov (.const (.bool false))⟩]) .ret
def c22_1 : C := .seq (.ops [⟨none, some 4, false, .mov (.const (.bool false))⟩]) .ret
def c22_2 : C := .seq (.ops [⟨none, some 16, false, .mov (.tmp 0)⟩,
    ⟨none, some 17, false, .mov (.tmp 5)⟩,
    ⟨none, some 18, false, .idxSl 3 (.tmp 16) (.tmp 17)⟩,
    ⟨none, some 19, false, .load (some 3) (.tmp 18)⟩,
    ⟨none, some 20, false, .mov (.tmp 1)⟩,
    ⟨none, some 21, false, .mov (.tmp 5)⟩,
    ⟨none, some 22, false, .idxSl 3 (.tmp 20) (.tmp 21)⟩,
    ⟨none, some 23, false, .load (some 3) (.tmp 22)⟩,
    ⟨none, some 24, false, .eqv true (.agg [(0, 1), (1, 1), (2, 1)]) (.tmp 19) (.tmp 23)⟩]) (.cond (.tmp 24) c22_1 .skip)
def c22_3 : C := .seq (.ops [⟨none, some 15, false, .mov (.tmp 13)⟩,
    ⟨none, some 5, false, .mov (.tmp 15)⟩]) c22_2
def c22_4 : C := .ops [⟨none, some 25, false, .bin .add (.tmp 13) (.const (.int .i64 1))⟩,
    ⟨none, some 13, false, .mov (.tmp 25)⟩]
def c22_5 : C := .seq (.cond (.tmp 14) .skip (.exit 0)) (.seq (.block 1 c22_3) c22_4)
def c22_6 : C := .seq (.ops [⟨none, some 14, false, .bin .lss (.tmp 13) (.tmp 12)⟩]) c22_5
def c22_7 : C := .seq (.ops [⟨none, some 4, false, .mov (.const (.bool true))⟩]) .ret
def c22_8 : C := .seq (.seq (.ops [⟨none, some 11, false, .mov (.tmp 0)⟩,
    ⟨none, some 12, false, .lenSl (.tmp 11)⟩,
    ⟨none, some 13, false, .mov (.const (.int .i64 0))⟩]) (.block 0 (.loop c22_6))) c22_7
def c22_9 : C := .seq (.seq (.ops [⟨none, some 6, false, .mov (.tmp 0)⟩,
    ⟨none, some 7, false, .lenSl (.tmp 6)⟩,
    ⟨none, some 8, false, .mov (.tmp 1)⟩,
    ⟨none, some 9, false, .lenSl (.tmp 8)⟩,
    ⟨none, some 10, false, .bin .neq (.tmp 7) (.tmp 9)⟩]) (.cond (.tmp 10) c22_0 .skip)) c22_8
def c22 : C := .seq (.ops [⟨none, some 4, false, .mov (.const (.bool false))⟩]) c22_9
theorem ok22 : compile Try.prog Try.f22.ntmps (Try.f22.body.getD .skip) = some c22 := by kernel_rfl

-- "tansy/match.Tokens"
def c23_0 : C := .seq (.ops [⟨none, some 2, false, .mov (.const (.slice none 0 0))⟩,
    ⟨none, some 3, false, .mov (.const (.int .i64 3))⟩]) .ret
def c23_1 : C := .seq (.ops [⟨none, some 15, false, .mov (.tmp 4)⟩,
    ⟨none, some 16, false, .call 52 [.tmp 15]⟩,
    ⟨none, some 2, false, .mov (.tmp 16)⟩,
    ⟨none, some 3, false, .mov (.const (.int .i64 0))⟩]) .ret
def c23_2 : C := .ops [⟨none, some 25, false, .mov (.tmp 0)⟩,
    ⟨none, some 26, false, .mov (.tmp 5)⟩,
    ⟨none, some 27, false, .idxSl 1 (.tmp 25) (.tmp 26)⟩,
    ⟨none, some 28, false, .load none (.tmp 27)⟩,
    ⟨none, some 29, false, .build [.int .u8 0, .int .i64 0, .int .i64 0] [(0, (1, .tmp 28))]⟩,
    ⟨none, none, false, .store 3 (.tmp 6) (.tmp 29)⟩]
def c23_3 : C := .seq (.draw [(⟨none, some 30, false, .mov (.tmp 4)⟩, []), (⟨none, some 31, false, .load (some 3) (.tmp 6)⟩, []), (⟨none, some 32, false, .bslice 3 1 [.int .u8 0, .int .i64 0, .int .i64 0] [(0, (3, .tmp 31))]⟩, [1]), (⟨none, some 33, false, .append 3 24 (.tmp 30) (.tmp 32)⟩, [0, 2]), (⟨none, some 34, false, .mov (.tmp 5)⟩, []), (⟨none, some 35, false, .load (some 3) (.tmp 6)⟩, []), (⟨none, some 36, false, .call 48 [.tmp 35]⟩, [5, 3]), (⟨none, some 37, false, .bin .add (.tmp 34) (.tmp 36)⟩, [4, 6]), (⟨none, some 4, false, .mov (.tmp 33)⟩, [3, 6, 0, 1, 2, 3]), (⟨none, some 5, false, .mov (.tmp 37)⟩, [7, 8, 0, 1, 2, 3, 4, 5, 6, 7, 8])]) (.goto 0)
def c23_4 : C := .seq (.seq (.ops [⟨none, some 23, false, .mov (.tmp 7)⟩,
    ⟨none, some 24, false, .un .not (.tmp 23)⟩]) (.cond (.tmp 24) c23_2 .skip)) c23_3
def c23_5 : C := .seq (.ops [⟨none, some 18, false, .mov (.tmp 0)⟩,
    ⟨none, some 19, false, .mov (.tmp 5)⟩,
    ⟨none, some 20, false, .call 53 [.tmp 18, .tmp 19]⟩,
    ⟨none, some 17, false, .mov (.tmp 20)⟩,
    ⟨none, some 21, false, .extract (.tmp 17) 0⟩,
    ⟨none, some 22, false, .extract (.tmp 17) 1⟩,
    ⟨none, some 6, false, .alloc [.int .u8 0, .int .i64 0, .int .i64 0]⟩,
    ⟨none, none, false, .store 3 (.tmp 6) (.tmp 21)⟩,
    ⟨none, some 7, false, .mov (.tmp 22)⟩]) c23_4
def c23_6 : C := .seq (.seq (.ops [⟨none, some 11, false, .mov (.tmp 5)⟩,
    ⟨none, some 12, false, .mov (.tmp 0)⟩,
    ⟨none, some 13, false, .lenSl (.tmp 12)⟩,
    ⟨none, some 14, false, .bin .eql (.tmp 11) (.tmp 13)⟩]) (.cond (.tmp 14) c23_1 .skip)) c23_5
def c23_7 : C := .seq (.ops [⟨none, some 5, false, .mov (.const (.int .i64 0))⟩]) (.seq (.label 0) c23_6)
def c23_8 : C := .seq (.ops [⟨none, some 4, false, .mov (.const (.slice none 0 0))⟩]) c23_7
def c23_9 : C := .seq (.seq (.ops [⟨none, some 8, false, .mov (.tmp 0)⟩,
    ⟨none, some 9, false, .lenSl (.tmp 8)⟩,
    ⟨none, some 10, false, .bin .gtr (.tmp 9) (.const (.int .i64 65536))⟩]) (.cond (.tmp 10) c23_0 .skip)) c23_8
def c23_10 : C := .seq (.ops [⟨none, some 15, false, .mov (.tmp 4)⟩,
    ⟨none, some 16, false, .call 52 [.tmp 15]⟩,
    ⟨none, some 2, false, .mov (.tmp 16)⟩,
    ⟨none, some 3, false, .mov (.const (.int .i64 0))⟩]) .ret
def c23_11 : C := .ops [⟨none, some 25, false, .mov (.tmp 0)⟩,
    ⟨none, some 26, false, .mov (.tmp 5)⟩,
    ⟨none, some 27, false, .idxSl 1 (.tmp 25) (.tmp 26)⟩,
    ⟨none, some 28, false, .load none (.tmp 27)⟩,
    ⟨none, some 29, false, .build [.int .u8 0, .int .i64 0, .int .i64 0] [(0, (1, .tmp 28))]⟩,
    ⟨none, none, false, .store 3 (.tmp 6) (.tmp 29)⟩]
def c23_12 : C := .seq (.draw [(⟨none, some 30, false, .mov (.tmp 4)⟩, []), (⟨none, some 31, false, .load (some 3) (.tmp 6)⟩, []), (⟨none, some 32, false, .bslice 3 1 [.int .u8 0, .int .i64 0, .int .i64 0] [(0, (3, .tmp 31))]⟩, [1]), (⟨none, some 33, false, .append 3 24 (.tmp 30) (.tmp 32)⟩, [0, 2]), (⟨none, some 34, false, .mov (.tmp 5)⟩, []), (⟨none, some 35, false, .load (some 3) (.tmp 6)⟩, []), (⟨none, some 36, false, .call 48 [.tmp 35]⟩, [5, 3]), (⟨none, some 37, false, .bin .add (.tmp 34) (.tmp 36)⟩, [4, 6]), (⟨none, some 4, false, .mov (.tmp 33)⟩, [3, 6, 0, 1, 2, 3]), (⟨none, some 5, false, .mov (.tmp 37)⟩, [7, 8, 0, 1, 2, 3, 4, 5, 6, 7, 8])]) (.goto 0)
def c23_13 : C := .seq (.seq (.ops [⟨none, some 23, false, .mov (.tmp 7)⟩,
    ⟨none, some 24, false, .un .not (.tmp 23)⟩]) (.cond (.tmp 24) c23_11 .skip)) c23_12
def c23_14 : C := .seq (.ops [⟨none, some 18, false, .mov (.tmp 0)⟩,
    ⟨none, some 19, false, .mov (.tmp 5)⟩,
    ⟨none, some 20, false, .call 53 [.tmp 18, .tmp 19]⟩,
    ⟨none, some 17, false, .mov (.tmp 20)⟩,
    ⟨none, some 21, false, .extract (.tmp 17) 0⟩,
    ⟨none, some 22, false, .extract (.tmp 17) 1⟩,
    ⟨none, some 6, false, .alloc [.int .u8 0, .int .i64 0, .int .i64 0]⟩,
    ⟨none, none, false, .store 3 (.tmp 6) (.tmp 21)⟩,
    ⟨none, some 7, false, .mov (.tmp 22)⟩]) c23_13
def c23_15 : C := .seq (.seq (.ops [⟨none, some 11, false, .mov (.tmp 5)⟩,
    ⟨none, some 12, false, .mov (.tmp 0)⟩,
    ⟨none, some 13, false, .lenSl (.tmp 12)⟩,
    ⟨none, some 14, false, .bin .eql (.tmp 11) (.tmp 13)⟩]) (.cond (.tmp 14) c23_10 .skip)) c23_14
def c23 : C := .seq (.ops [⟨none, some 2, false, .mov (.const (.slice none 0 0))⟩,
    ⟨none, some 3, false, .mov (.const (.int .i64 0))⟩]) (.scope 0 c23_9 (.seq .skip c23_15))
theorem ok23 : compile Try.prog Try.f23.ntmps (Try.f23.body.getD .skip) = some c23 := by kernel_rfl

-- "tansy/match.size"
def c48_0 : C := .seq (.ops [⟨none, some 2, false, .mov (.const (.int .i64 1))⟩]) .ret
def c48_1 : C := .seq (.ops [⟨none, some 6, false, .fieldAddr 1 (.tmp 1)⟩,
    ⟨none, some 7, false, .load none (.tmp 6)⟩,
    ⟨none, some 2, false, .mov (.tmp 7)⟩]) .ret
def c48_2 : C := .seq (.seq (.ops [⟨none, some 3, false, .fieldAddr 1 (.tmp 1)⟩,
    ⟨none, some 4, false, .load none (.tmp 3)⟩,
    ⟨none, some 5, false, .bin .eql (.tmp 4) (.const (.int .i64 0))⟩]) (.cond (.tmp 5) c48_0 .skip)) c48_1
def c48 : C := .seq (.ops [⟨none, some 1, false, .box (.tmp 0)⟩,
    ⟨none, some 2, false, .mov (.const (.int .i64 0))⟩]) c48_2
theorem ok48 : compile Try.prog Try.f48.ntmps (Try.f48.body.getD .skip) = some c48 := by kernel_rfl

-- "tansy/tansyref04.tell"
def c49_0 : C := .seq (.ops [⟨none, some 8, false, .mov (.tmp 0)⟩,
    ⟨none, some 9, false, .fieldAddr 0 (.tmp 3)⟩,
    ⟨none, some 10, false, .load none (.tmp 9)⟩,
    ⟨none, some 11, false, .bslice 1 1 [.int .u8 0] [(0, (1, .tmp 10))]⟩,
    ⟨none, some 12, false, .append 1 1 (.tmp 8) (.tmp 11)⟩,
    ⟨none, some 4, false, .mov (.tmp 12)⟩]) .ret
def c49_1 : C := .ops [⟨none, some 17, false, .mov (.tmp 0)⟩,
    ⟨none, some 18, false, .mov (.tmp 0)⟩,
    ⟨none, some 19, false, .mov (.tmp 0)⟩,
    ⟨none, some 20, false, .lenSl (.tmp 19)⟩,
    ⟨none, some 21, false, .fieldAddr 2 (.tmp 3)⟩,
    ⟨none, some 22, false, .load none (.tmp 21)⟩,
    ⟨none, some 23, false, .bin .sub (.tmp 20) (.tmp 22)⟩,
    ⟨none, some 24, false, .idxSl 1 (.tmp 18) (.tmp 23)⟩,
    ⟨none, some 25, false, .load none (.tmp 24)⟩,
    ⟨none, some 26, false, .bslice 1 1 [.int .u8 0] [(0, (1, .tmp 25))]⟩,
    ⟨none, some 27, false, .append 1 1 (.tmp 17) (.tmp 26)⟩,
    ⟨none, some 0, false, .mov (.tmp 27)⟩]
def c49_2 : C := .ops [⟨none, some 28, false, .bin .add (.tmp 15) (.const (.int .i64 1))⟩,
    ⟨none, some 15, false, .mov (.tmp 28)⟩]
def c49_3 : C := .seq (.cond (.tmp 16) .skip (.exit 0)) (.seq (.block 1 c49_1) c49_2)
def c49_4 : C := .seq (.ops [⟨none, some 16, false, .bin .lss (.tmp 15) (.tmp 14)⟩]) c49_3
def c49_5 : C := .seq (.ops [⟨none, some 29, false, .mov (.tmp 0)⟩,
    ⟨none, some 4, false, .mov (.tmp 29)⟩]) .ret
def c49_6 : C := .seq (.seq (.ops [⟨none, some 13, false, .fieldAddr 1 (.tmp 3)⟩,
    ⟨none, some 14, false, .load none (.tmp 13)⟩,
    ⟨none, some 15, false, .mov (.const (.int .i64 0))⟩]) (.block 0 (.loop c49_4))) c49_5
def c49_7 : C := .seq (.seq (.ops [⟨none, some 5, false, .fieldAddr 1 (.tmp 3)⟩,
    ⟨none, some 6, false, .load none (.tmp 5)⟩,
    ⟨none, some 7, false, .bin .eql (.tmp 6) (.const (.int .i64 0))⟩]) (.cond (.tmp 7) c49_0 .skip)) c49_6
def c49 : C := .seq (.ops [⟨none, some 3, false, .box (.tmp 1)⟩,
    ⟨none, some 4, false, .mov (.const (.slice none 0 0))⟩]) c49_7
theorem ok49 : compile Try.prog Try.f49.ntmps (Try.f49.body.getD .skip) = some c49 := by kernel_rfl

-- "tansy/tansyref04.size"
def c50_0 : C := .seq (.ops [⟨none, some 3, false, .fieldAddr 1 (.tmp 1)⟩,
    ⟨none, some 4, false, .load none (.tmp 3)⟩,
    ⟨none, some 5, false, .mm true (.tmp 4) [.const (.int .i64 1)]⟩,
    ⟨none, some 2, false, .mov (.tmp 5)⟩]) .ret
def c50 : C := .seq (.ops [⟨none, some 1, false, .box (.tmp 0)⟩,
    ⟨none, some 2, false, .mov (.const (.int .i64 0))⟩]) c50_0
theorem ok50 : compile Try.prog Try.f50.ntmps (Try.f50.body.getD .skip) = some c50 := by kernel_rfl

-- "tansy/tansyref04.one"
def c51_0 : C := .seq (.ops [⟨none, some 8, false, .fieldAddr 2 (.tmp 2)⟩,
    ⟨none, some 9, false, .load none (.tmp 8)⟩,
    ⟨none, some 10, false, .bin .eql (.tmp 9) (.const (.int .i64 0))⟩,
    ⟨none, some 4, false, .mov (.tmp 10)⟩]) .ret
def c51_1 : C := .seq (.ops [⟨none, some 11, false, .fieldAddr 1 (.tmp 2)⟩,
    ⟨none, some 12, false, .load none (.tmp 11)⟩,
    ⟨none, some 13, false, .bin .geq (.tmp 12) (.const (.int .i64 3))⟩,
    ⟨none, some 14, false, .mov (.tmp 13)⟩,
    ⟨some (14, true), some 15, false, .fieldAddr 1 (.tmp 2)⟩,
    ⟨some (14, true), some 16, false, .load none (.tmp 15)⟩,
    ⟨some (14, true), some 17, false, .bin .leq (.tmp 16) (.const (.int .i64 18))⟩,
    ⟨none, some 18, false, .pick (.tmp 14) (.tmp 17) (.const (.bool false))⟩,
    ⟨none, some 19, false, .mov (.tmp 18)⟩,
    ⟨some (19, true), some 20, false, .fieldAddr 2 (.tmp 2)⟩,
    ⟨some (19, true), some 21, false, .load none (.tmp 20)⟩,
    ⟨some (19, true), some 22, false, .bin .geq (.tmp 21) (.const (.int .i64 1))⟩,
    ⟨none, some 23, false, .pick (.tmp 19) (.tmp 22) (.const (.bool false))⟩,
    ⟨none, some 24, false, .mov (.tmp 23)⟩,
    ⟨some (24, true), some 25, false, .fieldAddr 2 (.tmp 2)⟩,
    ⟨some (24, true), some 26, false, .load none (.tmp 25)⟩,
    ⟨some (24, true), some 27, false, .bin .leq (.tmp 26) (.const (.int .i64 256))⟩,
    ⟨none, some 28, false, .pick (.tmp 24) (.tmp 27) (.const (.bool false))⟩,
    ⟨none, some 29, false, .mov (.tmp 28)⟩,
    ⟨some (29, true), some 30, false, .fieldAddr 0 (.tmp 2)⟩,
    ⟨some (29, true), some 31, false, .load none (.tmp 30)⟩,
    ⟨some (29, true), some 32, false, .bin .eql (.tmp 31) (.const (.int .u8 0))⟩,
    ⟨none, some 33, false, .pick (.tmp 29) (.tmp 32) (.const (.bool false))⟩,
    ⟨none, some 34, false, .mov (.tmp 33)⟩,
    ⟨some (34, true), some 35, false, .fieldAddr 2 (.tmp 2)⟩,
    ⟨some (34, true), some 36, false, .load none (.tmp 35)⟩,
    ⟨some (34, true), some 37, false, .mov (.tmp 1)⟩,
    ⟨some (34, true), some 38, false, .bin .leq (.tmp 36) (.tmp 37)⟩,
    ⟨none, some 39, false, .pick (.tmp 34) (.tmp 38) (.const (.bool false))⟩,
    ⟨none, some 4, false, .mov (.tmp 39)⟩]) .ret
def c51_2 : C := .seq (.seq (.ops [⟨none, some 5, false, .fieldAddr 1 (.tmp 2)⟩,
    ⟨none, some 6, false, .load none (.tmp 5)⟩,
    ⟨none, some 7, false, .bin .eql (.tmp 6) (.const (.int .i64 0))⟩]) (.cond (.tmp 7) c51_0 .skip)) c51_1
def c51 : C := .seq (.ops [⟨none, some 2, false, .box (.tmp 0)⟩,
    ⟨none, some 4, false, .mov (.const (.bool false))⟩]) c51_2
theorem ok51 : compile Try.prog Try.f51.ntmps (Try.f51.body.getD .skip) = some c51 := by kernel_rfl

-- "slices.Clip[[]tansy/api.Token,tansy/api.Token]"
def c52_0 : C := .seq (.ops [⟨none, some 3, false, .mov (.tmp 0)⟩,
    ⟨none, some 4, false, .mov (.tmp 0)⟩,
    ⟨none, some 5, false, .lenSl (.tmp 4)⟩,
    ⟨none, some 6, false, .mov (.tmp 0)⟩,
    ⟨none, some 7, false, .lenSl (.tmp 6)⟩,
    ⟨none, some 8, false, .slice 3 (.tmp 3) none (some (.tmp 5)) (some (.tmp 7))⟩,
    ⟨none, some 2, false, .mov (.tmp 8)⟩]) .ret
def c52 : C := .seq (.ops [⟨none, some 2, false, .mov (.const (.slice none 0 0))⟩]) c52_0
theorem ok52 : compile Try.prog Try.f52.ntmps (Try.f52.body.getD .skip) = some c52 := by kernel_rfl

-- "tansy/match.find"
def c53_0 : C := .ops [⟨none, some 24, false, .mov (.tmp 7)⟩,
    ⟨none, some 25, false, .mov (.tmp 6)⟩,
    ⟨none, some 26, false, .build [.int .u8 0, .int .i64 0, .int .i64 0] [(1, (1, .tmp 24)), (2, (1, .tmp 25))]⟩,
    ⟨none, none, false, .store 3 (.tmp 4) (.tmp 26)⟩]
def c53_1 : C := .seq (.ops [⟨none, some 20, false, .mov (.tmp 7)⟩,
    ⟨none, some 21, false, .fieldAddr 1 (.tmp 4)⟩,
    ⟨none, some 22, false, .load none (.tmp 21)⟩,
    ⟨none, some 23, false, .bin .gtr (.tmp 20) (.tmp 22)⟩]) (.cond (.tmp 23) c53_0 .skip)
def c53_2 : C := .seq (.ops [⟨none, some 14, false, .mov (.tmp 0)⟩,
    ⟨none, some 15, false, .mov (.tmp 1)⟩,
    ⟨none, some 16, false, .mov (.tmp 6)⟩,
    ⟨none, some 17, false, .bin .sub (.tmp 15) (.tmp 16)⟩,
    ⟨none, some 18, false, .mov (.tmp 1)⟩,
    ⟨none, some 19, false, .call 68 [.tmp 14, .tmp 17, .tmp 18]⟩,
    ⟨none, some 7, false, .mov (.tmp 19)⟩]) c53_1
def c53_3 : C := .ops [⟨none, some 12, false, .mov (.tmp 6)⟩,
    ⟨none, some 13, false, .bin .add (.tmp 12) (.const (.int .i64 1))⟩,
    ⟨none, some 6, false, .mov (.tmp 13)⟩]
def c53_4 : C := .seq (.seq (.ops [⟨none, some 8, false, .mov (.tmp 6)⟩,
    ⟨none, some 9, false, .mov (.tmp 1)⟩,
    ⟨none, some 10, false, .mm false (.const (.int .i64 256)) [.tmp 9]⟩,
    ⟨none, some 11, false, .bin .leq (.tmp 8) (.tmp 10)⟩]) (.cond (.tmp 11) .skip (.exit 0))) (.seq (.block 1 c53_2) c53_3)
def c53_5 : C := .seq (.ops [⟨none, some 27, false, .load (some 3) (.tmp 4)⟩,
    ⟨none, some 28, false, .fieldAddr 1 (.tmp 4)⟩,
    ⟨none, some 29, false, .load none (.tmp 28)⟩,
    ⟨none, some 30, false, .bin .geq (.tmp 29) (.const (.int .i64 3))⟩,
    ⟨none, none, false, .store 3 (.tmp 4) (.tmp 27)⟩,
    ⟨none, some 5, false, .mov (.tmp 30)⟩]) .ret
def c53_6 : C := .seq (.seq (.ops [⟨none, some 6, false, .mov (.const (.int .i64 1))⟩]) (.block 0 (.loop c53_4))) c53_5
def c53 : C := .seq (.ops [⟨none, some 4, false, .alloc [.int .u8 0, .int .i64 0, .int .i64 0]⟩,
    ⟨none, some 5, false, .mov (.const (.bool false))⟩]) c53_6
theorem ok53 : compile Try.prog Try.f53.ntmps (Try.f53.body.getD .skip) = some c53 := by kernel_rfl

-- "tansy/match.common"
def c68_0 : C := .ops [⟨none, some 32, false, .mov (.tmp 6)⟩,
    ⟨none, some 33, false, .bin .add (.tmp 32) (.const (.int .i64 1))⟩,
    ⟨none, some 6, false, .mov (.tmp 33)⟩]
def c68_1 : C := .seq (.seq (.ops [⟨none, some 7, false, .mov (.tmp 6)⟩,
    ⟨none, some 8, false, .bin .lss (.tmp 7) (.const (.int .i64 18))⟩,
    ⟨none, some 9, false, .mov (.tmp 8)⟩,
    ⟨some (9, true), some 10, false, .mov (.tmp 2)⟩,
    ⟨some (9, true), some 11, false, .mov (.tmp 6)⟩,
    ⟨some (9, true), some 12, false, .bin .add (.tmp 10) (.tmp 11)⟩,
    ⟨some (9, true), some 13, false, .mov (.tmp 0)⟩,
    ⟨some (9, true), some 14, false, .lenSl (.tmp 13)⟩,
    ⟨some (9, true), some 15, false, .bin .lss (.tmp 12) (.tmp 14)⟩,
    ⟨none, some 16, false, .pick (.tmp 9) (.tmp 15) (.const (.bool false))⟩,
    ⟨none, some 17, false, .mov (.tmp 16)⟩,
    ⟨some (17, true), some 18, false, .mov (.tmp 0)⟩,
    ⟨some (17, true), some 19, false, .mov (.tmp 1)⟩,
    ⟨some (17, true), some 20, false, .mov (.tmp 6)⟩,
    ⟨some (17, true), some 21, false, .bin .add (.tmp 19) (.tmp 20)⟩,
    ⟨some (17, true), some 22, false, .idxSl 1 (.tmp 18) (.tmp 21)⟩,
    ⟨some (17, true), some 23, false, .load none (.tmp 22)⟩,
    ⟨some (17, true), some 24, false, .mov (.tmp 0)⟩,
    ⟨some (17, true), some 25, false, .mov (.tmp 2)⟩,
    ⟨some (17, true), some 26, false, .mov (.tmp 6)⟩,
    ⟨some (17, true), some 27, false, .bin .add (.tmp 25) (.tmp 26)⟩,
    ⟨some (17, true), some 28, false, .idxSl 1 (.tmp 24) (.tmp 27)⟩,
    ⟨some (17, true), some 29, false, .load none (.tmp 28)⟩,
    ⟨some (17, true), some 30, false, .bin .eql (.tmp 23) (.tmp 29)⟩,
    ⟨none, some 31, false, .pick (.tmp 17) (.tmp 30) (.const (.bool false))⟩]) (.cond (.tmp 31) .skip (.exit 0))) (.block 1 c68_0)
def c68_2 : C := .seq (.ops [⟨none, some 34, false, .mov (.tmp 6)⟩,
    ⟨none, some 6, false, .mov (.tmp 34)⟩]) .ret
def c68 : C := .seq (.ops [⟨none, some 6, false, .mov (.const (.int .i64 0))⟩]) (.seq (.block 0 (.loop c68_1)) c68_2)
theorem ok68 : compile Try.prog Try.f68.ntmps (Try.f68.body.getD .skip) = some c68 := by kernel_rfl

end Go.Vx

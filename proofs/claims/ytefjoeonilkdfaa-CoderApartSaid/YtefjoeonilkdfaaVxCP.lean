/- A part of the proof: what it shows stands in its theorems. No condition beyond those that they name. -/
import Derived.Test.YtefjoeonilkdfaaVxN
import Derived.Test.YtefjoeonilkdfaaProg
namespace Go.Vx
open Go.Proofs
set_option maxRecDepth 4000

/-! The functions' code. -/

-- "tansy/tansylaw05.ProbDoes"
def c7_0 : C := .seq (.ops [⟨none, some 60, false, .mov (.tmp 13)⟩,
    ⟨none, some 12, false, .mov (.tmp 60)⟩]) .ret
def c7_1 : C := .ops [⟨none, some 159, false, .mov (.tmp 23)⟩,
    ⟨none, some 160, false, .mov (.tmp 32)⟩,
    ⟨none, some 161, false, .idxSl 1 (.tmp 159) (.tmp 160)⟩,
    ⟨none, some 162, false, .load none (.tmp 161)⟩,
    ⟨none, some 163, false, .bin .add (.tmp 162) (.const (.int .i64 1))⟩,
    ⟨none, some 164, false, .idxSl 1 (.tmp 159) (.tmp 160)⟩,
    ⟨none, none, false, .store 1 (.tmp 164) (.tmp 163)⟩]
def c7_2 : C := .seq (.ops [⟨none, some 158, false, .mov (.tmp 156)⟩,
    ⟨none, some 32, false, .mov (.tmp 158)⟩]) c7_1
def c7_3 : C := .ops [⟨none, some 165, false, .bin .add (.tmp 156) (.const (.int .i64 1))⟩,
    ⟨none, some 156, false, .mov (.tmp 165)⟩]
def c7_4 : C := .seq (.cond (.tmp 157) .skip (.exit 0)) (.seq (.block 1 c7_2) c7_3)
def c7_5 : C := .seq (.ops [⟨none, some 157, false, .bin .lss (.tmp 156) (.tmp 155)⟩]) c7_4
def c7_6 : C := .seq (.ops [⟨none, some 166, false, .mov (.tmp 13)⟩,
    ⟨none, some 167, false, .mov (.tmp 166)⟩,
    ⟨some (167, true), some 168, false, .mov (.tmp 31)⟩,
    ⟨none, some 169, false, .pick (.tmp 167) (.tmp 168) (.const (.bool false))⟩,
    ⟨none, some 170, false, .mov (.tmp 169)⟩,
    ⟨some (170, true), some 171, false, .mov (.tmp 3)⟩,
    ⟨some (170, true), some 172, false, .mov (.tmp 14)⟩,
    ⟨some (170, true), some 173, false, .calln 33 [.tmp 171, .tmp 172]⟩,
    ⟨none, some 174, false, .pick (.tmp 170) (.tmp 173) (.const (.bool false))⟩,
    ⟨none, some 12, false, .mov (.tmp 174)⟩]) .ret
def c7_7 : C := .seq (.seq (.ops [⟨none, some 154, false, .mov (.tmp 23)⟩,
    ⟨none, some 155, false, .lenSl (.tmp 154)⟩,
    ⟨none, some 156, false, .mov (.const (.int .i64 0))⟩]) (.block 0 (.loop c7_5))) c7_6
def c7_8 : C := .seq (.ops [⟨none, some 109, false, .mov (.tmp 15)⟩,
    ⟨none, some 110, false, .mov (.tmp 17)⟩,
    ⟨none, some 111, false, .bin .eql (.tmp 109) (.tmp 110)⟩,
    ⟨none, some 112, false, .mov (.tmp 111)⟩,
    ⟨some (112, true), some 113, false, .mov (.tmp 16)⟩,
    ⟨some (112, true), some 114, false, .mov (.tmp 18)⟩,
    ⟨some (112, true), some 115, false, .bin .eql (.tmp 113) (.tmp 114)⟩,
    ⟨none, some 116, false, .pick (.tmp 112) (.tmp 115) (.const (.bool false))⟩,
    ⟨none, some 117, false, .mov (.tmp 116)⟩,
    ⟨some (117, true), some 118, false, .mov (.tmp 19)⟩,
    ⟨some (117, true), some 119, false, .mov (.tmp 21)⟩,
    ⟨some (117, true), some 120, false, .calln 33 [.tmp 118, .tmp 119]⟩,
    ⟨none, some 121, false, .pick (.tmp 117) (.tmp 120) (.const (.bool false))⟩,
    ⟨none, some 122, false, .mov (.tmp 121)⟩,
    ⟨some (122, true), some 123, false, .mov (.tmp 20)⟩,
    ⟨some (122, true), some 124, false, .mov (.tmp 22)⟩,
    ⟨some (122, true), some 125, false, .bin .eql (.tmp 123) (.tmp 124)⟩,
    ⟨none, some 126, false, .pick (.tmp 122) (.tmp 125) (.const (.bool false))⟩,
    ⟨none, some 127, false, .mov (.tmp 126)⟩,
    ⟨some (127, true), some 128, false, .mov (.tmp 23)⟩,
    ⟨some (127, true), some 129, false, .mov (.tmp 25)⟩,
    ⟨some (127, true), some 130, false, .calln 33 [.tmp 128, .tmp 129]⟩,
    ⟨none, some 131, false, .pick (.tmp 127) (.tmp 130) (.const (.bool false))⟩,
    ⟨none, some 132, false, .mov (.tmp 131)⟩,
    ⟨some (132, true), some 133, false, .mov (.tmp 24)⟩,
    ⟨some (132, true), some 134, false, .mov (.tmp 26)⟩,
    ⟨some (132, true), some 135, false, .bin .eql (.tmp 133) (.tmp 134)⟩,
    ⟨none, some 136, false, .pick (.tmp 132) (.tmp 135) (.const (.bool false))⟩,
    ⟨none, some 137, false, .mov (.tmp 136)⟩,
    ⟨some (137, true), some 138, false, .mov (.tmp 27)⟩,
    ⟨some (137, true), some 139, false, .mov (.tmp 29)⟩,
    ⟨some (137, true), some 140, false, .bin .eql (.tmp 138) (.tmp 139)⟩,
    ⟨none, some 141, false, .pick (.tmp 137) (.tmp 140) (.const (.bool false))⟩,
    ⟨none, some 142, false, .mov (.tmp 141)⟩,
    ⟨some (142, true), some 143, false, .mov (.tmp 28)⟩,
    ⟨some (142, true), some 144, false, .mov (.tmp 30)⟩,
    ⟨some (142, true), some 145, false, .bin .eql (.tmp 143) (.tmp 144)⟩,
    ⟨none, some 146, false, .pick (.tmp 142) (.tmp 145) (.const (.bool false))⟩,
    ⟨none, some 147, false, .mov (.tmp 146)⟩,
    ⟨some (147, true), some 148, false, .mov (.tmp 3)⟩,
    ⟨some (147, true), some 149, false, .calln 34 [.tmp 148]⟩,
    ⟨some (147, true), some 150, false, .mov (.tmp 3)⟩,
    ⟨some (147, true), some 151, false, .calln 35 [.tmp 150]⟩,
    ⟨some (147, true), some 152, false, .bin .eql (.tmp 149) (.tmp 151)⟩,
    ⟨none, some 153, false, .pick (.tmp 147) (.tmp 152) (.const (.bool false))⟩,
    ⟨none, some 31, false, .mov (.tmp 153)⟩]) c7_7
def c7_9 : C := .seq (.ops [⟨none, some 104, false, .mov (.tmp 5)⟩,
    ⟨none, some 105, false, .mov (.tmp 0)⟩,
    ⟨none, some 106, false, .calln 32 [.tmp 104, .tmp 105]⟩,
    ⟨none, some 103, false, .mov (.tmp 106)⟩,
    ⟨none, some 107, false, .extract (.tmp 103) 0⟩,
    ⟨none, some 108, false, .extract (.tmp 103) 1⟩,
    ⟨none, some 29, false, .mov (.tmp 107)⟩,
    ⟨none, some 30, false, .mov (.tmp 108)⟩]) c7_8
def c7_10 : C := .seq (.ops [⟨none, some 98, false, .mov (.tmp 5)⟩,
    ⟨none, some 99, false, .mov (.tmp 0)⟩,
    ⟨none, some 100, false, .calln 31 [.tmp 98, .tmp 99]⟩,
    ⟨none, some 97, false, .mov (.tmp 100)⟩,
    ⟨none, some 101, false, .extract (.tmp 97) 0⟩,
    ⟨none, some 102, false, .extract (.tmp 97) 1⟩,
    ⟨none, some 27, false, .mov (.tmp 101)⟩,
    ⟨none, some 28, false, .mov (.tmp 102)⟩]) c7_9
def c7_11 : C := .seq (.ops [⟨none, some 92, false, .mov (.tmp 3)⟩,
    ⟨none, some 93, false, .mov (.tmp 4)⟩,
    ⟨none, some 94, false, .calln 30 [.tmp 92, .tmp 93]⟩,
    ⟨none, some 91, false, .mov (.tmp 94)⟩,
    ⟨none, some 95, false, .extract (.tmp 91) 0⟩,
    ⟨none, some 96, false, .extract (.tmp 91) 1⟩,
    ⟨none, some 25, false, .mov (.tmp 95)⟩,
    ⟨none, some 26, false, .mov (.tmp 96)⟩]) c7_10
def c7_12 : C := .seq (.ops [⟨none, some 86, false, .mov (.tmp 3)⟩,
    ⟨none, some 87, false, .mov (.tmp 4)⟩,
    ⟨none, some 88, false, .calln 29 [.tmp 86, .tmp 87]⟩,
    ⟨none, some 85, false, .mov (.tmp 88)⟩,
    ⟨none, some 89, false, .extract (.tmp 85) 0⟩,
    ⟨none, some 90, false, .extract (.tmp 85) 1⟩,
    ⟨none, some 23, false, .mov (.tmp 89)⟩,
    ⟨none, some 24, false, .mov (.tmp 90)⟩]) c7_11
def c7_13 : C := .seq (.ops [⟨none, some 81, false, .mov (.tmp 2)⟩,
    ⟨none, some 82, false, .calln 28 [.tmp 81]⟩,
    ⟨none, some 80, false, .mov (.tmp 82)⟩,
    ⟨none, some 83, false, .extract (.tmp 80) 0⟩,
    ⟨none, some 84, false, .extract (.tmp 80) 1⟩,
    ⟨none, some 21, false, .mov (.tmp 83)⟩,
    ⟨none, some 22, false, .mov (.tmp 84)⟩]) c7_12
def c7_14 : C := .seq (.ops [⟨none, some 76, false, .mov (.tmp 2)⟩,
    ⟨none, some 77, false, .calln 27 [.tmp 76]⟩,
    ⟨none, some 75, false, .mov (.tmp 77)⟩,
    ⟨none, some 78, false, .extract (.tmp 75) 0⟩,
    ⟨none, some 79, false, .extract (.tmp 75) 1⟩,
    ⟨none, some 19, false, .mov (.tmp 78)⟩,
    ⟨none, some 20, false, .mov (.tmp 79)⟩]) c7_13
def c7_15 : C := .seq (.ops [⟨none, some 70, false, .mov (.tmp 0)⟩,
    ⟨none, some 71, false, .mov (.tmp 1)⟩,
    ⟨none, some 72, false, .calln 26 [.tmp 70, .tmp 71]⟩,
    ⟨none, some 69, false, .mov (.tmp 72)⟩,
    ⟨none, some 73, false, .extract (.tmp 69) 0⟩,
    ⟨none, some 74, false, .extract (.tmp 69) 1⟩,
    ⟨none, some 17, false, .mov (.tmp 73)⟩,
    ⟨none, some 18, false, .mov (.tmp 74)⟩]) c7_14
def c7_16 : C := .seq (.ops [⟨none, some 64, false, .mov (.tmp 0)⟩,
    ⟨none, some 65, false, .mov (.tmp 1)⟩,
    ⟨none, some 66, false, .calln 25 [.tmp 64, .tmp 65]⟩,
    ⟨none, some 63, false, .mov (.tmp 66)⟩,
    ⟨none, some 67, false, .extract (.tmp 63) 0⟩,
    ⟨none, some 68, false, .extract (.tmp 63) 1⟩,
    ⟨none, some 15, false, .mov (.tmp 67)⟩,
    ⟨none, some 16, false, .mov (.tmp 68)⟩]) c7_15
def c7_17 : C := .seq (.ops [⟨none, some 61, false, .mov (.tmp 3)⟩,
    ⟨none, some 62, false, .append 1 8 (.const (.slice none 0 0)) (.tmp 61)⟩,
    ⟨none, some 14, false, .mov (.tmp 62)⟩]) c7_16
def c7_18 : C := .seq (.seq (.ops [⟨none, some 34, false, .mov (.tmp 3)⟩,
    ⟨none, some 35, false, .lenSl (.tmp 34)⟩,
    ⟨none, some 36, false, .bin .gtr (.tmp 35) (.const (.int .i64 60))⟩,
    ⟨none, some 37, false, .mov (.tmp 36)⟩,
    ⟨some (37, true), some 38, false, .mov (.tmp 3)⟩,
    ⟨some (37, true), some 39, false, .lenSl (.tmp 38)⟩,
    ⟨some (37, true), some 40, false, .bin .leq (.tmp 39) (.const (.int .i64 1024))⟩,
    ⟨none, some 41, false, .pick (.tmp 37) (.tmp 40) (.const (.bool false))⟩,
    ⟨none, some 42, false, .mov (.tmp 41)⟩,
    ⟨some (42, false), some 43, false, .mov (.tmp 3)⟩,
    ⟨some (42, false), some 44, false, .lenSl (.tmp 43)⟩,
    ⟨some (42, false), some 45, false, .bin .gtr (.tmp 44) (.const (.int .i64 1030))⟩,
    ⟨none, some 46, false, .pick (.tmp 42) (.const (.bool true)) (.tmp 45)⟩,
    ⟨none, some 47, false, .mov (.tmp 46)⟩,
    ⟨some (47, false), some 48, false, .mov (.tmp 4)⟩,
    ⟨some (47, false), some 49, false, .lenSl (.tmp 48)⟩,
    ⟨some (47, false), some 50, false, .bin .gtr (.tmp 49) (.const (.int .i64 200))⟩,
    ⟨none, some 51, false, .pick (.tmp 47) (.const (.bool true)) (.tmp 50)⟩,
    ⟨none, some 52, false, .mov (.tmp 51)⟩,
    ⟨some (52, false), some 53, false, .mov (.tmp 2)⟩,
    ⟨some (52, false), some 54, false, .bin .gtr (.tmp 53) (.const (.int .i64 60))⟩,
    ⟨some (52, false), some 55, false, .mov (.tmp 54)⟩,
    ⟨some (55, true), some 56, false, .mov (.tmp 2)⟩,
    ⟨some (55, true), some 57, false, .bin .leq (.tmp 56) (.const (.int .i64 1024))⟩,
    ⟨some (52, false), some 58, false, .pick (.tmp 55) (.tmp 57) (.const (.bool false))⟩,
    ⟨none, some 59, false, .pick (.tmp 52) (.const (.bool true)) (.tmp 58)⟩]) (.cond (.tmp 59) c7_0 .skip)) c7_17
def c7_19 : C := .seq (.ops [⟨none, some 33, false, .calln 24 []⟩,
    ⟨none, some 13, false, .mov (.tmp 33)⟩]) c7_18
def c7 : C := .seq (.ops [⟨none, some 12, false, .mov (.const (.bool false))⟩]) c7_19
theorem ok7 : compile Try.prog Try.f7.ntmps (Try.f7.body.getD .skip) = some c7 := by kernel_rfl

-- "tansy/tansylaw05.live"
def c24_0 : C := .seq (.ops [⟨none, some 7, false, .mov (.tmp 2)⟩,
    ⟨none, some 8, false, .bin .eql (.tmp 7) (.const (.int .i64 0))⟩,
    ⟨none, some 9, false, .mov (.tmp 8)⟩,
    ⟨some (9, true), some 10, false, .mov (.tmp 1)⟩,
    ⟨some (9, true), some 11, false, .bin .eql (.tmp 10) (.const (.int .i64 992))⟩,
    ⟨none, some 12, false, .pick (.tmp 9) (.tmp 11) (.const (.bool false))⟩,
    ⟨none, some 0, false, .mov (.tmp 12)⟩]) .ret
def c24_1 : C := .seq (.ops [⟨none, some 4, false, .calln 25 [.const (.int .i64 1024), .const (.bool true)]⟩,
    ⟨none, some 3, false, .mov (.tmp 4)⟩,
    ⟨none, some 5, false, .extract (.tmp 3) 0⟩,
    ⟨none, some 6, false, .extract (.tmp 3) 1⟩,
    ⟨none, some 1, false, .mov (.tmp 5)⟩,
    ⟨none, some 2, false, .mov (.tmp 6)⟩]) c24_0
def c24 : C := .seq (.ops [⟨none, some 0, false, .mov (.const (.bool false))⟩]) c24_1
theorem ok24 : compile Try.prog Try.f24.ntmps (Try.f24.body.getD .skip) = some c24 := by kernel_rfl

-- "tansy/prob.Learn"
def c25_0 : C := .seq (.ops [⟨none, some 4, false, .mov (.const (.int .i64 0))⟩,
    ⟨none, some 5, false, .mov (.const (.int .i64 1))⟩]) .ret
def c25_1 : C := .seq (.ops [⟨none, some 9, false, .mov (.tmp 0)⟩,
    ⟨none, some 10, false, .mov (.tmp 1)⟩,
    ⟨none, some 11, false, .calln 55 [.tmp 9, .tmp 10]⟩,
    ⟨none, some 4, false, .mov (.tmp 11)⟩,
    ⟨none, some 5, false, .mov (.const (.int .i64 0))⟩]) .ret
def c25_2 : C := .seq (.seq (.ops [⟨none, some 6, false, .mov (.tmp 0)⟩,
    ⟨none, some 7, false, .calln 54 [.tmp 6]⟩,
    ⟨none, some 8, false, .un .not (.tmp 7)⟩]) (.cond (.tmp 8) c25_0 .skip)) c25_1
def c25 : C := .seq (.ops [⟨none, some 4, false, .mov (.const (.int .i64 0))⟩,
    ⟨none, some 5, false, .mov (.const (.int .i64 0))⟩]) c25_2
theorem ok25 : compile Try.prog Try.f25.ntmps (Try.f25.body.getD .skip) = some c25 := by kernel_rfl

-- "tansy/tansyref05.Learn"
def c26_0 : C := .seq (.ops [⟨none, some 4, false, .mov (.const (.int .i64 0))⟩,
    ⟨none, some 5, false, .mov (.const (.int .i64 1))⟩]) .ret
def c26_1 : C := .seq (.ops [⟨none, some 10, false, .mov (.tmp 0)⟩,
    ⟨none, some 11, false, .mov (.tmp 0)⟩,
    ⟨none, some 12, false, .bin .quo (.tmp 11) (.const (.int .i64 32))⟩,
    ⟨none, some 13, false, .bin .sub (.tmp 10) (.tmp 12)⟩,
    ⟨none, some 4, false, .mov (.tmp 13)⟩,
    ⟨none, some 5, false, .mov (.const (.int .i64 0))⟩]) .ret
def c26_2 : C := .seq (.ops [⟨none, some 14, false, .mov (.tmp 0)⟩,
    ⟨none, some 15, false, .mov (.tmp 0)⟩,
    ⟨none, some 16, false, .bin .sub (.const (.int .i64 2048)) (.tmp 15)⟩,
    ⟨none, some 17, false, .bin .quo (.tmp 16) (.const (.int .i64 32))⟩,
    ⟨none, some 18, false, .bin .add (.tmp 14) (.tmp 17)⟩,
    ⟨none, some 4, false, .mov (.tmp 18)⟩,
    ⟨none, some 5, false, .mov (.const (.int .i64 0))⟩]) .ret
def c26_3 : C := .seq (.seq (.ops [⟨none, some 9, false, .mov (.tmp 1)⟩]) (.cond (.tmp 9) c26_1 .skip)) c26_2
def c26_4 : C := .seq (.seq (.ops [⟨none, some 6, false, .mov (.tmp 0)⟩,
    ⟨none, some 7, false, .calln 56 [.tmp 6]⟩,
    ⟨none, some 8, false, .un .not (.tmp 7)⟩]) (.cond (.tmp 8) c26_0 .skip)) c26_3
def c26 : C := .seq (.ops [⟨none, some 4, false, .mov (.const (.int .i64 0))⟩,
    ⟨none, some 5, false, .mov (.const (.int .i64 0))⟩]) c26_4
theorem ok26 : compile Try.prog Try.f26.ntmps (Try.f26.body.getD .skip) = some c26 := by kernel_rfl

-- "tansy/prob.New"
def c27_0 : C := .seq (.ops [⟨none, some 2, false, .mov (.const (.slice none 0 0))⟩,
    ⟨none, some 3, false, .mov (.const (.int .i64 1))⟩]) .ret
def c27_1 : C := .seq (.ops [⟨none, some 10, false, .bslice 1 1 [.int .i64 0] [(0, (1, .const (.int .i64 1024)))]⟩,
    ⟨none, some 11, false, .mov (.tmp 0)⟩,
    ⟨none, some 12, false, .calln 57 [.tmp 10, .tmp 11]⟩,
    ⟨none, some 2, false, .mov (.tmp 12)⟩,
    ⟨none, some 3, false, .mov (.const (.int .i64 0))⟩]) .ret
def c27_2 : C := .seq (.seq (.ops [⟨none, some 4, false, .mov (.tmp 0)⟩,
    ⟨none, some 5, false, .bin .lss (.tmp 4) (.const (.int .i64 0))⟩,
    ⟨none, some 6, false, .mov (.tmp 5)⟩,
    ⟨some (6, false), some 7, false, .mov (.tmp 0)⟩,
    ⟨some (6, false), some 8, false, .bin .gtr (.tmp 7) (.const (.int .i64 1024))⟩,
    ⟨none, some 9, false, .pick (.tmp 6) (.const (.bool true)) (.tmp 8)⟩]) (.cond (.tmp 9) c27_0 .skip)) c27_1
def c27 : C := .seq (.ops [⟨none, some 2, false, .mov (.const (.slice none 0 0))⟩,
    ⟨none, some 3, false, .mov (.const (.int .i64 0))⟩]) c27_2
theorem ok27 : compile Try.prog Try.f27.ntmps (Try.f27.body.getD .skip) = some c27 := by kernel_rfl

-- "tansy/tansyref05.New"
def c28_0 : C := .seq (.ops [⟨none, some 2, false, .mov (.const (.slice none 0 0))⟩,
    ⟨none, some 3, false, .mov (.const (.int .i64 1))⟩]) .ret
def c28_1 : C := .ops [⟨none, some 14, false, .mov (.tmp 4)⟩,
    ⟨none, some 15, false, .bslice 1 1 [.int .i64 0] [(0, (1, .const (.int .i64 1024)))]⟩,
    ⟨none, some 16, false, .append 1 8 (.tmp 14) (.tmp 15)⟩,
    ⟨none, some 4, false, .mov (.tmp 16)⟩]
def c28_2 : C := .ops [⟨none, some 17, false, .bin .add (.tmp 12) (.const (.int .i64 1))⟩,
    ⟨none, some 12, false, .mov (.tmp 17)⟩]
def c28_3 : C := .seq (.cond (.tmp 13) .skip (.exit 0)) (.seq (.block 1 c28_1) c28_2)
def c28_4 : C := .seq (.ops [⟨none, some 13, false, .bin .lss (.tmp 12) (.tmp 11)⟩]) c28_3
def c28_5 : C := .seq (.ops [⟨none, some 18, false, .mov (.tmp 4)⟩,
    ⟨none, some 2, false, .mov (.tmp 18)⟩,
    ⟨none, some 3, false, .mov (.const (.int .i64 0))⟩]) .ret
def c28_6 : C := .seq (.seq (.ops [⟨none, some 11, false, .mov (.tmp 0)⟩,
    ⟨none, some 12, false, .mov (.const (.int .i64 0))⟩]) (.block 0 (.loop c28_4))) c28_5
def c28_7 : C := .seq (.ops [⟨none, some 4, false, .mov (.const (.slice none 0 0))⟩]) c28_6
def c28_8 : C := .seq (.seq (.ops [⟨none, some 5, false, .mov (.tmp 0)⟩,
    ⟨none, some 6, false, .bin .lss (.tmp 5) (.const (.int .i64 0))⟩,
    ⟨none, some 7, false, .mov (.tmp 6)⟩,
    ⟨some (7, false), some 8, false, .mov (.tmp 0)⟩,
    ⟨some (7, false), some 9, false, .bin .gtr (.tmp 8) (.const (.int .i64 1024))⟩,
    ⟨none, some 10, false, .pick (.tmp 7) (.const (.bool true)) (.tmp 9)⟩]) (.cond (.tmp 10) c28_0 .skip)) c28_7
def c28 : C := .seq (.ops [⟨none, some 2, false, .mov (.const (.slice none 0 0))⟩,
    ⟨none, some 3, false, .mov (.const (.int .i64 0))⟩]) c28_8
theorem ok28 : compile Try.prog Try.f28.ntmps (Try.f28.body.getD .skip) = some c28 := by kernel_rfl

-- "tansy/prob.All"
def c29_0 : C := .seq (.ops [⟨none, some 13, false, .mov (.tmp 6)⟩,
    ⟨none, some 4, false, .mov (.const (.slice none 0 0))⟩,
    ⟨none, some 5, false, .mov (.tmp 13)⟩]) .ret
def c29_1 : C := .seq (.ops [⟨none, some 11, false, .mov (.tmp 6)⟩,
    ⟨none, some 12, false, .bin .neq (.tmp 11) (.const (.int .i64 0))⟩]) (.cond (.tmp 12) c29_0 .skip)
def c29_2 : C := .seq (.ops [⟨none, some 4, false, .mov (.const (.slice none 0 0))⟩,
    ⟨none, some 5, false, .mov (.const (.int .i64 4))⟩]) .ret
def c29_3 : C := .ops [⟨none, some 32, false, .mov (.tmp 0)⟩,
    ⟨none, some 33, false, .fieldAddr 0 (.tmp 8)⟩,
    ⟨none, some 34, false, .load none (.tmp 33)⟩,
    ⟨none, some 35, false, .mov (.tmp 0)⟩,
    ⟨none, some 36, false, .fieldAddr 0 (.tmp 8)⟩,
    ⟨none, some 37, false, .load none (.tmp 36)⟩,
    ⟨none, some 38, false, .idxSl 1 (.tmp 35) (.tmp 37)⟩,
    ⟨none, some 39, false, .load none (.tmp 38)⟩,
    ⟨none, some 40, false, .fieldAddr 1 (.tmp 8)⟩,
    ⟨none, some 41, false, .load none (.tmp 40)⟩,
    ⟨none, some 42, false, .callp 55 [.tmp 39, .tmp 41]⟩,
    ⟨none, some 43, false, .idxSl 1 (.tmp 32) (.tmp 34)⟩,
    ⟨none, none, false, .store 1 (.tmp 43) (.tmp 42)⟩]
def c29_4 : C := .seq (.seq (.ops [⟨none, some 22, false, .fieldAddr 0 (.tmp 8)⟩,
    ⟨none, some 23, false, .load none (.tmp 22)⟩,
    ⟨none, some 24, false, .bin .lss (.tmp 23) (.const (.int .i64 0))⟩,
    ⟨none, some 25, false, .mov (.tmp 24)⟩,
    ⟨some (25, false), some 26, false, .fieldAddr 0 (.tmp 8)⟩,
    ⟨some (25, false), some 27, false, .load none (.tmp 26)⟩,
    ⟨some (25, false), some 28, false, .mov (.tmp 0)⟩,
    ⟨some (25, false), some 29, false, .lenSl (.tmp 28)⟩,
    ⟨some (25, false), some 30, false, .bin .geq (.tmp 27) (.tmp 29)⟩,
    ⟨none, some 31, false, .pick (.tmp 25) (.const (.bool true)) (.tmp 30)⟩]) (.cond (.tmp 31) c29_2 .skip)) c29_3
def c29_5 : C := .seq (.ops [⟨none, some 20, false, .idxSl 2 (.tmp 16) (.tmp 18)⟩,
    ⟨none, some 21, false, .load (some 2) (.tmp 20)⟩,
    ⟨none, some 8, false, .alloc [.int .i64 0, .bool false]⟩,
    ⟨none, none, false, .store 2 (.tmp 8) (.tmp 21)⟩]) c29_4
def c29_6 : C := .ops [⟨none, some 44, false, .bin .add (.tmp 18) (.const (.int .i64 1))⟩,
    ⟨none, some 18, false, .mov (.tmp 44)⟩]
def c29_7 : C := .seq (.cond (.tmp 19) .skip (.exit 0)) (.seq (.block 1 c29_5) c29_6)
def c29_8 : C := .seq (.ops [⟨none, some 19, false, .bin .lss (.tmp 18) (.tmp 17)⟩]) c29_7
def c29_9 : C := .seq (.ops [⟨none, some 45, false, .mov (.tmp 0)⟩,
    ⟨none, some 4, false, .mov (.tmp 45)⟩,
    ⟨none, some 5, false, .mov (.const (.int .i64 0))⟩]) .ret
def c29_10 : C := .seq (.seq (.ops [⟨none, some 16, false, .mov (.tmp 1)⟩,
    ⟨none, some 17, false, .lenSl (.tmp 16)⟩,
    ⟨none, some 18, false, .mov (.const (.int .i64 0))⟩]) (.block 0 (.loop c29_8))) c29_9
def c29_11 : C := .seq (.ops [⟨none, some 14, false, .mov (.tmp 0)⟩,
    ⟨none, some 15, false, .calln 58 [.tmp 14]⟩,
    ⟨none, some 0, false, .mov (.tmp 15)⟩]) c29_10
def c29_12 : C := .seq (.seq (.ops [⟨none, some 9, false, .mov (.tmp 0)⟩,
    ⟨none, some 10, false, .calln 34 [.tmp 9]⟩,
    ⟨none, some 6, false, .mov (.tmp 10)⟩]) c29_1) c29_11
def c29 : C := .seq (.ops [⟨none, some 4, false, .mov (.const (.slice none 0 0))⟩,
    ⟨none, some 5, false, .mov (.const (.int .i64 0))⟩]) c29_12
theorem ok29 : compile Try.prog Try.f29.ntmps (Try.f29.body.getD .skip) = some c29 := by kernel_rfl

-- "tansy/tansyref05.All"
def c30_0 : C := .seq (.ops [⟨none, some 4, false, .mov (.const (.slice none 0 0))⟩,
    ⟨none, some 5, false, .mov (.const (.int .i64 1))⟩]) .ret
def c30_1 : C := .seq (.ops [⟨none, some 4, false, .mov (.const (.slice none 0 0))⟩,
    ⟨none, some 5, false, .mov (.const (.int .i64 4))⟩]) .ret
def c30_2 : C := .ops [⟨none, some 31, false, .mov (.tmp 6)⟩,
    ⟨none, some 32, false, .fieldAddr 0 (.tmp 8)⟩,
    ⟨none, some 33, false, .load none (.tmp 32)⟩,
    ⟨none, some 34, false, .mov (.tmp 6)⟩,
    ⟨none, some 35, false, .fieldAddr 0 (.tmp 8)⟩,
    ⟨none, some 36, false, .load none (.tmp 35)⟩,
    ⟨none, some 37, false, .idxSl 1 (.tmp 34) (.tmp 36)⟩,
    ⟨none, some 38, false, .load none (.tmp 37)⟩,
    ⟨none, some 39, false, .fieldAddr 1 (.tmp 8)⟩,
    ⟨none, some 40, false, .load none (.tmp 39)⟩,
    ⟨none, some 41, false, .callp 26 [.tmp 38, .tmp 40]⟩,
    ⟨none, some 30, false, .mov (.tmp 41)⟩,
    ⟨none, some 42, false, .extract (.tmp 30) 0⟩,
    ⟨none, some 43, false, .extract (.tmp 30) 1⟩,
    ⟨none, some 44, false, .idxSl 1 (.tmp 31) (.tmp 33)⟩,
    ⟨none, none, false, .store 1 (.tmp 44) (.tmp 42)⟩]
def c30_3 : C := .seq (.seq (.ops [⟨none, some 20, false, .fieldAddr 0 (.tmp 8)⟩,
    ⟨none, some 21, false, .load none (.tmp 20)⟩,
    ⟨none, some 22, false, .bin .lss (.tmp 21) (.const (.int .i64 0))⟩,
    ⟨none, some 23, false, .mov (.tmp 22)⟩,
    ⟨some (23, false), some 24, false, .fieldAddr 0 (.tmp 8)⟩,
    ⟨some (23, false), some 25, false, .load none (.tmp 24)⟩,
    ⟨some (23, false), some 26, false, .mov (.tmp 0)⟩,
    ⟨some (23, false), some 27, false, .lenSl (.tmp 26)⟩,
    ⟨some (23, false), some 28, false, .bin .geq (.tmp 25) (.tmp 27)⟩,
    ⟨none, some 29, false, .pick (.tmp 23) (.const (.bool true)) (.tmp 28)⟩]) (.cond (.tmp 29) c30_1 .skip)) c30_2
def c30_4 : C := .seq (.ops [⟨none, some 18, false, .idxSl 2 (.tmp 14) (.tmp 16)⟩,
    ⟨none, some 19, false, .load (some 2) (.tmp 18)⟩,
    ⟨none, some 8, false, .alloc [.int .i64 0, .bool false]⟩,
    ⟨none, none, false, .store 2 (.tmp 8) (.tmp 19)⟩]) c30_3
def c30_5 : C := .ops [⟨none, some 45, false, .bin .add (.tmp 16) (.const (.int .i64 1))⟩,
    ⟨none, some 16, false, .mov (.tmp 45)⟩]
def c30_6 : C := .seq (.cond (.tmp 17) .skip (.exit 0)) (.seq (.block 1 c30_4) c30_5)
def c30_7 : C := .seq (.ops [⟨none, some 17, false, .bin .lss (.tmp 16) (.tmp 15)⟩]) c30_6
def c30_8 : C := .seq (.ops [⟨none, some 46, false, .mov (.tmp 6)⟩,
    ⟨none, some 4, false, .mov (.tmp 46)⟩,
    ⟨none, some 5, false, .mov (.const (.int .i64 0))⟩]) .ret
def c30_9 : C := .seq (.seq (.ops [⟨none, some 14, false, .mov (.tmp 1)⟩,
    ⟨none, some 15, false, .lenSl (.tmp 14)⟩,
    ⟨none, some 16, false, .mov (.const (.int .i64 0))⟩]) (.block 0 (.loop c30_7))) c30_8
def c30_10 : C := .seq (.ops [⟨none, some 12, false, .mov (.tmp 0)⟩,
    ⟨none, some 13, false, .append 1 8 (.const (.slice none 0 0)) (.tmp 12)⟩,
    ⟨none, some 6, false, .mov (.tmp 13)⟩]) c30_9
def c30_11 : C := .seq (.seq (.ops [⟨none, some 9, false, .mov (.tmp 0)⟩,
    ⟨none, some 10, false, .calln 35 [.tmp 9]⟩,
    ⟨none, some 11, false, .bin .neq (.tmp 10) (.const (.int .i64 0))⟩]) (.cond (.tmp 11) c30_0 .skip)) c30_10
def c30 : C := .seq (.ops [⟨none, some 4, false, .mov (.const (.slice none 0 0))⟩,
    ⟨none, some 5, false, .mov (.const (.int .i64 0))⟩]) c30_11
theorem ok30 : compile Try.prog Try.f30.ntmps (Try.f30.body.getD .skip) = some c30 := by kernel_rfl

-- "tansy/prob.Split"
def c31_0 : C := .seq (.ops [⟨none, some 4, false, .mov (.const (.int .u32 0))⟩,
    ⟨none, some 5, false, .mov (.const (.int .i64 1))⟩]) .ret
def c31_1 : C := .seq (.ops [⟨none, some 13, false, .mov (.tmp 0)⟩,
    ⟨none, some 14, false, .bin .shr (.tmp 13) (.const (.int .u64 11))⟩,
    ⟨none, some 15, false, .mov (.tmp 1)⟩,
    ⟨none, some 16, false, .conv .u32 (.tmp 15)⟩,
    ⟨none, some 17, false, .bin .mul (.tmp 14) (.tmp 16)⟩,
    ⟨none, some 4, false, .mov (.tmp 17)⟩,
    ⟨none, some 5, false, .mov (.const (.int .i64 0))⟩]) .ret
def c31_2 : C := .seq (.seq (.ops [⟨none, some 6, false, .mov (.tmp 0)⟩,
    ⟨none, some 7, false, .bin .lss (.tmp 6) (.const (.int .u32 16777216))⟩,
    ⟨none, some 8, false, .mov (.tmp 7)⟩,
    ⟨some (8, false), some 9, false, .mov (.tmp 1)⟩,
    ⟨some (8, false), some 10, false, .calln 54 [.tmp 9]⟩,
    ⟨some (8, false), some 11, false, .un .not (.tmp 10)⟩,
    ⟨none, some 12, false, .pick (.tmp 8) (.const (.bool true)) (.tmp 11)⟩]) (.cond (.tmp 12) c31_0 .skip)) c31_1
def c31 : C := .seq (.ops [⟨none, some 4, false, .mov (.const (.int .u32 0))⟩,
    ⟨none, some 5, false, .mov (.const (.int .i64 0))⟩]) c31_2
theorem ok31 : compile Try.prog Try.f31.ntmps (Try.f31.body.getD .skip) = some c31 := by kernel_rfl

-- "tansy/tansyref05.Split"
def c32_0 : C := .seq (.ops [⟨none, some 4, false, .mov (.const (.int .u32 0))⟩,
    ⟨none, some 5, false, .mov (.const (.int .i64 1))⟩]) .ret
def c32_1 : C := .seq (.ops [⟨none, some 13, false, .mov (.tmp 0)⟩,
    ⟨none, some 14, false, .bin .quo (.tmp 13) (.const (.int .u32 2048))⟩,
    ⟨none, some 15, false, .mov (.tmp 1)⟩,
    ⟨none, some 16, false, .conv .u32 (.tmp 15)⟩,
    ⟨none, some 17, false, .bin .mul (.tmp 14) (.tmp 16)⟩,
    ⟨none, some 4, false, .mov (.tmp 17)⟩,
    ⟨none, some 5, false, .mov (.const (.int .i64 0))⟩]) .ret
def c32_2 : C := .seq (.seq (.ops [⟨none, some 6, false, .mov (.tmp 1)⟩,
    ⟨none, some 7, false, .calln 56 [.tmp 6]⟩,
    ⟨none, some 8, false, .un .not (.tmp 7)⟩,
    ⟨none, some 9, false, .mov (.tmp 8)⟩,
    ⟨some (9, false), some 10, false, .mov (.tmp 0)⟩,
    ⟨some (9, false), some 11, false, .bin .lss (.tmp 10) (.const (.int .u32 16777216))⟩,
    ⟨none, some 12, false, .pick (.tmp 9) (.const (.bool true)) (.tmp 11)⟩]) (.cond (.tmp 12) c32_0 .skip)) c32_1
def c32 : C := .seq (.ops [⟨none, some 4, false, .mov (.const (.int .u32 0))⟩,
    ⟨none, some 5, false, .mov (.const (.int .i64 0))⟩]) c32_2
theorem ok32 : compile Try.prog Try.f32.ntmps (Try.f32.body.getD .skip) = some c32 := by kernel_rfl

-- "tansy/tansyref05.SameInts"
def c33_0 : C := .seq (.ops [⟨none, some 4, false, .mov (.const (.bool false))⟩]) .ret
def c33_1 : C := .seq (.ops [⟨none, some 4, false, .mov (.const (.bool false))⟩]) .ret
def c33_2 : C := .seq (.ops [⟨none, some 16, false, .mov (.tmp 0)⟩,
    ⟨none, some 17, false, .mov (.tmp 5)⟩,
    ⟨none, some 18, false, .idxSl 1 (.tmp 16) (.tmp 17)⟩,
    ⟨none, some 19, false, .load none (.tmp 18)⟩,
    ⟨none, some 20, false, .mov (.tmp 1)⟩,
    ⟨none, some 21, false, .mov (.tmp 5)⟩,
    ⟨none, some 22, false, .idxSl 1 (.tmp 20) (.tmp 21)⟩,
    ⟨none, some 23, false, .load none (.tmp 22)⟩,
    ⟨none, some 24, false, .bin .neq (.tmp 19) (.tmp 23)⟩]) (.cond (.tmp 24) c33_1 .skip)
def c33_3 : C := .seq (.ops [⟨none, some 15, false, .mov (.tmp 13)⟩,
    ⟨none, some 5, false, .mov (.tmp 15)⟩]) c33_2
def c33_4 : C := .ops [⟨none, some 25, false, .bin .add (.tmp 13) (.const (.int .i64 1))⟩,
    ⟨none, some 13, false, .mov (.tmp 25)⟩]
def c33_5 : C := .seq (.cond (.tmp 14) .skip (.exit 0)) (.seq (.block 1 c33_3) c33_4)
def c33_6 : C := .seq (.ops [⟨none, some 14, false, .bin .lss (.tmp 13) (.tmp 12)⟩]) c33_5
def c33_7 : C := .seq (.ops [⟨none, some 4, false, .mov (.const (.bool true))⟩]) .ret
def c33_8 : C := .seq (.seq (.ops [⟨none, some 11, false, .mov (.tmp 0)⟩,
    ⟨none, some 12, false, .lenSl (.tmp 11)⟩,
    ⟨none, some 13, false, .mov (.const (.int .i64 0))⟩]) (.block 0 (.loop c33_6))) c33_7
def c33_9 : C := .seq (.seq (.ops [⟨none, some 6, false, .mov (.tmp 0)⟩,
    ⟨none, some 7, false, .lenSl (.tmp 6)⟩,
    ⟨none, some 8, false, .mov (.tmp 1)⟩,
    ⟨none, some 9, false, .lenSl (.tmp 8)⟩,
    ⟨none, some 10, false, .bin .neq (.tmp 7) (.tmp 9)⟩]) (.cond (.tmp 10) c33_0 .skip)) c33_8
def c33 : C := .seq (.ops [⟨none, some 4, false, .mov (.const (.bool false))⟩]) c33_9
theorem ok33 : compile Try.prog Try.f33.ntmps (Try.f33.body.getD .skip) = some c33 := by kernel_rfl

-- "tansy/prob.Check"
def c34_0 : C := .seq (.ops [⟨none, some 2, false, .mov (.const (.int .i64 1))⟩]) .ret
def c34_1 : C := .seq (.ops [⟨none, some 2, false, .mov (.const (.int .i64 0))⟩]) .ret
def c34_2 : C := .seq (.seq (.ops [⟨none, some 3, false, .mov (.tmp 0)⟩,
    ⟨none, some 4, false, .lenSl (.tmp 3)⟩,
    ⟨none, some 5, false, .bin .gtr (.tmp 4) (.const (.int .i64 1024))⟩,
    ⟨none, some 6, false, .mov (.tmp 5)⟩,
    ⟨some (6, false), some 7, false, .mov (.tmp 0)⟩,
    ⟨some (6, false), some 8, false, .calln 59 [.tmp 7, .func 60]⟩,
    ⟨none, some 9, false, .pick (.tmp 6) (.const (.bool true)) (.tmp 8)⟩]) (.cond (.tmp 9) c34_0 .skip)) c34_1
def c34 : C := .seq (.ops [⟨none, some 2, false, .mov (.const (.int .i64 0))⟩]) c34_2
theorem ok34 : compile Try.prog Try.f34.ntmps (Try.f34.body.getD .skip) = some c34 := by kernel_rfl

-- "tansy/tansyref05.Check"
def c35_0 : C := .seq (.ops [⟨none, some 2, false, .mov (.const (.int .i64 1))⟩]) .ret
def c35_1 : C := .seq (.ops [⟨none, some 11, false, .mov (.tmp 4)⟩,
    ⟨none, some 12, false, .calln 56 [.tmp 11]⟩,
    ⟨none, some 13, false, .un .not (.tmp 12)⟩]) (.cond (.tmp 13) c35_0 .skip)
def c35_2 : C := .seq (.ops [⟨none, some 9, false, .idxSl 1 (.tmp 5) (.tmp 7)⟩,
    ⟨none, some 10, false, .load none (.tmp 9)⟩,
    ⟨none, some 4, false, .mov (.tmp 10)⟩]) c35_1
def c35_3 : C := .ops [⟨none, some 14, false, .bin .add (.tmp 7) (.const (.int .i64 1))⟩,
    ⟨none, some 7, false, .mov (.tmp 14)⟩]
def c35_4 : C := .seq (.cond (.tmp 8) .skip (.exit 0)) (.seq (.block 1 c35_2) c35_3)
def c35_5 : C := .seq (.ops [⟨none, some 8, false, .bin .lss (.tmp 7) (.tmp 6)⟩]) c35_4
def c35_6 : C := .seq (.ops [⟨none, some 2, false, .mov (.const (.int .i64 1))⟩]) .ret
def c35_7 : C := .seq (.ops [⟨none, some 2, false, .mov (.const (.int .i64 0))⟩]) .ret
def c35_8 : C := .seq (.seq (.ops [⟨none, some 15, false, .mov (.tmp 0)⟩,
    ⟨none, some 16, false, .lenSl (.tmp 15)⟩,
    ⟨none, some 17, false, .bin .gtr (.tmp 16) (.const (.int .i64 1024))⟩]) (.cond (.tmp 17) c35_6 .skip)) c35_7
def c35_9 : C := .seq (.seq (.ops [⟨none, some 5, false, .mov (.tmp 0)⟩,
    ⟨none, some 6, false, .lenSl (.tmp 5)⟩,
    ⟨none, some 7, false, .mov (.const (.int .i64 0))⟩]) (.block 0 (.loop c35_5))) c35_8
def c35 : C := .seq (.ops [⟨none, some 2, false, .mov (.const (.int .i64 0))⟩]) c35_9
theorem ok35 : compile Try.prog Try.f35.ntmps (Try.f35.body.getD .skip) = some c35 := by kernel_rfl

-- "(tansy/prob.chance).may"
def c54_0 : C := .seq (.ops [⟨none, some 3, false, .mov (.tmp 0)⟩,
    ⟨none, some 4, false, .bin .geq (.tmp 3) (.const (.int .i64 31))⟩,
    ⟨none, some 5, false, .mov (.tmp 4)⟩,
    ⟨some (5, true), some 6, false, .mov (.tmp 0)⟩,
    ⟨some (5, true), some 7, false, .bin .leq (.tmp 6) (.const (.int .i64 2017))⟩,
    ⟨none, some 8, false, .pick (.tmp 5) (.tmp 7) (.const (.bool false))⟩,
    ⟨none, some 2, false, .mov (.tmp 8)⟩]) .ret
def c54 : C := .seq (.ops [⟨none, some 2, false, .mov (.const (.bool false))⟩]) c54_0
theorem ok54 : compile Try.prog Try.f54.ntmps (Try.f54.body.getD .skip) = some c54 := by kernel_rfl

-- "(tansy/prob.chance).learn"
def c55_0 : C := .seq (.ops [⟨none, some 6, false, .mov (.tmp 0)⟩,
    ⟨none, some 7, false, .mov (.tmp 0)⟩,
    ⟨none, some 8, false, .bin .shr (.tmp 7) (.const (.int .u64 5))⟩,
    ⟨none, some 9, false, .bin .sub (.tmp 6) (.tmp 8)⟩,
    ⟨none, some 4, false, .mov (.tmp 9)⟩]) .ret
def c55_1 : C := .seq (.ops [⟨none, some 10, false, .mov (.tmp 0)⟩,
    ⟨none, some 11, false, .mov (.tmp 0)⟩,
    ⟨none, some 12, false, .bin .sub (.const (.int .i64 2048)) (.tmp 11)⟩,
    ⟨none, some 13, false, .bin .shr (.tmp 12) (.const (.int .u64 5))⟩,
    ⟨none, some 14, false, .bin .add (.tmp 10) (.tmp 13)⟩,
    ⟨none, some 4, false, .mov (.tmp 14)⟩]) .ret
def c55_2 : C := .seq (.seq (.ops [⟨none, some 5, false, .mov (.tmp 1)⟩]) (.cond (.tmp 5) c55_0 .skip)) c55_1
def c55 : C := .seq (.ops [⟨none, some 4, false, .mov (.const (.int .i64 0))⟩]) c55_2
theorem ok55 : compile Try.prog Try.f55.ntmps (Try.f55.body.getD .skip) = some c55 := by kernel_rfl

-- "tansy/tansyref05.is"
def c56_0 : C := .seq (.ops [⟨none, some 3, false, .mov (.tmp 0)⟩,
    ⟨none, some 4, false, .bin .geq (.tmp 3) (.const (.int .i64 31))⟩,
    ⟨none, some 5, false, .mov (.tmp 4)⟩,
    ⟨some (5, true), some 6, false, .mov (.tmp 0)⟩,
    ⟨some (5, true), some 7, false, .bin .leq (.tmp 6) (.const (.int .i64 2017))⟩,
    ⟨none, some 8, false, .pick (.tmp 5) (.tmp 7) (.const (.bool false))⟩,
    ⟨none, some 2, false, .mov (.tmp 8)⟩]) .ret
def c56 : C := .seq (.ops [⟨none, some 2, false, .mov (.const (.bool false))⟩]) c56_0
theorem ok56 : compile Try.prog Try.f56.ntmps (Try.f56.body.getD .skip) = some c56 := by kernel_rfl

-- "slices.Repeat[[]int,int]"
def c57_0 : C := .ops [⟨none, some 11, false, .bad⟩,
    ⟨none, none, false, .bad⟩]
def c57_1 : C := .ops [⟨none, some 27, false, .bad⟩,
    ⟨none, none, false, .bad⟩]
def c57_2 : C := .ops [⟨none, some 38, false, .mov (.tmp 8)⟩,
    ⟨none, some 39, false, .mov (.tmp 7)⟩,
    ⟨none, some 40, false, .mov (.tmp 8)⟩,
    ⟨none, some 41, false, .slice 1 (.tmp 39) (some (.tmp 40)) none none⟩,
    ⟨none, some 42, false, .mov (.tmp 7)⟩,
    ⟨none, some 43, false, .mov (.tmp 8)⟩,
    ⟨none, some 44, false, .slice 1 (.tmp 42) none (some (.tmp 43)) none⟩,
    ⟨none, some 45, false, .copy 1 (.tmp 41) (.tmp 44)⟩,
    ⟨none, some 46, false, .bin .add (.tmp 38) (.tmp 45)⟩,
    ⟨none, some 8, false, .mov (.tmp 46)⟩]
def c57_3 : C := .seq (.seq (.ops [⟨none, some 34, false, .mov (.tmp 8)⟩,
    ⟨none, some 35, false, .mov (.tmp 7)⟩,
    ⟨none, some 36, false, .lenSl (.tmp 35)⟩,
    ⟨none, some 37, false, .bin .lss (.tmp 34) (.tmp 36)⟩]) (.cond (.tmp 37) .skip (.exit 0))) (.block 1 c57_2)
def c57_4 : C := .seq (.ops [⟨none, some 47, false, .mov (.tmp 7)⟩,
    ⟨none, some 4, false, .mov (.tmp 47)⟩]) .ret
def c57_5 : C := .seq (.ops [⟨none, some 31, false, .mov (.tmp 7)⟩,
    ⟨none, some 32, false, .mov (.tmp 0)⟩,
    ⟨none, some 33, false, .copy 1 (.tmp 31) (.tmp 32)⟩,
    ⟨none, some 8, false, .mov (.tmp 33)⟩]) (.seq (.block 0 (.loop c57_3)) c57_4)
def c57_6 : C := .seq (.ops [⟨none, some 28, false, .mov (.tmp 6)⟩,
    ⟨none, some 29, false, .conv .i64 (.tmp 28)⟩,
    ⟨none, some 30, false, .mkslice 1 8 [.int .i64 0] (.tmp 29) (.tmp 29)⟩,
    ⟨none, some 7, false, .mov (.tmp 30)⟩]) c57_5
def c57_7 : C := .seq (.seq (.ops [⟨none, some 21, false, .mov (.tmp 5)⟩,
    ⟨none, some 22, false, .bin .gtr (.tmp 21) (.const (.int .u64 0))⟩,
    ⟨none, some 23, false, .mov (.tmp 22)⟩,
    ⟨some (23, false), some 24, false, .mov (.tmp 6)⟩,
    ⟨some (23, false), some 25, false, .bin .gtr (.tmp 24) (.const (.int .u64 9223372036854775807))⟩,
    ⟨none, some 26, false, .pick (.tmp 23) (.const (.bool true)) (.tmp 25)⟩]) (.cond (.tmp 26) c57_1 .skip)) c57_6
def c57_8 : C := .seq (.ops [⟨none, some 13, false, .mov (.tmp 0)⟩,
    ⟨none, some 14, false, .lenSl (.tmp 13)⟩,
    ⟨none, some 15, false, .conv .u64 (.tmp 14)⟩,
    ⟨none, some 16, false, .mov (.tmp 1)⟩,
    ⟨none, some 17, false, .conv .u64 (.tmp 16)⟩,
    ⟨none, some 18, false, .calln 69 [.tmp 15, .tmp 17]⟩,
    ⟨none, some 12, false, .mov (.tmp 18)⟩,
    ⟨none, some 19, false, .extract (.tmp 12) 0⟩,
    ⟨none, some 20, false, .extract (.tmp 12) 1⟩,
    ⟨none, some 5, false, .mov (.tmp 19)⟩,
    ⟨none, some 6, false, .mov (.tmp 20)⟩]) c57_7
def c57_9 : C := .seq (.seq (.ops [⟨none, some 9, false, .mov (.tmp 1)⟩,
    ⟨none, some 10, false, .bin .lss (.tmp 9) (.const (.int .i64 0))⟩]) (.cond (.tmp 10) c57_0 .skip)) c57_8
def c57 : C := .seq (.ops [⟨none, some 4, false, .mov (.const (.slice none 0 0))⟩]) c57_9
theorem ok57 : compile Try.prog Try.f57.ntmps (Try.f57.body.getD .skip) = some c57 := by kernel_rfl

-- "slices.Clone[[]int,int]"
def c58_0 : C := .seq (.ops [⟨none, some 2, false, .mov (.const (.slice none 0 0))⟩]) .ret
def c58_1 : C := .seq (.ops [⟨none, some 5, false, .bslice 1 0 [.int .i64 0] []⟩,
    ⟨none, some 6, false, .mov (.tmp 0)⟩,
    ⟨none, some 7, false, .append 1 8 (.tmp 5) (.tmp 6)⟩,
    ⟨none, some 2, false, .mov (.tmp 7)⟩]) .ret
def c58_2 : C := .seq (.seq (.ops [⟨none, some 3, false, .mov (.tmp 0)⟩,
    ⟨none, some 4, false, .eqv false .slice (.tmp 3) (.const (.slice none 0 0))⟩]) (.cond (.tmp 4) c58_0 .skip)) c58_1
def c58 : C := .seq (.ops [⟨none, some 2, false, .mov (.const (.slice none 0 0))⟩]) c58_2
theorem ok58 : compile Try.prog Try.f58.ntmps (Try.f58.body.getD .skip) = some c58 := by kernel_rfl

-- "slices.ContainsFunc[[]int,int]"
def c59_0 : C := .seq (.ops [⟨none, some 5, false, .mov (.tmp 0)⟩,
    ⟨none, some 6, false, .mov (.tmp 1)⟩,
    ⟨none, some 7, false, .calln 70 [.tmp 5, .tmp 6]⟩,
    ⟨none, some 8, false, .bin .geq (.tmp 7) (.const (.int .i64 0))⟩,
    ⟨none, some 4, false, .mov (.tmp 8)⟩]) .ret
def c59 : C := .seq (.ops [⟨none, some 4, false, .mov (.const (.bool false))⟩]) c59_0
theorem ok59 : compile Try.prog Try.f59.ntmps (Try.f59.body.getD .skip) = some c59 := by kernel_rfl

-- "tansy/prob.Check$1"
def c60_0 : C := .seq (.ops [⟨none, some 3, false, .mov (.tmp 0)⟩,
    ⟨none, some 4, false, .calln 54 [.tmp 3]⟩,
    ⟨none, some 5, false, .un .not (.tmp 4)⟩,
    ⟨none, some 2, false, .mov (.tmp 5)⟩]) .ret
def c60 : C := .seq (.ops [⟨none, some 2, false, .mov (.const (.bool false))⟩]) c60_0
theorem ok60 : compile Try.prog Try.f60.ntmps (Try.f60.body.getD .skip) = some c60 := by kernel_rfl

-- "math/bits.Mul"
def c69_0 : C := .seq (.ops [⟨none, some 18, false, .mov (.tmp 6)⟩,
    ⟨none, some 19, false, .conv .u64 (.tmp 18)⟩,
    ⟨none, some 20, false, .mov (.tmp 7)⟩,
    ⟨none, some 21, false, .conv .u64 (.tmp 20)⟩,
    ⟨none, some 4, false, .mov (.tmp 19)⟩,
    ⟨none, some 5, false, .mov (.tmp 21)⟩]) .ret
def c69_1 : C := .seq (.ops [⟨none, some 11, false, .mov (.tmp 0)⟩,
    ⟨none, some 12, false, .conv .u32 (.tmp 11)⟩,
    ⟨none, some 13, false, .mov (.tmp 1)⟩,
    ⟨none, some 14, false, .conv .u32 (.tmp 13)⟩,
    ⟨none, some 15, false, .calln 72 [.tmp 12, .tmp 14]⟩,
    ⟨none, some 10, false, .mov (.tmp 15)⟩,
    ⟨none, some 16, false, .extract (.tmp 10) 0⟩,
    ⟨none, some 17, false, .extract (.tmp 10) 1⟩,
    ⟨none, some 6, false, .mov (.tmp 16)⟩,
    ⟨none, some 7, false, .mov (.tmp 17)⟩]) c69_0
def c69_2 : C := .seq (.ops [⟨none, some 28, false, .mov (.tmp 8)⟩,
    ⟨none, some 29, false, .mov (.tmp 9)⟩,
    ⟨none, some 4, false, .mov (.tmp 28)⟩,
    ⟨none, some 5, false, .mov (.tmp 29)⟩]) .ret
def c69_3 : C := .seq (.ops [⟨none, some 23, false, .mov (.tmp 0)⟩,
    ⟨none, some 24, false, .mov (.tmp 1)⟩,
    ⟨none, some 25, false, .calln 73 [.tmp 23, .tmp 24]⟩,
    ⟨none, some 22, false, .mov (.tmp 25)⟩,
    ⟨none, some 26, false, .extract (.tmp 22) 0⟩,
    ⟨none, some 27, false, .extract (.tmp 22) 1⟩,
    ⟨none, some 8, false, .mov (.tmp 26)⟩,
    ⟨none, some 9, false, .mov (.tmp 27)⟩]) c69_2
def c69 : C := .seq (.ops [⟨none, some 4, false, .mov (.const (.int .u64 0))⟩,
    ⟨none, some 5, false, .mov (.const (.int .u64 0))⟩]) (.seq (.cond (.const (.bool false)) c69_1 .skip) c69_3)
theorem ok69 : compile Try.prog Try.f69.ntmps (Try.f69.body.getD .skip) = some c69 := by kernel_rfl

-- "slices.IndexFunc[[]int,int]"
def c70_0 : C := .seq (.ops [⟨none, some 17, false, .mov (.tmp 5)⟩,
    ⟨none, some 4, false, .mov (.tmp 17)⟩]) .ret
def c70_1 : C := .seq (.ops [⟨none, some 11, false, .mov (.tmp 1)⟩,
    ⟨none, some 12, false, .mov (.tmp 0)⟩,
    ⟨none, some 13, false, .mov (.tmp 5)⟩,
    ⟨none, some 14, false, .idxSl 1 (.tmp 12) (.tmp 13)⟩,
    ⟨none, some 15, false, .load none (.tmp 14)⟩,
    ⟨none, some 16, false, .callv (.tmp 11) [.tmp 15]⟩]) (.cond (.tmp 16) c70_0 .skip)
def c70_2 : C := .seq (.ops [⟨none, some 10, false, .mov (.tmp 8)⟩,
    ⟨none, some 5, false, .mov (.tmp 10)⟩]) c70_1
def c70_3 : C := .ops [⟨none, some 18, false, .bin .add (.tmp 8) (.const (.int .i64 1))⟩,
    ⟨none, some 8, false, .mov (.tmp 18)⟩]
def c70_4 : C := .seq (.cond (.tmp 9) .skip (.exit 0)) (.seq (.block 1 c70_2) c70_3)
def c70_5 : C := .seq (.ops [⟨none, some 9, false, .bin .lss (.tmp 8) (.tmp 7)⟩]) c70_4
def c70_6 : C := .seq (.ops [⟨none, some 4, false, .mov (.const (.int .i64 (-1)))⟩]) .ret
def c70_7 : C := .seq (.seq (.ops [⟨none, some 6, false, .mov (.tmp 0)⟩,
    ⟨none, some 7, false, .lenSl (.tmp 6)⟩,
    ⟨none, some 8, false, .mov (.const (.int .i64 0))⟩]) (.block 0 (.loop c70_5))) c70_6
def c70 : C := .seq (.ops [⟨none, some 4, false, .mov (.const (.int .i64 0))⟩]) c70_7
theorem ok70 : compile Try.prog Try.f70.ntmps (Try.f70.body.getD .skip) = some c70 := by kernel_rfl

-- "math/bits.Mul32"
def c72_0 : C := .seq (.ops [⟨none, some 12, false, .mov (.tmp 6)⟩,
    ⟨none, some 13, false, .bin .shr (.tmp 12) (.const (.int .u64 32))⟩,
    ⟨none, some 14, false, .conv .u32 (.tmp 13)⟩,
    ⟨none, some 15, false, .mov (.tmp 6)⟩,
    ⟨none, some 16, false, .conv .u32 (.tmp 15)⟩,
    ⟨none, some 4, false, .mov (.tmp 14)⟩,
    ⟨none, some 5, false, .mov (.tmp 16)⟩]) .ret
def c72_1 : C := .seq (.ops [⟨none, some 7, false, .mov (.tmp 0)⟩,
    ⟨none, some 8, false, .conv .u64 (.tmp 7)⟩,
    ⟨none, some 9, false, .mov (.tmp 1)⟩,
    ⟨none, some 10, false, .conv .u64 (.tmp 9)⟩,
    ⟨none, some 11, false, .bin .mul (.tmp 8) (.tmp 10)⟩,
    ⟨none, some 6, false, .mov (.tmp 11)⟩]) c72_0
def c72 : C := .seq (.ops [⟨none, some 4, false, .mov (.const (.int .u32 0))⟩,
    ⟨none, some 5, false, .mov (.const (.int .u32 0))⟩]) c72_1
theorem ok72 : compile Try.prog Try.f72.ntmps (Try.f72.body.getD .skip) = some c72 := by kernel_rfl

-- "math/bits.Mul64"
def c73_0 : C := .seq (.ops [⟨none, some 48, false, .mov (.tmp 0)⟩,
    ⟨none, some 49, false, .mov (.tmp 1)⟩,
    ⟨none, some 50, false, .bin .mul (.tmp 48) (.tmp 49)⟩,
    ⟨none, some 5, false, .mov (.tmp 50)⟩]) .ret
def c73_1 : C := .seq (.ops [⟨none, some 40, false, .mov (.tmp 7)⟩,
    ⟨none, some 41, false, .mov (.tmp 9)⟩,
    ⟨none, some 42, false, .bin .mul (.tmp 40) (.tmp 41)⟩,
    ⟨none, some 43, false, .mov (.tmp 13)⟩,
    ⟨none, some 44, false, .bin .add (.tmp 42) (.tmp 43)⟩,
    ⟨none, some 45, false, .mov (.tmp 12)⟩,
    ⟨none, some 46, false, .bin .shr (.tmp 45) (.const (.int .u64 32))⟩,
    ⟨none, some 47, false, .bin .add (.tmp 44) (.tmp 46)⟩,
    ⟨none, some 4, false, .mov (.tmp 47)⟩]) c73_0
def c73_2 : C := .seq (.ops [⟨none, some 35, false, .mov (.tmp 12)⟩,
    ⟨none, some 36, false, .mov (.tmp 6)⟩,
    ⟨none, some 37, false, .mov (.tmp 9)⟩,
    ⟨none, some 38, false, .bin .mul (.tmp 36) (.tmp 37)⟩,
    ⟨none, some 39, false, .bin .add (.tmp 35) (.tmp 38)⟩,
    ⟨none, some 12, false, .mov (.tmp 39)⟩]) c73_1
def c73_3 : C := .seq (.ops [⟨none, some 33, false, .mov (.tmp 11)⟩,
    ⟨none, some 34, false, .bin .shr (.tmp 33) (.const (.int .u64 32))⟩,
    ⟨none, some 13, false, .mov (.tmp 34)⟩]) c73_2
def c73_4 : C := .seq (.ops [⟨none, some 31, false, .mov (.tmp 11)⟩,
    ⟨none, some 32, false, .bin .and (.tmp 31) (.const (.int .u64 4294967295))⟩,
    ⟨none, some 12, false, .mov (.tmp 32)⟩]) c73_3
def c73_5 : C := .seq (.ops [⟨none, some 25, false, .mov (.tmp 7)⟩,
    ⟨none, some 26, false, .mov (.tmp 8)⟩,
    ⟨none, some 27, false, .bin .mul (.tmp 25) (.tmp 26)⟩,
    ⟨none, some 28, false, .mov (.tmp 10)⟩,
    ⟨none, some 29, false, .bin .shr (.tmp 28) (.const (.int .u64 32))⟩,
    ⟨none, some 30, false, .bin .add (.tmp 27) (.tmp 29)⟩,
    ⟨none, some 11, false, .mov (.tmp 30)⟩]) c73_4
def c73_6 : C := .seq (.ops [⟨none, some 22, false, .mov (.tmp 6)⟩,
    ⟨none, some 23, false, .mov (.tmp 8)⟩,
    ⟨none, some 24, false, .bin .mul (.tmp 22) (.tmp 23)⟩,
    ⟨none, some 10, false, .mov (.tmp 24)⟩]) c73_5
def c73_7 : C := .seq (.ops [⟨none, some 20, false, .mov (.tmp 1)⟩,
    ⟨none, some 21, false, .bin .shr (.tmp 20) (.const (.int .u64 32))⟩,
    ⟨none, some 9, false, .mov (.tmp 21)⟩]) c73_6
def c73_8 : C := .seq (.ops [⟨none, some 18, false, .mov (.tmp 1)⟩,
    ⟨none, some 19, false, .bin .and (.tmp 18) (.const (.int .u64 4294967295))⟩,
    ⟨none, some 8, false, .mov (.tmp 19)⟩]) c73_7
def c73_9 : C := .seq (.ops [⟨none, some 16, false, .mov (.tmp 0)⟩,
    ⟨none, some 17, false, .bin .shr (.tmp 16) (.const (.int .u64 32))⟩,
    ⟨none, some 7, false, .mov (.tmp 17)⟩]) c73_8
def c73_10 : C := .seq (.ops [⟨none, some 14, false, .mov (.tmp 0)⟩,
    ⟨none, some 15, false, .bin .and (.tmp 14) (.const (.int .u64 4294967295))⟩,
    ⟨none, some 6, false, .mov (.tmp 15)⟩]) c73_9
def c73 : C := .seq (.ops [⟨none, some 4, false, .mov (.const (.int .u64 0))⟩,
    ⟨none, some 5, false, .mov (.const (.int .u64 0))⟩]) c73_10
theorem ok73 : compile Try.prog Try.f73.ntmps (Try.f73.body.getD .skip) = some c73 := by kernel_rfl

end Go.Vx

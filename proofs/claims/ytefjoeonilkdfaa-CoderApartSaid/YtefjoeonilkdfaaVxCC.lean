/- A part of the proof: what it shows stands in its theorems. No condition beyond those that they name. -/
import Derived.Test.YtefjoeonilkdfaaVxCP
import Derived.Test.YtefjoeonilkdfaaVxCS
import Derived.Test.YtefjoeonilkdfaaVxN
import Derived.Test.YtefjoeonilkdfaaProg
namespace Go.Vx
open Go.Proofs
set_option maxRecDepth 4000

/-! The functions' code. -/

-- "tansy/tansylaw06.CoderApart"
def c8_0 : C := .seq (.ops [⟨none, some 29, false, .mov (.tmp 7)⟩,
    ⟨none, some 6, false, .mov (.tmp 29)⟩]) .ret
def c8_1 : C := .seq (.ops [⟨none, some 46, false, .mov (.tmp 7)⟩,
    ⟨none, some 6, false, .mov (.tmp 46)⟩]) .ret
def c8_2 : C := .ops [⟨none, some 47, false, .mov (.tmp 8)⟩,
    ⟨none, some 48, false, .mov (.tmp 47)⟩,
    ⟨some (48, true), some 49, false, .mov (.tmp 1)⟩,
    ⟨some (48, true), some 50, false, .mov (.tmp 9)⟩,
    ⟨some (48, true), some 51, false, .idxSl 2 (.tmp 49) (.tmp 50)⟩,
    ⟨some (48, true), some 52, false, .fieldAddr 1 (.tmp 51)⟩,
    ⟨some (48, true), some 53, false, .load none (.tmp 52)⟩,
    ⟨some (48, true), some 54, false, .mov (.tmp 2)⟩,
    ⟨some (48, true), some 55, false, .mov (.tmp 9)⟩,
    ⟨some (48, true), some 56, false, .idxSl 2 (.tmp 54) (.tmp 55)⟩,
    ⟨some (48, true), some 57, false, .fieldAddr 1 (.tmp 56)⟩,
    ⟨some (48, true), some 58, false, .load none (.tmp 57)⟩,
    ⟨some (48, true), some 59, false, .eqv false .bool (.tmp 53) (.tmp 58)⟩,
    ⟨none, some 60, false, .pick (.tmp 48) (.tmp 59) (.const (.bool false))⟩,
    ⟨none, some 8, false, .mov (.tmp 60)⟩]
def c8_3 : C := .seq (.seq (.ops [⟨none, some 35, false, .mov (.tmp 1)⟩,
    ⟨none, some 36, false, .mov (.tmp 9)⟩,
    ⟨none, some 37, false, .idxSl 2 (.tmp 35) (.tmp 36)⟩,
    ⟨none, some 38, false, .fieldAddr 0 (.tmp 37)⟩,
    ⟨none, some 39, false, .load none (.tmp 38)⟩,
    ⟨none, some 40, false, .mov (.tmp 2)⟩,
    ⟨none, some 41, false, .mov (.tmp 9)⟩,
    ⟨none, some 42, false, .idxSl 2 (.tmp 40) (.tmp 41)⟩,
    ⟨none, some 43, false, .fieldAddr 0 (.tmp 42)⟩,
    ⟨none, some 44, false, .load none (.tmp 43)⟩,
    ⟨none, some 45, false, .bin .neq (.tmp 39) (.tmp 44)⟩]) (.cond (.tmp 45) c8_1 .skip)) c8_2
def c8_4 : C := .seq (.ops [⟨none, some 34, false, .mov (.tmp 32)⟩,
    ⟨none, some 9, false, .mov (.tmp 34)⟩]) c8_3
def c8_5 : C := .ops [⟨none, some 61, false, .bin .add (.tmp 32) (.const (.int .i64 1))⟩,
    ⟨none, some 32, false, .mov (.tmp 61)⟩]
def c8_6 : C := .seq (.cond (.tmp 33) .skip (.exit 0)) (.seq (.block 1 c8_4) c8_5)
def c8_7 : C := .seq (.ops [⟨none, some 33, false, .bin .lss (.tmp 32) (.tmp 31)⟩]) c8_6
def c8_8 : C := .seq (.ops [⟨none, some 74, false, .mov (.tmp 7)⟩,
    ⟨none, some 75, false, .mov (.tmp 74)⟩,
    ⟨some (75, true), some 76, false, .mov (.tmp 11)⟩,
    ⟨some (75, true), some 77, false, .mov (.tmp 13)⟩,
    ⟨some (75, true), some 78, false, .bin .eql (.tmp 76) (.tmp 77)⟩,
    ⟨none, some 79, false, .pick (.tmp 75) (.tmp 78) (.const (.bool false))⟩,
    ⟨none, some 80, false, .mov (.tmp 79)⟩,
    ⟨some (80, true), some 81, false, .mov (.tmp 11)⟩,
    ⟨some (80, true), some 82, false, .bin .neq (.tmp 81) (.const (.int .i64 0))⟩,
    ⟨some (80, true), some 83, false, .mov (.tmp 82)⟩,
    ⟨some (83, false), some 84, false, .mov (.tmp 10)⟩,
    ⟨some (83, false), some 85, false, .mov (.tmp 12)⟩,
    ⟨some (83, false), some 86, false, .calln 17 [.tmp 84, .tmp 85]⟩,
    ⟨some (83, false), some 87, false, .mov (.tmp 8)⟩,
    ⟨some (83, false), some 88, false, .eqv false .bool (.tmp 86) (.tmp 87)⟩,
    ⟨some (80, true), some 89, false, .pick (.tmp 83) (.const (.bool true)) (.tmp 88)⟩,
    ⟨none, some 90, false, .pick (.tmp 80) (.tmp 89) (.const (.bool false))⟩,
    ⟨none, some 6, false, .mov (.tmp 90)⟩]) .ret
def c8_9 : C := .seq (.ops [⟨none, some 69, false, .mov (.tmp 0)⟩,
    ⟨none, some 70, false, .mov (.tmp 2)⟩,
    ⟨none, some 71, false, .calln 37 [.tmp 69, .tmp 70]⟩,
    ⟨none, some 68, false, .mov (.tmp 71)⟩,
    ⟨none, some 72, false, .extract (.tmp 68) 0⟩,
    ⟨none, some 73, false, .extract (.tmp 68) 1⟩,
    ⟨none, some 12, false, .mov (.tmp 72)⟩,
    ⟨none, some 13, false, .mov (.tmp 73)⟩]) c8_8
def c8_10 : C := .seq (.ops [⟨none, some 63, false, .mov (.tmp 0)⟩,
    ⟨none, some 64, false, .mov (.tmp 1)⟩,
    ⟨none, some 65, false, .calln 37 [.tmp 63, .tmp 64]⟩,
    ⟨none, some 62, false, .mov (.tmp 65)⟩,
    ⟨none, some 66, false, .extract (.tmp 62) 0⟩,
    ⟨none, some 67, false, .extract (.tmp 62) 1⟩,
    ⟨none, some 10, false, .mov (.tmp 66)⟩,
    ⟨none, some 11, false, .mov (.tmp 67)⟩]) c8_9
def c8_11 : C := .seq (.seq (.ops [⟨none, some 30, false, .mov (.tmp 1)⟩,
    ⟨none, some 31, false, .lenSl (.tmp 30)⟩,
    ⟨none, some 32, false, .mov (.const (.int .i64 0))⟩]) (.block 0 (.loop c8_7))) c8_10
def c8_12 : C := .seq (.ops [⟨none, some 8, false, .mov (.const (.bool true))⟩]) c8_11
def c8_13 : C := .seq (.seq (.ops [⟨none, some 15, false, .mov (.tmp 1)⟩,
    ⟨none, some 16, false, .lenSl (.tmp 15)⟩,
    ⟨none, some 17, false, .bin .gtr (.tmp 16) (.const (.int .i64 200))⟩,
    ⟨none, some 18, false, .mov (.tmp 17)⟩,
    ⟨some (18, false), some 19, false, .mov (.tmp 1)⟩,
    ⟨some (18, false), some 20, false, .lenSl (.tmp 19)⟩,
    ⟨some (18, false), some 21, false, .mov (.tmp 2)⟩,
    ⟨some (18, false), some 22, false, .lenSl (.tmp 21)⟩,
    ⟨some (18, false), some 23, false, .bin .neq (.tmp 20) (.tmp 22)⟩,
    ⟨none, some 24, false, .pick (.tmp 18) (.const (.bool true)) (.tmp 23)⟩,
    ⟨none, some 25, false, .mov (.tmp 24)⟩,
    ⟨some (25, false), some 26, false, .mov (.tmp 0)⟩,
    ⟨some (25, false), some 27, false, .bin .gtr (.tmp 26) (.const (.int .i64 60))⟩,
    ⟨none, some 28, false, .pick (.tmp 25) (.const (.bool true)) (.tmp 27)⟩]) (.cond (.tmp 28) c8_0 .skip)) c8_12
def c8_14 : C := .seq (.ops [⟨none, some 14, false, .calln 36 []⟩,
    ⟨none, some 7, false, .mov (.tmp 14)⟩]) c8_13
def c8 : C := .seq (.ops [⟨none, some 6, false, .mov (.const (.bool false))⟩]) c8_14
theorem ok8 : compile Try.prog Try.f8.ntmps (Try.f8.body.getD .skip) = some c8 := by kernel_rfl

-- "tansy/tansylaw06.CoderReads"
def c9_0 : C := .seq (.ops [⟨none, some 42, false, .mov (.tmp 7)⟩,
    ⟨none, some 6, false, .mov (.tmp 42)⟩]) .ret
def c9_1 : C := .seq (.ops [⟨none, some 68, false, .mov (.tmp 7)⟩,
    ⟨none, some 69, false, .mov (.tmp 68)⟩,
    ⟨some (69, true), some 70, false, .mov (.tmp 10)⟩,
    ⟨some (69, true), some 71, false, .mov (.tmp 12)⟩,
    ⟨some (69, true), some 72, false, .bin .eql (.tmp 70) (.tmp 71)⟩,
    ⟨none, some 73, false, .pick (.tmp 69) (.tmp 72) (.const (.bool false))⟩,
    ⟨none, some 74, false, .mov (.tmp 73)⟩,
    ⟨some (74, true), some 75, false, .mov (.tmp 9)⟩,
    ⟨some (74, true), some 76, false, .eqv false .ptr (.tmp 75) (.const (.pointer none))⟩,
    ⟨none, some 77, false, .pick (.tmp 74) (.tmp 76) (.const (.bool false))⟩,
    ⟨none, some 78, false, .mov (.tmp 77)⟩,
    ⟨some (78, true), some 79, false, .mov (.tmp 14)⟩,
    ⟨some (78, true), some 80, false, .bin .eql (.tmp 79) (.const (.int .i64 1))⟩,
    ⟨none, some 81, false, .pick (.tmp 78) (.tmp 80) (.const (.bool false))⟩,
    ⟨none, some 82, false, .mov (.tmp 81)⟩,
    ⟨some (82, true), some 83, false, .mov (.tmp 9)⟩,
    ⟨some (82, true), some 84, false, .calln 41 [.tmp 83]⟩,
    ⟨some (82, true), some 85, false, .bin .eql (.tmp 84) (.const (.int .i64 0))⟩,
    ⟨none, some 86, false, .pick (.tmp 82) (.tmp 85) (.const (.bool false))⟩,
    ⟨none, some 6, false, .mov (.tmp 86)⟩]) .ret
def c9_2 : C := .seq (.ops [⟨none, some 64, false, .mov (.tmp 9)⟩,
    ⟨none, some 65, false, .calln 40 [.tmp 64, .const (.int .i64 0)]⟩,
    ⟨none, some 63, false, .mov (.tmp 65)⟩,
    ⟨none, some 66, false, .extract (.tmp 63) 0⟩,
    ⟨none, some 67, false, .extract (.tmp 63) 1⟩,
    ⟨none, some 13, false, .mov (.tmp 66)⟩,
    ⟨none, some 14, false, .mov (.tmp 67)⟩]) c9_1
def c9_3 : C := .ops [⟨none, some 92, false, .mov (.tmp 8)⟩,
    ⟨none, some 93, false, .mov (.tmp 15)⟩,
    ⟨none, some 94, false, .idxSl 1 (.tmp 92) (.tmp 93)⟩,
    ⟨none, some 95, false, .load none (.tmp 94)⟩,
    ⟨none, some 96, false, .bin .xor (.tmp 95) (.const (.int .u8 255))⟩,
    ⟨none, some 97, false, .idxSl 1 (.tmp 92) (.tmp 93)⟩,
    ⟨none, none, false, .store 1 (.tmp 97) (.tmp 96)⟩]
def c9_4 : C := .seq (.ops [⟨none, some 91, false, .mov (.tmp 89)⟩,
    ⟨none, some 15, false, .mov (.tmp 91)⟩]) c9_3
def c9_5 : C := .ops [⟨none, some 98, false, .bin .add (.tmp 89) (.const (.int .i64 1))⟩,
    ⟨none, some 89, false, .mov (.tmp 98)⟩]
def c9_6 : C := .seq (.cond (.tmp 90) .skip (.exit 0)) (.seq (.block 1 c9_4) c9_5)
def c9_7 : C := .seq (.ops [⟨none, some 90, false, .bin .lss (.tmp 89) (.tmp 88)⟩]) c9_6
def c9_8 : C := .seq (.ops [⟨none, some 6, false, .mov (.const (.bool false))⟩]) .ret
def c9_9 : C := .seq (.ops [⟨none, some 6, false, .mov (.const (.bool false))⟩]) .ret
def c9_10 : C := .seq (.ops [⟨none, some 143, false, .mov (.tmp 23)⟩,
    ⟨none, some 144, false, .mov (.tmp 143)⟩,
    ⟨some (144, false), some 145, false, .mov (.tmp 24)⟩,
    ⟨some (144, false), some 146, false, .mov (.tmp 19)⟩,
    ⟨some (144, false), some 147, false, .bin .neq (.tmp 145) (.tmp 146)⟩,
    ⟨none, some 148, false, .pick (.tmp 144) (.const (.bool true)) (.tmp 147)⟩]) (.cond (.tmp 148) c9_9 .skip)
def c9_11 : C := .seq (.ops [⟨none, some 138, false, .mov (.tmp 9)⟩,
    ⟨none, some 139, false, .mov (.tmp 17)⟩,
    ⟨none, some 140, false, .calln 40 [.tmp 138, .tmp 139]⟩,
    ⟨none, some 137, false, .mov (.tmp 140)⟩,
    ⟨none, some 141, false, .extract (.tmp 137) 0⟩,
    ⟨none, some 142, false, .extract (.tmp 137) 1⟩,
    ⟨none, some 23, false, .mov (.tmp 141)⟩,
    ⟨none, some 24, false, .mov (.tmp 142)⟩]) c9_10
def c9_12 : C := .seq (.ops [⟨none, some 135, false, .mov (.tmp 19)⟩,
    ⟨none, some 136, false, .bin .neq (.tmp 135) (.const (.int .i64 0))⟩]) (.cond (.tmp 136) c9_11 .skip)
def c9_13 : C := .seq (.seq (.ops [⟨none, some 120, false, .mov (.tmp 18)⟩,
    ⟨none, some 121, false, .mov (.tmp 20)⟩,
    ⟨none, some 122, false, .eqv true .bool (.tmp 120) (.tmp 121)⟩,
    ⟨none, some 123, false, .mov (.tmp 122)⟩,
    ⟨some (123, false), some 124, false, .mov (.tmp 19)⟩,
    ⟨some (123, false), some 125, false, .mov (.tmp 22)⟩,
    ⟨some (123, false), some 126, false, .bin .neq (.tmp 124) (.tmp 125)⟩,
    ⟨none, some 127, false, .pick (.tmp 123) (.const (.bool true)) (.tmp 126)⟩,
    ⟨none, some 128, false, .mov (.tmp 127)⟩,
    ⟨some (128, false), some 129, false, .mov (.tmp 9)⟩,
    ⟨some (128, false), some 130, false, .callp 41 [.tmp 129]⟩,
    ⟨some (128, false), some 131, false, .fieldAddr 3 (.tmp 11)⟩,
    ⟨some (128, false), some 132, false, .load none (.tmp 131)⟩,
    ⟨some (128, false), some 133, false, .bin .neq (.tmp 130) (.tmp 132)⟩,
    ⟨none, some 134, false, .pick (.tmp 128) (.const (.bool true)) (.tmp 133)⟩]) (.cond (.tmp 134) c9_8 .skip)) c9_12
def c9_14 : C := .seq (.ops [⟨none, some 119, false, .load (some 4) (.tmp 21)⟩,
    ⟨none, none, false, .store 4 (.tmp 11) (.tmp 119)⟩]) c9_13
def c9_15 : C := .seq (.ops [⟨none, some 112, false, .load (some 4) (.tmp 11)⟩,
    ⟨none, some 113, false, .mov (.tmp 1)⟩,
    ⟨none, some 114, false, .mov (.tmp 17)⟩,
    ⟨none, some 115, false, .calln 42 [.tmp 112, .tmp 113, .tmp 114]⟩,
    ⟨none, some 111, false, .mov (.tmp 115)⟩,
    ⟨none, some 116, false, .extract (.tmp 111) 0⟩,
    ⟨none, some 117, false, .extract (.tmp 111) 1⟩,
    ⟨none, some 118, false, .extract (.tmp 111) 2⟩,
    ⟨none, some 21, false, .alloc [.slice none 0 0, .int .u32 0, .int .u32 0, .int .i64 0]⟩,
    ⟨none, some 20, false, .mov (.tmp 116)⟩,
    ⟨none, none, false, .store 4 (.tmp 21) (.tmp 117)⟩,
    ⟨none, some 22, false, .mov (.tmp 118)⟩]) c9_14
def c9_16 : C := .seq (.ops [⟨none, some 106, false, .mov (.tmp 9)⟩,
    ⟨none, some 107, false, .mov (.tmp 17)⟩,
    ⟨none, some 108, false, .calln 40 [.tmp 106, .tmp 107]⟩,
    ⟨none, some 105, false, .mov (.tmp 108)⟩,
    ⟨none, some 109, false, .extract (.tmp 105) 0⟩,
    ⟨none, some 110, false, .extract (.tmp 105) 1⟩,
    ⟨none, some 18, false, .mov (.tmp 109)⟩,
    ⟨none, some 19, false, .mov (.tmp 110)⟩]) c9_15
def c9_17 : C := .seq (.ops [⟨none, some 103, false, .idxSl 1 (.tmp 99) (.tmp 101)⟩,
    ⟨none, some 104, false, .load none (.tmp 103)⟩,
    ⟨none, some 17, false, .mov (.tmp 104)⟩]) c9_16
def c9_18 : C := .ops [⟨none, some 149, false, .bin .add (.tmp 101) (.const (.int .i64 1))⟩,
    ⟨none, some 101, false, .mov (.tmp 149)⟩]
def c9_19 : C := .seq (.cond (.tmp 102) .skip (.exit 2)) (.seq (.block 3 c9_17) c9_18)
def c9_20 : C := .seq (.ops [⟨none, some 102, false, .bin .lss (.tmp 101) (.tmp 100)⟩]) c9_19
def c9_21 : C := .seq (.ops [⟨none, some 150, false, .mov (.tmp 7)⟩,
    ⟨none, some 6, false, .mov (.tmp 150)⟩]) .ret
def c9_22 : C := .seq (.seq (.ops [⟨none, some 99, false, .mov (.tmp 2)⟩,
    ⟨none, some 100, false, .lenSl (.tmp 99)⟩,
    ⟨none, some 101, false, .mov (.const (.int .i64 0))⟩]) (.block 2 (.loop c9_20))) c9_21
def c9_23 : C := .seq (.seq (.ops [⟨none, some 87, false, .mov (.tmp 8)⟩,
    ⟨none, some 88, false, .lenSl (.tmp 87)⟩,
    ⟨none, some 89, false, .mov (.const (.int .i64 0))⟩]) (.block 0 (.loop c9_7))) c9_22
def c9_24 : C := .seq (.seq (.ops [⟨none, some 57, false, .mov (.tmp 10)⟩,
    ⟨none, some 58, false, .bin .neq (.tmp 57) (.const (.int .i64 0))⟩,
    ⟨none, some 59, false, .mov (.tmp 58)⟩,
    ⟨some (59, false), some 60, false, .mov (.tmp 12)⟩,
    ⟨some (59, false), some 61, false, .bin .neq (.tmp 60) (.const (.int .i64 0))⟩,
    ⟨none, some 62, false, .pick (.tmp 59) (.const (.bool true)) (.tmp 61)⟩]) (.cond (.tmp 62) c9_2 .skip)) c9_23
def c9_25 : C := .seq (.ops [⟨none, some 52, false, .mov (.tmp 0)⟩,
    ⟨none, some 53, false, .mov (.tmp 1)⟩,
    ⟨none, some 54, false, .calln 39 [.tmp 52, .tmp 53]⟩,
    ⟨none, some 51, false, .mov (.tmp 54)⟩,
    ⟨none, some 55, false, .extract (.tmp 51) 0⟩,
    ⟨none, some 56, false, .extract (.tmp 51) 1⟩,
    ⟨none, some 11, false, .alloc [.slice none 0 0, .int .u32 0, .int .u32 0, .int .i64 0]⟩,
    ⟨none, none, false, .store 4 (.tmp 11) (.tmp 55)⟩,
    ⟨none, some 12, false, .mov (.tmp 56)⟩]) c9_24
def c9_26 : C := .seq (.ops [⟨none, some 46, false, .mov (.tmp 0)⟩,
    ⟨none, some 47, false, .mov (.tmp 8)⟩,
    ⟨none, some 48, false, .calln 38 [.tmp 46, .tmp 47]⟩,
    ⟨none, some 45, false, .mov (.tmp 48)⟩,
    ⟨none, some 49, false, .extract (.tmp 45) 0⟩,
    ⟨none, some 50, false, .extract (.tmp 45) 1⟩,
    ⟨none, some 9, false, .mov (.tmp 49)⟩,
    ⟨none, some 10, false, .mov (.tmp 50)⟩]) c9_25
def c9_27 : C := .seq (.ops [⟨none, some 43, false, .mov (.tmp 1)⟩,
    ⟨none, some 44, false, .append 1 1 (.const (.slice none 0 0)) (.tmp 43)⟩,
    ⟨none, some 8, false, .mov (.tmp 44)⟩]) c9_26
def c9_28 : C := .seq (.seq (.ops [⟨none, some 26, false, .mov (.tmp 1)⟩,
    ⟨none, some 27, false, .lenSl (.tmp 26)⟩,
    ⟨none, some 28, false, .bin .gtr (.tmp 27) (.const (.int .i64 500))⟩,
    ⟨none, some 29, false, .mov (.tmp 28)⟩,
    ⟨some (29, false), some 30, false, .mov (.tmp 2)⟩,
    ⟨some (29, false), some 31, false, .lenSl (.tmp 30)⟩,
    ⟨some (29, false), some 32, false, .bin .gtr (.tmp 31) (.const (.int .i64 300))⟩,
    ⟨none, some 33, false, .pick (.tmp 29) (.const (.bool true)) (.tmp 32)⟩,
    ⟨none, some 34, false, .mov (.tmp 33)⟩,
    ⟨some (34, false), some 35, false, .mov (.tmp 0)⟩,
    ⟨some (34, false), some 36, false, .bin .gtr (.tmp 35) (.const (.int .i64 60))⟩,
    ⟨some (34, false), some 37, false, .mov (.tmp 36)⟩,
    ⟨some (37, true), some 38, false, .mov (.tmp 0)⟩,
    ⟨some (37, true), some 39, false, .bin .leq (.tmp 38) (.const (.int .i64 1024))⟩,
    ⟨some (34, false), some 40, false, .pick (.tmp 37) (.tmp 39) (.const (.bool false))⟩,
    ⟨none, some 41, false, .pick (.tmp 34) (.const (.bool true)) (.tmp 40)⟩]) (.cond (.tmp 41) c9_0 .skip)) c9_27
def c9_29 : C := .seq (.ops [⟨none, some 25, false, .calln 36 []⟩,
    ⟨none, some 7, false, .mov (.tmp 25)⟩]) c9_28
def c9 : C := .seq (.ops [⟨none, some 6, false, .mov (.const (.bool false))⟩]) c9_29
theorem ok9 : compile Try.prog Try.f9.ntmps (Try.f9.body.getD .skip) = some c9 := by kernel_rfl

-- "tansy/tansylaw06.CoderDoes"
def c10_0 : C := .seq (.ops [⟨none, some 43, false, .mov (.tmp 9)⟩,
    ⟨none, some 8, false, .mov (.tmp 43)⟩]) .ret
def c10_1 : C := .seq (.ops [⟨none, some 74, false, .mov (.tmp 9)⟩,
    ⟨none, some 75, false, .mov (.tmp 74)⟩,
    ⟨some (75, true), some 76, false, .mov (.tmp 11)⟩,
    ⟨some (75, true), some 77, false, .mov (.tmp 13)⟩,
    ⟨some (75, true), some 78, false, .calln 17 [.tmp 76, .tmp 77]⟩,
    ⟨none, some 79, false, .pick (.tmp 75) (.tmp 78) (.const (.bool false))⟩,
    ⟨none, some 80, false, .mov (.tmp 79)⟩,
    ⟨some (80, true), some 81, false, .mov (.tmp 12)⟩,
    ⟨some (80, true), some 82, false, .mov (.tmp 14)⟩,
    ⟨some (80, true), some 83, false, .bin .eql (.tmp 81) (.tmp 82)⟩,
    ⟨none, some 84, false, .pick (.tmp 80) (.tmp 83) (.const (.bool false))⟩,
    ⟨none, some 85, false, .mov (.tmp 84)⟩,
    ⟨some (85, true), some 86, false, .mov (.tmp 15)⟩,
    ⟨some (85, true), some 87, false, .mov (.tmp 18)⟩,
    ⟨some (85, true), some 88, false, .calln 46 [.tmp 86, .tmp 87]⟩,
    ⟨none, some 89, false, .pick (.tmp 85) (.tmp 88) (.const (.bool false))⟩,
    ⟨none, some 90, false, .mov (.tmp 89)⟩,
    ⟨some (90, true), some 91, false, .mov (.tmp 16)⟩,
    ⟨some (90, true), some 92, false, .mov (.tmp 19)⟩,
    ⟨some (90, true), some 93, false, .bin .eql (.tmp 91) (.tmp 92)⟩,
    ⟨none, some 94, false, .pick (.tmp 90) (.tmp 93) (.const (.bool false))⟩,
    ⟨none, some 95, false, .mov (.tmp 94)⟩,
    ⟨some (95, true), some 96, false, .mov (.tmp 17)⟩,
    ⟨some (95, true), some 97, false, .mov (.tmp 20)⟩,
    ⟨some (95, true), some 98, false, .bin .eql (.tmp 96) (.tmp 97)⟩,
    ⟨none, some 99, false, .pick (.tmp 95) (.tmp 98) (.const (.bool false))⟩,
    ⟨none, some 100, false, .mov (.tmp 99)⟩,
    ⟨some (100, true), some 101, false, .mov (.tmp 2)⟩,
    ⟨some (100, true), some 102, false, .toStr (.tmp 101)⟩,
    ⟨some (100, true), some 103, false, .mov (.tmp 10)⟩,
    ⟨some (100, true), some 104, false, .bin .eql (.tmp 102) (.tmp 103)⟩,
    ⟨none, some 105, false, .pick (.tmp 100) (.tmp 104) (.const (.bool false))⟩,
    ⟨none, some 8, false, .mov (.tmp 105)⟩]) .ret
def c10_2 : C := .seq (.ops [⟨none, some 67, false, .mov (.tmp 0)⟩,
    ⟨none, some 68, false, .mov (.tmp 2)⟩,
    ⟨none, some 69, false, .mov (.tmp 3)⟩,
    ⟨none, some 70, false, .calln 45 [.tmp 67, .tmp 68, .tmp 69]⟩,
    ⟨none, some 66, false, .mov (.tmp 70)⟩,
    ⟨none, some 71, false, .extract (.tmp 66) 0⟩,
    ⟨none, some 72, false, .extract (.tmp 66) 1⟩,
    ⟨none, some 73, false, .extract (.tmp 66) 2⟩,
    ⟨none, some 18, false, .mov (.tmp 71)⟩,
    ⟨none, some 19, false, .mov (.tmp 72)⟩,
    ⟨none, some 20, false, .mov (.tmp 73)⟩]) c10_1
def c10_3 : C := .seq (.ops [⟨none, some 59, false, .mov (.tmp 0)⟩,
    ⟨none, some 60, false, .mov (.tmp 2)⟩,
    ⟨none, some 61, false, .mov (.tmp 3)⟩,
    ⟨none, some 62, false, .calln 44 [.tmp 59, .tmp 60, .tmp 61]⟩,
    ⟨none, some 58, false, .mov (.tmp 62)⟩,
    ⟨none, some 63, false, .extract (.tmp 58) 0⟩,
    ⟨none, some 64, false, .extract (.tmp 58) 1⟩,
    ⟨none, some 65, false, .extract (.tmp 58) 2⟩,
    ⟨none, some 15, false, .mov (.tmp 63)⟩,
    ⟨none, some 16, false, .mov (.tmp 64)⟩,
    ⟨none, some 17, false, .mov (.tmp 65)⟩]) c10_2
def c10_4 : C := .seq (.ops [⟨none, some 53, false, .mov (.tmp 0)⟩,
    ⟨none, some 54, false, .mov (.tmp 1)⟩,
    ⟨none, some 55, false, .calln 43 [.tmp 53, .tmp 54]⟩,
    ⟨none, some 52, false, .mov (.tmp 55)⟩,
    ⟨none, some 56, false, .extract (.tmp 52) 0⟩,
    ⟨none, some 57, false, .extract (.tmp 52) 1⟩,
    ⟨none, some 13, false, .mov (.tmp 56)⟩,
    ⟨none, some 14, false, .mov (.tmp 57)⟩]) c10_3
def c10_5 : C := .seq (.ops [⟨none, some 47, false, .mov (.tmp 0)⟩,
    ⟨none, some 48, false, .mov (.tmp 1)⟩,
    ⟨none, some 49, false, .calln 37 [.tmp 47, .tmp 48]⟩,
    ⟨none, some 46, false, .mov (.tmp 49)⟩,
    ⟨none, some 50, false, .extract (.tmp 46) 0⟩,
    ⟨none, some 51, false, .extract (.tmp 46) 1⟩,
    ⟨none, some 11, false, .mov (.tmp 50)⟩,
    ⟨none, some 12, false, .mov (.tmp 51)⟩]) c10_4
def c10_6 : C := .seq (.ops [⟨none, some 44, false, .mov (.tmp 2)⟩,
    ⟨none, some 45, false, .toStr (.tmp 44)⟩,
    ⟨none, some 10, false, .mov (.tmp 45)⟩]) c10_5
def c10_7 : C := .seq (.seq (.ops [⟨none, some 22, false, .mov (.tmp 1)⟩,
    ⟨none, some 23, false, .lenSl (.tmp 22)⟩,
    ⟨none, some 24, false, .bin .gtr (.tmp 23) (.const (.int .i64 300))⟩,
    ⟨none, some 25, false, .mov (.tmp 24)⟩,
    ⟨some (25, false), some 26, false, .mov (.tmp 2)⟩,
    ⟨some (25, false), some 27, false, .lenSl (.tmp 26)⟩,
    ⟨some (25, false), some 28, false, .bin .gtr (.tmp 27) (.const (.int .i64 500))⟩,
    ⟨none, some 29, false, .pick (.tmp 25) (.const (.bool true)) (.tmp 28)⟩,
    ⟨none, some 30, false, .mov (.tmp 29)⟩,
    ⟨some (30, false), some 31, false, .mov (.tmp 3)⟩,
    ⟨some (30, false), some 32, false, .lenSl (.tmp 31)⟩,
    ⟨some (30, false), some 33, false, .bin .gtr (.tmp 32) (.const (.int .i64 300))⟩,
    ⟨none, some 34, false, .pick (.tmp 30) (.const (.bool true)) (.tmp 33)⟩,
    ⟨none, some 35, false, .mov (.tmp 34)⟩,
    ⟨some (35, false), some 36, false, .mov (.tmp 0)⟩,
    ⟨some (35, false), some 37, false, .bin .gtr (.tmp 36) (.const (.int .i64 60))⟩,
    ⟨some (35, false), some 38, false, .mov (.tmp 37)⟩,
    ⟨some (38, true), some 39, false, .mov (.tmp 0)⟩,
    ⟨some (38, true), some 40, false, .bin .leq (.tmp 39) (.const (.int .i64 1024))⟩,
    ⟨some (35, false), some 41, false, .pick (.tmp 38) (.tmp 40) (.const (.bool false))⟩,
    ⟨none, some 42, false, .pick (.tmp 35) (.const (.bool true)) (.tmp 41)⟩]) (.cond (.tmp 42) c10_0 .skip)) c10_6
def c10_8 : C := .seq (.ops [⟨none, some 21, false, .calln 36 []⟩,
    ⟨none, some 9, false, .mov (.tmp 21)⟩]) c10_7
def c10 : C := .seq (.ops [⟨none, some 8, false, .mov (.const (.bool false))⟩]) c10_8
theorem ok10 : compile Try.prog Try.f10.ntmps (Try.f10.body.getD .skip) = some c10 := by kernel_rfl

-- "tansy/tansylaw06.CoderBack"
def c11_0 : C := .seq (.ops [⟨none, some 28, false, .mov (.tmp 7)⟩,
    ⟨none, some 6, false, .mov (.tmp 28)⟩]) .ret
def c11_1 : C := .seq (.ops [⟨none, some 37, false, .mov (.tmp 7)⟩,
    ⟨none, some 38, false, .mov (.tmp 37)⟩,
    ⟨some (38, true), some 39, false, .mov (.tmp 8)⟩,
    ⟨some (38, true), some 40, false, .lenSl (.tmp 39)⟩,
    ⟨some (38, true), some 41, false, .bin .eql (.tmp 40) (.const (.int .i64 0))⟩,
    ⟨none, some 42, false, .pick (.tmp 38) (.tmp 41) (.const (.bool false))⟩,
    ⟨none, some 6, false, .mov (.tmp 42)⟩]) .ret
def c11_2 : C := .seq (.ops [⟨none, some 6, false, .mov (.const (.bool false))⟩]) .ret
def c11_3 : C := .seq (.ops [⟨none, some 6, false, .mov (.const (.bool false))⟩]) .ret
def c11_4 : C := .seq (.ops [⟨none, some 77, false, .mov (.tmp 10)⟩,
    ⟨none, some 78, false, .mov (.tmp 13)⟩,
    ⟨none, some 79, false, .idxSl 1 (.tmp 77) (.tmp 78)⟩,
    ⟨none, some 80, false, .load none (.tmp 79)⟩,
    ⟨none, some 81, false, .fieldAddr 1 (.tmp 14)⟩,
    ⟨none, some 82, false, .load none (.tmp 81)⟩,
    ⟨none, some 83, false, .eqv true .bool (.tmp 80) (.tmp 82)⟩]) (.cond (.tmp 83) c11_3 .skip)
def c11_5 : C := .seq (.ops [⟨none, some 74, false, .mov (.tmp 72)⟩,
    ⟨none, some 75, false, .idxSl 2 (.tmp 70) (.tmp 72)⟩,
    ⟨none, some 76, false, .load (some 2) (.tmp 75)⟩,
    ⟨none, some 14, false, .alloc [.int .i64 0, .bool false]⟩,
    ⟨none, some 13, false, .mov (.tmp 74)⟩,
    ⟨none, none, false, .store 2 (.tmp 14) (.tmp 76)⟩]) c11_4
def c11_6 : C := .ops [⟨none, some 84, false, .bin .add (.tmp 72) (.const (.int .i64 1))⟩,
    ⟨none, some 72, false, .mov (.tmp 84)⟩]
def c11_7 : C := .seq (.cond (.tmp 73) .skip (.exit 0)) (.seq (.block 1 c11_5) c11_6)
def c11_8 : C := .seq (.ops [⟨none, some 73, false, .bin .lss (.tmp 72) (.tmp 71)⟩]) c11_7
def c11_9 : C := .seq (.ops [⟨none, some 85, false, .mov (.tmp 7)⟩,
    ⟨none, some 6, false, .mov (.tmp 85)⟩]) .ret
def c11_10 : C := .seq (.seq (.ops [⟨none, some 70, false, .mov (.tmp 1)⟩,
    ⟨none, some 71, false, .lenSl (.tmp 70)⟩,
    ⟨none, some 72, false, .mov (.const (.int .i64 0))⟩]) (.block 0 (.loop c11_8))) c11_9
def c11_11 : C := .seq (.seq (.ops [⟨none, some 55, false, .mov (.tmp 12)⟩,
    ⟨none, some 56, false, .bin .neq (.tmp 55) (.const (.int .i64 0))⟩,
    ⟨none, some 57, false, .mov (.tmp 56)⟩,
    ⟨some (57, false), some 58, false, .mov (.tmp 11)⟩,
    ⟨some (57, false), some 59, false, .mov (.tmp 8)⟩,
    ⟨some (57, false), some 60, false, .lenSl (.tmp 59)⟩,
    ⟨some (57, false), some 61, false, .bin .neq (.tmp 58) (.tmp 60)⟩,
    ⟨none, some 62, false, .pick (.tmp 57) (.const (.bool true)) (.tmp 61)⟩,
    ⟨none, some 63, false, .mov (.tmp 62)⟩,
    ⟨some (63, false), some 64, false, .mov (.tmp 10)⟩,
    ⟨some (63, false), some 65, false, .lenSl (.tmp 64)⟩,
    ⟨some (63, false), some 66, false, .mov (.tmp 1)⟩,
    ⟨some (63, false), some 67, false, .lenSl (.tmp 66)⟩,
    ⟨some (63, false), some 68, false, .bin .neq (.tmp 65) (.tmp 67)⟩,
    ⟨none, some 69, false, .pick (.tmp 63) (.const (.bool true)) (.tmp 68)⟩]) (.cond (.tmp 69) c11_2 .skip)) c11_10
def c11_12 : C := .seq (.ops [⟨none, some 44, false, .mov (.tmp 0)⟩,
    ⟨none, some 45, false, .mov (.tmp 8)⟩,
    ⟨none, some 46, false, .append 1 1 (.const (.slice none 0 0)) (.tmp 45)⟩,
    ⟨none, some 47, false, .mov (.tmp 2)⟩,
    ⟨none, some 48, false, .append 1 1 (.tmp 46) (.tmp 47)⟩,
    ⟨none, some 49, false, .mov (.tmp 1)⟩,
    ⟨none, some 50, false, .calln 47 [.tmp 49]⟩,
    ⟨none, some 51, false, .calln 44 [.tmp 44, .tmp 48, .tmp 50]⟩,
    ⟨none, some 43, false, .mov (.tmp 51)⟩,
    ⟨none, some 52, false, .extract (.tmp 43) 0⟩,
    ⟨none, some 53, false, .extract (.tmp 43) 1⟩,
    ⟨none, some 54, false, .extract (.tmp 43) 2⟩,
    ⟨none, some 10, false, .mov (.tmp 52)⟩,
    ⟨none, some 11, false, .mov (.tmp 53)⟩,
    ⟨none, some 12, false, .mov (.tmp 54)⟩]) c11_11
def c11_13 : C := .seq (.seq (.ops [⟨none, some 35, false, .mov (.tmp 9)⟩,
    ⟨none, some 36, false, .bin .neq (.tmp 35) (.const (.int .i64 0))⟩]) (.cond (.tmp 36) c11_1 .skip)) c11_12
def c11_14 : C := .seq (.ops [⟨none, some 30, false, .mov (.tmp 0)⟩,
    ⟨none, some 31, false, .mov (.tmp 1)⟩,
    ⟨none, some 32, false, .calln 37 [.tmp 30, .tmp 31]⟩,
    ⟨none, some 29, false, .mov (.tmp 32)⟩,
    ⟨none, some 33, false, .extract (.tmp 29) 0⟩,
    ⟨none, some 34, false, .extract (.tmp 29) 1⟩,
    ⟨none, some 8, false, .mov (.tmp 33)⟩,
    ⟨none, some 9, false, .mov (.tmp 34)⟩]) c11_13
def c11_15 : C := .seq (.seq (.ops [⟨none, some 16, false, .mov (.tmp 1)⟩,
    ⟨none, some 17, false, .lenSl (.tmp 16)⟩,
    ⟨none, some 18, false, .bin .gtr (.tmp 17) (.const (.int .i64 300))⟩,
    ⟨none, some 19, false, .mov (.tmp 18)⟩,
    ⟨some (19, false), some 20, false, .mov (.tmp 2)⟩,
    ⟨some (19, false), some 21, false, .lenSl (.tmp 20)⟩,
    ⟨some (19, false), some 22, false, .bin .gtr (.tmp 21) (.const (.int .i64 100))⟩,
    ⟨none, some 23, false, .pick (.tmp 19) (.const (.bool true)) (.tmp 22)⟩,
    ⟨none, some 24, false, .mov (.tmp 23)⟩,
    ⟨some (24, false), some 25, false, .mov (.tmp 0)⟩,
    ⟨some (24, false), some 26, false, .bin .gtr (.tmp 25) (.const (.int .i64 60))⟩,
    ⟨none, some 27, false, .pick (.tmp 24) (.const (.bool true)) (.tmp 26)⟩]) (.cond (.tmp 27) c11_0 .skip)) c11_14
def c11_16 : C := .seq (.ops [⟨none, some 15, false, .calln 36 []⟩,
    ⟨none, some 7, false, .mov (.tmp 15)⟩]) c11_15
def c11 : C := .seq (.ops [⟨none, some 6, false, .mov (.const (.bool false))⟩]) c11_16
theorem ok11 : compile Try.prog Try.f11.ntmps (Try.f11.body.getD .skip) = some c11 := by kernel_rfl

-- "tansy/tansylaw06.CoderShort"
def c12_0 : C := .seq (.ops [⟨none, some 19, false, .mov (.tmp 5)⟩,
    ⟨none, some 4, false, .mov (.tmp 19)⟩]) .ret
def c12_1 : C := .seq (.ops [⟨none, some 28, false, .mov (.tmp 5)⟩,
    ⟨none, some 4, false, .mov (.tmp 28)⟩]) .ret
def c12_2 : C := .seq (.ops [⟨none, some 4, false, .mov (.const (.bool false))⟩]) .ret
def c12_3 : C := .seq (.ops [⟨none, some 62, false, .mov (.tmp 5)⟩,
    ⟨none, some 63, false, .mov (.tmp 62)⟩,
    ⟨some (63, true), some 64, false, .mov (.tmp 10)⟩,
    ⟨some (63, true), some 65, false, .bin .eql (.tmp 64) (.const (.int .i64 2))⟩,
    ⟨none, some 66, false, .pick (.tmp 63) (.tmp 65) (.const (.bool false))⟩,
    ⟨none, some 4, false, .mov (.tmp 66)⟩]) .ret
def c12_4 : C := .seq (.ops [⟨none, some 50, false, .mov (.tmp 0)⟩,
    ⟨none, some 51, false, .mov (.tmp 6)⟩,
    ⟨none, some 52, false, .mov (.tmp 6)⟩,
    ⟨none, some 53, false, .lenSl (.tmp 52)⟩,
    ⟨none, some 54, false, .bin .sub (.tmp 53) (.const (.int .i64 1))⟩,
    ⟨none, some 55, false, .slice 1 (.tmp 51) none (some (.tmp 54)) none⟩,
    ⟨none, some 56, false, .mov (.tmp 1)⟩,
    ⟨none, some 57, false, .callp 47 [.tmp 56]⟩,
    ⟨none, some 58, false, .call 44 [.tmp 50, .tmp 55, .tmp 57]⟩,
    ⟨none, some 49, false, .mov (.tmp 58)⟩,
    ⟨none, some 59, false, .extract (.tmp 49) 0⟩,
    ⟨none, some 60, false, .extract (.tmp 49) 1⟩,
    ⟨none, some 61, false, .extract (.tmp 49) 2⟩,
    ⟨none, some 8, false, .mov (.tmp 59)⟩,
    ⟨none, some 9, false, .mov (.tmp 60)⟩,
    ⟨none, some 10, false, .mov (.tmp 61)⟩]) c12_3
def c12_5 : C := .seq (.seq (.ops [⟨none, some 29, false, .mov (.tmp 6)⟩,
    ⟨none, some 30, false, .lenSl (.tmp 29)⟩,
    ⟨none, some 31, false, .bin .lss (.tmp 30) (.const (.int .i64 5))⟩,
    ⟨none, some 32, false, .mov (.tmp 31)⟩,
    ⟨some (32, false), some 33, false, .mov (.tmp 6)⟩,
    ⟨some (32, false), some 34, false, .lenSl (.tmp 33)⟩,
    ⟨some (32, false), some 35, false, .mov (.tmp 1)⟩,
    ⟨some (32, false), some 36, false, .lenSl (.tmp 35)⟩,
    ⟨some (32, false), some 37, false, .bin .add (.tmp 36) (.const (.int .i64 7))⟩,
    ⟨some (32, false), some 38, false, .bin .quo (.tmp 37) (.const (.int .i64 8))⟩,
    ⟨some (32, false), some 39, false, .bin .mul (.tmp 38) (.const (.int .i64 7))⟩,
    ⟨some (32, false), some 40, false, .bin .add (.const (.int .i64 5)) (.tmp 39)⟩,
    ⟨some (32, false), some 41, false, .bin .gtr (.tmp 34) (.tmp 40)⟩,
    ⟨none, some 42, false, .pick (.tmp 32) (.const (.bool true)) (.tmp 41)⟩,
    ⟨none, some 43, false, .mov (.tmp 42)⟩,
    ⟨some (43, false), some 44, false, .mov (.tmp 6)⟩,
    ⟨some (43, false), some 45, false, .idxSl 1 (.tmp 44) (.const (.int .i64 0))⟩,
    ⟨some (43, false), some 46, false, .load none (.tmp 45)⟩,
    ⟨some (43, false), some 47, false, .bin .neq (.tmp 46) (.const (.int .u8 0))⟩,
    ⟨none, some 48, false, .pick (.tmp 43) (.const (.bool true)) (.tmp 47)⟩]) (.cond (.tmp 48) c12_2 .skip)) c12_4
def c12_6 : C := .seq (.seq (.ops [⟨none, some 26, false, .mov (.tmp 7)⟩,
    ⟨none, some 27, false, .bin .neq (.tmp 26) (.const (.int .i64 0))⟩]) (.cond (.tmp 27) c12_1 .skip)) c12_5
def c12_7 : C := .seq (.ops [⟨none, some 21, false, .mov (.tmp 0)⟩,
    ⟨none, some 22, false, .mov (.tmp 1)⟩,
    ⟨none, some 23, false, .calln 37 [.tmp 21, .tmp 22]⟩,
    ⟨none, some 20, false, .mov (.tmp 23)⟩,
    ⟨none, some 24, false, .extract (.tmp 20) 0⟩,
    ⟨none, some 25, false, .extract (.tmp 20) 1⟩,
    ⟨none, some 6, false, .mov (.tmp 24)⟩,
    ⟨none, some 7, false, .mov (.tmp 25)⟩]) c12_6
def c12_8 : C := .seq (.seq (.ops [⟨none, some 12, false, .mov (.tmp 1)⟩,
    ⟨none, some 13, false, .lenSl (.tmp 12)⟩,
    ⟨none, some 14, false, .bin .gtr (.tmp 13) (.const (.int .i64 300))⟩,
    ⟨none, some 15, false, .mov (.tmp 14)⟩,
    ⟨some (15, false), some 16, false, .mov (.tmp 0)⟩,
    ⟨some (15, false), some 17, false, .bin .gtr (.tmp 16) (.const (.int .i64 60))⟩,
    ⟨none, some 18, false, .pick (.tmp 15) (.const (.bool true)) (.tmp 17)⟩]) (.cond (.tmp 18) c12_0 .skip)) c12_7
def c12_9 : C := .seq (.ops [⟨none, some 11, false, .calln 36 []⟩,
    ⟨none, some 5, false, .mov (.tmp 11)⟩]) c12_8
def c12 : C := .seq (.ops [⟨none, some 4, false, .mov (.const (.bool false))⟩]) c12_9
theorem ok12 : compile Try.prog Try.f12.ntmps (Try.f12.body.getD .skip) = some c12 := by kernel_rfl

-- "tansy/tansylaw06.CoderPrefix"
def c13_0 : C := .seq (.ops [⟨none, some 25, false, .mov (.tmp 7)⟩,
    ⟨none, some 6, false, .mov (.tmp 25)⟩]) .ret
def c13_1 : C := .seq (.ops [⟨none, some 47, false, .mov (.tmp 7)⟩,
    ⟨none, some 6, false, .mov (.tmp 47)⟩]) .ret
def c13_2 : C := .seq (.ops [⟨none, some 6, false, .mov (.const (.bool false))⟩]) .ret
def c13_3 : C := .seq (.ops [⟨none, some 6, false, .mov (.const (.bool false))⟩]) .ret
def c13_4 : C := .seq (.ops [⟨none, some 101, false, .mov (.tmp 12)⟩,
    ⟨none, some 102, false, .mov (.tmp 15)⟩,
    ⟨none, some 103, false, .idxSl 1 (.tmp 101) (.tmp 102)⟩,
    ⟨none, some 104, false, .load none (.tmp 103)⟩,
    ⟨none, some 105, false, .fieldAddr 1 (.tmp 16)⟩,
    ⟨none, some 106, false, .load none (.tmp 105)⟩,
    ⟨none, some 107, false, .eqv true .bool (.tmp 104) (.tmp 106)⟩]) (.cond (.tmp 107) c13_3 .skip)
def c13_5 : C := .seq (.ops [⟨none, some 98, false, .mov (.tmp 96)⟩,
    ⟨none, some 99, false, .idxSl 2 (.tmp 94) (.tmp 96)⟩,
    ⟨none, some 100, false, .load (some 2) (.tmp 99)⟩,
    ⟨none, some 16, false, .alloc [.int .i64 0, .bool false]⟩,
    ⟨none, some 15, false, .mov (.tmp 98)⟩,
    ⟨none, none, false, .store 2 (.tmp 16) (.tmp 100)⟩]) c13_4
def c13_6 : C := .ops [⟨none, some 108, false, .bin .add (.tmp 96) (.const (.int .i64 1))⟩,
    ⟨none, some 96, false, .mov (.tmp 108)⟩]
def c13_7 : C := .seq (.cond (.tmp 97) .skip (.exit 0)) (.seq (.block 1 c13_5) c13_6)
def c13_8 : C := .seq (.ops [⟨none, some 97, false, .bin .lss (.tmp 96) (.tmp 95)⟩]) c13_7
def c13_9 : C := .seq (.ops [⟨none, some 109, false, .mov (.tmp 7)⟩,
    ⟨none, some 6, false, .mov (.tmp 109)⟩]) .ret
def c13_10 : C := .seq (.seq (.ops [⟨none, some 92, false, .mov (.tmp 1)⟩,
    ⟨none, some 93, false, .mov (.tmp 2)⟩,
    ⟨none, some 94, false, .slice 2 (.tmp 92) none (some (.tmp 93)) none⟩,
    ⟨none, some 95, false, .lenSl (.tmp 94)⟩,
    ⟨none, some 96, false, .mov (.const (.int .i64 0))⟩]) (.block 0 (.loop c13_8))) c13_9
def c13_11 : C := .seq (.seq (.ops [⟨none, some 67, false, .mov (.tmp 11)⟩,
    ⟨none, some 68, false, .bin .neq (.tmp 67) (.const (.int .i64 0))⟩,
    ⟨none, some 69, false, .mov (.tmp 68)⟩,
    ⟨some (69, false), some 70, false, .mov (.tmp 14)⟩,
    ⟨some (69, false), some 71, false, .bin .neq (.tmp 70) (.const (.int .i64 0))⟩,
    ⟨none, some 72, false, .pick (.tmp 69) (.const (.bool true)) (.tmp 71)⟩,
    ⟨none, some 73, false, .mov (.tmp 72)⟩,
    ⟨some (73, false), some 74, false, .mov (.tmp 10)⟩,
    ⟨some (73, false), some 75, false, .lenSl (.tmp 74)⟩,
    ⟨some (73, false), some 76, false, .mov (.tmp 8)⟩,
    ⟨some (73, false), some 77, false, .lenSl (.tmp 76)⟩,
    ⟨some (73, false), some 78, false, .bin .gtr (.tmp 75) (.tmp 77)⟩,
    ⟨none, some 79, false, .pick (.tmp 73) (.const (.bool true)) (.tmp 78)⟩,
    ⟨none, some 80, false, .mov (.tmp 79)⟩,
    ⟨some (80, false), some 81, false, .mov (.tmp 13)⟩,
    ⟨some (80, false), some 82, false, .mov (.tmp 10)⟩,
    ⟨some (80, false), some 83, false, .lenSl (.tmp 82)⟩,
    ⟨some (80, false), some 84, false, .bin .neq (.tmp 81) (.tmp 83)⟩,
    ⟨none, some 85, false, .pick (.tmp 80) (.const (.bool true)) (.tmp 84)⟩,
    ⟨none, some 86, false, .mov (.tmp 85)⟩,
    ⟨some (86, false), some 87, false, .mov (.tmp 12)⟩,
    ⟨some (86, false), some 88, false, .lenSl (.tmp 87)⟩,
    ⟨some (86, false), some 89, false, .mov (.tmp 2)⟩,
    ⟨some (86, false), some 90, false, .bin .neq (.tmp 88) (.tmp 89)⟩,
    ⟨none, some 91, false, .pick (.tmp 86) (.const (.bool true)) (.tmp 90)⟩]) (.cond (.tmp 91) c13_2 .skip)) c13_10
def c13_12 : C := .seq (.ops [⟨none, some 57, false, .mov (.tmp 0)⟩,
    ⟨none, some 58, false, .mov (.tmp 8)⟩,
    ⟨none, some 59, false, .mov (.tmp 1)⟩,
    ⟨none, some 60, false, .mov (.tmp 2)⟩,
    ⟨none, some 61, false, .slice 2 (.tmp 59) none (some (.tmp 60)) none⟩,
    ⟨none, some 62, false, .calln 47 [.tmp 61]⟩,
    ⟨none, some 63, false, .calln 44 [.tmp 57, .tmp 58, .tmp 62]⟩,
    ⟨none, some 56, false, .mov (.tmp 63)⟩,
    ⟨none, some 64, false, .extract (.tmp 56) 0⟩,
    ⟨none, some 65, false, .extract (.tmp 56) 1⟩,
    ⟨none, some 66, false, .extract (.tmp 56) 2⟩,
    ⟨none, some 12, false, .mov (.tmp 64)⟩,
    ⟨none, some 13, false, .mov (.tmp 65)⟩,
    ⟨none, some 14, false, .mov (.tmp 66)⟩]) c13_11
def c13_13 : C := .seq (.ops [⟨none, some 49, false, .mov (.tmp 0)⟩,
    ⟨none, some 50, false, .mov (.tmp 1)⟩,
    ⟨none, some 51, false, .mov (.tmp 2)⟩,
    ⟨none, some 52, false, .slice 2 (.tmp 50) none (some (.tmp 51)) none⟩,
    ⟨none, some 53, false, .calln 37 [.tmp 49, .tmp 52]⟩,
    ⟨none, some 48, false, .mov (.tmp 53)⟩,
    ⟨none, some 54, false, .extract (.tmp 48) 0⟩,
    ⟨none, some 55, false, .extract (.tmp 48) 1⟩,
    ⟨none, some 10, false, .mov (.tmp 54)⟩,
    ⟨none, some 11, false, .mov (.tmp 55)⟩]) c13_12
def c13_14 : C := .seq (.seq (.ops [⟨none, some 45, false, .mov (.tmp 9)⟩,
    ⟨none, some 46, false, .bin .neq (.tmp 45) (.const (.int .i64 0))⟩]) (.cond (.tmp 46) c13_1 .skip)) c13_13
def c13_15 : C := .seq (.ops [⟨none, some 40, false, .mov (.tmp 0)⟩,
    ⟨none, some 41, false, .mov (.tmp 1)⟩,
    ⟨none, some 42, false, .calln 37 [.tmp 40, .tmp 41]⟩,
    ⟨none, some 39, false, .mov (.tmp 42)⟩,
    ⟨none, some 43, false, .extract (.tmp 39) 0⟩,
    ⟨none, some 44, false, .extract (.tmp 39) 1⟩,
    ⟨none, some 8, false, .mov (.tmp 43)⟩,
    ⟨none, some 9, false, .mov (.tmp 44)⟩]) c13_14
def c13_16 : C := .seq (.ops [⟨none, some 26, false, .mov (.tmp 2)⟩,
    ⟨none, some 27, false, .mov (.tmp 1)⟩,
    ⟨none, some 28, false, .lenSl (.tmp 27)⟩,
    ⟨none, some 29, false, .bin .add (.tmp 28) (.const (.int .i64 1))⟩,
    ⟨none, some 30, false, .bin .rem (.tmp 26) (.tmp 29)⟩,
    ⟨none, some 31, false, .mov (.tmp 1)⟩,
    ⟨none, some 32, false, .lenSl (.tmp 31)⟩,
    ⟨none, some 33, false, .bin .add (.tmp 30) (.tmp 32)⟩,
    ⟨none, some 34, false, .bin .add (.tmp 33) (.const (.int .i64 1))⟩,
    ⟨none, some 35, false, .mov (.tmp 1)⟩,
    ⟨none, some 36, false, .lenSl (.tmp 35)⟩,
    ⟨none, some 37, false, .bin .add (.tmp 36) (.const (.int .i64 1))⟩,
    ⟨none, some 38, false, .bin .rem (.tmp 34) (.tmp 37)⟩,
    ⟨none, some 2, false, .mov (.tmp 38)⟩]) c13_15
def c13_17 : C := .seq (.seq (.ops [⟨none, some 18, false, .mov (.tmp 1)⟩,
    ⟨none, some 19, false, .lenSl (.tmp 18)⟩,
    ⟨none, some 20, false, .bin .gtr (.tmp 19) (.const (.int .i64 200))⟩,
    ⟨none, some 21, false, .mov (.tmp 20)⟩,
    ⟨some (21, false), some 22, false, .mov (.tmp 0)⟩,
    ⟨some (21, false), some 23, false, .bin .gtr (.tmp 22) (.const (.int .i64 60))⟩,
    ⟨none, some 24, false, .pick (.tmp 21) (.const (.bool true)) (.tmp 23)⟩]) (.cond (.tmp 24) c13_0 .skip)) c13_16
def c13_18 : C := .seq (.ops [⟨none, some 17, false, .calln 36 []⟩,
    ⟨none, some 7, false, .mov (.tmp 17)⟩]) c13_17
def c13 : C := .seq (.ops [⟨none, some 6, false, .mov (.const (.bool false))⟩]) c13_18
theorem ok13 : compile Try.prog Try.f13.ntmps (Try.f13.body.getD .skip) = some c13 := by kernel_rfl

-- "tansy/tansylaw06.live"
def c36_0 : C := .seq (.ops [⟨none, some 7, false, .mov (.tmp 2)⟩,
    ⟨none, some 8, false, .bin .eql (.tmp 7) (.const (.int .i64 0))⟩,
    ⟨none, some 9, false, .mov (.tmp 8)⟩,
    ⟨some (9, true), some 10, false, .mov (.tmp 1)⟩,
    ⟨some (9, true), some 11, false, .toStr (.tmp 10)⟩,
    ⟨some (9, true), some 12, false, .bslice 1 5 [.int .u8 0] [(0, (1, .const (.int .u8 0))), (1, (1, .const (.int .u8 0))), (2, (1, .const (.int .u8 0))), (3, (1, .const (.int .u8 0))), (4, (1, .const (.int .u8 0)))]⟩,
    ⟨some (9, true), some 13, false, .toStr (.tmp 12)⟩,
    ⟨some (9, true), some 14, false, .bin .eql (.tmp 11) (.tmp 13)⟩,
    ⟨none, some 15, false, .pick (.tmp 9) (.tmp 14) (.const (.bool false))⟩,
    ⟨none, some 0, false, .mov (.tmp 15)⟩]) .ret
def c36_1 : C := .seq (.ops [⟨none, some 4, false, .calln 37 [.const (.int .i64 1), .const (.slice none 0 0)]⟩,
    ⟨none, some 3, false, .mov (.tmp 4)⟩,
    ⟨none, some 5, false, .extract (.tmp 3) 0⟩,
    ⟨none, some 6, false, .extract (.tmp 3) 1⟩,
    ⟨none, some 1, false, .mov (.tmp 5)⟩,
    ⟨none, some 2, false, .mov (.tmp 6)⟩]) c36_0
def c36 : C := .seq (.ops [⟨none, some 0, false, .mov (.const (.bool false))⟩]) c36_1
theorem ok36 : compile Try.prog Try.f36.ntmps (Try.f36.body.getD .skip) = some c36 := by kernel_rfl

-- "tansy/coder.Encode"
def c37_0 : C := .seq (.ops [⟨none, some 22, false, .mov (.tmp 7)⟩,
    ⟨none, some 4, false, .mov (.const (.slice none 0 0))⟩,
    ⟨none, some 5, false, .mov (.tmp 22)⟩]) .ret
def c37_1 : C := .seq (.ops [⟨none, some 4, false, .mov (.const (.slice none 0 0))⟩,
    ⟨none, some 5, false, .mov (.const (.int .i64 3))⟩]) .ret
def c37_2 : C := .seq (.ops [⟨none, some 4, false, .mov (.const (.slice none 0 0))⟩,
    ⟨none, some 5, false, .mov (.const (.int .i64 4))⟩]) .ret
def c37_3 : C := .seq (.ops [⟨none, some 28, false, .mov (.tmp 1)⟩,
    ⟨none, some 29, false, .mov (.tmp 8)⟩,
    ⟨none, some 30, false, .calln 62 [.tmp 28, .tmp 29]⟩,
    ⟨none, some 27, false, .mov (.tmp 30)⟩]) (.cond (.tmp 27) c37_2 .skip)
def c37_4 : C := .seq (.ops [⟨none, some 24, false, .mov (.tmp 1)⟩,
    ⟨none, some 25, false, .lenSl (.tmp 24)⟩,
    ⟨none, some 26, false, .bin .gtr (.tmp 25) (.const (.int .i64 1048576))⟩,
    ⟨none, some 23, false, .mov (.tmp 26)⟩]) (.cond (.tmp 23) c37_1 c37_3)
def c37_5 : C := .seq (.ops [⟨none, some 20, false, .mov (.tmp 7)⟩,
    ⟨none, some 21, false, .bin .neq (.tmp 20) (.const (.int .i64 0))⟩,
    ⟨none, some 19, false, .mov (.tmp 21)⟩]) (.cond (.tmp 19) c37_0 c37_4)
def c37_6 : C := .seq (.ops [⟨none, some 45, false, .mov (.tmp 12)⟩,
    ⟨none, some 4, false, .mov (.const (.slice none 0 0))⟩,
    ⟨none, some 5, false, .mov (.tmp 45)⟩]) .ret
def c37_7 : C := .seq (.ops [⟨none, some 43, false, .mov (.tmp 12)⟩,
    ⟨none, some 44, false, .bin .neq (.tmp 43) (.const (.int .i64 0))⟩]) (.cond (.tmp 44) c37_6 .skip)
def c37_8 : C := .seq (.ops [⟨none, some 40, false, .mov (.tmp 9)⟩,
    ⟨none, some 41, false, .load (some 2) (.tmp 11)⟩,
    ⟨none, some 42, false, .calln 63 [.tmp 40, .tmp 41]⟩,
    ⟨none, some 12, false, .mov (.tmp 42)⟩]) c37_7
def c37_9 : C := .seq (.ops [⟨none, some 38, false, .idxSl 2 (.tmp 34) (.tmp 36)⟩,
    ⟨none, some 39, false, .load (some 2) (.tmp 38)⟩,
    ⟨none, some 11, false, .alloc [.int .i64 0, .bool false]⟩,
    ⟨none, none, false, .store 2 (.tmp 11) (.tmp 39)⟩]) c37_8
def c37_10 : C := .ops [⟨none, some 46, false, .bin .add (.tmp 36) (.const (.int .i64 1))⟩,
    ⟨none, some 36, false, .mov (.tmp 46)⟩]
def c37_11 : C := .seq (.cond (.tmp 37) .skip (.exit 1)) (.seq (.block 2 c37_9) c37_10)
def c37_12 : C := .seq (.ops [⟨none, some 37, false, .bin .lss (.tmp 36) (.tmp 35)⟩]) c37_11
def c37_13 : C := .ops [⟨none, some 49, false, .mov (.tmp 9)⟩,
    ⟨none, some 50, false, .calln 64 [.tmp 49]⟩]
def c37_14 : C := .ops [⟨none, some 51, false, .bin .add (.tmp 47) (.const (.int .i64 1))⟩,
    ⟨none, some 47, false, .mov (.tmp 51)⟩]
def c37_15 : C := .seq (.cond (.tmp 48) .skip (.exit 3)) (.seq (.block 4 c37_13) c37_14)
def c37_16 : C := .seq (.ops [⟨none, some 48, false, .bin .lss (.tmp 47) (.const (.int .i64 5))⟩]) c37_15
def c37_17 : C := .seq (.ops [⟨none, some 52, false, .mov (.tmp 9)⟩,
    ⟨none, some 53, false, .nilchk (.tmp 52)⟩,
    ⟨none, some 54, false, .fieldAddr 5 (.tmp 53)⟩,
    ⟨none, some 55, false, .load none (.tmp 54)⟩,
    ⟨none, some 4, false, .mov (.tmp 55)⟩,
    ⟨none, some 5, false, .mov (.const (.int .i64 0))⟩]) .ret
def c37_18 : C := .seq (.seq (.ops [⟨none, some 47, false, .mov (.const (.int .i64 0))⟩]) (.block 3 (.loop c37_16))) c37_17
def c37_19 : C := .seq (.seq (.ops [⟨none, some 34, false, .mov (.tmp 1)⟩,
    ⟨none, some 35, false, .lenSl (.tmp 34)⟩,
    ⟨none, some 36, false, .mov (.const (.int .i64 0))⟩]) (.block 1 (.loop c37_12))) c37_18
def c37_20 : C := .seq (.ops [⟨none, some 31, false, .mov (.tmp 6)⟩,
    ⟨none, some 32, false, .build [.slice none 0 0, .int .u64 0, .int .u32 0, .int .u8 0, .int .i64 0, .slice none 0 0] [(0, (1, .tmp 31)), (2, (1, .const (.int .u32 4294967295))), (4, (1, .const (.int .i64 1)))]⟩,
    ⟨none, some 33, false, .box (.tmp 32)⟩,
    ⟨none, some 9, false, .mov (.tmp 33)⟩]) c37_19
def c37_21 : C := .seq (.ops [⟨none, some 18, false, .mkfunc 61 [.tmp 2]⟩,
    ⟨none, some 8, false, .mov (.tmp 18)⟩]) (.seq (.block 0 c37_5) c37_20)
def c37_22 : C := .seq (.ops [⟨none, some 14, false, .load none (.tmp 2)⟩,
    ⟨none, some 15, false, .calln 27 [.tmp 14]⟩,
    ⟨none, some 13, false, .mov (.tmp 15)⟩,
    ⟨none, some 16, false, .extract (.tmp 13) 0⟩,
    ⟨none, some 17, false, .extract (.tmp 13) 1⟩,
    ⟨none, some 6, false, .mov (.tmp 16)⟩,
    ⟨none, some 7, false, .mov (.tmp 17)⟩]) c37_21
def c37 : C := .seq (.ops [⟨none, some 2, false, .box (.tmp 0)⟩,
    ⟨none, some 4, false, .mov (.const (.slice none 0 0))⟩,
    ⟨none, some 5, false, .mov (.const (.int .i64 0))⟩]) c37_22
theorem ok37 : compile Try.prog Try.f37.ntmps (Try.f37.body.getD .skip) = some c37 := by kernel_rfl

-- "tansy/coder.NewReader"
def c38_0 : C := .seq (.ops [⟨none, some 17, false, .mov (.tmp 7)⟩,
    ⟨none, some 4, false, .mov (.const (.pointer none))⟩,
    ⟨none, some 5, false, .mov (.tmp 17)⟩]) .ret
def c38_1 : C := .seq (.ops [⟨none, some 4, false, .mov (.const (.pointer none))⟩,
    ⟨none, some 5, false, .mov (.const (.int .i64 2))⟩]) .ret
def c38_2 : C := .seq (.ops [⟨none, some 19, false, .mov (.tmp 1)⟩,
    ⟨none, some 20, false, .lenSl (.tmp 19)⟩,
    ⟨none, some 21, false, .bin .lss (.tmp 20) (.const (.int .i64 5))⟩,
    ⟨none, some 22, false, .mov (.tmp 21)⟩,
    ⟨some (22, false), some 23, false, .mov (.tmp 1)⟩,
    ⟨some (22, false), some 24, false, .idxSl 1 (.tmp 23) (.const (.int .i64 0))⟩,
    ⟨some (22, false), some 25, false, .load none (.tmp 24)⟩,
    ⟨some (22, false), some 26, false, .bin .neq (.tmp 25) (.const (.int .u8 0))⟩,
    ⟨none, some 27, false, .pick (.tmp 22) (.const (.bool true)) (.tmp 26)⟩,
    ⟨none, some 18, false, .mov (.tmp 27)⟩]) (.cond (.tmp 18) c38_1 .skip)
def c38_3 : C := .seq (.ops [⟨none, some 15, false, .mov (.tmp 7)⟩,
    ⟨none, some 16, false, .bin .neq (.tmp 15) (.const (.int .i64 0))⟩,
    ⟨none, some 14, false, .mov (.tmp 16)⟩]) (.cond (.tmp 14) c38_0 c38_2)
def c38_4 : C := .ops [⟨none, some 38, false, .mov (.tmp 8)⟩,
    ⟨none, some 39, false, .calln 66 [.tmp 38]⟩]
def c38_5 : C := .seq (.seq (.ops [⟨none, some 33, false, .mov (.tmp 8)⟩,
    ⟨none, some 34, false, .nilchk (.tmp 33)⟩,
    ⟨none, some 35, false, .fieldAddr 2 (.tmp 34)⟩,
    ⟨none, some 36, false, .load none (.tmp 35)⟩,
    ⟨none, some 37, false, .bin .lss (.tmp 36) (.const (.int .i64 5))⟩]) (.cond (.tmp 37) .skip (.exit 1))) (.block 2 c38_4)
def c38_6 : C := .seq (.ops [⟨none, some 4, false, .mov (.const (.pointer none))⟩,
    ⟨none, some 5, false, .mov (.const (.int .i64 2))⟩]) .ret
def c38_7 : C := .seq (.ops [⟨none, some 45, false, .mov (.tmp 8)⟩,
    ⟨none, some 4, false, .mov (.tmp 45)⟩,
    ⟨none, some 5, false, .mov (.const (.int .i64 0))⟩]) .ret
def c38_8 : C := .seq (.seq (.ops [⟨none, some 40, false, .mov (.tmp 8)⟩,
    ⟨none, some 41, false, .nilchk (.tmp 40)⟩,
    ⟨none, some 42, false, .fieldAddr 4 (.tmp 41)⟩,
    ⟨none, some 43, false, .load none (.tmp 42)⟩,
    ⟨none, some 44, false, .bin .eql (.tmp 43) (.const (.int .u32 4294967295))⟩]) (.cond (.tmp 44) c38_6 .skip)) c38_7
def c38_9 : C := .seq (.ops [⟨none, some 28, false, .mov (.tmp 6)⟩,
    ⟨none, some 29, false, .mov (.tmp 1)⟩,
    ⟨none, some 30, false, .calln 65 [.tmp 29]⟩,
    ⟨none, some 31, false, .build [.slice none 0 0, .slice none 0 0, .int .i64 0, .int .u32 0, .int .u32 0] [(0, (1, .tmp 28)), (1, (1, .tmp 30)), (2, (1, .const (.int .i64 1))), (3, (1, .const (.int .u32 4294967295)))]⟩,
    ⟨none, some 32, false, .box (.tmp 31)⟩,
    ⟨none, some 8, false, .mov (.tmp 32)⟩]) (.seq (.block 1 (.loop c38_5)) c38_8)
def c38_10 : C := .seq (.ops [⟨none, some 10, false, .mov (.tmp 0)⟩,
    ⟨none, some 11, false, .calln 27 [.tmp 10]⟩,
    ⟨none, some 9, false, .mov (.tmp 11)⟩,
    ⟨none, some 12, false, .extract (.tmp 9) 0⟩,
    ⟨none, some 13, false, .extract (.tmp 9) 1⟩,
    ⟨none, some 6, false, .mov (.tmp 12)⟩,
    ⟨none, some 7, false, .mov (.tmp 13)⟩]) (.seq (.block 0 c38_3) c38_9)
def c38 : C := .seq (.ops [⟨none, some 4, false, .mov (.const (.pointer none))⟩,
    ⟨none, some 5, false, .mov (.const (.int .i64 0))⟩]) c38_10
theorem ok38 : compile Try.prog Try.f38.ntmps (Try.f38.body.getD .skip) = some c38 := by kernel_rfl

-- "tansy/tansyref06.Start"
def c39_0 : C := .seq (.ops [⟨none, some 18, false, .build [.slice none 0 0, .int .u32 0, .int .u32 0, .int .i64 0] []⟩,
    ⟨none, some 19, false, .mov (.tmp 7)⟩,
    ⟨none, none, false, .store 4 (.tmp 4) (.tmp 18)⟩,
    ⟨none, some 5, false, .mov (.tmp 19)⟩]) .ret
def c39_1 : C := .seq (.ops [⟨none, some 29, false, .build [.slice none 0 0, .int .u32 0, .int .u32 0, .int .i64 0] []⟩,
    ⟨none, none, false, .store 4 (.tmp 4) (.tmp 29)⟩,
    ⟨none, some 5, false, .mov (.const (.int .i64 2))⟩]) .ret
def c39_2 : C := .ops [⟨none, some 37, false, .mov (.tmp 8)⟩,
    ⟨none, some 38, false, .bin .mul (.tmp 37) (.const (.int .u32 256))⟩,
    ⟨none, some 39, false, .mov (.tmp 10)⟩,
    ⟨none, some 40, false, .conv .u32 (.tmp 39)⟩,
    ⟨none, some 41, false, .bin .add (.tmp 38) (.tmp 40)⟩,
    ⟨none, some 8, false, .mov (.tmp 41)⟩]
def c39_3 : C := .seq (.ops [⟨none, some 35, false, .idxSl 1 (.tmp 31) (.tmp 33)⟩,
    ⟨none, some 36, false, .load none (.tmp 35)⟩,
    ⟨none, some 10, false, .mov (.tmp 36)⟩]) c39_2
def c39_4 : C := .ops [⟨none, some 42, false, .bin .add (.tmp 33) (.const (.int .i64 1))⟩,
    ⟨none, some 33, false, .mov (.tmp 42)⟩]
def c39_5 : C := .seq (.cond (.tmp 34) .skip (.exit 0)) (.seq (.block 1 c39_3) c39_4)
def c39_6 : C := .seq (.ops [⟨none, some 34, false, .bin .lss (.tmp 33) (.tmp 32)⟩]) c39_5
def c39_7 : C := .seq (.ops [⟨none, some 45, false, .build [.slice none 0 0, .int .u32 0, .int .u32 0, .int .i64 0] []⟩,
    ⟨none, none, false, .store 4 (.tmp 4) (.tmp 45)⟩,
    ⟨none, some 5, false, .mov (.const (.int .i64 2))⟩]) .ret
def c39_8 : C := .seq (.ops [⟨none, some 46, false, .mov (.tmp 6)⟩,
    ⟨none, some 47, false, .mov (.tmp 8)⟩,
    ⟨none, some 48, false, .build [.slice none 0 0, .int .u32 0, .int .u32 0, .int .i64 0] [(0, (1, .tmp 46)), (1, (1, .const (.int .u32 4294967295))), (2, (1, .tmp 47)), (3, (1, .const (.int .i64 5)))]⟩,
    ⟨none, none, false, .store 4 (.tmp 4) (.tmp 48)⟩,
    ⟨none, some 5, false, .mov (.const (.int .i64 0))⟩]) .ret
def c39_9 : C := .seq (.seq (.ops [⟨none, some 43, false, .mov (.tmp 8)⟩,
    ⟨none, some 44, false, .bin .eql (.tmp 43) (.const (.int .u32 4294967295))⟩]) (.cond (.tmp 44) c39_7 .skip)) c39_8
def c39_10 : C := .seq (.seq (.ops [⟨none, some 30, false, .mov (.tmp 1)⟩,
    ⟨none, some 31, false, .slice 1 (.tmp 30) (some (.const (.int .i64 1))) (some (.const (.int .i64 5))) none⟩,
    ⟨none, some 32, false, .lenSl (.tmp 31)⟩,
    ⟨none, some 33, false, .mov (.const (.int .i64 0))⟩]) (.block 0 (.loop c39_6))) c39_9
def c39_11 : C := .seq (.ops [⟨none, some 8, false, .mov (.const (.int .u32 0))⟩]) c39_10
def c39_12 : C := .seq (.seq (.ops [⟨none, some 20, false, .mov (.tmp 1)⟩,
    ⟨none, some 21, false, .lenSl (.tmp 20)⟩,
    ⟨none, some 22, false, .bin .lss (.tmp 21) (.const (.int .i64 5))⟩,
    ⟨none, some 23, false, .mov (.tmp 22)⟩,
    ⟨some (23, false), some 24, false, .mov (.tmp 1)⟩,
    ⟨some (23, false), some 25, false, .idxSl 1 (.tmp 24) (.const (.int .i64 0))⟩,
    ⟨some (23, false), some 26, false, .load none (.tmp 25)⟩,
    ⟨some (23, false), some 27, false, .bin .neq (.tmp 26) (.const (.int .u8 0))⟩,
    ⟨none, some 28, false, .pick (.tmp 23) (.const (.bool true)) (.tmp 27)⟩]) (.cond (.tmp 28) c39_1 .skip)) c39_11
def c39_13 : C := .seq (.seq (.ops [⟨none, some 16, false, .mov (.tmp 7)⟩,
    ⟨none, some 17, false, .bin .neq (.tmp 16) (.const (.int .i64 0))⟩]) (.cond (.tmp 17) c39_0 .skip)) c39_12
def c39_14 : C := .seq (.ops [⟨none, some 12, false, .mov (.tmp 0)⟩,
    ⟨none, some 13, false, .calln 28 [.tmp 12]⟩,
    ⟨none, some 11, false, .mov (.tmp 13)⟩,
    ⟨none, some 14, false, .extract (.tmp 11) 0⟩,
    ⟨none, some 15, false, .extract (.tmp 11) 1⟩,
    ⟨none, some 6, false, .mov (.tmp 14)⟩,
    ⟨none, some 7, false, .mov (.tmp 15)⟩]) c39_13
def c39 : C := .seq (.ops [⟨none, some 4, false, .alloc [.slice none 0 0, .int .u32 0, .int .u32 0, .int .i64 0]⟩,
    ⟨none, some 5, false, .mov (.const (.int .i64 0))⟩]) c39_14
theorem ok39 : compile Try.prog Try.f39.ntmps (Try.f39.body.getD .skip) = some c39 := by kernel_rfl

-- "(*tansy/coder.Reader).Next"
def c40_0 : C := .seq (.ops [⟨none, some 4, false, .mov (.const (.bool false))⟩,
    ⟨none, some 5, false, .mov (.const (.int .i64 1))⟩]) .ret
def c40_1 : C := .seq (.ops [⟨none, some 4, false, .mov (.const (.bool false))⟩,
    ⟨none, some 5, false, .mov (.const (.int .i64 4))⟩]) .ret
def c40_2 : C := .seq (.ops [⟨none, some 15, false, .mov (.tmp 1)⟩,
    ⟨none, some 16, false, .bin .lss (.tmp 15) (.const (.int .i64 0))⟩,
    ⟨none, some 17, false, .mov (.tmp 16)⟩,
    ⟨some (17, false), some 18, false, .mov (.tmp 1)⟩,
    ⟨some (17, false), some 19, false, .mov (.tmp 0)⟩,
    ⟨some (17, false), some 20, false, .nilchk (.tmp 19)⟩,
    ⟨some (17, false), some 21, false, .fieldAddr 0 (.tmp 20)⟩,
    ⟨some (17, false), some 22, false, .load none (.tmp 21)⟩,
    ⟨some (17, false), some 23, false, .lenSl (.tmp 22)⟩,
    ⟨some (17, false), some 24, false, .bin .geq (.tmp 18) (.tmp 23)⟩,
    ⟨none, some 25, false, .pick (.tmp 17) (.const (.bool true)) (.tmp 24)⟩,
    ⟨none, some 14, false, .mov (.tmp 25)⟩]) (.cond (.tmp 14) c40_1 .skip)
def c40_3 : C := .seq (.ops [⟨none, some 12, false, .mov (.tmp 0)⟩,
    ⟨none, some 13, false, .eqv false .ptr (.tmp 12) (.const (.pointer none))⟩,
    ⟨none, some 11, false, .mov (.tmp 13)⟩]) (.cond (.tmp 11) c40_0 c40_2)
def c40_4 : C := .seq (.ops [⟨none, some 43, false, .mov (.tmp 7)⟩,
    ⟨none, some 4, false, .mov (.const (.bool false))⟩,
    ⟨none, some 5, false, .mov (.tmp 43)⟩]) .ret
def c40_5 : C := .ops [⟨none, some 52, false, .mov (.tmp 0)⟩,
    ⟨none, some 53, false, .nilchk (.tmp 52)⟩,
    ⟨none, some 54, false, .fieldAddr 3 (.tmp 53)⟩,
    ⟨none, some 55, false, .load none (.tmp 54)⟩,
    ⟨none, some 56, false, .mov (.tmp 6)⟩,
    ⟨none, some 57, false, .bin .sub (.tmp 55) (.tmp 56)⟩,
    ⟨none, some 8, false, .mov (.tmp 57)⟩]
def c40_6 : C := .ops [⟨none, some 63, false, .mov (.tmp 9)⟩,
    ⟨none, some 64, false, .bin .add (.tmp 63) (.const (.int .i64 1))⟩,
    ⟨none, some 9, false, .mov (.tmp 64)⟩]
def c40_7 : C := .ops [⟨none, some 61, false, .mov (.tmp 10)⟩,
    ⟨none, some 62, false, .bin .shl (.tmp 61) (.const (.int .u64 8))⟩,
    ⟨none, some 10, false, .mov (.tmp 62)⟩]
def c40_8 : C := .seq (.seq (.ops [⟨none, some 59, false, .mov (.tmp 10)⟩,
    ⟨none, some 60, false, .bin .lss (.tmp 59) (.const (.int .u32 16777216))⟩]) (.cond (.tmp 60) .skip (.exit 1))) (.seq (.block 2 c40_6) c40_7)
def c40_9 : C := .seq (.ops [⟨none, some 4, false, .mov (.const (.bool false))⟩,
    ⟨none, some 5, false, .mov (.const (.int .i64 2))⟩]) .ret
def c40_10 : C := .ops [⟨none, some 78, false, .mov (.tmp 0)⟩,
    ⟨none, some 79, false, .nilchk (.tmp 78)⟩,
    ⟨none, some 80, false, .fieldAddr 4 (.tmp 79)⟩,
    ⟨none, some 81, false, .load none (.tmp 80)⟩,
    ⟨none, some 82, false, .mov (.tmp 6)⟩,
    ⟨none, some 83, false, .bin .sub (.tmp 81) (.tmp 82)⟩,
    ⟨none, some 84, false, .nilchk (.tmp 78)⟩,
    ⟨none, some 85, false, .fieldAddr 4 (.tmp 84)⟩,
    ⟨none, none, false, .store 1 (.tmp 85) (.tmp 83)⟩]
def c40_11 : C := .ops [⟨none, some 107, false, .mov (.tmp 0)⟩,
    ⟨none, some 108, false, .calln 66 [.tmp 107]⟩]
def c40_12 : C := .ops [⟨none, some 109, false, .bin .add (.tmp 105) (.const (.int .i64 1))⟩,
    ⟨none, some 105, false, .mov (.tmp 109)⟩]
def c40_13 : C := .seq (.cond (.tmp 106) .skip (.exit 3)) (.seq (.block 4 c40_11) c40_12)
def c40_14 : C := .seq (.ops [⟨none, some 106, false, .bin .lss (.tmp 105) (.tmp 104)⟩]) c40_13
def c40_15 : C := .seq (.ops [⟨none, some 117, false, .mov (.tmp 4)⟩,
    ⟨none, some 118, false, .mov (.tmp 7)⟩,
    ⟨none, some 4, false, .mov (.tmp 117)⟩,
    ⟨none, some 5, false, .mov (.tmp 118)⟩]) .ret
def c40_16 : C := .seq (.ops [⟨none, some 110, false, .mov (.tmp 0)⟩,
    ⟨none, some 111, false, .mov (.tmp 8)⟩,
    ⟨none, some 112, false, .mov (.tmp 9)⟩,
    ⟨none, some 113, false, .bin .mul (.const (.int .i64 8)) (.tmp 112)⟩,
    ⟨none, some 114, false, .bin .shl (.tmp 111) (.tmp 113)⟩,
    ⟨none, some 115, false, .nilchk (.tmp 110)⟩,
    ⟨none, some 116, false, .fieldAddr 3 (.tmp 115)⟩,
    ⟨none, none, false, .store 1 (.tmp 116) (.tmp 114)⟩]) c40_15
def c40_17 : C := .seq (.seq (.ops [⟨none, some 104, false, .mov (.tmp 9)⟩,
    ⟨none, some 105, false, .mov (.const (.int .i64 0))⟩]) (.block 3 (.loop c40_14))) c40_16
def c40_18 : C := .seq (.ops [⟨none, some 87, false, .mov (.tmp 0)⟩,
    ⟨none, some 88, false, .nilchk (.tmp 87)⟩,
    ⟨none, some 89, false, .fieldAddr 0 (.tmp 88)⟩,
    ⟨none, some 90, false, .load none (.tmp 89)⟩,
    ⟨none, some 91, false, .mov (.tmp 1)⟩,
    ⟨none, some 92, false, .mov (.tmp 0)⟩,
    ⟨none, some 93, false, .nilchk (.tmp 92)⟩,
    ⟨none, some 94, false, .fieldAddr 0 (.tmp 93)⟩,
    ⟨none, some 95, false, .load none (.tmp 94)⟩,
    ⟨none, some 96, false, .mov (.tmp 1)⟩,
    ⟨none, some 97, false, .idxSl 1 (.tmp 95) (.tmp 96)⟩,
    ⟨none, some 98, false, .load none (.tmp 97)⟩,
    ⟨none, some 99, false, .mov (.tmp 4)⟩,
    ⟨none, some 100, false, .callp 25 [.tmp 98, .tmp 99]⟩,
    ⟨none, some 86, false, .mov (.tmp 100)⟩,
    ⟨none, some 101, false, .extract (.tmp 86) 0⟩,
    ⟨none, some 102, false, .extract (.tmp 86) 1⟩,
    ⟨none, some 103, false, .idxSl 1 (.tmp 90) (.tmp 91)⟩,
    ⟨none, none, false, .store 1 (.tmp 103) (.tmp 101)⟩,
    ⟨none, some 7, false, .mov (.tmp 102)⟩]) c40_17
def c40_19 : C := .seq (.seq (.ops [⟨none, some 77, false, .mov (.tmp 4)⟩]) (.cond (.tmp 77) c40_10 .skip)) c40_18
def c40_20 : C := .seq (.seq (.ops [⟨none, some 65, false, .mov (.tmp 9)⟩,
    ⟨none, some 66, false, .mov (.tmp 0)⟩,
    ⟨none, some 67, false, .nilchk (.tmp 66)⟩,
    ⟨none, some 68, false, .fieldAddr 1 (.tmp 67)⟩,
    ⟨none, some 69, false, .load none (.tmp 68)⟩,
    ⟨none, some 70, false, .lenSl (.tmp 69)⟩,
    ⟨none, some 71, false, .mov (.tmp 0)⟩,
    ⟨none, some 72, false, .nilchk (.tmp 71)⟩,
    ⟨none, some 73, false, .fieldAddr 2 (.tmp 72)⟩,
    ⟨none, some 74, false, .load none (.tmp 73)⟩,
    ⟨none, some 75, false, .bin .sub (.tmp 70) (.tmp 74)⟩,
    ⟨none, some 76, false, .bin .gtr (.tmp 65) (.tmp 75)⟩]) (.cond (.tmp 76) c40_9 .skip)) c40_19
def c40_21 : C := .seq (.seq (.ops [⟨none, some 58, false, .mov (.tmp 8)⟩,
    ⟨none, some 10, false, .mov (.tmp 58)⟩]) (.block 1 (.loop c40_8))) c40_20
def c40_22 : C := .seq (.ops [⟨none, some 9, false, .mov (.const (.int .i64 0))⟩]) c40_21
def c40_23 : C := .seq (.seq (.ops [⟨none, some 51, false, .mov (.tmp 4)⟩]) (.cond (.tmp 51) c40_5 .skip)) c40_22
def c40_24 : C := .seq (.ops [⟨none, some 50, false, .mov (.tmp 6)⟩,
    ⟨none, some 8, false, .mov (.tmp 50)⟩]) c40_23
def c40_25 : C := .seq (.ops [⟨none, some 44, false, .mov (.tmp 0)⟩,
    ⟨none, some 45, false, .nilchk (.tmp 44)⟩,
    ⟨none, some 46, false, .fieldAddr 4 (.tmp 45)⟩,
    ⟨none, some 47, false, .load none (.tmp 46)⟩,
    ⟨none, some 48, false, .mov (.tmp 6)⟩,
    ⟨none, some 49, false, .bin .geq (.tmp 47) (.tmp 48)⟩,
    ⟨none, some 4, false, .mov (.tmp 49)⟩]) c40_24
def c40_26 : C := .seq (.seq (.ops [⟨none, some 41, false, .mov (.tmp 7)⟩,
    ⟨none, some 42, false, .bin .neq (.tmp 41) (.const (.int .i64 0))⟩]) (.cond (.tmp 42) c40_4 .skip)) c40_25
def c40_27 : C := .seq (.ops [⟨none, some 27, false, .mov (.tmp 0)⟩,
    ⟨none, some 28, false, .nilchk (.tmp 27)⟩,
    ⟨none, some 29, false, .fieldAddr 3 (.tmp 28)⟩,
    ⟨none, some 30, false, .load none (.tmp 29)⟩,
    ⟨none, some 31, false, .mov (.tmp 0)⟩,
    ⟨none, some 32, false, .nilchk (.tmp 31)⟩,
    ⟨none, some 33, false, .fieldAddr 0 (.tmp 32)⟩,
    ⟨none, some 34, false, .load none (.tmp 33)⟩,
    ⟨none, some 35, false, .mov (.tmp 1)⟩,
    ⟨none, some 36, false, .idxSl 1 (.tmp 34) (.tmp 35)⟩,
    ⟨none, some 37, false, .load none (.tmp 36)⟩,
    ⟨none, some 38, false, .call 31 [.tmp 30, .tmp 37]⟩,
    ⟨none, some 26, false, .mov (.tmp 38)⟩,
    ⟨none, some 39, false, .extract (.tmp 26) 0⟩,
    ⟨none, some 40, false, .extract (.tmp 26) 1⟩,
    ⟨none, some 6, false, .mov (.tmp 39)⟩,
    ⟨none, some 7, false, .mov (.tmp 40)⟩]) c40_26
def c40 : C := .seq (.ops [⟨none, some 4, false, .mov (.const (.bool false))⟩,
    ⟨none, some 5, false, .mov (.const (.int .i64 0))⟩]) (.seq (.block 0 c40_3) c40_27)
theorem ok40 : compile Try.prog Try.f40.ntmps (Try.f40.body.getD .skip) = some c40 := by kernel_rfl

-- "(*tansy/coder.Reader).Used"
def c41_0 : C := .seq (.ops [⟨none, some 2, false, .mov (.const (.int .i64 0))⟩]) .ret
def c41_1 : C := .seq (.ops [⟨none, some 5, false, .mov (.tmp 0)⟩,
    ⟨none, some 6, false, .nilchk (.tmp 5)⟩,
    ⟨none, some 7, false, .fieldAddr 2 (.tmp 6)⟩,
    ⟨none, some 8, false, .load none (.tmp 7)⟩,
    ⟨none, some 2, false, .mov (.tmp 8)⟩]) .ret
def c41_2 : C := .seq (.seq (.ops [⟨none, some 3, false, .mov (.tmp 0)⟩,
    ⟨none, some 4, false, .eqv false .ptr (.tmp 3) (.const (.pointer none))⟩]) (.cond (.tmp 4) c41_0 .skip)) c41_1
def c41 : C := .seq (.ops [⟨none, some 2, false, .mov (.const (.int .i64 0))⟩]) c41_2
theorem ok41 : compile Try.prog Try.f41.ntmps (Try.f41.body.getD .skip) = some c41 := by kernel_rfl

-- "tansy/tansyref06.Next"
def c42_0 : C := .seq (.ops [⟨none, some 22, false, .load (some 4) (.tmp 3)⟩,
    ⟨none, some 6, false, .mov (.const (.bool false))⟩,
    ⟨none, none, false, .store 4 (.tmp 7) (.tmp 22)⟩,
    ⟨none, some 8, false, .mov (.const (.int .i64 4))⟩]) .ret
def c42_1 : C := .ops [⟨none, some 54, false, .fieldAddr 1 (.tmp 9)⟩,
    ⟨none, some 55, false, .load none (.tmp 54)⟩,
    ⟨none, some 56, false, .mov (.tmp 10)⟩,
    ⟨none, some 57, false, .bin .sub (.tmp 55) (.tmp 56)⟩,
    ⟨none, some 58, false, .fieldAddr 1 (.tmp 9)⟩,
    ⟨none, none, false, .store 1 (.tmp 58) (.tmp 57)⟩]
def c42_2 : C := .seq (.ops [⟨none, some 49, false, .fieldAddr 2 (.tmp 9)⟩,
    ⟨none, some 50, false, .load none (.tmp 49)⟩,
    ⟨none, some 51, false, .mov (.tmp 10)⟩,
    ⟨none, some 52, false, .bin .sub (.tmp 50) (.tmp 51)⟩,
    ⟨none, some 53, false, .fieldAddr 2 (.tmp 9)⟩,
    ⟨none, none, false, .store 1 (.tmp 53) (.tmp 52)⟩]) c42_1
def c42_3 : C := .ops [⟨none, some 59, false, .mov (.tmp 10)⟩,
    ⟨none, some 60, false, .fieldAddr 1 (.tmp 9)⟩,
    ⟨none, none, false, .store 1 (.tmp 60) (.tmp 59)⟩]
def c42_4 : C := .seq (.ops [⟨none, some 83, false, .load (some 4) (.tmp 3)⟩,
    ⟨none, some 6, false, .mov (.const (.bool false))⟩,
    ⟨none, none, false, .store 4 (.tmp 7) (.tmp 83)⟩,
    ⟨none, some 8, false, .mov (.const (.int .i64 2))⟩]) .ret
def c42_5 : C := .ops [⟨none, some 99, false, .fieldAddr 3 (.tmp 9)⟩,
    ⟨none, some 100, false, .load none (.tmp 99)⟩,
    ⟨none, some 101, false, .bin .add (.tmp 100) (.const (.int .i64 1))⟩,
    ⟨none, some 102, false, .fieldAddr 3 (.tmp 9)⟩,
    ⟨none, none, false, .store 1 (.tmp 102) (.tmp 101)⟩]
def c42_6 : C := .seq (.ops [⟨none, some 95, false, .fieldAddr 1 (.tmp 9)⟩,
    ⟨none, some 96, false, .load none (.tmp 95)⟩,
    ⟨none, some 97, false, .bin .mul (.tmp 96) (.const (.int .u32 256))⟩,
    ⟨none, some 98, false, .fieldAddr 1 (.tmp 9)⟩,
    ⟨none, none, false, .store 1 (.tmp 98) (.tmp 97)⟩]) c42_5
def c42_7 : C := .seq (.ops [⟨none, some 84, false, .fieldAddr 2 (.tmp 9)⟩,
    ⟨none, some 85, false, .load none (.tmp 84)⟩,
    ⟨none, some 86, false, .bin .mul (.tmp 85) (.const (.int .u32 256))⟩,
    ⟨none, some 87, false, .mov (.tmp 1)⟩,
    ⟨none, some 88, false, .fieldAddr 3 (.tmp 9)⟩,
    ⟨none, some 89, false, .load none (.tmp 88)⟩,
    ⟨none, some 90, false, .idxSl 1 (.tmp 87) (.tmp 89)⟩,
    ⟨none, some 91, false, .load none (.tmp 90)⟩,
    ⟨none, some 92, false, .conv .u32 (.tmp 91)⟩,
    ⟨none, some 93, false, .bin .add (.tmp 86) (.tmp 92)⟩,
    ⟨none, some 94, false, .fieldAddr 2 (.tmp 9)⟩,
    ⟨none, none, false, .store 1 (.tmp 94) (.tmp 93)⟩]) c42_6
def c42_8 : C := .seq (.seq (.ops [⟨none, some 78, false, .fieldAddr 3 (.tmp 9)⟩,
    ⟨none, some 79, false, .load none (.tmp 78)⟩,
    ⟨none, some 80, false, .mov (.tmp 1)⟩,
    ⟨none, some 81, false, .lenSl (.tmp 80)⟩,
    ⟨none, some 82, false, .bin .geq (.tmp 79) (.tmp 81)⟩]) (.cond (.tmp 82) c42_4 .skip)) c42_7
def c42_9 : C := .seq (.seq (.ops [⟨none, some 75, false, .fieldAddr 1 (.tmp 9)⟩,
    ⟨none, some 76, false, .load none (.tmp 75)⟩,
    ⟨none, some 77, false, .bin .lss (.tmp 76) (.const (.int .u32 16777216))⟩]) (.cond (.tmp 77) .skip (.exit 0))) (.block 1 c42_8)
def c42_10 : C := .seq (.ops [⟨none, some 103, false, .mov (.tmp 12)⟩,
    ⟨none, some 104, false, .load (some 4) (.tmp 9)⟩,
    ⟨none, some 6, false, .mov (.tmp 103)⟩,
    ⟨none, none, false, .store 4 (.tmp 7) (.tmp 104)⟩,
    ⟨none, some 8, false, .mov (.const (.int .i64 0))⟩]) .ret
def c42_11 : C := .seq (.ops [⟨none, some 62, false, .fieldAddr 0 (.tmp 9)⟩,
    ⟨none, some 63, false, .load none (.tmp 62)⟩,
    ⟨none, some 64, false, .mov (.tmp 2)⟩,
    ⟨none, some 65, false, .fieldAddr 0 (.tmp 9)⟩,
    ⟨none, some 66, false, .load none (.tmp 65)⟩,
    ⟨none, some 67, false, .mov (.tmp 2)⟩,
    ⟨none, some 68, false, .idxSl 1 (.tmp 66) (.tmp 67)⟩,
    ⟨none, some 69, false, .load none (.tmp 68)⟩,
    ⟨none, some 70, false, .mov (.tmp 12)⟩,
    ⟨none, some 71, false, .callp 26 [.tmp 69, .tmp 70]⟩,
    ⟨none, some 61, false, .mov (.tmp 71)⟩,
    ⟨none, some 72, false, .extract (.tmp 61) 0⟩,
    ⟨none, some 73, false, .extract (.tmp 61) 1⟩,
    ⟨none, some 74, false, .idxSl 1 (.tmp 63) (.tmp 64)⟩,
    ⟨none, none, false, .store 1 (.tmp 74) (.tmp 72)⟩]) (.seq (.block 0 (.loop c42_9)) c42_10)
def c42_12 : C := .seq (.seq (.ops [⟨none, some 48, false, .mov (.tmp 12)⟩]) (.cond (.tmp 48) c42_2 c42_3)) c42_11
def c42_13 : C := .seq (.ops [⟨none, some 44, false, .fieldAddr 2 (.tmp 9)⟩,
    ⟨none, some 45, false, .load none (.tmp 44)⟩,
    ⟨none, some 46, false, .mov (.tmp 10)⟩,
    ⟨none, some 47, false, .bin .geq (.tmp 45) (.tmp 46)⟩,
    ⟨none, some 12, false, .mov (.tmp 47)⟩]) c42_12
def c42_14 : C := .seq (.ops [⟨none, some 34, false, .fieldAddr 1 (.tmp 9)⟩,
    ⟨none, some 35, false, .load none (.tmp 34)⟩,
    ⟨none, some 36, false, .fieldAddr 0 (.tmp 9)⟩,
    ⟨none, some 37, false, .load none (.tmp 36)⟩,
    ⟨none, some 38, false, .mov (.tmp 2)⟩,
    ⟨none, some 39, false, .idxSl 1 (.tmp 37) (.tmp 38)⟩,
    ⟨none, some 40, false, .load none (.tmp 39)⟩,
    ⟨none, some 41, false, .call 32 [.tmp 35, .tmp 40]⟩,
    ⟨none, some 33, false, .mov (.tmp 41)⟩,
    ⟨none, some 42, false, .extract (.tmp 33) 0⟩,
    ⟨none, some 43, false, .extract (.tmp 33) 1⟩,
    ⟨none, some 10, false, .mov (.tmp 42)⟩,
    ⟨none, some 11, false, .mov (.tmp 43)⟩]) c42_13
def c42_15 : C := .seq (.ops [⟨none, some 23, true, .fieldAddr 0 (.tmp 3)⟩,
    ⟨none, some 24, true, .load none (.tmp 23)⟩,
    ⟨none, some 25, true, .append 1 8 (.const (.slice none 0 0)) (.tmp 24)⟩,
    ⟨none, some 26, true, .fieldAddr 1 (.tmp 3)⟩,
    ⟨none, some 27, true, .load none (.tmp 26)⟩,
    ⟨none, some 28, true, .fieldAddr 2 (.tmp 3)⟩,
    ⟨none, some 29, true, .load none (.tmp 28)⟩,
    ⟨none, some 30, true, .fieldAddr 3 (.tmp 3)⟩,
    ⟨none, some 31, true, .load none (.tmp 30)⟩,
    ⟨none, some 32, true, .build [.slice none 0 0, .int .u32 0, .int .u32 0, .int .i64 0] [(0, (1, .tmp 25)), (1, (1, .tmp 27)), (2, (1, .tmp 29)), (3, (1, .tmp 31))]⟩,
    ⟨none, some 9, true, .alloc [.slice none 0 0, .int .u32 0, .int .u32 0, .int .i64 0]⟩,
    ⟨none, none, false, .store 4 (.tmp 9) (.tmp 32)⟩]) c42_14
def c42_16 : C := .seq (.seq (.ops [⟨none, some 13, false, .mov (.tmp 2)⟩,
    ⟨none, some 14, false, .bin .lss (.tmp 13) (.const (.int .i64 0))⟩,
    ⟨none, some 15, false, .mov (.tmp 14)⟩,
    ⟨some (15, false), some 16, false, .mov (.tmp 2)⟩,
    ⟨some (15, false), some 17, false, .fieldAddr 0 (.tmp 3)⟩,
    ⟨some (15, false), some 18, false, .load none (.tmp 17)⟩,
    ⟨some (15, false), some 19, false, .lenSl (.tmp 18)⟩,
    ⟨some (15, false), some 20, false, .bin .geq (.tmp 16) (.tmp 19)⟩,
    ⟨none, some 21, false, .pick (.tmp 15) (.const (.bool true)) (.tmp 20)⟩]) (.cond (.tmp 21) c42_0 .skip)) c42_15
def c42 : C := .seq (.ops [⟨none, some 3, false, .box (.tmp 0)⟩,
    ⟨none, some 6, false, .mov (.const (.bool false))⟩,
    ⟨none, some 7, false, .alloc [.slice none 0 0, .int .u32 0, .int .u32 0, .int .i64 0]⟩,
    ⟨none, some 8, false, .mov (.const (.int .i64 0))⟩]) c42_16
theorem ok42 : compile Try.prog Try.f42.ntmps (Try.f42.body.getD .skip) = some c42 := by kernel_rfl

-- "tansy/tansyref06.Encode"
def c43_0 : C := .seq (.ops [⟨none, some 24, false, .mov (.tmp 7)⟩,
    ⟨none, some 4, false, .mov (.const (.slice none 0 0))⟩,
    ⟨none, some 5, false, .mov (.tmp 24)⟩]) .ret
def c43_1 : C := .seq (.ops [⟨none, some 4, false, .mov (.const (.slice none 0 0))⟩,
    ⟨none, some 5, false, .mov (.const (.int .i64 3))⟩]) .ret
def c43_2 : C := .seq (.ops [⟨none, some 4, false, .mov (.const (.slice none 0 0))⟩,
    ⟨none, some 5, false, .mov (.const (.int .i64 4))⟩]) .ret
def c43_3 : C := .seq (.ops [⟨none, some 34, false, .fieldAddr 0 (.tmp 9)⟩,
    ⟨none, some 35, false, .load none (.tmp 34)⟩,
    ⟨none, some 36, false, .bin .lss (.tmp 35) (.const (.int .i64 0))⟩,
    ⟨none, some 37, false, .mov (.tmp 36)⟩,
    ⟨some (37, false), some 38, false, .fieldAddr 0 (.tmp 9)⟩,
    ⟨some (37, false), some 39, false, .load none (.tmp 38)⟩,
    ⟨some (37, false), some 40, false, .mov (.tmp 0)⟩,
    ⟨some (37, false), some 41, false, .bin .geq (.tmp 39) (.tmp 40)⟩,
    ⟨none, some 42, false, .pick (.tmp 37) (.const (.bool true)) (.tmp 41)⟩]) (.cond (.tmp 42) c43_2 .skip)
def c43_4 : C := .seq (.ops [⟨none, some 32, false, .idxSl 2 (.tmp 28) (.tmp 30)⟩,
    ⟨none, some 33, false, .load (some 2) (.tmp 32)⟩,
    ⟨none, some 9, false, .alloc [.int .i64 0, .bool false]⟩,
    ⟨none, none, false, .store 2 (.tmp 9) (.tmp 33)⟩]) c43_3
def c43_5 : C := .ops [⟨none, some 43, false, .bin .add (.tmp 30) (.const (.int .i64 1))⟩,
    ⟨none, some 30, false, .mov (.tmp 43)⟩]
def c43_6 : C := .seq (.cond (.tmp 31) .skip (.exit 0)) (.seq (.block 1 c43_4) c43_5)
def c43_7 : C := .seq (.ops [⟨none, some 31, false, .bin .lss (.tmp 30) (.tmp 29)⟩]) c43_6
def c43_8 : C := .ops [⟨none, some 67, false, .mov (.tmp 10)⟩,
    ⟨none, some 68, false, .mov (.tmp 15)⟩,
    ⟨none, some 69, false, .bin .sub (.tmp 67) (.tmp 68)⟩,
    ⟨none, some 10, false, .mov (.tmp 69)⟩]
def c43_9 : C := .seq (.ops [⟨none, some 63, false, .mov (.tmp 11)⟩,
    ⟨none, some 64, false, .mov (.tmp 15)⟩,
    ⟨none, some 65, false, .conv .u64 (.tmp 64)⟩,
    ⟨none, some 66, false, .bin .add (.tmp 63) (.tmp 65)⟩,
    ⟨none, some 11, false, .mov (.tmp 66)⟩]) c43_8
def c43_10 : C := .ops [⟨none, some 70, false, .mov (.tmp 15)⟩,
    ⟨none, some 10, false, .mov (.tmp 70)⟩]
def c43_11 : C := .ops [⟨none, some 75, false, .mov (.tmp 12)⟩,
    ⟨none, some 76, false, .calln 67 [.tmp 75]⟩]
def c43_12 : C := .seq (.ops [⟨none, some 73, false, .mov (.tmp 11)⟩,
    ⟨none, some 74, false, .bin .sub (.tmp 73) (.const (.int .u64 4294967296))⟩,
    ⟨none, some 11, false, .mov (.tmp 74)⟩]) c43_11
def c43_13 : C := .ops [⟨none, some 103, false, .mov (.tmp 10)⟩,
    ⟨none, some 104, false, .bin .mul (.tmp 103) (.const (.int .u32 256))⟩,
    ⟨none, some 10, false, .mov (.tmp 104)⟩]
def c43_14 : C := .seq (.ops [⟨none, some 100, false, .mov (.tmp 11)⟩,
    ⟨none, some 101, false, .bin .rem (.tmp 100) (.const (.int .u64 16777216))⟩,
    ⟨none, some 102, false, .bin .mul (.tmp 101) (.const (.int .u64 256))⟩,
    ⟨none, some 11, false, .mov (.tmp 102)⟩]) c43_13
def c43_15 : C := .seq (.ops [⟨none, some 94, false, .mov (.tmp 12)⟩,
    ⟨none, some 95, false, .mov (.tmp 11)⟩,
    ⟨none, some 96, false, .bin .quo (.tmp 95) (.const (.int .u64 16777216))⟩,
    ⟨none, some 97, false, .conv .u8 (.tmp 96)⟩,
    ⟨none, some 98, false, .bslice 1 1 [.int .u8 0] [(0, (1, .tmp 97))]⟩,
    ⟨none, some 99, false, .append 1 1 (.tmp 94) (.tmp 98)⟩,
    ⟨none, some 12, false, .mov (.tmp 99)⟩]) c43_14
def c43_16 : C := .seq (.seq (.ops [⟨none, some 92, false, .mov (.tmp 10)⟩,
    ⟨none, some 93, false, .bin .lss (.tmp 92) (.const (.int .u32 16777216))⟩]) (.cond (.tmp 93) .skip (.exit 4))) (.block 5 c43_15)
def c43_17 : C := .seq (.ops [⟨none, some 78, false, .mov (.tmp 6)⟩,
    ⟨none, some 79, false, .fieldAddr 0 (.tmp 14)⟩,
    ⟨none, some 80, false, .load none (.tmp 79)⟩,
    ⟨none, some 81, false, .mov (.tmp 6)⟩,
    ⟨none, some 82, false, .fieldAddr 0 (.tmp 14)⟩,
    ⟨none, some 83, false, .load none (.tmp 82)⟩,
    ⟨none, some 84, false, .idxSl 1 (.tmp 81) (.tmp 83)⟩,
    ⟨none, some 85, false, .load none (.tmp 84)⟩,
    ⟨none, some 86, false, .fieldAddr 1 (.tmp 14)⟩,
    ⟨none, some 87, false, .load none (.tmp 86)⟩,
    ⟨none, some 88, false, .callp 26 [.tmp 85, .tmp 87]⟩,
    ⟨none, some 77, false, .mov (.tmp 88)⟩,
    ⟨none, some 89, false, .extract (.tmp 77) 0⟩,
    ⟨none, some 90, false, .extract (.tmp 77) 1⟩,
    ⟨none, some 91, false, .idxSl 1 (.tmp 78) (.tmp 80)⟩,
    ⟨none, none, false, .store 1 (.tmp 91) (.tmp 89)⟩]) (.block 4 (.loop c43_16))
def c43_18 : C := .seq (.seq (.ops [⟨none, some 71, false, .mov (.tmp 11)⟩,
    ⟨none, some 72, false, .bin .geq (.tmp 71) (.const (.int .u64 4294967296))⟩]) (.cond (.tmp 72) c43_12 .skip)) c43_17
def c43_19 : C := .seq (.seq (.ops [⟨none, some 61, false, .fieldAddr 1 (.tmp 14)⟩,
    ⟨none, some 62, false, .load none (.tmp 61)⟩]) (.cond (.tmp 62) c43_9 c43_10)) c43_18
def c43_20 : C := .seq (.ops [⟨none, some 52, false, .mov (.tmp 10)⟩,
    ⟨none, some 53, false, .mov (.tmp 6)⟩,
    ⟨none, some 54, false, .fieldAddr 0 (.tmp 14)⟩,
    ⟨none, some 55, false, .load none (.tmp 54)⟩,
    ⟨none, some 56, false, .idxSl 1 (.tmp 53) (.tmp 55)⟩,
    ⟨none, some 57, false, .load none (.tmp 56)⟩,
    ⟨none, some 58, false, .calln 32 [.tmp 52, .tmp 57]⟩,
    ⟨none, some 51, false, .mov (.tmp 58)⟩,
    ⟨none, some 59, false, .extract (.tmp 51) 0⟩,
    ⟨none, some 60, false, .extract (.tmp 51) 1⟩,
    ⟨none, some 15, false, .mov (.tmp 59)⟩,
    ⟨none, some 16, false, .mov (.tmp 60)⟩]) c43_19
def c43_21 : C := .seq (.ops [⟨none, some 49, false, .idxSl 2 (.tmp 45) (.tmp 47)⟩,
    ⟨none, some 50, false, .load (some 2) (.tmp 49)⟩,
    ⟨none, some 14, false, .alloc [.int .i64 0, .bool false]⟩,
    ⟨none, none, false, .store 2 (.tmp 14) (.tmp 50)⟩]) c43_20
def c43_22 : C := .ops [⟨none, some 105, false, .bin .add (.tmp 47) (.const (.int .i64 1))⟩,
    ⟨none, some 47, false, .mov (.tmp 105)⟩]
def c43_23 : C := .seq (.cond (.tmp 48) .skip (.exit 2)) (.seq (.block 3 c43_21) c43_22)
def c43_24 : C := .seq (.ops [⟨none, some 48, false, .bin .lss (.tmp 47) (.tmp 46)⟩]) c43_23
def c43_25 : C := .ops [⟨none, some 114, false, .mov (.tmp 11)⟩,
    ⟨none, some 115, false, .bin .rem (.tmp 114) (.const (.int .u64 16777216))⟩,
    ⟨none, some 116, false, .bin .mul (.tmp 115) (.const (.int .u64 256))⟩,
    ⟨none, some 11, false, .mov (.tmp 116)⟩]
def c43_26 : C := .seq (.ops [⟨none, some 108, false, .mov (.tmp 12)⟩,
    ⟨none, some 109, false, .mov (.tmp 11)⟩,
    ⟨none, some 110, false, .bin .quo (.tmp 109) (.const (.int .u64 16777216))⟩,
    ⟨none, some 111, false, .conv .u8 (.tmp 110)⟩,
    ⟨none, some 112, false, .bslice 1 1 [.int .u8 0] [(0, (1, .tmp 111))]⟩,
    ⟨none, some 113, false, .append 1 1 (.tmp 108) (.tmp 112)⟩,
    ⟨none, some 12, false, .mov (.tmp 113)⟩]) c43_25
def c43_27 : C := .ops [⟨none, some 117, false, .bin .add (.tmp 106) (.const (.int .i64 1))⟩,
    ⟨none, some 106, false, .mov (.tmp 117)⟩]
def c43_28 : C := .seq (.cond (.tmp 107) .skip (.exit 6)) (.seq (.block 7 c43_26) c43_27)
def c43_29 : C := .seq (.ops [⟨none, some 107, false, .bin .lss (.tmp 106) (.const (.int .i64 4))⟩]) c43_28
def c43_30 : C := .seq (.ops [⟨none, some 118, false, .mov (.tmp 12)⟩,
    ⟨none, some 4, false, .mov (.tmp 118)⟩,
    ⟨none, some 5, false, .mov (.const (.int .i64 0))⟩]) .ret
def c43_31 : C := .seq (.seq (.ops [⟨none, some 106, false, .mov (.const (.int .i64 0))⟩]) (.block 6 (.loop c43_29))) c43_30
def c43_32 : C := .seq (.seq (.ops [⟨none, some 45, false, .mov (.tmp 1)⟩,
    ⟨none, some 46, false, .lenSl (.tmp 45)⟩,
    ⟨none, some 47, false, .mov (.const (.int .i64 0))⟩]) (.block 2 (.loop c43_24))) c43_31
def c43_33 : C := .seq (.ops [⟨none, some 44, false, .bslice 1 1 [.int .u8 0] [(0, (1, .const (.int .u8 0)))]⟩,
    ⟨none, some 12, false, .mov (.tmp 44)⟩]) c43_32
def c43_34 : C := .seq (.ops [⟨none, some 11, false, .mov (.const (.int .u64 0))⟩]) c43_33
def c43_35 : C := .seq (.ops [⟨none, some 10, false, .mov (.const (.int .u32 4294967295))⟩]) c43_34
def c43_36 : C := .seq (.seq (.ops [⟨none, some 28, false, .mov (.tmp 1)⟩,
    ⟨none, some 29, false, .lenSl (.tmp 28)⟩,
    ⟨none, some 30, false, .mov (.const (.int .i64 0))⟩]) (.block 0 (.loop c43_7))) c43_35
def c43_37 : C := .seq (.seq (.ops [⟨none, some 25, false, .mov (.tmp 1)⟩,
    ⟨none, some 26, false, .lenSl (.tmp 25)⟩,
    ⟨none, some 27, false, .bin .gtr (.tmp 26) (.const (.int .i64 1048576))⟩]) (.cond (.tmp 27) c43_1 .skip)) c43_36
def c43_38 : C := .seq (.seq (.ops [⟨none, some 22, false, .mov (.tmp 7)⟩,
    ⟨none, some 23, false, .bin .neq (.tmp 22) (.const (.int .i64 0))⟩]) (.cond (.tmp 23) c43_0 .skip)) c43_37
def c43_39 : C := .seq (.ops [⟨none, some 18, false, .mov (.tmp 0)⟩,
    ⟨none, some 19, false, .calln 28 [.tmp 18]⟩,
    ⟨none, some 17, false, .mov (.tmp 19)⟩,
    ⟨none, some 20, false, .extract (.tmp 17) 0⟩,
    ⟨none, some 21, false, .extract (.tmp 17) 1⟩,
    ⟨none, some 6, false, .mov (.tmp 20)⟩,
    ⟨none, some 7, false, .mov (.tmp 21)⟩]) c43_38
def c43 : C := .seq (.ops [⟨none, some 4, false, .mov (.const (.slice none 0 0))⟩,
    ⟨none, some 5, false, .mov (.const (.int .i64 0))⟩]) c43_39
theorem ok43 : compile Try.prog Try.f43.ntmps (Try.f43.body.getD .skip) = some c43 := by kernel_rfl

-- "tansy/coder.Decode"
def c44_0 : C := .seq (.ops [⟨none, some 22, false, .mov (.tmp 10)⟩,
    ⟨none, some 6, false, .mov (.const (.slice none 0 0))⟩,
    ⟨none, some 7, false, .mov (.const (.int .i64 0))⟩,
    ⟨none, some 8, false, .mov (.tmp 22)⟩]) .ret
def c44_1 : C := .seq (.ops [⟨none, some 44, false, .mov (.tmp 10)⟩,
    ⟨none, some 6, false, .mov (.const (.slice none 0 0))⟩,
    ⟨none, some 7, false, .mov (.const (.int .i64 0))⟩,
    ⟨none, some 8, false, .mov (.tmp 44)⟩]) .ret
def c44_2 : C := .seq (.ops [⟨none, some 42, false, .mov (.tmp 10)⟩,
    ⟨none, some 43, false, .bin .neq (.tmp 42) (.const (.int .i64 0))⟩]) (.cond (.tmp 43) c44_1 .skip)
def c44_3 : C := .seq (.ops [⟨none, some 34, false, .mov (.tmp 11)⟩,
    ⟨none, some 35, false, .mov (.tmp 12)⟩,
    ⟨none, some 36, false, .mov (.tmp 9)⟩,
    ⟨none, some 37, false, .mov (.tmp 13)⟩,
    ⟨none, some 38, false, .calln 40 [.tmp 36, .tmp 37]⟩,
    ⟨none, some 33, false, .mov (.tmp 38)⟩,
    ⟨none, some 39, false, .extract (.tmp 33) 0⟩,
    ⟨none, some 40, false, .extract (.tmp 33) 1⟩,
    ⟨none, some 41, false, .idxSl 1 (.tmp 34) (.tmp 35)⟩,
    ⟨none, none, false, .store 1 (.tmp 41) (.tmp 39)⟩,
    ⟨none, some 10, false, .mov (.tmp 40)⟩]) c44_2
def c44_4 : C := .seq (.ops [⟨none, some 30, false, .mov (.tmp 28)⟩,
    ⟨none, some 31, false, .idxSl 1 (.tmp 26) (.tmp 28)⟩,
    ⟨none, some 32, false, .load none (.tmp 31)⟩,
    ⟨none, some 12, false, .mov (.tmp 30)⟩,
    ⟨none, some 13, false, .mov (.tmp 32)⟩]) c44_3
def c44_5 : C := .ops [⟨none, some 45, false, .bin .add (.tmp 28) (.const (.int .i64 1))⟩,
    ⟨none, some 28, false, .mov (.tmp 45)⟩]
def c44_6 : C := .seq (.cond (.tmp 29) .skip (.exit 0)) (.seq (.block 1 c44_4) c44_5)
def c44_7 : C := .seq (.ops [⟨none, some 29, false, .bin .lss (.tmp 28) (.tmp 27)⟩]) c44_6
def c44_8 : C := .seq (.ops [⟨none, some 46, false, .mov (.tmp 11)⟩,
    ⟨none, some 47, false, .mov (.tmp 9)⟩,
    ⟨none, some 48, false, .nilchk (.tmp 47)⟩,
    ⟨none, some 49, false, .fieldAddr 2 (.tmp 48)⟩,
    ⟨none, some 50, false, .load none (.tmp 49)⟩,
    ⟨none, some 6, false, .mov (.tmp 46)⟩,
    ⟨none, some 7, false, .mov (.tmp 50)⟩,
    ⟨none, some 8, false, .mov (.const (.int .i64 0))⟩]) .ret
def c44_9 : C := .seq (.seq (.ops [⟨none, some 26, false, .mov (.tmp 2)⟩,
    ⟨none, some 27, false, .lenSl (.tmp 26)⟩,
    ⟨none, some 28, false, .mov (.const (.int .i64 0))⟩]) (.block 0 (.loop c44_7))) c44_8
def c44_10 : C := .seq (.ops [⟨none, some 23, false, .mov (.tmp 2)⟩,
    ⟨none, some 24, false, .lenSl (.tmp 23)⟩,
    ⟨none, some 25, false, .mkslice 1 1 [.bool false] (.tmp 24) (.tmp 24)⟩,
    ⟨none, some 11, false, .mov (.tmp 25)⟩]) c44_9
def c44_11 : C := .seq (.seq (.ops [⟨none, some 20, false, .mov (.tmp 10)⟩,
    ⟨none, some 21, false, .bin .neq (.tmp 20) (.const (.int .i64 0))⟩]) (.cond (.tmp 21) c44_0 .skip)) c44_10
def c44_12 : C := .seq (.ops [⟨none, some 15, false, .mov (.tmp 0)⟩,
    ⟨none, some 16, false, .mov (.tmp 1)⟩,
    ⟨none, some 17, false, .calln 38 [.tmp 15, .tmp 16]⟩,
    ⟨none, some 14, false, .mov (.tmp 17)⟩,
    ⟨none, some 18, false, .extract (.tmp 14) 0⟩,
    ⟨none, some 19, false, .extract (.tmp 14) 1⟩,
    ⟨none, some 9, false, .mov (.tmp 18)⟩,
    ⟨none, some 10, false, .mov (.tmp 19)⟩]) c44_11
def c44 : C := .seq (.ops [⟨none, some 6, false, .mov (.const (.slice none 0 0))⟩,
    ⟨none, some 7, false, .mov (.const (.int .i64 0))⟩,
    ⟨none, some 8, false, .mov (.const (.int .i64 0))⟩]) c44_12
theorem ok44 : compile Try.prog Try.f44.ntmps (Try.f44.body.getD .skip) = some c44 := by kernel_rfl

-- "tansy/tansyref06.Decode"
def c45_0 : C := .seq (.ops [⟨none, some 25, false, .mov (.tmp 10)⟩,
    ⟨none, some 6, false, .mov (.const (.slice none 0 0))⟩,
    ⟨none, some 7, false, .mov (.const (.int .i64 0))⟩,
    ⟨none, some 8, false, .mov (.tmp 25)⟩]) .ret
def c45_1 : C := .seq (.ops [⟨none, some 42, false, .mov (.tmp 16)⟩,
    ⟨none, some 6, false, .mov (.const (.slice none 0 0))⟩,
    ⟨none, some 7, false, .mov (.const (.int .i64 0))⟩,
    ⟨none, some 8, false, .mov (.tmp 42)⟩]) .ret
def c45_2 : C := .ops [⟨none, some 44, false, .mov (.tmp 11)⟩,
    ⟨none, some 45, false, .mov (.tmp 14)⟩,
    ⟨none, some 46, false, .bslice 1 1 [.bool false] [(0, (1, .tmp 45))]⟩,
    ⟨none, some 47, false, .append 1 1 (.tmp 44) (.tmp 46)⟩,
    ⟨none, some 11, false, .mov (.tmp 47)⟩]
def c45_3 : C := .seq (.ops [⟨none, some 43, false, .load (some 4) (.tmp 15)⟩,
    ⟨none, none, false, .store 4 (.tmp 9) (.tmp 43)⟩]) c45_2
def c45_4 : C := .seq (.seq (.ops [⟨none, some 40, false, .mov (.tmp 16)⟩,
    ⟨none, some 41, false, .bin .neq (.tmp 40) (.const (.int .i64 0))⟩]) (.cond (.tmp 41) c45_1 .skip)) c45_3
def c45_5 : C := .seq (.ops [⟨none, some 33, false, .load (some 4) (.tmp 9)⟩,
    ⟨none, some 34, false, .mov (.tmp 1)⟩,
    ⟨none, some 35, false, .mov (.tmp 13)⟩,
    ⟨none, some 36, false, .calln 42 [.tmp 33, .tmp 34, .tmp 35]⟩,
    ⟨none, some 32, false, .mov (.tmp 36)⟩,
    ⟨none, some 37, false, .extract (.tmp 32) 0⟩,
    ⟨none, some 38, false, .extract (.tmp 32) 1⟩,
    ⟨none, some 39, false, .extract (.tmp 32) 2⟩,
    ⟨none, some 15, false, .alloc [.slice none 0 0, .int .u32 0, .int .u32 0, .int .i64 0]⟩,
    ⟨none, some 14, false, .mov (.tmp 37)⟩,
    ⟨none, none, false, .store 4 (.tmp 15) (.tmp 38)⟩,
    ⟨none, some 16, false, .mov (.tmp 39)⟩]) c45_4
def c45_6 : C := .seq (.ops [⟨none, some 30, false, .idxSl 1 (.tmp 26) (.tmp 28)⟩,
    ⟨none, some 31, false, .load none (.tmp 30)⟩,
    ⟨none, some 13, false, .mov (.tmp 31)⟩]) c45_5
def c45_7 : C := .ops [⟨none, some 48, false, .bin .add (.tmp 28) (.const (.int .i64 1))⟩,
    ⟨none, some 28, false, .mov (.tmp 48)⟩]
def c45_8 : C := .seq (.cond (.tmp 29) .skip (.exit 0)) (.seq (.block 1 c45_6) c45_7)
def c45_9 : C := .seq (.ops [⟨none, some 29, false, .bin .lss (.tmp 28) (.tmp 27)⟩]) c45_8
def c45_10 : C := .seq (.ops [⟨none, some 49, false, .mov (.tmp 11)⟩,
    ⟨none, some 50, false, .fieldAddr 3 (.tmp 9)⟩,
    ⟨none, some 51, false, .load none (.tmp 50)⟩,
    ⟨none, some 6, false, .mov (.tmp 49)⟩,
    ⟨none, some 7, false, .mov (.tmp 51)⟩,
    ⟨none, some 8, false, .mov (.const (.int .i64 0))⟩]) .ret
def c45_11 : C := .seq (.seq (.ops [⟨none, some 26, false, .mov (.tmp 2)⟩,
    ⟨none, some 27, false, .lenSl (.tmp 26)⟩,
    ⟨none, some 28, false, .mov (.const (.int .i64 0))⟩]) (.block 0 (.loop c45_9))) c45_10
def c45_12 : C := .seq (.ops [⟨none, some 11, false, .mov (.const (.slice none 0 0))⟩]) c45_11
def c45_13 : C := .seq (.seq (.ops [⟨none, some 23, false, .mov (.tmp 10)⟩,
    ⟨none, some 24, false, .bin .neq (.tmp 23) (.const (.int .i64 0))⟩]) (.cond (.tmp 24) c45_0 .skip)) c45_12
def c45_14 : C := .seq (.ops [⟨none, some 18, false, .mov (.tmp 0)⟩,
    ⟨none, some 19, false, .mov (.tmp 1)⟩,
    ⟨none, some 20, false, .calln 39 [.tmp 18, .tmp 19]⟩,
    ⟨none, some 17, false, .mov (.tmp 20)⟩,
    ⟨none, some 21, false, .extract (.tmp 17) 0⟩,
    ⟨none, some 22, false, .extract (.tmp 17) 1⟩,
    ⟨none, some 9, false, .alloc [.slice none 0 0, .int .u32 0, .int .u32 0, .int .i64 0]⟩,
    ⟨none, none, false, .store 4 (.tmp 9) (.tmp 21)⟩,
    ⟨none, some 10, false, .mov (.tmp 22)⟩]) c45_13
def c45 : C := .seq (.ops [⟨none, some 6, false, .mov (.const (.slice none 0 0))⟩,
    ⟨none, some 7, false, .mov (.const (.int .i64 0))⟩,
    ⟨none, some 8, false, .mov (.const (.int .i64 0))⟩]) c45_14
theorem ok45 : compile Try.prog Try.f45.ntmps (Try.f45.body.getD .skip) = some c45 := by kernel_rfl

-- "tansy/tansyref06.SameBits"
def c46_0 : C := .seq (.ops [⟨none, some 4, false, .mov (.const (.bool false))⟩]) .ret
def c46_1 : C := .seq (.ops [⟨none, some 4, false, .mov (.const (.bool false))⟩]) .ret
def c46_2 : C := .seq (.ops [⟨none, some 16, false, .mov (.tmp 0)⟩,
    ⟨none, some 17, false, .mov (.tmp 5)⟩,
    ⟨none, some 18, false, .idxSl 1 (.tmp 16) (.tmp 17)⟩,
    ⟨none, some 19, false, .load none (.tmp 18)⟩,
    ⟨none, some 20, false, .mov (.tmp 1)⟩,
    ⟨none, some 21, false, .mov (.tmp 5)⟩,
    ⟨none, some 22, false, .idxSl 1 (.tmp 20) (.tmp 21)⟩,
    ⟨none, some 23, false, .load none (.tmp 22)⟩,
    ⟨none, some 24, false, .eqv true .bool (.tmp 19) (.tmp 23)⟩]) (.cond (.tmp 24) c46_1 .skip)
def c46_3 : C := .seq (.ops [⟨none, some 15, false, .mov (.tmp 13)⟩,
    ⟨none, some 5, false, .mov (.tmp 15)⟩]) c46_2
def c46_4 : C := .ops [⟨none, some 25, false, .bin .add (.tmp 13) (.const (.int .i64 1))⟩,
    ⟨none, some 13, false, .mov (.tmp 25)⟩]
def c46_5 : C := .seq (.cond (.tmp 14) .skip (.exit 0)) (.seq (.block 1 c46_3) c46_4)
def c46_6 : C := .seq (.ops [⟨none, some 14, false, .bin .lss (.tmp 13) (.tmp 12)⟩]) c46_5
def c46_7 : C := .seq (.ops [⟨none, some 4, false, .mov (.const (.bool true))⟩]) .ret
def c46_8 : C := .seq (.seq (.ops [⟨none, some 11, false, .mov (.tmp 0)⟩,
    ⟨none, some 12, false, .lenSl (.tmp 11)⟩,
    ⟨none, some 13, false, .mov (.const (.int .i64 0))⟩]) (.block 0 (.loop c46_6))) c46_7
def c46_9 : C := .seq (.seq (.ops [⟨none, some 6, false, .mov (.tmp 0)⟩,
    ⟨none, some 7, false, .lenSl (.tmp 6)⟩,
    ⟨none, some 8, false, .mov (.tmp 1)⟩,
    ⟨none, some 9, false, .lenSl (.tmp 8)⟩,
    ⟨none, some 10, false, .bin .neq (.tmp 7) (.tmp 9)⟩]) (.cond (.tmp 10) c46_0 .skip)) c46_8
def c46 : C := .seq (.ops [⟨none, some 4, false, .mov (.const (.bool false))⟩]) c46_9
theorem ok46 : compile Try.prog Try.f46.ntmps (Try.f46.body.getD .skip) = some c46 := by kernel_rfl

-- "tansy/tansylaw06.places"
def c47_0 : C := .ops [⟨none, some 12, false, .mov (.tmp 3)⟩,
    ⟨none, some 13, false, .fieldAddr 0 (.tmp 5)⟩,
    ⟨none, some 14, false, .load none (.tmp 13)⟩,
    ⟨none, some 15, false, .bslice 1 1 [.int .i64 0] [(0, (1, .tmp 14))]⟩,
    ⟨none, some 16, false, .append 1 8 (.tmp 12) (.tmp 15)⟩,
    ⟨none, some 3, false, .mov (.tmp 16)⟩]
def c47_1 : C := .seq (.ops [⟨none, some 10, false, .idxSl 2 (.tmp 6) (.tmp 8)⟩,
    ⟨none, some 11, false, .load (some 2) (.tmp 10)⟩,
    ⟨none, some 5, false, .alloc [.int .i64 0, .bool false]⟩,
    ⟨none, none, false, .store 2 (.tmp 5) (.tmp 11)⟩]) c47_0
def c47_2 : C := .ops [⟨none, some 17, false, .bin .add (.tmp 8) (.const (.int .i64 1))⟩,
    ⟨none, some 8, false, .mov (.tmp 17)⟩]
def c47_3 : C := .seq (.cond (.tmp 9) .skip (.exit 0)) (.seq (.block 1 c47_1) c47_2)
def c47_4 : C := .seq (.ops [⟨none, some 9, false, .bin .lss (.tmp 8) (.tmp 7)⟩]) c47_3
def c47_5 : C := .seq (.ops [⟨none, some 18, false, .mov (.tmp 3)⟩,
    ⟨none, some 2, false, .mov (.tmp 18)⟩]) .ret
def c47_6 : C := .seq (.seq (.ops [⟨none, some 6, false, .mov (.tmp 0)⟩,
    ⟨none, some 7, false, .lenSl (.tmp 6)⟩,
    ⟨none, some 8, false, .mov (.const (.int .i64 0))⟩]) (.block 0 (.loop c47_4))) c47_5
def c47_7 : C := .seq (.ops [⟨none, some 3, false, .mov (.const (.slice none 0 0))⟩]) c47_6
def c47 : C := .seq (.ops [⟨none, some 2, false, .mov (.const (.slice none 0 0))⟩]) c47_7
theorem ok47 : compile Try.prog Try.f47.ntmps (Try.f47.body.getD .skip) = some c47 := by kernel_rfl

-- "tansy/coder.Encode$1"
def c61_0 : C := .seq (.ops [⟨none, some 4, false, .fieldAddr 0 (.tmp 2)⟩,
    ⟨none, some 5, false, .load none (.tmp 4)⟩,
    ⟨none, some 6, false, .bin .lss (.tmp 5) (.const (.int .i64 0))⟩,
    ⟨none, some 7, false, .mov (.tmp 6)⟩,
    ⟨some (7, false), some 8, false, .fieldAddr 0 (.tmp 2)⟩,
    ⟨some (7, false), some 9, false, .load none (.tmp 8)⟩,
    ⟨some (7, false), some 10, false, .load none (.tmp 1)⟩,
    ⟨some (7, false), some 11, false, .bin .geq (.tmp 9) (.tmp 10)⟩,
    ⟨none, some 12, false, .pick (.tmp 7) (.const (.bool true)) (.tmp 11)⟩,
    ⟨none, some 3, false, .mov (.tmp 12)⟩]) .ret
def c61 : C := .seq (.ops [⟨none, some 2, false, .box (.tmp 0)⟩,
    ⟨none, some 3, false, .mov (.const (.bool false))⟩]) c61_0
theorem ok61 : compile Try.prog Try.f61.ntmps (Try.f61.body.getD .skip) = some c61 := by kernel_rfl

-- "slices.ContainsFunc[[]tansy/api.Bit,tansy/api.Bit]"
def c62_0 : C := .seq (.ops [⟨none, some 5, false, .mov (.tmp 0)⟩,
    ⟨none, some 6, false, .mov (.tmp 1)⟩,
    ⟨none, some 7, false, .calln 71 [.tmp 5, .tmp 6]⟩,
    ⟨none, some 8, false, .bin .geq (.tmp 7) (.const (.int .i64 0))⟩,
    ⟨none, some 4, false, .mov (.tmp 8)⟩]) .ret
def c62 : C := .seq (.ops [⟨none, some 4, false, .mov (.const (.bool false))⟩]) c62_0
theorem ok62 : compile Try.prog Try.f62.ntmps (Try.f62.body.getD .skip) = some c62 := by kernel_rfl

-- "(*tansy/coder.writer).put"
def c63_0 : C := .seq (.ops [⟨none, some 25, false, .mov (.tmp 6)⟩,
    ⟨none, some 4, false, .mov (.tmp 25)⟩]) .ret
def c63_1 : C := .ops [⟨none, some 37, false, .mov (.tmp 0)⟩,
    ⟨none, some 38, false, .nilchk (.tmp 37)⟩,
    ⟨none, some 39, false, .fieldAddr 2 (.tmp 38)⟩,
    ⟨none, some 40, false, .load none (.tmp 39)⟩,
    ⟨none, some 41, false, .mov (.tmp 5)⟩,
    ⟨none, some 42, false, .bin .sub (.tmp 40) (.tmp 41)⟩,
    ⟨none, some 43, false, .nilchk (.tmp 37)⟩,
    ⟨none, some 44, false, .fieldAddr 2 (.tmp 43)⟩,
    ⟨none, none, false, .store 1 (.tmp 44) (.tmp 42)⟩]
def c63_2 : C := .seq (.ops [⟨none, some 28, false, .mov (.tmp 0)⟩,
    ⟨none, some 29, false, .nilchk (.tmp 28)⟩,
    ⟨none, some 30, false, .fieldAddr 1 (.tmp 29)⟩,
    ⟨none, some 31, false, .load none (.tmp 30)⟩,
    ⟨none, some 32, false, .mov (.tmp 5)⟩,
    ⟨none, some 33, false, .conv .u64 (.tmp 32)⟩,
    ⟨none, some 34, false, .bin .add (.tmp 31) (.tmp 33)⟩,
    ⟨none, some 35, false, .nilchk (.tmp 28)⟩,
    ⟨none, some 36, false, .fieldAddr 1 (.tmp 35)⟩,
    ⟨none, none, false, .store 1 (.tmp 36) (.tmp 34)⟩]) c63_1
def c63_3 : C := .ops [⟨none, some 45, false, .mov (.tmp 0)⟩,
    ⟨none, some 46, false, .mov (.tmp 5)⟩,
    ⟨none, some 47, false, .nilchk (.tmp 45)⟩,
    ⟨none, some 48, false, .fieldAddr 2 (.tmp 47)⟩,
    ⟨none, none, false, .store 1 (.tmp 48) (.tmp 46)⟩]
def c63_4 : C := .ops [⟨none, some 82, false, .mov (.tmp 0)⟩,
    ⟨none, some 83, false, .calln 64 [.tmp 82]⟩]
def c63_5 : C := .ops [⟨none, some 75, false, .mov (.tmp 0)⟩,
    ⟨none, some 76, false, .nilchk (.tmp 75)⟩,
    ⟨none, some 77, false, .fieldAddr 2 (.tmp 76)⟩,
    ⟨none, some 78, false, .load none (.tmp 77)⟩,
    ⟨none, some 79, false, .bin .shl (.tmp 78) (.const (.int .u64 8))⟩,
    ⟨none, some 80, false, .nilchk (.tmp 75)⟩,
    ⟨none, some 81, false, .fieldAddr 2 (.tmp 80)⟩,
    ⟨none, none, false, .store 1 (.tmp 81) (.tmp 79)⟩]
def c63_6 : C := .seq (.seq (.ops [⟨none, some 70, false, .mov (.tmp 0)⟩,
    ⟨none, some 71, false, .nilchk (.tmp 70)⟩,
    ⟨none, some 72, false, .fieldAddr 2 (.tmp 71)⟩,
    ⟨none, some 73, false, .load none (.tmp 72)⟩,
    ⟨none, some 74, false, .bin .lss (.tmp 73) (.const (.int .u32 16777216))⟩]) (.cond (.tmp 74) .skip (.exit 0))) (.seq (.block 1 c63_4) c63_5)
def c63_7 : C := .seq (.ops [⟨none, some 84, false, .mov (.tmp 6)⟩,
    ⟨none, some 4, false, .mov (.tmp 84)⟩]) .ret
def c63_8 : C := .seq (.ops [⟨none, some 50, false, .mov (.tmp 0)⟩,
    ⟨none, some 51, false, .nilchk (.tmp 50)⟩,
    ⟨none, some 52, false, .fieldAddr 0 (.tmp 51)⟩,
    ⟨none, some 53, false, .load none (.tmp 52)⟩,
    ⟨none, some 54, false, .fieldAddr 0 (.tmp 3)⟩,
    ⟨none, some 55, false, .load none (.tmp 54)⟩,
    ⟨none, some 56, false, .mov (.tmp 0)⟩,
    ⟨none, some 57, false, .nilchk (.tmp 56)⟩,
    ⟨none, some 58, false, .fieldAddr 0 (.tmp 57)⟩,
    ⟨none, some 59, false, .load none (.tmp 58)⟩,
    ⟨none, some 60, false, .fieldAddr 0 (.tmp 3)⟩,
    ⟨none, some 61, false, .load none (.tmp 60)⟩,
    ⟨none, some 62, false, .idxSl 1 (.tmp 59) (.tmp 61)⟩,
    ⟨none, some 63, false, .load none (.tmp 62)⟩,
    ⟨none, some 64, false, .fieldAddr 1 (.tmp 3)⟩,
    ⟨none, some 65, false, .load none (.tmp 64)⟩,
    ⟨none, some 66, false, .callp 25 [.tmp 63, .tmp 65]⟩,
    ⟨none, some 49, false, .mov (.tmp 66)⟩,
    ⟨none, some 67, false, .extract (.tmp 49) 0⟩,
    ⟨none, some 68, false, .extract (.tmp 49) 1⟩,
    ⟨none, some 69, false, .idxSl 1 (.tmp 53) (.tmp 55)⟩,
    ⟨none, none, false, .store 1 (.tmp 69) (.tmp 67)⟩,
    ⟨none, some 6, false, .mov (.tmp 68)⟩]) (.seq (.block 0 (.loop c63_6)) c63_7)
def c63_9 : C := .seq (.seq (.ops [⟨none, some 26, false, .fieldAddr 1 (.tmp 3)⟩,
    ⟨none, some 27, false, .load none (.tmp 26)⟩]) (.cond (.tmp 27) c63_2 c63_3)) c63_8
def c63_10 : C := .seq (.seq (.ops [⟨none, some 23, false, .mov (.tmp 6)⟩,
    ⟨none, some 24, false, .bin .neq (.tmp 23) (.const (.int .i64 0))⟩]) (.cond (.tmp 24) c63_0 .skip)) c63_9
def c63_11 : C := .seq (.ops [⟨none, some 8, false, .mov (.tmp 0)⟩,
    ⟨none, some 9, false, .nilchk (.tmp 8)⟩,
    ⟨none, some 10, false, .fieldAddr 2 (.tmp 9)⟩,
    ⟨none, some 11, false, .load none (.tmp 10)⟩,
    ⟨none, some 12, false, .mov (.tmp 0)⟩,
    ⟨none, some 13, false, .nilchk (.tmp 12)⟩,
    ⟨none, some 14, false, .fieldAddr 0 (.tmp 13)⟩,
    ⟨none, some 15, false, .load none (.tmp 14)⟩,
    ⟨none, some 16, false, .fieldAddr 0 (.tmp 3)⟩,
    ⟨none, some 17, false, .load none (.tmp 16)⟩,
    ⟨none, some 18, false, .idxSl 1 (.tmp 15) (.tmp 17)⟩,
    ⟨none, some 19, false, .load none (.tmp 18)⟩,
    ⟨none, some 20, false, .call 31 [.tmp 11, .tmp 19]⟩,
    ⟨none, some 7, false, .mov (.tmp 20)⟩,
    ⟨none, some 21, false, .extract (.tmp 7) 0⟩,
    ⟨none, some 22, false, .extract (.tmp 7) 1⟩,
    ⟨none, some 5, false, .mov (.tmp 21)⟩,
    ⟨none, some 6, false, .mov (.tmp 22)⟩]) c63_10
def c63 : C := .seq (.ops [⟨none, some 3, false, .box (.tmp 1)⟩,
    ⟨none, some 4, false, .mov (.const (.int .i64 0))⟩]) c63_11
theorem ok63 : compile Try.prog Try.f63.ntmps (Try.f63.body.getD .skip) = some c63 := by kernel_rfl

-- "(*tansy/coder.writer).move"
def c64_0 : C := .seq (.ops [⟨none, some 39, false, .mov (.tmp 0)⟩,
    ⟨none, some 40, false, .mov (.tmp 0)⟩,
    ⟨none, some 41, false, .nilchk (.tmp 40)⟩,
    ⟨none, some 42, false, .fieldAddr 5 (.tmp 41)⟩,
    ⟨none, some 43, false, .load none (.tmp 42)⟩,
    ⟨none, some 44, false, .mov (.tmp 3)⟩,
    ⟨none, some 45, false, .mov (.tmp 2)⟩,
    ⟨none, some 46, false, .bin .add (.tmp 44) (.tmp 45)⟩,
    ⟨none, some 47, false, .bslice 1 1 [.int .u8 0] [(0, (1, .tmp 46))]⟩,
    ⟨none, some 48, false, .append 1 1 (.tmp 43) (.tmp 47)⟩,
    ⟨none, some 49, false, .nilchk (.tmp 39)⟩,
    ⟨none, some 50, false, .fieldAddr 5 (.tmp 49)⟩,
    ⟨none, none, false, .store 1 (.tmp 50) (.tmp 48)⟩]) (.ops [⟨none, some 3, false, .mov (.const (.int .u8 255))⟩])
def c64_1 : C := .ops [⟨none, some 32, false, .mov (.tmp 0)⟩,
    ⟨none, some 33, false, .nilchk (.tmp 32)⟩,
    ⟨none, some 34, false, .fieldAddr 4 (.tmp 33)⟩,
    ⟨none, some 35, false, .load none (.tmp 34)⟩,
    ⟨none, some 36, false, .bin .sub (.tmp 35) (.const (.int .i64 1))⟩,
    ⟨none, some 37, false, .nilchk (.tmp 32)⟩,
    ⟨none, some 38, false, .fieldAddr 4 (.tmp 37)⟩,
    ⟨none, none, false, .store 1 (.tmp 38) (.tmp 36)⟩]
def c64_2 : C := .seq (.seq (.ops [⟨none, some 27, false, .mov (.tmp 0)⟩,
    ⟨none, some 28, false, .nilchk (.tmp 27)⟩,
    ⟨none, some 29, false, .fieldAddr 4 (.tmp 28)⟩,
    ⟨none, some 30, false, .load none (.tmp 29)⟩,
    ⟨none, some 31, false, .bin .gtr (.tmp 30) (.const (.int .i64 0))⟩]) (.cond (.tmp 31) .skip (.exit 0))) (.seq (.block 1 c64_0) c64_1)
def c64_3 : C := .ops [⟨none, some 51, false, .mov (.tmp 0)⟩,
    ⟨none, some 52, false, .mov (.tmp 0)⟩,
    ⟨none, some 53, false, .nilchk (.tmp 52)⟩,
    ⟨none, some 54, false, .fieldAddr 1 (.tmp 53)⟩,
    ⟨none, some 55, false, .load none (.tmp 54)⟩,
    ⟨none, some 56, false, .bin .shr (.tmp 55) (.const (.int .u64 24))⟩,
    ⟨none, some 57, false, .conv .u8 (.tmp 56)⟩,
    ⟨none, some 58, false, .nilchk (.tmp 51)⟩,
    ⟨none, some 59, false, .fieldAddr 3 (.tmp 58)⟩,
    ⟨none, none, false, .store 1 (.tmp 59) (.tmp 57)⟩]
def c64_4 : C := .seq (.seq (.ops [⟨none, some 23, false, .mov (.tmp 0)⟩,
    ⟨none, some 24, false, .nilchk (.tmp 23)⟩,
    ⟨none, some 25, false, .fieldAddr 3 (.tmp 24)⟩,
    ⟨none, some 26, false, .load none (.tmp 25)⟩,
    ⟨none, some 3, false, .mov (.tmp 26)⟩]) (.block 0 (.loop c64_2))) c64_3
def c64_5 : C := .seq (.ops [⟨none, some 17, false, .mov (.tmp 0)⟩,
    ⟨none, some 18, false, .nilchk (.tmp 17)⟩,
    ⟨none, some 19, false, .fieldAddr 1 (.tmp 18)⟩,
    ⟨none, some 20, false, .load none (.tmp 19)⟩,
    ⟨none, some 21, false, .bin .shr (.tmp 20) (.const (.int .u64 32))⟩,
    ⟨none, some 22, false, .conv .u8 (.tmp 21)⟩,
    ⟨none, some 2, false, .mov (.tmp 22)⟩]) c64_4
def c64_6 : C := .ops [⟨none, some 67, false, .mov (.tmp 0)⟩,
    ⟨none, some 68, false, .mov (.tmp 0)⟩,
    ⟨none, some 69, false, .nilchk (.tmp 68)⟩,
    ⟨none, some 70, false, .fieldAddr 1 (.tmp 69)⟩,
    ⟨none, some 71, false, .load none (.tmp 70)⟩,
    ⟨none, some 72, false, .bin .and (.tmp 71) (.const (.int .u64 16777215))⟩,
    ⟨none, some 73, false, .bin .shl (.tmp 72) (.const (.int .u64 8))⟩,
    ⟨none, some 74, false, .nilchk (.tmp 67)⟩,
    ⟨none, some 75, false, .fieldAddr 1 (.tmp 74)⟩,
    ⟨none, none, false, .store 1 (.tmp 75) (.tmp 73)⟩]
def c64_7 : C := .seq (.ops [⟨none, some 60, false, .mov (.tmp 0)⟩,
    ⟨none, some 61, false, .nilchk (.tmp 60)⟩,
    ⟨none, some 62, false, .fieldAddr 4 (.tmp 61)⟩,
    ⟨none, some 63, false, .load none (.tmp 62)⟩,
    ⟨none, some 64, false, .bin .add (.tmp 63) (.const (.int .i64 1))⟩,
    ⟨none, some 65, false, .nilchk (.tmp 60)⟩,
    ⟨none, some 66, false, .fieldAddr 4 (.tmp 65)⟩,
    ⟨none, none, false, .store 1 (.tmp 66) (.tmp 64)⟩]) c64_6
def c64 : C := .seq (.seq (.ops [⟨none, some 4, false, .mov (.tmp 0)⟩,
    ⟨none, some 5, false, .nilchk (.tmp 4)⟩,
    ⟨none, some 6, false, .fieldAddr 1 (.tmp 5)⟩,
    ⟨none, some 7, false, .load none (.tmp 6)⟩,
    ⟨none, some 8, false, .bin .lss (.tmp 7) (.const (.int .u64 4278190080))⟩,
    ⟨none, some 9, false, .mov (.tmp 8)⟩,
    ⟨some (9, false), some 10, false, .mov (.tmp 0)⟩,
    ⟨some (9, false), some 11, false, .nilchk (.tmp 10)⟩,
    ⟨some (9, false), some 12, false, .fieldAddr 1 (.tmp 11)⟩,
    ⟨some (9, false), some 13, false, .load none (.tmp 12)⟩,
    ⟨some (9, false), some 14, false, .bin .shr (.tmp 13) (.const (.int .u64 32))⟩,
    ⟨some (9, false), some 15, false, .bin .gtr (.tmp 14) (.const (.int .u64 0))⟩,
    ⟨none, some 16, false, .pick (.tmp 9) (.const (.bool true)) (.tmp 15)⟩]) (.cond (.tmp 16) c64_5 .skip)) c64_7
theorem ok64 : compile Try.prog Try.f64.ntmps (Try.f64.body.getD .skip) = some c64 := by kernel_rfl

-- "slices.Clone[[]byte,byte]"
def c65_0 : C := .seq (.ops [⟨none, some 2, false, .mov (.const (.slice none 0 0))⟩]) .ret
def c65_1 : C := .seq (.ops [⟨none, some 5, false, .bslice 1 0 [.int .u8 0] []⟩,
    ⟨none, some 6, false, .mov (.tmp 0)⟩,
    ⟨none, some 7, false, .append 1 1 (.tmp 5) (.tmp 6)⟩,
    ⟨none, some 2, false, .mov (.tmp 7)⟩]) .ret
def c65_2 : C := .seq (.seq (.ops [⟨none, some 3, false, .mov (.tmp 0)⟩,
    ⟨none, some 4, false, .eqv false .slice (.tmp 3) (.const (.slice none 0 0))⟩]) (.cond (.tmp 4) c65_0 .skip)) c65_1
def c65 : C := .seq (.ops [⟨none, some 2, false, .mov (.const (.slice none 0 0))⟩]) c65_2
theorem ok65 : compile Try.prog Try.f65.ntmps (Try.f65.body.getD .skip) = some c65 := by kernel_rfl

-- "(*tansy/coder.Reader).octet"
def c66_0 : C := .ops [⟨none, some 22, false, .mov (.tmp 0)⟩,
    ⟨none, some 23, false, .nilchk (.tmp 22)⟩,
    ⟨none, some 24, false, .fieldAddr 2 (.tmp 23)⟩,
    ⟨none, some 25, false, .load none (.tmp 24)⟩,
    ⟨none, some 26, false, .bin .add (.tmp 25) (.const (.int .i64 1))⟩,
    ⟨none, some 27, false, .nilchk (.tmp 22)⟩,
    ⟨none, some 28, false, .fieldAddr 2 (.tmp 27)⟩,
    ⟨none, none, false, .store 1 (.tmp 28) (.tmp 26)⟩]
def c66 : C := .seq (.ops [⟨none, some 2, false, .mov (.tmp 0)⟩,
    ⟨none, some 3, false, .mov (.tmp 0)⟩,
    ⟨none, some 4, false, .nilchk (.tmp 3)⟩,
    ⟨none, some 5, false, .fieldAddr 4 (.tmp 4)⟩,
    ⟨none, some 6, false, .load none (.tmp 5)⟩,
    ⟨none, some 7, false, .bin .shl (.tmp 6) (.const (.int .u64 8))⟩,
    ⟨none, some 8, false, .mov (.tmp 0)⟩,
    ⟨none, some 9, false, .nilchk (.tmp 8)⟩,
    ⟨none, some 10, false, .fieldAddr 1 (.tmp 9)⟩,
    ⟨none, some 11, false, .load none (.tmp 10)⟩,
    ⟨none, some 12, false, .mov (.tmp 0)⟩,
    ⟨none, some 13, false, .nilchk (.tmp 12)⟩,
    ⟨none, some 14, false, .fieldAddr 2 (.tmp 13)⟩,
    ⟨none, some 15, false, .load none (.tmp 14)⟩,
    ⟨none, some 16, false, .idxSl 1 (.tmp 11) (.tmp 15)⟩,
    ⟨none, some 17, false, .load none (.tmp 16)⟩,
    ⟨none, some 18, false, .conv .u32 (.tmp 17)⟩,
    ⟨none, some 19, false, .bin .or (.tmp 7) (.tmp 18)⟩,
    ⟨none, some 20, false, .nilchk (.tmp 2)⟩,
    ⟨none, some 21, false, .fieldAddr 4 (.tmp 20)⟩,
    ⟨none, none, false, .store 1 (.tmp 21) (.tmp 19)⟩]) c66_0
theorem ok66 : compile Try.prog Try.f66.ntmps (Try.f66.body.getD .skip) = some c66 := by kernel_rfl

-- "tansy/tansyref06.more"
def c67_0 : C := .seq (.ops [⟨none, some 16, false, .mov (.tmp 0)⟩,
    ⟨none, some 17, false, .mov (.tmp 2)⟩,
    ⟨none, some 18, false, .idxSl 1 (.tmp 16) (.tmp 17)⟩,
    ⟨none, some 19, false, .load none (.tmp 18)⟩,
    ⟨none, some 20, false, .bin .neq (.tmp 19) (.const (.int .u8 0))⟩]) (.cond (.tmp 20) .ret .skip)
def c67_1 : C := .seq (.ops [⟨none, some 10, false, .mov (.tmp 0)⟩,
    ⟨none, some 11, false, .mov (.tmp 2)⟩,
    ⟨none, some 12, false, .idxSl 1 (.tmp 10) (.tmp 11)⟩,
    ⟨none, some 13, false, .load none (.tmp 12)⟩,
    ⟨none, some 14, false, .bin .add (.tmp 13) (.const (.int .u8 1))⟩,
    ⟨none, some 15, false, .idxSl 1 (.tmp 10) (.tmp 11)⟩,
    ⟨none, none, false, .store 1 (.tmp 15) (.tmp 14)⟩]) c67_0
def c67_2 : C := .ops [⟨none, some 8, false, .mov (.tmp 2)⟩,
    ⟨none, some 9, false, .bin .sub (.tmp 8) (.const (.int .i64 1))⟩,
    ⟨none, some 2, false, .mov (.tmp 9)⟩]
def c67_3 : C := .seq (.seq (.ops [⟨none, some 6, false, .mov (.tmp 2)⟩,
    ⟨none, some 7, false, .bin .geq (.tmp 6) (.const (.int .i64 0))⟩]) (.cond (.tmp 7) .skip (.exit 0))) (.seq (.block 1 c67_1) c67_2)
def c67 : C := .seq (.ops [⟨none, some 3, false, .mov (.tmp 0)⟩,
    ⟨none, some 4, false, .lenSl (.tmp 3)⟩,
    ⟨none, some 5, false, .bin .sub (.tmp 4) (.const (.int .i64 1))⟩,
    ⟨none, some 2, false, .mov (.tmp 5)⟩]) (.block 0 (.loop c67_3))
theorem ok67 : compile Try.prog Try.f67.ntmps (Try.f67.body.getD .skip) = some c67 := by kernel_rfl

-- "slices.IndexFunc[[]tansy/api.Bit,tansy/api.Bit]"
def c71_0 : C := .seq (.ops [⟨none, some 17, false, .mov (.tmp 5)⟩,
    ⟨none, some 4, false, .mov (.tmp 17)⟩]) .ret
def c71_1 : C := .seq (.ops [⟨none, some 11, false, .mov (.tmp 1)⟩,
    ⟨none, some 12, false, .mov (.tmp 0)⟩,
    ⟨none, some 13, false, .mov (.tmp 5)⟩,
    ⟨none, some 14, false, .idxSl 2 (.tmp 12) (.tmp 13)⟩,
    ⟨none, some 15, false, .load (some 2) (.tmp 14)⟩,
    ⟨none, some 16, false, .callv (.tmp 11) [.tmp 15]⟩]) (.cond (.tmp 16) c71_0 .skip)
def c71_2 : C := .seq (.ops [⟨none, some 10, false, .mov (.tmp 8)⟩,
    ⟨none, some 5, false, .mov (.tmp 10)⟩]) c71_1
def c71_3 : C := .ops [⟨none, some 18, false, .bin .add (.tmp 8) (.const (.int .i64 1))⟩,
    ⟨none, some 8, false, .mov (.tmp 18)⟩]
def c71_4 : C := .seq (.cond (.tmp 9) .skip (.exit 0)) (.seq (.block 1 c71_2) c71_3)
def c71_5 : C := .seq (.ops [⟨none, some 9, false, .bin .lss (.tmp 8) (.tmp 7)⟩]) c71_4
def c71_6 : C := .seq (.ops [⟨none, some 4, false, .mov (.const (.int .i64 (-1)))⟩]) .ret
def c71_7 : C := .seq (.seq (.ops [⟨none, some 6, false, .mov (.tmp 0)⟩,
    ⟨none, some 7, false, .lenSl (.tmp 6)⟩,
    ⟨none, some 8, false, .mov (.const (.int .i64 0))⟩]) (.block 0 (.loop c71_5))) c71_6
def c71 : C := .seq (.ops [⟨none, some 4, false, .mov (.const (.int .i64 0))⟩]) c71_7
theorem ok71 : compile Try.prog Try.f71.ntmps (Try.f71.body.getD .skip) = some c71 := by kernel_rfl

end Go.Vx
